/- Walks: opened, Check. Rows of postings: laid out flat; owned; cloned. Walks: the purse's Check and Append. Walks: asked, Has, HeldOf, LastPay. -/
import Derived.Test.YtoijlikmigejbaaGreatG05
import Derived.Test.YtoijlikmigejbaaGreatG02
import Derived.Deep.AppendLies
import Derived.Lib.SliceRun
import Derived.Test.YtoijlikmigejbaaGreatG01
namespace Go.Proofs.YtoijlikmigejbaaGreat
open Go.RowKit Go.Proofs.YtoijlikmigejbaaGreat.Pu

/-- opened's answer to what is no book -/
def OpenRes' (l : List Post) (e : Ending) : Prop := ¬ Book l ∧ (check l).2 ≠ 0 ∧ e = .returned (.tuple #[.pointer none, .int .i64 (check l).1, .int .i64 (check l).2])
/-- opened's answer -/
def OpenRes (l : List Post) (w : World) (e : Ending) (w' : World) : Prop :=
  Below w.heap.size w w' ∧ ((Book l ∧ ∃ N c, e = .returned (.tuple #[.pointer (some ⟨N + 5, 0, none⟩), .int .i64 0, .int .i64 0]) ∧ w.heap.size ≤ N ∧ CInv c l ∧ ChestAt w' N c) ∨
    OpenRes' l e)

def Kinds (l : List Post) : Prop := ∀ p ∈ l, 0 ≤ p.kind ∧ p.kind ≤ 255
/-- what the chest holds behind the first j postings -/
def CAt (w : World) (N : Nat) (l : List Post) (j : Nat) : Prop := BookTo l j ∧ ∃ c, CInv c (l.take j) ∧ ChestAt w N c
theorem BookTo.book {l : List Post} {j : Nat} (h : BookTo l j) : Book (l.take j) := by
  intro k p hk
  have h1 := List.getElem?_eq_some_iff.1 hk
  have hkj : k < j := by have := h1.1; simp at this; omega
  rw [List.take_take, Nat.min_eq_left (by omega)]
  exact h k p hkj (by rw [List.getElem?_take_of_lt hkj] at hk; exact hk)
theorem CAt.next {w w' : World} {N : Nat} {l : List Post} {j : Nat} {p : Post} (h : CAt w N l j) (hp : l[j]? = some p) (hr : refused (l.take j) p = 0) {c' : CS} (hI : CInv c' (if refused (l.take j) p = 0 then l.take j ++ [p] else l.take j)) (hC : ChestAt w' N c') : CAt w' N l (j + 1) := by
  rw [if_pos hr, ← take_snoc hp] at hI
  exact ⟨bookTo_succ h.1 hp hr, c', hI, hC⟩
theorem mapEmpty {K V : Type} (eK : K → Value) (eV : V → Value) : mapObj eK eV [] = .map #[] 0 := rfl
theorem chest_new (w : World) : ChestAt ((((((w.alloc (.map #[] 0)).alloc (.map #[] 0)).alloc (.map #[] 0)).alloc (.map #[] 0)).alloc (.map #[] 0)).alloc
    (.cells #[.int .i64 0, .int .i64 0, .map (some w.heap.size), .map (some (w.heap.size + 1)), .map (some (w.heap.size + 1 + 1)), .map (some (w.heap.size + 1 + 1 + 1)), .map (some (w.heap.size + 1 + 1 + 1 + 1))] 81)) w.heap.size CS.new := by
  have a0 : ∀ (w : World) (o : Obj) (k : Nat), k = w.heap.size → (w.alloc o).heap[k]? = some o := fun w o k hk => by subst hk; show (w.heap.push o)[w.heap.size]? = some o; simp
  have m0 : ∀ (K V : Type) (eK : K → Value) (eV : V → Value), some (Obj.map #[] 0) = some (mapObj eK eV []) := fun _ _ _ _ => rfl
  obtain ⟨W5, h5⟩ : ∃ W5, ((((w.alloc (.map #[] 0)).alloc (.map #[] 0)).alloc (.map #[] 0)).alloc (.map #[] 0)).alloc (.map #[] 0) = W5 := ⟨_, rfl⟩
  have hs : W5.heap.size = w.heap.size + 5 := by rw [← h5]; simp
  have hm : ∀ i, i < 5 → W5.heap[w.heap.size + i]? = some (.map #[] 0) := fun i hi => by
    rw [← h5]
    rcases (by omega : i = 4 ∨ i = 3 ∨ i = 2 ∨ i = 1 ∨ i = 0) with rfl | rfl | rfl | rfl | rfl
    · exact a0 _ _ _ (by simp)
    · rw [Below.heap_alloc _ _ _ (by simp)]; exact a0 _ _ _ (by simp)
    · rw [Below.heap_alloc _ _ _ (by simp), Below.heap_alloc _ _ _ (by simp)]; exact a0 _ _ _ (by simp)
    · rw [Below.heap_alloc _ _ _ (by simp), Below.heap_alloc _ _ _ (by simp), Below.heap_alloc _ _ _ (by simp)]; exact a0 _ _ _ (by simp)
    · rw [Below.heap_alloc _ _ _ (by simp; omega), Below.heap_alloc _ _ _ (by simp; omega), Below.heap_alloc _ _ _ (by simp; omega), Below.heap_alloc _ _ _ (by simp)]; exact a0 _ _ _ (by simp)
  rw [h5]
  refine ⟨by simp [hs], by rw [← hs]; simp [CS.new], by rw [← hs]; simp [CS.new], by rw [← hs]; simp, by rw [← hs]; simp, by rw [← hs]; simp, by rw [← hs]; simp, by rw [← hs]; simp, by rw [← hs]; simp, by rw [← hs]; simp,
    ?_, ?_, ?_, ?_, ?_⟩
  · rw [Below.heap_alloc _ _ _ (by omega)]; exact (hm 0 (by omega)).trans (m0 _ _ _ _)
  · rw [Below.heap_alloc _ _ _ (by omega)]; exact (hm 1 (by omega)).trans (m0 _ _ _ _)
  · rw [Below.heap_alloc _ _ _ (by omega)]; exact (hm 2 (by omega)).trans (m0 _ _ _ _)
  · rw [Below.heap_alloc _ _ _ (by omega)]; exact (hm 3 (by omega)).trans (m0 _ _ _ _)
  · rw [Below.heap_alloc _ _ _ (by omega)]; exact (hm 4 (by omega)).trans (m0 _ _ _ _)

theorem six_new (w : World) (o1 o2 o3 o4 o5 o6 : Obj) : Below w.heap.size w ((((((w.alloc o1).alloc o2).alloc o3).alloc o4).alloc o5).alloc o6) :=
  ((((((Below.refl _ _).alloc (Nat.le_refl _) _).alloc (by simp) _).alloc (by simp; omega) _).alloc (by simp; omega) _).alloc (by simp; omega) _).alloc (by simp; omega) _

set_option maxRecDepth 100000 in
set_option maxHeartbeats 4000000 in
theorem popened (l : List Post) (n cap : Nat) (ao : Option Addr) (B : Nat) (w : World) (hn : Hid (n = l.length)) (hm : n ≤ 100000) (hcap : n ≤ cap) (hs : SlAt 8 pcells B w ao l) (hB : B ≤ w.heap.size) (hk : Hid (Kinds l)) :
    Calls Tryz.prog 56 #[.slice ao n cap] w (OpenRes l w) := by
  have hmm := @run_makeMap Tryz.prog
  go_enter Tryz.func56, Tryz.ntmps56
  go_wp2
  refine wp_world (R := fun W => Below w.heap.size w W ∧ CAt W w.heap.size l 0) ⟨six_new w _ _ _ _ _ _, fun k p hk => by omega, CS.new, CInv.new, chest_new w⟩ ?_
  rw [show w.heap.size + 1 + 1 + 1 + 1 + 1 = w.heap.size + 5 from rfl]
  rintro W ⟨hBW, hCW⟩
  replace hCW := Lib.hid hCW
  clear hmm
  go_loopw [18] (fun i wr => ∃ j : Nat, j ≤ n ∧ i = .int .i64 j ∧ Below w.heap.size w wr ∧ Hid (CAt wr w.heap.size l j)) (fun i _ => n - (intOf i).toNat)
  case atStart => exact ⟨0, Nat.zero_le _, rfl, hBW, hCW⟩
  case round =>
    obtain ⟨j, hj, rfl, hb, hbk⟩ := hrel
    by_cases hlt : j < n
    · obtain ⟨p, hp⟩ := getq (l := l) (j := j) (by rw [← hn.out]; exact hlt)
      have hs' := hs.below (hb.mono hB)
      obtain ⟨b, o, rfl, hb0, c0, c1, c2, c3, c4, c5, c6, c7⟩ := hs'.post hp
      have hp' := Lib.hid hp
      have hkp := hk.out p (List.mem_of_getElem? hp)
      have hjc : j ≤ cap := by omega
      clear hp hs'
      obtain ⟨hbt, c, hI, hC⟩ := hbk.out
      have hbook := BookTo.book hbt
      obtain ⟨r, hr⟩ : ∃ r, Hid (refused (l.take j) p = r) := ⟨_, rfl⟩
      have HC := Lib.hid (show CInv c (l.take j) ∧ Book (l.take j) ∧ ChestAt wr w.heap.size c from ⟨hI, hbook, hC⟩)
      clear hbt hI hC hbook
      by_cases hr0 : r = 0
      · subst hr0
        go_wp2_with (go_at_call 111; refine (ptake w.heap.size (l.take j) c p _ HC.out.1 HC.out.2.1 (HC.out.2.2.alloc _) hkp.1 hkp.2).mono ?_; rintro e w1 ⟨he, hK, c', hI', hC'⟩; rw [hr.out] at he; subst he)
        go_roundw
        case rel => exact ⟨j + 1, by omega, by go_num, (hb.alloc hb.size _).trans (hK.below (Nat.le_refl _) (by have := hb.size; simp; omega)), Lib.hid (hbk.out.next hp'.out hr.out hI' hC')⟩
        case measure => simp [intOf]; omega
      · have hr2 : (r != 0) = true := by simp [hr0]
        have hfin : OpenRes' l (.returned (.tuple #[.pointer none, .int .i64 j, .int .i64 r])) := by
          have hne : refused (l.take j) p ≠ 0 := by rw [hr.out]; exact hr0
          have := check_bad hbk.out.1 hp'.out hne
          rw [hr.out] at this
          exact ⟨fun h => hne (h j p hp'.out), by rw [this]; exact hr0, by rw [this]⟩
        replace hfin := Lib.hid hfin
        clear hr0
        go_wp2_with (go_at_call 111; refine (ptake w.heap.size (l.take j) c p _ HC.out.1 HC.out.2.1 (HC.out.2.2.alloc _) hkp.1 hkp.2).mono ?_; rintro e w1 ⟨he, hK, c', hI', hC'⟩; rw [hr.out] at he; subst he)
        refine bodyPost_ret (v := .tuple #[.pointer none, .int .i64 j, .int .i64 r]) (by simp [results, Tryz.results56, go_sem]) rfl ?_
        exact ⟨(hb.alloc hb.size _).trans (hK.below (Nat.le_refl _) (by have := hb.size; simp; omega)), .inr hfin.out⟩
    · obtain rfl : j = n := by omega
      go_wp2
      refine bodyPost_ret (v := .tuple #[.pointer (some ⟨w.heap.size + 5, 0, none⟩), .int .i64 0, .int .i64 0]) (by simp [results, Tryz.results56, go_sem]) rfl ?_
      obtain ⟨hbt, c, hI, hC⟩ := hbk.out
      have ht : l.take j = l := List.take_of_length_le (by rw [hn.out]; exact Nat.le_refl _)
      have hbook := BookTo.book hbt
      rw [ht] at hI hbook
      exact ⟨hb, .inl ⟨hbook, _, c, rfl, Nat.le_refl _, hI, hC⟩⟩
end Go.Proofs.YtoijlikmigejbaaGreat

namespace Go.Proofs.YtoijlikmigejbaaGreat
open Go.RowKit Go.Proofs.YtoijlikmigejbaaGreat.Pu

/-- laid out flat -/
def flat {α : Type} (enc : α → List Value) (l : List α) : List Value := l.flatMap enc
theorem flat_length {α : Type} {enc : α → List Value} {k : Nat} (hk : ∀ x, (enc x).length = k) (l : List α) : (flat enc l).length = l.length * k := by
  induction l with
  | nil => simp [flat]
  | cons x r ih =>
    have : flat enc (x :: r) = enc x ++ flat enc r := rfl
    rw [this, List.length_append, ih, hk, List.length_cons, Nat.succ_mul]; omega
theorem flat_get {α : Type} {enc : α → List Value} {k : Nat} (hk : ∀ x, (enc x).length = k) : ∀ (l : List α) (i : Nat) (x : α) (j : Nat) (u : Value), l[i]? = some x → (enc x)[j]? = some u → (flat enc l)[i * k + j]? = some u
  | [], _, _, _, _, h, _ => by simp at h
  | y :: r, 0, x, j, u, h, hu => by
    simp only [List.getElem?_cons_zero, Option.some.injEq] at h
    subst h
    have e : flat enc (y :: r) = enc y ++ flat enc r := rfl
    have hj := (List.getElem?_eq_some_iff.1 hu).1
    rw [e, Nat.zero_mul, Nat.zero_add, List.getElem?_append_left hj]; exact hu
  | y :: r, i + 1, x, j, u, h, hu => by
    have e : flat enc (y :: r) = enc y ++ flat enc r := rfl
    rw [e, List.getElem?_append_right (by rw [hk, Nat.succ_mul]; omega), hk, show (i + 1) * k + j - k = i * k + j by rw [Nat.succ_mul]; omega]
    exact flat_get hk r i x j u (by simpa using h) hu
theorem flat_inv {α : Type} {enc : α → List Value} {k : Nat} (hk : ∀ x, (enc x).length = k) : ∀ (l : List α) (m : Nat) (u : Value), (flat enc l)[m]? = some u → ∃ i x j, l[i]? = some x ∧ (enc x)[j]? = some u ∧ m = i * k + j
  | [], _, _, h => by simp [flat] at h
  | y :: r, m, u, h => by
    have e : flat enc (y :: r) = enc y ++ flat enc r := rfl
    rw [e] at h
    by_cases hm : m < k
    · rw [List.getElem?_append_left (by rw [hk]; exact hm)] at h
      exact ⟨0, y, m, rfl, h, by omega⟩
    · rw [List.getElem?_append_right (by rw [hk]; omega), hk] at h
      obtain ⟨i, x, j, h1, h2, h3⟩ := flat_inv hk r _ u h
      exact ⟨i + 1, x, j, by simpa using h1, h2, by rw [Nat.succ_mul]; omega⟩
theorem flat_app {α : Type} (enc : α → List Value) (a b : List α) : flat enc (a ++ b) = flat enc a ++ flat enc b := by simp [flat]
theorem flat_one {α : Type} (enc : α → List Value) (x : α) : flat enc [x] = enc x := by simp [flat]
theorem pcells_len (p : Post) : (pcells p).length = 8 := rfl
theorem flat_cell {α : Type} {enc : α → List Value} (h : ∀ x, ∀ u ∈ enc x, u.oneCell' = true) (l : List α) : ∀ u ∈ flat enc l, u.oneCell' = true := fun u hu => by
  obtain ⟨x, _, hx⟩ := List.mem_flatMap.1 hu
  exact h x u hx
theorem pcells_cell (p : Post) : ∀ u ∈ pcells p, u.oneCell' = true := by
  intro u hu
  simp only [pcells, List.mem_cons, List.not_mem_nil, or_false] at hu
  rcases hu with rfl | rfl | rfl | rfl | rfl | rfl | rfl | rfl <;> rfl

theorem SlAt.news {α : Type} {k : Nat} {enc : α → List Value} {B b o : Nat} {w : World} {l : List α} (hk : ∀ x, (enc x).length = k) (h : SlAt k enc B w (some ⟨b, o, none⟩) l) :
    ∀ j u, (flat enc l)[j]? = some u → w.cell? ((⟨b, o, none⟩ : Addr).add j) = some u := by
  intro m u hu
  rcases h with rfl | ⟨b', o', he, hb, hc⟩
  · simp [flat] at hu
  · cases he
    obtain ⟨i, x, j, h1, h2, rfl⟩ := flat_inv hk l m u hu
    have := hc i x h1 j u h2
    rw [Addr.add_lit, ← Nat.add_assoc]; exact this

/-- a row of its own, of n elements -/
def Own {α : Type} (T k : Nat) (enc : α → List Value) (base : Nat) (w : World) (ao : Option Addr) (n cap : Nat) (l : List α) : Prop := w.ownsRow base T k (.slice ao n cap) n (flat enc l)
theorem Own.slAt {α : Type} {T k : Nat} {enc : α → List Value} {base : Nat} {w : World} {ao : Option Addr} {n cap : Nat} {l : List α} (hk : ∀ x, (enc x).length = k) (hk0 : 0 < k) (h : Own T k enc base w ao n cap l) : SlAt k enc w.heap.size w ao l := by
  obtain ⟨hl, h | ⟨g, cap', cur, hv, hb, hg, hn, hm, hs, ht⟩⟩ := h
  · rw [h.2, Nat.zero_mul, flat_length hk] at hl
    refine .inl (List.length_eq_zero_iff.1 ?_)
    rcases Nat.mul_eq_zero.1 hl with h | h
    · exact h
    · omega
  · simp only [Value.slice.injEq] at hv
    obtain ⟨rfl, _, rfl⟩ := hv
    refine .inr ⟨g, 0, rfl, ?_, fun i x hx j u hu => ?_⟩
    · rcases Nat.lt_or_ge g w.heap.size with h | h
      · exact h
      · rw [Array.getElem?_eq_none h] at hg; cases hg
    · have h1 := flat_get hk l i x j u hx hu
      rw [← ht, List.getElem?_take] at h1
      split at h1
      · rw [cell_of_row w g _ cur T (0, 0) hg, Nat.zero_add]
        simpa using h1
      · cases h1

theorem own_empty (w : World) (T k : Nat) : (w.alloc (.cells #[] T)).ownsRow w.heap.size T k (.slice (some ⟨w.heap.size, 0, none⟩) 0 0) 0 [] :=
  ⟨by simp, .inr ⟨w.heap.size, 0, #[], rfl, Nat.le_refl _, heap_alloc_new w _, Nat.le_refl _, Nat.zero_le _, by simp, by simp⟩⟩
theorem own_form {w : World} {base e size n : Nat} {v : Value} {xs : List Value} (h : w.ownsRow base e size v n xs) : ∃ ao cap, v = .slice ao n cap := by
  rcases h.2 with ⟨h1, h2⟩ | ⟨g, cap, _, h1, _⟩
  · exact ⟨none, 0, by rw [h1, h2]⟩
  · exact ⟨_, cap, h1⟩
theorem infoPost : (Tryz.prog.info? 36).map (fun i => (i.zero, i.size, i.bytes)) = some (some (pval zeroP), 8, 64) := by kernel_rfl

set_option maxRecDepth 100000 in
set_option maxHeartbeats 2000000 in
theorem pClone (l : List Post) (n cap : Nat) (ao : Option Addr) (B : Nat) (w : World) (hn : Hid (n = l.length)) (hm : n ≤ 100000) (hs : SlAt 8 pcells B w ao l) (hB : B ≤ w.heap.size) (hp : ∀ ad, ao = some ad → ∃ b o, ad = ⟨b, o, none⟩) :
    Calls Tryz.prog 112 #[.slice ao n cap] w fun e w' => ∃ ao' cap', e = .returned (.slice ao' n cap') ∧ Own 36 8 pcells w.heap.size w' ao' n cap' l ∧ Below w.heap.size w w' := by
  obtain ⟨i0, hi, hz0, hz1, hz2⟩ := info_parts infoPost
  have qT : ∀ (w : World) (a : Option Addr) (n c n' c' : Nat), (binOp .eql 22 (.slice a n c) (.slice none n' c')).run Tryz.prog w = .ok (.bool a.isNone) w := fun w a n c n' c' => Lib.run_eql_slice_nil w _ _ a n c n' c' Tryz.underlying22
  cases ao with
  | none =>
    have hl : l = [] := by
      rcases hs with h | ⟨b, o, h, _⟩
      · exact h
      · cases h
    have hn0 : n = 0 := by have := hn.out; rw [this, hl]; rfl
    go_enter Tryz.func112, Tryz.ntmps112
    go_wp2
    go_ret
    exact ⟨none, 0, by rw [hn0]; rfl, ⟨by rw [hl, hn0]; rfl, .inl ⟨by rw [hn0], hn0⟩⟩, Below.refl _ _⟩
  | some ad =>
    have had : ∃ b o, ad = ⟨b, o, none⟩ := hp ad rfl
    obtain ⟨b, o, rfl⟩ := had
    have hnews : ∀ j u, (flat pcells l)[j]? = some u → (w.alloc (.cells #[] 36)).cell? ((⟨b, o, none⟩ : Addr).add j) = some u := (hs.below (B := B) ((Below.refl _ _).alloc hB _)).news pcells_len
    go_enter Tryz.func112, Tryz.ntmps112
    go_wp2_with (at_builtin; refine wpList_append_own_at _ rfl _ _ 22 rfl w.heap.size 36 i0 (pval zeroP) 8 64 Tryz.underlying22 hi hz0 hz1 hz2 rfl (by decide) _ 0 [] rfl (own_empty w _ _) ⟨b, o, none⟩ n cap (flat pcells l) rfl (by rw [flat_length pcells_len, hn.out]) hnews (flat_cell pcells_cell l) (by unfold maxLen; omega) (by omega) (by simp) ?_; intro v' w1 hown hgrow hnil hloc)
    obtain ⟨ao', cap', rfl⟩ := own_form hown
    go_ret
    refine ⟨ao', cap', by rw [Nat.zero_add]; rfl, ?_, ((Below.refl _ _).alloc (Nat.le_refl _) _).grown hgrow (by simp) (fun k hk => by cases hk; exact Nat.le_refl _)⟩
    rw [Nat.zero_add, List.nil_append] at hown
    exact hown
end Go.Proofs.YtoijlikmigejbaaGreat

namespace Go.Proofs.YtoijlikmigejbaaGreat
open Go.RowKit Go.Proofs.YtoijlikmigejbaaGreat.Pu

set_option maxRecDepth 100000 in
set_option maxHeartbeats 2000000 in
theorem pCheck (l : List Post) (n cap : Nat) (ao : Option Addr) (B : Nat) (w : World) (hn : Hid (n = l.length)) (hm : n ≤ 100000) (hcap : n ≤ cap) (hs : SlAt 8 pcells B w ao l) (hB : B ≤ w.heap.size) (hk : Hid (Kinds l)) :
    Calls Tryz.prog 93 #[.slice ao n cap] w (RetII (check l) w) := by
  go_enter Tryz.func93, Tryz.ntmps93
  go_wp2_with (fail)
  go_at_call 56
  refine (popened l n cap ao B w hn hm hcap hs hB hk).mono ?_
  rintro e w1 ⟨hB1, ⟨hbook, N, c, rfl, _, _, _⟩ | ⟨_, _, rfl⟩⟩
  · have Hf := Lib.hid (check_book hbook)
    clear hbook
    go_wp2
    go_ret2
    exact ⟨by rw [Hf.out]; rfl, hB1⟩
  · go_wp2
    go_ret2
    exact ⟨rfl, hB1⟩

/-- why p cannot be appended to l; 0: it can -/
def appCode (l : List Post) (p : Post) : Int := if (check l).2 = 0 then refused l p else (check l).2
theorem appCode_book {l : List Post} (h : Book l) (p : Post) : appCode l p = refused l p := by unfold appCode; rw [check_book h, if_pos rfl]
theorem appCode_no {l : List Post} (h : (check l).2 ≠ 0) (p : Post) : appCode l p = (check l).2 := by unfold appCode; rw [if_neg h]
/-- Append's answer -/
def AppRes (l : List Post) (p : Post) (w : World) (e : Ending) (w' : World) : Prop :=
  Below w.heap.size w w' ∧ ((appCode l p ≠ 0 ∧ e = .returned (.tuple #[.slice none 0 0, .int .i64 (appCode l p)])) ∨
    (appCode l p = 0 ∧ ∃ b cap, e = .returned (.tuple #[.slice (some ⟨b, 0, none⟩) (l.length + 1) cap, .int .i64 0]) ∧ Own 36 8 pcells w.heap.size w' (some ⟨b, 0, none⟩) (l.length + 1) cap (l ++ [p])))

theorem own_base {w : World} {base base' e size n : Nat} {v : Value} {xs : List Value} (h : w.ownsRow base e size v n xs) (hb : base' ≤ base) : w.ownsRow base' e size v n xs := by
  obtain ⟨h0, h | ⟨g, cap, cur, h1, h2, h3⟩⟩ := h
  · exact ⟨h0, .inl h⟩
  · exact ⟨h0, .inr ⟨g, cap, cur, h1, Nat.le_trans hb h2, h3⟩⟩
theorem own_far {w : World} {base e size n : Nat} {v : Value} {xs : List Value} (h : w.ownsRow base e size v n xs) : ∀ k, v.ownBlock = some k → base ≤ k := by
  intro k hk
  obtain ⟨_, h | ⟨g, cap, cur, h1, h2, _⟩⟩ := h
  · rw [h.1] at hk; cases hk
  · rw [h1] at hk; cases hk; exact h2
theorem P8 {w : World} {b : Nat} {p : Post} (h : PBox w b p) : w.cell? ⟨b, 0, none⟩ = some (.int .i64 p.id) ∧ w.cell? ⟨b, 1, none⟩ = some (.int .i64 p.hour) ∧ w.cell? ⟨b, 2, none⟩ = some (.int .u8 p.kind) ∧ w.cell? ⟨b, 3, none⟩ = some (.int .i64 p.party) ∧
    w.cell? ⟨b, 4, none⟩ = some (.int .i64 p.parcel) ∧ w.cell? ⟨b, 5, none⟩ = some (.int .i64 p.amount) ∧ w.cell? ⟨b, 6, none⟩ = some (.int .i64 p.reason) ∧ w.cell? ⟨b, 7, none⟩ = some (.int .i64 p.known) :=
  ⟨h.c0, h.c1, h.c2, h.c3, h.c4, h.c5, h.c6, h.c7⟩

set_option maxRecDepth 100000 in
set_option maxHeartbeats 4000000 in
theorem pAppend (l : List Post) (p : Post) (n cap : Nat) (ao : Option Addr) (B : Nat) (w : World) (hn : Hid (n = l.length)) (hm : n ≤ 100000) (hcap : n ≤ cap) (hs : SlAt 8 pcells B w ao l) (hB : B ≤ w.heap.size) (hk : Hid (Kinds l)) (hkp : 0 ≤ p.kind ∧ p.kind ≤ 255)
    (had : Hid (∀ ad, ao = some ad → ∃ b o, ad = ⟨b, o, none⟩)) :
    Calls Tryz.prog 55 #[.slice ao n cap, pval p] w (AppRes l p w) := by
  have hP := PBox.new w p 36
  have hBn : Below w.heap.size w (w.alloc (pobj p)) := (Below.refl _ _).alloc (Nat.le_refl _) _
  have hs2 := hs.below (hBn.mono hB)
  have hsz : (w.alloc (pobj p)).heap.size = w.heap.size + 1 := by simp
  go_enter Tryz.func55, Tryz.ntmps55
  go_wp2_with (fail)
  go_at_call 56
  refine (popened l n cap ao B (w.alloc (pobj p)) hn hm hcap hs2 (by omega) hk).mono ?_
  rintro e w1 ⟨hB1, ⟨hbook, N, c, rfl, hN, hI, hC⟩ | ⟨hnb, hne, rfl⟩⟩
  · have hP1 := hP.below hB1 (by omega)
    have hB2 := hBn.trans (hB1.mono (by omega))
    have hs3 := hs.below (hB2.mono hB)
    obtain ⟨b, hb⟩ : ∃ b, w.heap.size = b := ⟨_, rfl⟩
    rw [hb] at hP1 hsz hB2 hB ⊢
    replace hb := Lib.hid hb
    obtain ⟨r, hr⟩ : ∃ r, Hid (refused l p = r) := ⟨_, rfl⟩
    have HC := Lib.hid (show CInv c l ∧ Book l ∧ ChestAt w1 N c ∧ b + 1 ≤ N from ⟨hI, hbook, hC, by omega⟩)
    have hblt := hP1.lt
    have q0 := hP1.c0
    have q1 := hP1.c1
    have q2 := hP1.c2
    have q3 := hP1.c3
    have q4 := hP1.c4
    have q5 := hP1.c5
    have q6 := hP1.c6
    have q7 := hP1.c7
    clear hs hs2 hB1 hI hbook hC hN hP hBn
    replace hP1 := Lib.hid hP1
    by_cases hr0 : r = 0
    · subst hr0
      go_wp2_with (go_at_call 111; refine (ptake N l c p _ HC.out.1 HC.out.2.1 HC.out.2.2.1 hkp.1 hkp.2).mono ?_; rintro e w2 ⟨he, hK, c', hI', hC'⟩; rw [hr.out] at he; subst he)
      have hP2 := hP1.out.keeps hK (.inl (by have := HC.out.2.2.2; omega))
      have hKb := hK.below (B := b) (by have := HC.out.2.2.2; omega) (Nat.le_of_lt hblt)
      have hB3 := hB2.trans hKb
      have hs4 := hs3.below (hKb.mono hB)
      have hlt := hP2.lt
      have Hbook := Lib.hid HC.out.2.1
      clear q0 q1 q2 q3 q4 q5 q6 q7 hblt hK hI' hC' hP1 HC hs3 hB2 hKb c'
      clear w1
      obtain ⟨i0, hi, hz0, hz1, hz2⟩ := info_parts infoPost
      replace hs4 := Lib.hid hs4
      have hBw2 : B ≤ w2.heap.size := by omega
      replace hB3 := Lib.hid hB3
      refine wp_region_held_drew (S := (fun w' => w'.cell? ⟨b, 0, none⟩ = some (.int .i64 p.id) ∧ w'.cell? ⟨b, 1, none⟩ = some (.int .i64 p.hour) ∧ w'.cell? ⟨b, 2, none⟩ = some (.int .u8 p.kind) ∧ w'.cell? ⟨b, 3, none⟩ = some (.int .i64 p.party) ∧
                                        w'.cell? ⟨b, 4, none⟩ = some (.int .i64 p.parcel) ∧ w'.cell? ⟨b, 5, none⟩ = some (.int .i64 p.amount) ∧ w'.cell? ⟨b, 6, none⟩ = some (.int .i64 p.reason) ∧ w'.cell? ⟨b, 7, none⟩ = some (.int .i64 p.known))) (by kernel_rfl) ?_ (fun hHeld0 => ?_)
      · (try dsimp only); (first
                            | exact P8 hP2
                            | exact P8 (hP2.below (Below.refl _ _).drew hlt)
                            | exact P8 (hP2.below ((Below.refl _ _).alloc (Nat.le_refl _) _).drew hlt)
                            | exact P8 (hP2.below ((Below.refl _ _).drew.trans hB4) hlt)
                            | exact P8 (hP2.below (((Below.refl _ _).drew.trans hB4).alloc hB4.size _) hlt)
                            | exact P8 (hP2.below (((Below.refl _ _).alloc (Nat.le_refl _) _).drew.trans (hB4.mono (by simp))) hlt)
                            | exact P8 (hP2.below hB5 hlt))
      refine xtake 0 (v := ?_) rfl (by kernel_rfl) (by kernel_rfl) (by kernel_rfl) rfl ?_ ?_ (by assumption) ?_
      rotate_left
      · intro w hSw; (try dsimp only at hSw); go_simp; with_reducible rfl
      · (exact fun _ _ _ hp => hp)
      try simp only [Act.put, List.setIfInBounds_toArray, List.set_cons_zero, List.set_cons_succ]
      refine xtake 2 (v := ?_) rfl (by kernel_rfl) (by kernel_rfl) (by kernel_rfl) rfl ?_ ?_ (by assumption) ?_
      rotate_left
      · intro w hSw; (try dsimp only at hSw); go_simp; with_reducible rfl
      · (exact fun _ _ _ hp => hp)
      try simp only [Act.put, List.setIfInBounds_toArray, List.set_cons_zero, List.set_cons_succ]
      refine wpAnyH_ready (rs := [1, 3]) (by kernel_rfl) (by simp) ?_
      refine xcons 1 rfl (fun K hK => ?_) ?_
      focus
        (first
          | (go_simp
             go_at_call 112
             refine (pClone l n cap ao B _ hn hm (by first | exact hs4.out.below (Below.refl _ _).drew | exact hs4.out.below ((Below.refl _ _).alloc hBw2 _).drew) (by simp; omega) had.out).mono ?_
             rintro e w3 ⟨ao3, cap3, rfl, hown3, hB4⟩
             dsimp only)
          | (refine step_append_lies _ (by rfl) _ _ _ (by rfl) w2.heap.size 36 i0 _ 8 64 Tryz.underlying22 hi hz0 hz1 hz2 rfl (by omega) (.slice ao3 n cap3) n (flat pcells l) (by rfl) (hown3.alloc _) ⟨w3.heap.size, 0, none⟩ 1 1 (pcells p) (by rfl) rfl
               (World.news_of_block (cs := (pcells p).toArray) (t := 36) (fr := (0, 0)) (heap_alloc_new w3 _)) (pcells_cell p) (by omega) (by unfold maxLen; omega) (by omega) (by have := hB4.size; simp at this ⊢; omega) _ rfl ?_
             intro g cap4 w4 hown4 hgrow4 hat4 hlt4
             have hB5 := (((Below.refl w2.heap.size w2).drew.trans hB4).alloc hB4.size _).grown hgrow4 (by have := hB4.size; simp at this ⊢; omega) (own_far hown3))
          | (refine step_append_lies _ (by rfl) _ _ _ (by rfl) w2.heap.size 36 i0 _ 8 64 Tryz.underlying22 hi hz0 hz1 hz2 rfl (by omega) (.slice ao3 n cap3) n (flat pcells l) (by rfl) (own_base hown3 (by simp)) ⟨w2.heap.size, 0, none⟩ 1 1 (pcells p) (by rfl) rfl
               (World.news_of_block (cs := (pcells p).toArray) (t := 36) (fr := (0, 0)) ((hB4.block _ (by simp)).trans (heap_alloc_new w2 _))) (pcells_cell p) (by omega) (by unfold maxLen; omega) (by omega) (by have := hB4.size; simp at this ⊢; omega) _ rfl ?_
             intro g cap4 w4 hown4 hgrow4 hat4 hlt4
             have hB5 := ((((Below.refl w2.heap.size w2).alloc (Nat.le_refl _) _).drew.trans (hB4.mono (by simp)))).grown hgrow4 (by have := hB4.size; simp at this ⊢; omega) (own_far (own_base hown3 (by simp)))))
        refine hK.out _ _ ?_ (fun hHeld1 => ?_)
        · (try dsimp only); (first
                              | exact P8 hP2
                              | exact P8 (hP2.below (Below.refl _ _).drew hlt)
                              | exact P8 (hP2.below ((Below.refl _ _).alloc (Nat.le_refl _) _).drew hlt)
                              | exact P8 (hP2.below ((Below.refl _ _).drew.trans hB4) hlt)
                              | exact P8 (hP2.below (((Below.refl _ _).drew.trans hB4).alloc hB4.size _) hlt)
                              | exact P8 (hP2.below (((Below.refl _ _).alloc (Nat.le_refl _) _).drew.trans (hB4.mono (by simp))) hlt)
                              | exact P8 (hP2.below hB5 hlt))
        clear hK K
        try simp only [Act.put, List.setIfInBounds_toArray, List.set_cons_zero, List.set_cons_succ]
        (try clear hHeld0)
        refine wpAnyH_ready (rs := [3]) (by kernel_rfl) (by simp) ?_
        refine xcons 3 rfl (fun K hK => ?_) ?_
        focus
          go_simp
          refine hK.out _ _ ?_ (fun hHeld2 => ?_)
          · (try dsimp only); (first
                                | exact P8 hP2
                                | exact P8 (hP2.below (Below.refl _ _).drew hlt)
                                | exact P8 (hP2.below ((Below.refl _ _).alloc (Nat.le_refl _) _).drew hlt)
                                | exact P8 (hP2.below ((Below.refl _ _).drew.trans hB4) hlt)
                                | exact P8 (hP2.below (((Below.refl _ _).drew.trans hB4).alloc hB4.size _) hlt)
                                | exact P8 (hP2.below (((Below.refl _ _).alloc (Nat.le_refl _) _).drew.trans (hB4.mono (by simp))) hlt)
                                | exact P8 (hP2.below hB5 hlt))
          clear hK K
          try simp only [Act.put, List.setIfInBounds_toArray, List.set_cons_zero, List.set_cons_succ]
          (try clear hHeld1)
          refine wpAnyH_ready (rs := [4]) (by kernel_rfl) (by simp) ?_
          refine xcons 4 rfl (fun K hK => ?_) ?_
          focus
            (first
              | (go_simp
                 go_at_call 112
                 refine (pClone l n cap ao B _ hn hm (by first | exact hs4.out.below (Below.refl _ _).drew | exact hs4.out.below ((Below.refl _ _).alloc hBw2 _).drew) (by simp; omega) had.out).mono ?_
                 rintro e w3 ⟨ao3, cap3, rfl, hown3, hB4⟩
                 dsimp only)
              | (refine step_append_lies _ (by rfl) _ _ _ (by rfl) w2.heap.size 36 i0 _ 8 64 Tryz.underlying22 hi hz0 hz1 hz2 rfl (by omega) (.slice ao3 n cap3) n (flat pcells l) (by rfl) (hown3.alloc _) ⟨w3.heap.size, 0, none⟩ 1 1 (pcells p) (by rfl) rfl
                   (World.news_of_block (cs := (pcells p).toArray) (t := 36) (fr := (0, 0)) (heap_alloc_new w3 _)) (pcells_cell p) (by omega) (by unfold maxLen; omega) (by omega) (by have := hB4.size; simp at this ⊢; omega) _ rfl ?_
                 intro g cap4 w4 hown4 hgrow4 hat4 hlt4
                 have hB5 := (((Below.refl w2.heap.size w2).drew.trans hB4).alloc hB4.size _).grown hgrow4 (by have := hB4.size; simp at this ⊢; omega) (own_far hown3))
              | (refine step_append_lies _ (by rfl) _ _ _ (by rfl) w2.heap.size 36 i0 _ 8 64 Tryz.underlying22 hi hz0 hz1 hz2 rfl (by omega) (.slice ao3 n cap3) n (flat pcells l) (by rfl) (own_base hown3 (by simp)) ⟨w2.heap.size, 0, none⟩ 1 1 (pcells p) (by rfl) rfl
                   (World.news_of_block (cs := (pcells p).toArray) (t := 36) (fr := (0, 0)) ((hB4.block _ (by simp)).trans (heap_alloc_new w2 _))) (pcells_cell p) (by omega) (by unfold maxLen; omega) (by omega) (by have := hB4.size; simp at this ⊢; omega) _ rfl ?_
                 intro g cap4 w4 hown4 hgrow4 hat4 hlt4
                 have hB5 := ((((Below.refl w2.heap.size w2).alloc (Nat.le_refl _) _).drew.trans (hB4.mono (by simp)))).grown hgrow4 (by have := hB4.size; simp at this ⊢; omega) (own_far (own_base hown3 (by simp)))))
            refine hK.out _ _ ?_ (fun hHeld3 => ?_)
            · (try dsimp only); (first
                                  | exact P8 hP2
                                  | exact P8 (hP2.below (Below.refl _ _).drew hlt)
                                  | exact P8 (hP2.below ((Below.refl _ _).alloc (Nat.le_refl _) _).drew hlt)
                                  | exact P8 (hP2.below ((Below.refl _ _).drew.trans hB4) hlt)
                                  | exact P8 (hP2.below (((Below.refl _ _).drew.trans hB4).alloc hB4.size _) hlt)
                                  | exact P8 (hP2.below (((Below.refl _ _).alloc (Nat.le_refl _) _).drew.trans (hB4.mono (by simp))) hlt)
                                  | exact P8 (hP2.below hB5 hlt))
            clear hK K
            try simp only [Act.put, List.setIfInBounds_toArray, List.set_cons_zero, List.set_cons_succ]
            (try clear hHeld2)
            refine xtake 5 (v := ?_) rfl (by kernel_rfl) (by kernel_rfl) (by kernel_rfl) rfl ?_ ?_ (by assumption) ?_
            rotate_left
            · intro w hSw; (try dsimp only at hSw); go_simp; with_reducible rfl
            · (exact fun _ _ _ hp => hp)
            try simp only [Act.put, List.setIfInBounds_toArray, List.set_cons_zero, List.set_cons_succ]
            refine xtake 6 (v := ?_) rfl (by kernel_rfl) (by kernel_rfl) (by kernel_rfl) rfl ?_ ?_ (by assumption) ?_
            rotate_left
            · intro w hSw; (try dsimp only at hSw); go_simp; with_reducible rfl
            · (exact fun _ _ _ hp => hp)
            try simp only [Act.put, List.setIfInBounds_toArray, List.set_cons_zero, List.set_cons_succ]
            refine wpAnyH_done (by kernel_rfl) ?_ _
            (revert hHeld3; intro _)
          rotate_left 1
          exact AllReadyH.nil
        rotate_left 1
        exact AllReadyH.nil
      rotate_left 1
      refine xcons 3 rfl (fun K hK => ?_) ?_
      focus
        go_simp
        refine hK.out _ _ ?_ (fun hHeld1 => ?_)
        · (try dsimp only); (first
                              | exact P8 hP2
                              | exact P8 (hP2.below (Below.refl _ _).drew hlt)
                              | exact P8 (hP2.below ((Below.refl _ _).alloc (Nat.le_refl _) _).drew hlt)
                              | exact P8 (hP2.below ((Below.refl _ _).drew.trans hB4) hlt)
                              | exact P8 (hP2.below (((Below.refl _ _).drew.trans hB4).alloc hB4.size _) hlt)
                              | exact P8 (hP2.below (((Below.refl _ _).alloc (Nat.le_refl _) _).drew.trans (hB4.mono (by simp))) hlt)
                              | exact P8 (hP2.below hB5 hlt))
        clear hK K
        try simp only [Act.put, List.setIfInBounds_toArray, List.set_cons_zero, List.set_cons_succ]
        (try clear hHeld0)
        refine wpAnyH_ready (rs := [1]) (by kernel_rfl) (by simp) ?_
        refine xcons 1 rfl (fun K hK => ?_) ?_
        focus
          (first
            | (go_simp
               go_at_call 112
               refine (pClone l n cap ao B _ hn hm (by first | exact hs4.out.below (Below.refl _ _).drew | exact hs4.out.below ((Below.refl _ _).alloc hBw2 _).drew) (by simp; omega) had.out).mono ?_
               rintro e w3 ⟨ao3, cap3, rfl, hown3, hB4⟩
               dsimp only)
            | (refine step_append_lies _ (by rfl) _ _ _ (by rfl) w2.heap.size 36 i0 _ 8 64 Tryz.underlying22 hi hz0 hz1 hz2 rfl (by omega) (.slice ao3 n cap3) n (flat pcells l) (by rfl) (hown3.alloc _) ⟨w3.heap.size, 0, none⟩ 1 1 (pcells p) (by rfl) rfl
                 (World.news_of_block (cs := (pcells p).toArray) (t := 36) (fr := (0, 0)) (heap_alloc_new w3 _)) (pcells_cell p) (by omega) (by unfold maxLen; omega) (by omega) (by have := hB4.size; simp at this ⊢; omega) _ rfl ?_
               intro g cap4 w4 hown4 hgrow4 hat4 hlt4
               have hB5 := (((Below.refl w2.heap.size w2).drew.trans hB4).alloc hB4.size _).grown hgrow4 (by have := hB4.size; simp at this ⊢; omega) (own_far hown3))
            | (refine step_append_lies _ (by rfl) _ _ _ (by rfl) w2.heap.size 36 i0 _ 8 64 Tryz.underlying22 hi hz0 hz1 hz2 rfl (by omega) (.slice ao3 n cap3) n (flat pcells l) (by rfl) (own_base hown3 (by simp)) ⟨w2.heap.size, 0, none⟩ 1 1 (pcells p) (by rfl) rfl
                 (World.news_of_block (cs := (pcells p).toArray) (t := 36) (fr := (0, 0)) ((hB4.block _ (by simp)).trans (heap_alloc_new w2 _))) (pcells_cell p) (by omega) (by unfold maxLen; omega) (by omega) (by have := hB4.size; simp at this ⊢; omega) _ rfl ?_
               intro g cap4 w4 hown4 hgrow4 hat4 hlt4
               have hB5 := ((((Below.refl w2.heap.size w2).alloc (Nat.le_refl _) _).drew.trans (hB4.mono (by simp)))).grown hgrow4 (by have := hB4.size; simp at this ⊢; omega) (own_far (own_base hown3 (by simp)))))
          refine hK.out _ _ ?_ (fun hHeld2 => ?_)
          · (try dsimp only); (first
                                | exact P8 hP2
                                | exact P8 (hP2.below (Below.refl _ _).drew hlt)
                                | exact P8 (hP2.below ((Below.refl _ _).alloc (Nat.le_refl _) _).drew hlt)
                                | exact P8 (hP2.below ((Below.refl _ _).drew.trans hB4) hlt)
                                | exact P8 (hP2.below (((Below.refl _ _).drew.trans hB4).alloc hB4.size _) hlt)
                                | exact P8 (hP2.below (((Below.refl _ _).alloc (Nat.le_refl _) _).drew.trans (hB4.mono (by simp))) hlt)
                                | exact P8 (hP2.below hB5 hlt))
          clear hK K
          try simp only [Act.put, List.setIfInBounds_toArray, List.set_cons_zero, List.set_cons_succ]
          (try clear hHeld1)
          refine wpAnyH_ready (rs := [4]) (by kernel_rfl) (by simp) ?_
          refine xcons 4 rfl (fun K hK => ?_) ?_
          focus
            (first
              | (go_simp
                 go_at_call 112
                 refine (pClone l n cap ao B _ hn hm (by first | exact hs4.out.below (Below.refl _ _).drew | exact hs4.out.below ((Below.refl _ _).alloc hBw2 _).drew) (by simp; omega) had.out).mono ?_
                 rintro e w3 ⟨ao3, cap3, rfl, hown3, hB4⟩
                 dsimp only)
              | (refine step_append_lies _ (by rfl) _ _ _ (by rfl) w2.heap.size 36 i0 _ 8 64 Tryz.underlying22 hi hz0 hz1 hz2 rfl (by omega) (.slice ao3 n cap3) n (flat pcells l) (by rfl) (hown3.alloc _) ⟨w3.heap.size, 0, none⟩ 1 1 (pcells p) (by rfl) rfl
                   (World.news_of_block (cs := (pcells p).toArray) (t := 36) (fr := (0, 0)) (heap_alloc_new w3 _)) (pcells_cell p) (by omega) (by unfold maxLen; omega) (by omega) (by have := hB4.size; simp at this ⊢; omega) _ rfl ?_
                 intro g cap4 w4 hown4 hgrow4 hat4 hlt4
                 have hB5 := (((Below.refl w2.heap.size w2).drew.trans hB4).alloc hB4.size _).grown hgrow4 (by have := hB4.size; simp at this ⊢; omega) (own_far hown3))
              | (refine step_append_lies _ (by rfl) _ _ _ (by rfl) w2.heap.size 36 i0 _ 8 64 Tryz.underlying22 hi hz0 hz1 hz2 rfl (by omega) (.slice ao3 n cap3) n (flat pcells l) (by rfl) (own_base hown3 (by simp)) ⟨w2.heap.size, 0, none⟩ 1 1 (pcells p) (by rfl) rfl
                   (World.news_of_block (cs := (pcells p).toArray) (t := 36) (fr := (0, 0)) ((hB4.block _ (by simp)).trans (heap_alloc_new w2 _))) (pcells_cell p) (by omega) (by unfold maxLen; omega) (by omega) (by have := hB4.size; simp at this ⊢; omega) _ rfl ?_
                 intro g cap4 w4 hown4 hgrow4 hat4 hlt4
                 have hB5 := ((((Below.refl w2.heap.size w2).alloc (Nat.le_refl _) _).drew.trans (hB4.mono (by simp)))).grown hgrow4 (by have := hB4.size; simp at this ⊢; omega) (own_far (own_base hown3 (by simp)))))
            refine hK.out _ _ ?_ (fun hHeld3 => ?_)
            · (try dsimp only); (first
                                  | exact P8 hP2
                                  | exact P8 (hP2.below (Below.refl _ _).drew hlt)
                                  | exact P8 (hP2.below ((Below.refl _ _).alloc (Nat.le_refl _) _).drew hlt)
                                  | exact P8 (hP2.below ((Below.refl _ _).drew.trans hB4) hlt)
                                  | exact P8 (hP2.below (((Below.refl _ _).drew.trans hB4).alloc hB4.size _) hlt)
                                  | exact P8 (hP2.below (((Below.refl _ _).alloc (Nat.le_refl _) _).drew.trans (hB4.mono (by simp))) hlt)
                                  | exact P8 (hP2.below hB5 hlt))
            clear hK K
            try simp only [Act.put, List.setIfInBounds_toArray, List.set_cons_zero, List.set_cons_succ]
            (try clear hHeld2)
            refine xtake 5 (v := ?_) rfl (by kernel_rfl) (by kernel_rfl) (by kernel_rfl) rfl ?_ ?_ (by assumption) ?_
            rotate_left
            · intro w hSw; (try dsimp only at hSw); go_simp; with_reducible rfl
            · (exact fun _ _ _ hp => hp)
            try simp only [Act.put, List.setIfInBounds_toArray, List.set_cons_zero, List.set_cons_succ]
            refine xtake 6 (v := ?_) rfl (by kernel_rfl) (by kernel_rfl) (by kernel_rfl) rfl ?_ ?_ (by assumption) ?_
            rotate_left
            · intro w hSw; (try dsimp only at hSw); go_simp; with_reducible rfl
            · (exact fun _ _ _ hp => hp)
            try simp only [Act.put, List.setIfInBounds_toArray, List.set_cons_zero, List.set_cons_succ]
            refine wpAnyH_done (by kernel_rfl) ?_ _
            (revert hHeld3; intro _)
          rotate_left 1
          exact AllReadyH.nil
        rotate_left 1
        exact AllReadyH.nil
      rotate_left 1
      exact AllReadyH.nil
      all_goals
        go_wp2
        refine bodyPost_ret (v := .tuple #[.slice (some ⟨g, 0, none⟩) (n + 1) cap4, .int .i64 0]) (by simp [results, Tryz.results55, go_sem]) rfl ?_
        refine ⟨?_, .inr ⟨?_, g, cap4, ?_, ?_⟩⟩
        · rw [hb.out]; exact hB3.out.trans (hB5.mono (Nat.le_of_lt hlt))
        · rw [appCode_book Hbook.out]; exact hr.out
        · rw [← hn.out]
        · rw [← hn.out, hb.out]
          refine own_base (base := w2.heap.size) ?_ (Nat.le_of_lt hlt)
          rw [flat_app, flat_one]
          first
            | exact hown4
            | exact own_base hown4 (by simp)
    · have hne : appCode l p = r := by rw [appCode_book HC.out.2.1]; exact hr.out
      replace hne := Lib.hid hne
      have hr2 : (r != 0) = true := by simp [hr0]
      replace hr0 := Lib.hid hr0
      go_wp2_with (go_at_call 111; refine (ptake N l c p _ HC.out.1 HC.out.2.1 HC.out.2.2.1 hkp.1 hkp.2).mono ?_; rintro e w2 ⟨he, hK, c', hI', hC'⟩; rw [hr.out] at he; subst he)
      refine bodyPost_ret (v := .tuple #[.slice none 0 0, .int .i64 r]) (by simp [results, Tryz.results55, go_sem]) rfl ?_
      refine ⟨?_, .inl ⟨by rw [hne.out]; exact hr0.out, by rw [hne.out]⟩⟩
      rw [hb.out]
      exact hB2.trans (hK.below (by have := HC.out.2.2.2; omega) (Nat.le_of_lt hblt))
  · have hcode := appCode_no hne p
    have hne2 : ((check l).2 != 0) = true := by simp [hne]
    have hBB := hBn.trans (hB1.mono (by omega))
    obtain ⟨i, hi⟩ : ∃ i, (check l).1 = i := ⟨_, rfl⟩
    obtain ⟨r, hr⟩ : ∃ r, (check l).2 = r := ⟨_, rfl⟩
    rw [hi, hr]
    rw [hr] at hcode hne hne2
    replace hcode := Lib.hid hcode
    replace hne := Lib.hid hne
    clear hi hr hB1 hBn hs hs2 hP hnb
    go_wp2
    refine bodyPost_ret (v := .tuple #[.slice none 0 0, .int .i64 r]) (by simp [results, Tryz.results55, go_sem]) rfl ?_
    exact ⟨hBB, .inl ⟨by rw [hcode.out]; exact hne.out, by rw [hcode.out]⟩⟩
end Go.Proofs.YtoijlikmigejbaaGreat

namespace Go.Proofs.YtoijlikmigejbaaGreat
open Go.RowKit Go.Proofs.YtoijlikmigejbaaGreat.Pu

/-- a list of postings that comes in -/
structure LIn (l : List Post) (n cap : Nat) (ao : Option Addr) (B : Nat) (w : World) : Prop where
  hn : n = l.length
  hm : n ≤ 100000
  hcap : n ≤ cap
  hs : SlAt 8 pcells B w ao l
  hB : B ≤ w.heap.size
  hk : Kinds l
  had : ∀ ad, ao = some ad → ∃ b o, ad = ⟨b, o, none⟩
theorem LIn.below {l : List Post} {n cap : Nat} {ao : Option Addr} {B : Nat} {w w' : World} (h : LIn l n cap ao B w) (hb : Below B w w') : LIn l n cap ao B w' :=
  ⟨h.hn, h.hm, h.hcap, h.hs.below hb, Nat.le_trans h.hB hb.size, h.hk, h.had⟩
theorem LIn.after {l : List Post} {n cap : Nat} {ao : Option Addr} {B : Nat} {w w' : World} (h : LIn l n cap ao B w) (hb : Below w.heap.size w w') : LIn l n cap ao B w' := h.below (hb.mono h.hB)
theorem LIn.drew {l : List Post} {n cap : Nat} {ao : Option Addr} {B : Nat} {w : World} (h : LIn l n cap ao B w) : LIn l n cap ao B w.drew := h.below (Below.refl _ _).drew
theorem LIn.alloc {l : List Post} {n cap : Nat} {ao : Option Addr} {B : Nat} {w : World} (h : LIn l n cap ao B w) (o : Obj) : LIn l n cap ao B (w.alloc o) := h.after ((Below.refl _ _).alloc (Nat.le_refl _) _)
theorem LIn.opened {l : List Post} {n cap : Nat} {ao : Option Addr} {B : Nat} {w : World} (h : LIn l n cap ao B w) : Calls Tryz.prog 56 #[.slice ao n cap] w (OpenRes l w) := popened l n cap ao B w h.hn h.hm h.hcap h.hs h.hB h.hk
theorem LIn.pCheck {l : List Post} {n cap : Nat} {ao : Option Addr} {B : Nat} {w : World} (h : LIn l n cap ao B w) : Calls Tryz.prog 93 #[.slice ao n cap] w (RetII (check l) w) := Go.Proofs.YtoijlikmigejbaaGreat.pCheck l n cap ao B w h.hn h.hm h.hcap h.hs h.hB h.hk
theorem LIn.rCheck {l : List Post} {n cap : Nat} {ao : Option Addr} {B : Nat} {w : World} (h : LIn l n cap ao B w) : Calls Tryz.prog 66 #[.slice ao n cap] w (RetII (check l) w) := Go.Proofs.YtoijlikmigejbaaGreat.rCheck l n cap ao B w h.hn h.hm h.hcap h.hs h.hB
theorem LIn.pAppend {l : List Post} {n cap : Nat} {ao : Option Addr} {B : Nat} {w : World} (h : LIn l n cap ao B w) (p : Post) (hp : 0 ≤ p.kind ∧ p.kind ≤ 255) : Calls Tryz.prog 55 #[.slice ao n cap, pval p] w (AppRes l p w) := Go.Proofs.YtoijlikmigejbaaGreat.pAppend l p n cap ao B w h.hn h.hm h.hcap h.hs h.hB h.hk hp h.had

def askCode (l : List Post) (x y : Int) : Int := if (check l).2 = 0 then (if inB x 10 10000007 && inB y 0 40 then 0 else 1) else (check l).2
/-- asked's answer -/
def AskRes (l : List Post) (x y : Int) (w : World) (e : Ending) (w' : World) : Prop :=
  Below w.heap.size w w' ∧ ((Book l ∧ askCode l x y = 0 ∧ ∃ N c, e = .returned (.tuple #[.pointer (some ⟨N + 5, 0, none⟩), .int .i64 0]) ∧ w.heap.size ≤ N ∧ CInv c l ∧ ChestAt w' N c) ∨
    (askCode l x y ≠ 0 ∧ e = .returned (.tuple #[.pointer none, .int .i64 (askCode l x y)])))

set_option maxRecDepth 100000 in
set_option maxHeartbeats 2000000 in
theorem pasked {l : List Post} {n cap : Nat} {ao : Option Addr} {B : Nat} {w : World} (h : LIn l n cap ao B w) (x y : Int) :
    Calls Tryz.prog 73 #[.slice ao n cap, .int .i64 x, .int .i64 y] w (AskRes l x y w) := by
  go_enter Tryz.func73, Tryz.ntmps73
  go_wp2_with (fail)
  go_at_call 56
  refine h.opened.mono ?_
  rintro e w1 ⟨hB1, ⟨hbook, N, c, rfl, hN, hI, hC⟩ | ⟨hnb, hne, rfl⟩⟩
  · have hck : (check l).2 = 0 := by rw [check_book hbook]
    have HF := Lib.hid (show Book l ∧ w.heap.size ≤ N ∧ CInv c l ∧ ChestAt w1 N c ∧ Below w.heap.size w w1 from ⟨hbook, hN, hI, hC, hB1⟩)
    replace hck := Lib.hid hck
    clear hbook hN hI hC hB1
    cases hx : inB x 10 10000007 with
    | false =>
      have hc : Hid (askCode l x y = 1) := by show _ = _; unfold askCode; rw [if_pos hck.out, hx]; rfl
      go_wp2_with (first | (go_at_call 96; refine (pisParcel _ _).mono ?_; rintro e w2 ⟨rfl, rfl⟩) | (go_at_call 97; refine (pisParty _ _).mono ?_; rintro e w2 ⟨rfl, rfl⟩))
      go_ret2
      exact ⟨HF.out.2.2.2.2, .inr ⟨by rw [hc.out]; omega, by rw [hc.out]; rfl⟩⟩
    | true =>
      cases hy : inB y 0 40 with
      | false =>
        have hc : Hid (askCode l x y = 1) := by show _ = _; unfold askCode; rw [if_pos hck.out, hx, hy]; rfl
        go_wp2_with (first | (go_at_call 96; refine (pisParcel _ _).mono ?_; rintro e w2 ⟨rfl, rfl⟩) | (go_at_call 97; refine (pisParty _ _).mono ?_; rintro e w2 ⟨rfl, rfl⟩))
        go_ret2
        exact ⟨HF.out.2.2.2.2, .inr ⟨by rw [hc.out]; omega, by rw [hc.out]; rfl⟩⟩
      | true =>
        have hc : Hid (askCode l x y = 0) := by show _ = _; unfold askCode; rw [if_pos hck.out, hx, hy]; rfl
        go_wp2_with (first | (go_at_call 96; refine (pisParcel _ _).mono ?_; rintro e w2 ⟨rfl, rfl⟩) | (go_at_call 97; refine (pisParty _ _).mono ?_; rintro e w2 ⟨rfl, rfl⟩))
        go_ret2
        exact ⟨HF.out.2.2.2.2, .inl ⟨HF.out.1, hc.out, N, c, rfl, HF.out.2.1, HF.out.2.2.1, HF.out.2.2.2.1⟩⟩
  · have hc : askCode l x y = (check l).2 := by unfold askCode; rw [if_neg hne]
    have hne2 : ((check l).2 != 0) = true := by simp [hne]
    obtain ⟨i, hi⟩ : ∃ i, (check l).1 = i := ⟨_, rfl⟩
    obtain ⟨r, hr⟩ : ∃ r, (check l).2 = r := ⟨_, rfl⟩
    rw [hi, hr]
    rw [hr] at hc hne hne2
    replace hc := Lib.hid hc
    replace hne := Lib.hid hne
    replace hB1 := Lib.hid hB1
    clear hi hr hnb
    go_wp2
    go_ret2
    exact ⟨hB1.out, .inr ⟨by rw [hc.out]; exact hne.out, by rw [hc.out]; rfl⟩⟩

/-- a number, and why there is none -/
def numE (c : Int) (v : Int) : Int × Int := if c = 0 then (v, 0) else (0, c)

set_option maxRecDepth 100000 in
set_option maxHeartbeats 2000000 in
theorem pHas {l : List Post} {n cap : Nat} {ao : Option Addr} {B : Nat} {w : World} (h : LIn l n cap ao B w) (who what : Int) :
    Calls Tryz.prog 30 #[.slice ao n cap, .int .i64 who, .int .i64 what] w (RetII (numE (askCode l what who) (has l who what)) w) := by
  go_enter Tryz.func30, Tryz.ntmps30
  go_wp2_with (fail)
  go_at_call 73
  refine (pasked h what who).mono ?_
  rintro e w1 ⟨hB1, ⟨hbook, hc, N, c, rfl, hN, hI, hC⟩ | ⟨hne, rfl⟩⟩
  · have hr : Hid (numE (askCode l what who) (has l who what) = (gd c.has (what, who), 0)) := by show _ = _; unfold numE; rw [if_pos hc, hI.has]
    have hB := Lib.hid hB1
    have hl := hasLook hC what who 0
    have c5 := hC.c5
    clear hbook hc hN hI hC hB1
    replace hl : (Instr.lookup 78 (.map (some (N + 3))) (.agg #[.int .i64 what, .int .i64 who]) false).run Tryz.prog w1 = .ok (.int .i64 (gd c.has (what, who))) w1 := hl
    go_wp2
    go_ret2
    exact ⟨by rw [hr.out]; rfl, hB.out⟩
  · obtain ⟨r, hr0⟩ : ∃ r, askCode l what who = r := ⟨_, rfl⟩
    have hr : Hid (numE (askCode l what who) (has l who what) = (0, r)) := by show _ = _; rw [← hr0]; unfold numE; rw [if_neg hne]
    rw [hr0] at hne ⊢
    have hne2 : (r != 0) = true := by simp [hne]
    replace hB1 := Lib.hid hB1
    clear hr0 hne
    go_wp2
    go_ret2
    exact ⟨by rw [hr.out]; rfl, hB1.out⟩

set_option maxRecDepth 100000 in
set_option maxHeartbeats 2000000 in
theorem pHeldOf {l : List Post} {n cap : Nat} {ao : Option Addr} {B : Nat} {w : World} (h : LIn l n cap ao B w) (what : Int) :
    Calls Tryz.prog 34 #[.slice ao n cap, .int .i64 what] w (RetII (numE (askCode l what 0) (held l what)) w) := by
  go_enter Tryz.func34, Tryz.ntmps34
  go_wp2_with (fail)
  go_at_call 73
  refine (pasked h what 0).mono ?_
  rintro e w1 ⟨hB1, ⟨hbook, hc, N, c, rfl, hN, hI, hC⟩ | ⟨hne, rfl⟩⟩
  · have hr : Hid (numE (askCode l what 0) (held l what) = (gd c.held what, 0)) := by show _ = _; unfold numE; rw [if_pos hc, hI.held]
    have hB := Lib.hid hB1
    have hl := heldLook hC what 0
    have c5 := hC.c4
    clear hbook hc hN hI hC hB1
    replace hl : (Instr.lookup 77 (.map (some (N + 2))) (.int .i64 what) false).run Tryz.prog w1 = .ok (.int .i64 (gd c.held what)) w1 := hl
    go_wp2
    go_ret2
    exact ⟨by rw [hr.out]; rfl, hB.out⟩
  · obtain ⟨r, hr0⟩ : ∃ r, askCode l what 0 = r := ⟨_, rfl⟩
    have hr : Hid (numE (askCode l what 0) (held l what) = (0, r)) := by show _ = _; rw [← hr0]; unfold numE; rw [if_neg hne]
    rw [hr0] at hne ⊢
    have hne2 : (r != 0) = true := by simp [hne]
    replace hB1 := Lib.hid hB1
    clear hr0 hne
    go_wp2
    go_ret2
    exact ⟨by rw [hr.out]; rfl, hB1.out⟩

theorem below_set {b k : Nat} {w w' : World} {v : Value} (h : Below b w w') : Below b w (w'.setCell ⟨b, k, none⟩ v) := h.setCell (p := ⟨b, k, none⟩) (Nat.le_refl b) v
/-- the last payment; whether there is one; why it cannot be told -/
def LastPayRes (l : List Post) (who what : Int) (w : World) (e : Ending) (w' : World) : Prop :=
  Below w.heap.size w w' ∧ e = .returned (if askCode l what who = 0 then .tuple #[pval ((last l who what).getD zeroP), .bool (last l who what).isSome, .int .i64 0] else .tuple #[pval zeroP, .bool false, .int .i64 (askCode l what who)])

set_option maxRecDepth 100000 in
set_option maxHeartbeats 2000000 in
theorem pLastPay {l : List Post} {n cap : Nat} {ao : Option Addr} {B : Nat} {w : World} (h : LIn l n cap ao B w) (who what : Int) :
    Calls Tryz.prog 17 #[.slice ao n cap, .int .i64 who, .int .i64 what] w (LastPayRes l who what w) := by
  go_enter Tryz.func17, Tryz.ntmps17
  go_wp2_with (fail)
  go_at_call 73
  refine (pasked (h.alloc _) what who).mono ?_
  rintro e w1 ⟨hB1, ⟨hbook, hc, N, c, rfl, hN, hI, hC⟩ | ⟨hne, rfl⟩⟩
  · have hBw : Below w.heap.size w w1 := ((Below.refl _ _).alloc (Nat.le_refl _) _).trans (hB1.mono (by simp))
    have hlast : getM c.last (what, who) = last l who what := hI.last what who
    have hl := run_lookupM acctKey Tryz.underlying79 zeroPost hC.last (what, who) true
    rw [hlast] at hl
    obtain ⟨q, hq⟩ : ∃ q, (last l who what).getD zeroP = q := ⟨_, rfl⟩
    obtain ⟨is, his⟩ : ∃ is, (last l who what).isSome = is := ⟨_, rfl⟩
    have hl2 : (Instr.lookup 79 (.map (some (N + 4))) (.agg #[.int .i64 what, .int .i64 who]) true).run Tryz.prog w1 = .ok (.tuple #[pval q, .bool is]) w1 := by
      rw [show (Value.agg #[.int .i64 what, .int .i64 who]) = kv (what, who) from rfl, hl, ← hq, ← his]
      cases last l who what <;> rfl
    have hres : Hid ((if askCode l what who = 0 then Value.tuple #[pval ((last l who what).getD zeroP), .bool (last l who what).isSome, .int .i64 0] else .tuple #[pval zeroP, .bool false, .int .i64 (askCode l what who)]) = .tuple #[pval q, .bool is, .int .i64 0]) := by
      show _ = _
      rw [if_pos hc, hq, his]
    have hP : PBox w1 w.heap.size zeroP := (PBox.new w zeroP 36).below hB1 (by simp)
    have hz : ∀ i, w1.frozen? ⟨w.heap.size, i, none⟩ = false := fun i => (hB1.frozen (p := ⟨w.heap.size, i, none⟩) (by simp)).trans (by simp)
    have c6 := hC.c6
    obtain ⟨b, hb⟩ : ∃ b, w.heap.size = b := ⟨_, rfl⟩
    rw [hb] at hP hz hBw ⊢
    have hblt := hP.lt
    have q0 := hP.c0
    have q1 := hP.c1
    have q2 := hP.c2
    have q3 := hP.c3
    have q4 := hP.c4
    have q5 := hP.c5
    have q6 := hP.c6
    have q7 := hP.c7
    replace hBw := Lib.hid hBw
    replace hb := Lib.hid hb
    clear hbook hN hI hC hB1 hl hlast hq his hc hP
    go_wp2
    refine bodyPost_ret (v := .tuple #[pval q, .bool is, .int .i64 0]) (by simp [results, Tryz.results17, go_sem, hblt, q0, q1, q2, q3, q4, q5, q6, q7]) rfl ?_
    refine ⟨?_, by rw [hres.out]⟩
    rw [hb.out]
    refine Below.alloc ?_ (by simp; omega) _
    iterate 8 refine below_set ?_
    exact hBw.out
  · have hBw : Below w.heap.size w w1 := ((Below.refl _ _).alloc (Nat.le_refl _) _).trans (hB1.mono (by simp))
    obtain ⟨r, hr0⟩ : ∃ r, askCode l what who = r := ⟨_, rfl⟩
    have hres : Hid ((if askCode l what who = 0 then Value.tuple #[pval ((last l who what).getD zeroP), .bool (last l who what).isSome, .int .i64 0] else .tuple #[pval zeroP, .bool false, .int .i64 (askCode l what who)]) = .tuple #[pval zeroP, .bool false, .int .i64 r]) := by
      show _ = _
      rw [if_neg hne, hr0]
    rw [hr0] at hne ⊢
    have hne2 : (r != 0) = true := by simp [hne]
    have hP : PBox w1 w.heap.size zeroP := (PBox.new w zeroP 36).below hB1 (by simp)
    have hz : ∀ i, w1.frozen? ⟨w.heap.size, i, none⟩ = false := fun i => (hB1.frozen (p := ⟨w.heap.size, i, none⟩) (by simp)).trans (by simp)
    obtain ⟨b, hb⟩ : ∃ b, w.heap.size = b := ⟨_, rfl⟩
    rw [hb] at hP hz hBw ⊢
    have hblt := hP.lt
    have q0 := hP.c0
    have q1 := hP.c1
    have q2 := hP.c2
    have q3 := hP.c3
    have q4 := hP.c4
    have q5 := hP.c5
    have q6 := hP.c6
    have q7 := hP.c7
    replace hBw := Lib.hid hBw
    replace hb := Lib.hid hb
    clear hB1 hP hr0 hne
    go_wp2
    refine bodyPost_ret (v := .tuple #[pval zeroP, .bool false, .int .i64 r]) (by simp [results, Tryz.results17, go_sem, q0, q1, q2, q3, q4, q5, q6, q7, zeroP]) rfl ?_
    refine ⟨?_, by rw [hres.out]⟩
    rw [hb.out]
    iterate 8 refine below_set ?_
    exact hBw.out
end Go.Proofs.YtoijlikmigejbaaGreat
