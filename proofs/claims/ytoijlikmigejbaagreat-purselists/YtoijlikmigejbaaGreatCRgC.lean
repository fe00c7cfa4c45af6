/- Walks: the reference's put, parcels. -/
import Derived.Test.YtoijlikmigejbaaGreatCAppI
import Derived.Test.YtoijlikmigejbaaGreatCSgD
namespace Go.Proofs.YtoijlikmigejbaaGreat
open Go.RowKit Go.Proofs.YtoijlikmigejbaaGreat.Pu

abbrev IIn := SIn 1 icells
/-- a list of ints -/
def IRes (l : List Int) (w : World) (e : Ending) (w' : World) : Prop := Below w.heap.size w w' ∧ ∃ ao n cap, e = .returned (.slice ao n cap) ∧ IIn l n cap ao w'.heap.size w' ∧ ∀ ad, ao = some ad → ∃ b o, ad = ⟨b, o, none⟩
theorem own_had {w : World} {base e size n : Nat} {v : Value} {xs : List Value} (h : w.ownsRow base e size v n xs) : ∃ ao cap, v = .slice ao n cap ∧ n ≤ cap ∧ ∀ ad, ao = some ad → ∃ b o, ad = ⟨b, o, none⟩ := by
  obtain ⟨_, ⟨h1, h2⟩ | ⟨g, cap, cur, h1, _, _, h4, _⟩⟩ := h
  · subst h2; exact ⟨none, 0, h1, Nat.le_refl _, fun ad h => by cases h⟩
  · exact ⟨_, cap, h1, h4, fun ad h => by cases h; exact ⟨_, _, rfl⟩⟩
theorem drop_cons {a : List Int} {i : Nat} {x : Int} (h : a[i]? = some x) : a.drop i = x :: a.drop (i + 1) := by
  obtain ⟨hi, rfl⟩ := List.getElem?_eq_some_iff.1 h
  exact List.drop_eq_getElem_cons hi
theorem SlAt.takeI {B : Nat} {w : World} {ao : Option Addr} {a : List Int} (h : SlAt 1 icells B w ao a) (j : Nat) : SlAt 1 icells B w ao (a.take j) := by
  rcases h with h | ⟨b, o, h1, h2, h3⟩
  · subst h; exact .inl (by simp)
  · exact .inr ⟨b, o, h1, h2, fun i x hx => h3 i x (by rw [List.getElem?_take] at hx; split at hx <;> simp_all)⟩
theorem SlAt.dropI {B : Nat} {w : World} {b o : Nat} {a : List Int} (h : SlAt 1 icells B w (some ⟨b, o, none⟩) a) (j : Nat) : SlAt 1 icells B w (some ⟨b, o + j, none⟩) (a.drop j) := by
  rcases h with h | ⟨b', o', h1, h2, h3⟩
  · subst h; exact .inl (by simp)
  · cases h1
    refine .inr ⟨b, o + j, rfl, h2, fun i x hx k u hu => ?_⟩
    rw [List.getElem?_drop] at hx
    have := h3 (j + i) x hx k u hu
    rw [show o + j + i * 1 + k = o + (j + i) * 1 + k by omega]; exact this

theorem one_int (w : World) (v : Int) : SlAt 1 icells (w.alloc (.cells #[.int .i64 v] 3)).heap.size (w.alloc (.cells #[.int .i64 v] 3)) (some ⟨w.heap.size, 0, none⟩) [v] :=
  Own.slAt icells_len (by omega) (World.ownsRow_lit w #[.int .i64 v] 1 (Nat.le_refl _) (by unfold maxLen; omega) rfl)

set_option maxRecDepth 100000 in
set_option maxHeartbeats 4000000 in
theorem rput {a : List Int} {n cap : Nat} {ao : Option Addr} {B : Nat} {w : World} (h : IIn a n cap ao B w) (ha : Hid (a.Pairwise (· < ·))) (had : Hid (∀ ad, ao = some ad → ∃ b o, ad = ⟨b, o, none⟩)) (hm : n ≤ 1000) (v : Int) :
    Calls Tryz.prog 110 #[.slice ao n cap, .int .i64 v] w (IRes (insA v a) w) := by
  have hB := h.hB
  have hcap := h.hcap
  have Hn := Lib.hid h.hn
  cases ao with
  | none =>
    obtain rfl : a = [] := by
      rcases h.hs with e | ⟨b, o, e, _⟩
      · exact e
      · cases e
    obtain rfl : n = 0 := h.hn
    have h1 := h
    obtain ⟨wr, hwr⟩ : ∃ wr, wr = w := ⟨_, rfl⟩
    subst hwr
    go_enter Tryz.func110, Tryz.ntmps110
    go_wp2
    go_loop [5] (fun i => i = .int .i64 0) (fun i => 0)
    case atStart => rfl
    case round =>
    subst hrel
    have a0 := ([] : List Int)
    have hE1 := Lib.hid (show Below wr.heap.size wr (wr.alloc (.cells #[] 3)) from (Below.refl _ _).alloc (Nat.le_refl _) _)
    have e1 := Lib.hid (h1.after hE1.out)
    have hws := h1.hB
    have hl1 : Hid (0 = ([] : List Int).length) := by show 0 = _; rfl
    go_wp2_with (first
      | (at_builtin; refine list_append_kd kdInt rfl _ _ _ ([] : List Int) 0 _ _ rfl rfl rfl wr.heap.size 0 [] (own_empty wr _ _) B hl1.out e1.out.hs had.out (by omega) (by simp) ?_
         intro v1 w1 hown1 hgr1
         have hG1 := Lib.hid (hE1.out.grown hgr1 (by simp) (fun k hk => by cases hk; exact Nat.le_refl _))
         have hE2 := Lib.hid (show Below w1.heap.size w1 (w1.alloc (.cells #[.int .i64 v] 3)) from (Below.refl _ _).alloc (Nat.le_refl _) _)
         have hlit := Lib.hid (one_int w1 v)
         have ho1 := Lib.hid (own_after hown1 hE2.out)
         have hs1 := hG1.out.size
         clear hown1 hgr1)
      | (at_builtin; refine list_append_kd kdInt rfl _ _ _ [v] 1 1 _ rfl rfl rfl wr.heap.size _ _ ho1.out _ rfl hlit.out (fun ad h => by cases h; exact ⟨_, _, rfl⟩) (by omega) (by simp; omega) ?_
         intro v2 w2 hown2 hgr2
         have hG2 := Lib.hid ((hG1.out.trans (hE2.out.mono hs1)).grown hgr2 (by simp; omega) (own_far ho1.out))
         have e2 := Lib.hid (h1.after hG2.out)
         have hs2 := hG2.out.size
         replace hown2 := Lib.hid hown2
         clear hgr2)
      | (at_builtin; refine list_append_kd kdInt rfl _ _ v2 ([] : List Int) 0 cap _ rfl rfl rfl wr.heap.size _ _ hown2.out B rfl (.inl rfl) (fun ad h => by cases h) (by omega) (by omega) ?_
         intro v3 w3 hown3 hgr3
         have hG3 := Lib.hid (hG2.out.grown hgr3 hs2 (own_far hown2.out))
         obtain ⟨a3, c3, rfl, hc3, had3⟩ := own_had hown3
         clear hgr3))
    go_ret
    exact ⟨hG3.out, a3, _, c3, rfl, SIn.own icells_len (by omega) (show Own 3 1 icells wr.heap.size w3 a3 (0 + 0 + 1 + 0) c3 (insA v []) from hown3) rfl (by omega), had3⟩
  | some ad =>
  obtain ⟨b, o, rfl⟩ := had.out ad rfl
  go_enter Tryz.func110, Tryz.ntmps110
  go_wp2
  go_loopw [5] (fun i wr => ∃ j : Nat, j ≤ n ∧ i = .int .i64 j ∧ Below w.heap.size w wr ∧ Hid (∀ x ∈ a.drop j, v < x)) (fun i _ => (intOf i).toNat)
  case atStart => exact ⟨n, Nat.le_refl _, rfl, Below.refl _ _, fun x hx => by rw [Hn.out, List.drop_length] at hx; simp at hx⟩
  case round =>
    obtain ⟨j, hj, rfl, hb, hgt⟩ := hrel
    have h1 := h.below (hb.mono hB)
    replace hb := Lib.hid hb
    cases j with
    | zero =>
      have hE1 := Lib.hid (show Below wr.heap.size wr (wr.alloc (.cells #[] 3)) from (Below.refl _ _).alloc (Nat.le_refl _) _)
      have e1 := Lib.hid (h1.after hE1.out)
      have hws := h1.hB
      have hl1 : Hid (0 = (a.take 0).length) := by show 0 = _; rw [List.length_take, ← Hn.out]; omega
      go_wp2_with (first
        | (at_builtin; refine list_append_kd kdInt rfl _ _ _ (a.take 0) 0 _ _ rfl rfl rfl wr.heap.size 0 [] (own_empty wr _ _) B hl1.out (e1.out.hs.takeI 0) had.out (by omega) (by simp) ?_
           intro v1 w1 hown1 hgr1
           have hG1 := Lib.hid (hE1.out.grown hgr1 (by simp) (fun k hk => by cases hk; exact Nat.le_refl _))
           have hE2 := Lib.hid (show Below w1.heap.size w1 (w1.alloc (.cells #[.int .i64 v] 3)) from (Below.refl _ _).alloc (Nat.le_refl _) _)
           have hlit := Lib.hid (one_int w1 v)
           have ho1 := Lib.hid (own_after hown1 hE2.out)
           have hs1 := hG1.out.size
           clear hown1 hgr1)
        | (at_builtin; refine list_append_kd kdInt rfl _ _ _ [v] 1 1 _ rfl rfl rfl wr.heap.size _ _ ho1.out _ rfl hlit.out (fun ad h => by cases h; exact ⟨_, _, rfl⟩) (by omega) (by simp; omega) ?_
           intro v2 w2 hown2 hgr2
           have hG2 := Lib.hid ((hG1.out.trans (hE2.out.mono hs1)).grown hgr2 (by simp; omega) (own_far ho1.out))
           have e2 := Lib.hid (h1.after hG2.out)
           have hs2 := hG2.out.size
           replace hown2 := Lib.hid hown2
           clear hgr2)
        | (at_builtin; refine list_append_kd kdInt rfl _ _ v2 a n cap _ rfl rfl rfl wr.heap.size _ _ hown2.out B Hn.out e2.out.hs had.out (by omega) (by omega) ?_
           intro v3 w3 hown3 hgr3
           have hG3 := Lib.hid (hG2.out.grown hgr3 hs2 (own_far hown2.out))
           obtain ⟨a3, c3, rfl, hc3, had3⟩ := own_had hown3
           clear hgr3))
      go_ret
      have hv : insA v a = a.take 0 ++ v :: a.drop 0 := insA_at ha.out 0 (fun x hx => by simp at hx) hgt.out
      exact ⟨hb.out.trans (hG3.out.mono (by have := hb.out.size; omega)), a3, _, c3, rfl, SIn.own icells_len (by omega) (show Own 3 1 icells wr.heap.size w3 a3 (0 + 0 + 1 + n) c3 (insA v a) from by rw [hv]; show World.ownsRow _ _ _ _ _ _ _; simpa [flat] using hown3) (by rw [hv]; simp; have := Hn.out; omega) (by omega), had3⟩
    | succ i =>
      obtain ⟨x, hx⟩ := getq (l := a) (j := i) (by rw [← Hn.out]; omega)
      obtain ⟨b', o', e1, _, c0⟩ := (h1.hs).int hx
      cases e1
      replace hx := Lib.hid hx
      by_cases hvx : v < x
      case pos =>
        have hgt1 : Hid (∀ x ∈ a.drop i, v < x) := by
          show ∀ x ∈ a.drop i, v < x
          rw [drop_cons hx.out]
          intro y hy
          rcases List.mem_cons.1 hy with rfl | hy
          · exact hvx
          · exact hgt.out y hy
        have g1 : decide (v < x) = true := by simpa using hvx
        go_wp2
        go_roundw
        case rel => exact ⟨i, by omega, by go_num, hb.out, hgt1.out⟩
        case measure => simp [intOf]
      case neg =>
      have g1 : decide (v < x) = false := by simp; omega
      by_cases hxe : x = v
      case pos =>
        have g2 : (x == v) = true := by simpa using hxe
        have hin : Hid (insA v a = a) := insA_in ha.out (by rw [← hxe]; exact List.mem_of_getElem? hx.out)
        replace hxe := Lib.hid hxe
        go_wp2
        go_ret
        exact ⟨hb.out, _, _, _, rfl, by rw [hin.out]; exact h1.at h1.hB (Nat.le_refl _), had.out⟩
      case neg =>
        have g2 : (x == v) = false := by simpa using hxe
        have hlt : Hid (∀ y ∈ a.take (i + 1), y < v) := by
          show ∀ y ∈ a.take (i + 1), y < v
          intro y hy
          have hp := ha.out
          rw [← List.take_append_drop i a, List.pairwise_append, drop_cons hx.out] at hp
          rw [take_snoc hx.out] at hy
          rcases List.mem_append.1 hy with h | h
          · have := hp.2.2 y h x (List.mem_cons_self ..); omega
          · rw [List.mem_singleton.1 h]; omega
        by_cases hci : cap = i + 1
        case pos =>
          subst hci
          obtain rfl : n = i + 1 := by omega
          have hE1 := Lib.hid (show Below wr.heap.size wr (wr.alloc (.cells #[] 3)) from (Below.refl _ _).alloc (Nat.le_refl _) _)
          have e1 := Lib.hid (h1.after hE1.out)
          have hws := h1.hB
          have hl1 : Hid ((i + 1) = (a.take (i + 1)).length) := by show (i + 1) = _; rw [List.length_take, ← Hn.out]; omega
          go_wp2_with (first
            | (at_builtin; refine list_append_kd kdInt rfl _ _ _ (a.take (i + 1)) (i + 1) _ _ rfl rfl rfl wr.heap.size 0 [] (own_empty wr _ _) B hl1.out (e1.out.hs.takeI (i + 1)) had.out (by omega) (by simp) ?_
               intro v1 w1 hown1 hgr1
               have hG1 := Lib.hid (hE1.out.grown hgr1 (by simp) (fun k hk => by cases hk; exact Nat.le_refl _))
               have hE2 := Lib.hid (show Below w1.heap.size w1 (w1.alloc (.cells #[.int .i64 v] 3)) from (Below.refl _ _).alloc (Nat.le_refl _) _)
               have hlit := Lib.hid (one_int w1 v)
               have ho1 := Lib.hid (own_after hown1 hE2.out)
               have hs1 := hG1.out.size
               clear hown1 hgr1)
            | (at_builtin; refine list_append_kd kdInt rfl _ _ _ [v] 1 1 _ rfl rfl rfl wr.heap.size _ _ ho1.out _ rfl hlit.out (fun ad h => by cases h; exact ⟨_, _, rfl⟩) (by omega) (by simp; omega) ?_
               intro v2 w2 hown2 hgr2
               have hG2 := Lib.hid ((hG1.out.trans (hE2.out.mono hs1)).grown hgr2 (by simp; omega) (own_far ho1.out))
               have e2 := Lib.hid (h1.after hG2.out)
               have hs2 := hG2.out.size
               replace hown2 := Lib.hid hown2
               clear hgr2)
            | (at_builtin; refine list_append_kd kdInt rfl _ _ v2 ([] : List Int) 0 0 _ rfl rfl rfl wr.heap.size _ _ hown2.out B rfl (.inl rfl) had.out (by omega) (by omega) ?_
               intro v3 w3 hown3 hgr3
               have hG3 := Lib.hid (hG2.out.grown hgr3 hs2 (own_far hown2.out))
               obtain ⟨a3, c3, rfl, hc3, had3⟩ := own_had hown3
               clear hgr3))
          go_ret
          have hv : insA v a = a.take (i + 1) ++ v :: a.drop (i + 1) := insA_at ha.out (i + 1) hlt.out hgt.out
          exact ⟨hb.out.trans (hG3.out.mono (by have := hb.out.size; omega)), a3, _, c3, rfl, SIn.own icells_len (by omega) (show Own 3 1 icells wr.heap.size w3 a3 (i + 1 + 1 + 0) c3 (insA v a) from by rw [hv]; show World.ownsRow _ _ _ _ _ _ _; rw [show a.drop (i + 1) = [] from List.drop_eq_nil_of_le (by rw [← Hn.out]; omega)]; simpa [flat] using hown3) (by rw [hv]; simp; have := Hn.out; omega) (by omega), had3⟩
        case neg =>
          have hE1 := Lib.hid (show Below wr.heap.size wr (wr.alloc (.cells #[] 3)) from (Below.refl _ _).alloc (Nat.le_refl _) _)
          have e1 := Lib.hid (h1.after hE1.out)
          have hws := h1.hB
          have hl1 : Hid ((i + 1) = (a.take (i + 1)).length) := by show (i + 1) = _; rw [List.length_take, ← Hn.out]; omega
          go_wp2_with (first
            | (at_builtin; refine list_append_kd kdInt rfl _ _ _ (a.take (i + 1)) (i + 1) _ _ rfl rfl rfl wr.heap.size 0 [] (own_empty wr _ _) B hl1.out (e1.out.hs.takeI (i + 1)) had.out (by omega) (by simp) ?_
               intro v1 w1 hown1 hgr1
               have hG1 := Lib.hid (hE1.out.grown hgr1 (by simp) (fun k hk => by cases hk; exact Nat.le_refl _))
               have hE2 := Lib.hid (show Below w1.heap.size w1 (w1.alloc (.cells #[.int .i64 v] 3)) from (Below.refl _ _).alloc (Nat.le_refl _) _)
               have hlit := Lib.hid (one_int w1 v)
               have ho1 := Lib.hid (own_after hown1 hE2.out)
               have hs1 := hG1.out.size
               clear hown1 hgr1)
            | (at_builtin; refine list_append_kd kdInt rfl _ _ _ [v] 1 1 _ rfl rfl rfl wr.heap.size _ _ ho1.out _ rfl hlit.out (fun ad h => by cases h; exact ⟨_, _, rfl⟩) (by omega) (by simp; omega) ?_
               intro v2 w2 hown2 hgr2
               have hG2 := Lib.hid ((hG1.out.trans (hE2.out.mono hs1)).grown hgr2 (by simp; omega) (own_far ho1.out))
               have e2 := Lib.hid (h1.after hG2.out)
               have hs2 := hG2.out.size
               replace hown2 := Lib.hid hown2
               clear hgr2)
            | (at_builtin; refine list_append_kd kdInt rfl _ _ v2 (a.drop (i + 1)) (n - (i + 1)) (cap - (i + 1)) _ rfl rfl rfl wr.heap.size _ _ hown2.out B (by rw [List.length_drop, ← Hn.out]) (SlAt.dropI e2.out.hs (i + 1)) (fun ad h => by cases h; exact ⟨_, _, rfl⟩) (by omega) (by omega) ?_
               intro v3 w3 hown3 hgr3
               have hG3 := Lib.hid (hG2.out.grown hgr3 hs2 (own_far hown2.out))
               obtain ⟨a3, c3, rfl, hc3, had3⟩ := own_had hown3
               clear hgr3))
          go_ret
          have hv : insA v a = a.take (i + 1) ++ v :: a.drop (i + 1) := insA_at ha.out (i + 1) hlt.out hgt.out
          exact ⟨hb.out.trans (hG3.out.mono (by have := hb.out.size; omega)), a3, _, c3, rfl, SIn.own icells_len (by omega) (show Own 3 1 icells wr.heap.size w3 a3 (i + 1 + 1 + (n - (i + 1))) c3 (insA v a) from by rw [hv]; show World.ownsRow _ _ _ _ _ _ _; simpa [flat] using hown3) (by rw [hv]; simp; have := Hn.out; omega) (by omega), had3⟩
end Go.Proofs.YtoijlikmigejbaaGreat
