/- Walk: the law PurseParts. -/
import Derived.Test.YtoijlikmigejbaaGreatCPrA
import Derived.Test.YtoijlikmigejbaaGreatCRhC
namespace Go.Proofs.YtoijlikmigejbaaGreat
open Go.RowKit Go.Proofs.YtoijlikmigejbaaGreat.Pu

set_option maxRecDepth 100000 in
set_option maxHeartbeats 8000000 in
theorem wParts (l : List Post) (n cap : Nat) (ao : Option Addr) (hour what who : Int) (w : World) (hn : n = l.length) (hL : n ≤ 100000 → LIn l n cap ao w.heap.size w) :
    Calls Tryz.prog 5 #[.slice ao n cap, .int .i64 hour, .int .i64 what, .int .i64 who] w (LawRes w) := by
  replace hn := Lib.hid hn
  replace hL := Lib.hid hL
  by_cases hlt : 24 < n
  case pos =>
    clear hL
    go_enter Tryz.func5, Tryz.ntmps5
    go_wp2_with (go_at_call 11; refine (ppurses _).mono ?_; rintro e w2 ⟨rfl, hB2⟩)
    go_ret
    exact ⟨rfl, hB2⟩
  case neg =>
  have hl := Lib.hid (hL.out (by omega))
  clear hL
  obtain ⟨s1, hs1⟩ : ∃ x, Hid ((soldQ l what).1 = x) := ⟨_, rfl⟩
  obtain ⟨s2, hs2⟩ : ∃ x, Hid ((soldQ l what).2 = x) := ⟨_, rfl⟩
  obtain ⟨h1, hh1⟩ : ∃ x, Hid ((numE (askCode l what who) (Pu.has l who what)).1 = x) := ⟨_, rfl⟩
  obtain ⟨h2, hh2⟩ : ∃ x, Hid ((numE (askCode l what who) (Pu.has l who what)).2 = x) := ⟨_, rfl⟩
  obtain ⟨t1, ht1⟩ : ∃ x, Hid ((numE (check l).2 (total l)).1 = x) := ⟨_, rfl⟩
  obtain ⟨t2, ht2⟩ : ∃ x, Hid ((numE (check l).2 (total l)).2 = x) := ⟨_, rfl⟩
  obtain ⟨k1, hk1⟩ : ∃ x, Hid ((numE (askCode l what 0) (Pu.held l what)).1 = x) := ⟨_, rfl⟩
  obtain ⟨k2, hk2⟩ : ∃ x, Hid ((numE (askCode l what 0) (Pu.held l what)).2 = x) := ⟨_, rfl⟩
  obtain ⟨U, hU⟩ : ∃ U, Hid (someL (uptoP hour) l = U) := ⟨_, rfl⟩
  obtain ⟨V, hV⟩ : ∃ V, Hid (someL (ofParP what) l = V) := ⟨_, rfl⟩
  have hUn : U.length ≤ 24 := by rw [← hU.out]; have := someL_len (uptoP hour) l; have := hn.out; omega
  have hVn : V.length ≤ 24 := by rw [← hV.out]; have := someL_len (ofParP what) l; have := hn.out; omega
  have hUm : U.length ≤ 100000 := by omega
  have hVm : V.length ≤ 100000 := by omega
  go_enter Tryz.func5, Tryz.ntmps5
  go_wp2_with (first
    | (go_at_call 28; refine (pSold hl.out what).mono ?_; rintro e w1 ⟨rfl, hB1⟩; rw [hs1.out, hs2.out]
       have hl1 := Lib.hid (hl.out.after hB1)
       replace hB1 := Lib.hid hB1)
    | (go_at_call 29; refine (rSold hl1.out what).mono ?_; rintro e w2 ⟨rfl, hB⟩; rw [hs1.out, hs2.out]
       have hl2 := Lib.hid (hl1.out.after hB)
       have hB2 := Lib.hid (hB1.out.trans (hB.mono hB1.out.size))
       clear hB)
    | (go_at_call 30; refine (pHas hl2.out who what).mono ?_; rintro e w3 ⟨rfl, hB⟩; rw [hh1.out, hh2.out]
       have hl3 := Lib.hid (hl2.out.after hB)
       have hB3 := Lib.hid (hB2.out.trans (hB.mono hB2.out.size))
       clear hB)
    | (go_at_call 31; refine (rHas hl3.out who what).mono ?_; rintro e w4 ⟨rfl, hB⟩; rw [hh1.out, hh2.out]
       have hl4 := Lib.hid (hl3.out.after hB)
       have hB4 := Lib.hid (hB3.out.trans (hB.mono hB3.out.size))
       clear hB)
    | (go_at_call 32; refine (pHeld hl4.out).mono ?_; rintro e w5 ⟨rfl, hB⟩; rw [ht1.out, ht2.out]
       have hl5 := Lib.hid (hl4.out.after hB)
       have hB5 := Lib.hid (hB4.out.trans (hB.mono hB4.out.size))
       clear hB)
    | (go_at_call 33; refine (rHeld hl5.out (by omega)).mono ?_; rintro e w6 ⟨rfl, hB⟩; rw [ht1.out, ht2.out]
       have hl6 := Lib.hid (hl5.out.after hB)
       have hB6 := Lib.hid (hB5.out.trans (hB.mono hB5.out.size))
       clear hB)
    | (go_at_call 34; refine (pHeldOf hl6.out what).mono ?_; rintro e w7 ⟨rfl, hB⟩; rw [hk1.out, hk2.out]
       have hl7 := Lib.hid (hl6.out.after hB)
       have hB7 := Lib.hid (hB6.out.trans (hB.mono hB6.out.size))
       clear hB)
    | (go_at_call 35; refine (rHeldOf hl7.out what).mono ?_; rintro e w8 ⟨rfl, hB⟩; rw [hk1.out, hk2.out]
       have hl8 := Lib.hid (hl7.out.after hB)
       have hB8 := Lib.hid (hB7.out.trans (hB.mono hB7.out.size))
       clear hB)
    | (go_at_call 11; refine (ppurses _).mono ?_; rintro e w9 ⟨rfl, hB⟩
       have hl9 := Lib.hid (hl8.out.after hB)
       have hB9 := Lib.hid (hB8.out.trans (hB.mono hB8.out.size))
       clear hB)
    | (go_at_call 36; refine (pUpto hl9.out hour).mono ?_; rintro e w10 ⟨hB, a10, c10, rfl, hown⟩
       rw [hU.out] at hown ⊢
       have hl10 := Lib.hid (hl9.out.after hB)
       have hB10 := Lib.hid (hB9.out.trans (hB.mono hB9.out.size))
       have ho10 := Lib.hid hown
       clear hB hown)
    | (go_at_call 37; refine (rUpto hl10.out hour).mono ?_; rintro e w11 ⟨hB, a11, c11, rfl, hown⟩
       rw [hU.out] at hown ⊢
       have hl11 := Lib.hid (hl10.out.after hB)
       have hB11 := Lib.hid (hB10.out.trans (hB.mono hB10.out.size))
       have hS1 := Lib.hid (Own.slAt pcells_len (by omega) (own_after ho10.out hB))
       have hS2 := Lib.hid (Own.slAt pcells_len (by omega) hown)
       clear hB hown)
    | (go_at_call 14; (with_reducible refine (rSamePostings U U U.length c10 U.length c11 a10 a11 w11.heap.size w11 (Lib.hid rfl) (Lib.hid rfl) hUm hUm hS1.out hS2.out (Nat.le_refl _) (Lib.hid rfl)).mono ?_); rintro e w12 ⟨rfl, hB⟩
       have hl12 := Lib.hid (hl11.out.after hB)
       have hB12 := Lib.hid (hB11.out.trans (hB.mono hB11.out.size))
       clear hB)
    | (go_at_call 38; refine (pOfParcel hl12.out what).mono ?_; rintro e w13 ⟨hB, a13, c13, rfl, hown⟩
       rw [hV.out] at hown ⊢
       have hl13 := Lib.hid (hl12.out.after hB)
       have hB13 := Lib.hid (hB12.out.trans (hB.mono hB12.out.size))
       have ho13 := Lib.hid hown
       clear hB hown)
    | (go_at_call 39; refine (rOfParcel hl13.out what).mono ?_; rintro e w14 ⟨hB, a14, c14, rfl, hown⟩
       rw [hV.out] at hown ⊢
       have hB14 := Lib.hid (hB13.out.trans (hB.mono hB13.out.size))
       have hS3 := Lib.hid (Own.slAt pcells_len (by omega) (own_after ho13.out hB))
       have hS4 := Lib.hid (Own.slAt pcells_len (by omega) hown)
       clear hB hown)
    | (go_at_call 14; (with_reducible refine (rSamePostings V V V.length c13 V.length c14 a13 a14 w14.heap.size w14 (Lib.hid rfl) (Lib.hid rfl) hVm hVm hS3.out hS4.out (Nat.le_refl _) (Lib.hid rfl)).mono ?_); rintro e w15 ⟨rfl, hB⟩
       have hB15 := Lib.hid (hB14.out.trans (hB.mono hB14.out.size))
       clear hB))
  go_ret
  exact ⟨rfl, hB15.out⟩
end Go.Proofs.YtoijlikmigejbaaGreat
