/- Walk: the law PurseLists. -/
import Derived.Test.YtoijlikmigejbaaGreatCPrB
import Derived.Test.YtoijlikmigejbaaGreatCRhE
import Derived.Test.YtoijlikmigejbaaGreatCBalA
namespace Go.Proofs.YtoijlikmigejbaaGreat
open Go.RowKit Go.Proofs.YtoijlikmigejbaaGreat.Pu

theorem last_tuple (ac : Int) (q : Post) (is : Bool) : (if ac = 0 then Value.tuple #[pval q, .bool is, .int .i64 0] else .tuple #[pval zeroP, .bool false, .int .i64 ac]) = .tuple #[pval (if ac = 0 then q else zeroP), .bool (if ac = 0 then is else false), .int .i64 ac] := by
  by_cases h : ac = 0
  · rw [if_pos h, if_pos h, if_pos h, h]
  · rw [if_neg h, if_neg h, if_neg h]
theorem reas_len (l : List Post) (who what : Int) : (reasQ l who what).length ≤ l.length := by
  unfold reasQ
  split
  · unfold reasL; rw [List.length_map]; exact List.length_filter_le _ _
  · exact Nat.zero_le _
theorem bals_len (l : List Post) : (balL l).length ≤ 41 := by
  unfold balL
  split
  · exact balOf_len l 41
  · exact Nat.zero_le _
theorem holds_len (l : List Post) (x : Int) : (holdQ l x).length ≤ 41 := by
  unfold holdQ
  split
  · unfold holdL
    have h := List.length_filterMap_le (holdOf l x) (List.range 41)
    rw [List.length_range] at h; exact h
  · exact Nat.zero_le _

set_option maxRecDepth 100000 in
set_option maxHeartbeats 8000000 in
theorem wLists (l : List Post) (n cap : Nat) (ao : Option Addr) (what who : Int) (w : World) (hn : n = l.length) (hL : n ≤ 100000 → LIn l n cap ao w.heap.size w) :
    Calls Tryz.prog 4 #[.slice ao n cap, .int .i64 what, .int .i64 who] w (LawRes w) := by
  replace hn := Lib.hid hn
  replace hL := Lib.hid hL
  by_cases hlt : 24 < n
  case pos =>
    clear hL
    go_enter Tryz.func4, Tryz.ntmps4
    go_wp2_with (go_at_call 11; refine (ppurses _).mono ?_; rintro e w2 ⟨rfl, hB2⟩)
    go_ret
    exact ⟨rfl, hB2⟩
  case neg =>
  have hl := Lib.hid (hL.out (by omega))
  clear hL
  obtain ⟨R, hR⟩ : ∃ x, Hid (reasQ l who what = x) := ⟨_, rfl⟩
  obtain ⟨ac, hac⟩ : ∃ x, Hid (askCode l what who = x) := ⟨_, rfl⟩
  obtain ⟨q, hq⟩ : ∃ x, Hid ((if askCode l what who = 0 then (Pu.last l who what).getD zeroP else zeroP) = x) := ⟨_, rfl⟩
  obtain ⟨is, his⟩ : ∃ x, Hid ((if askCode l what who = 0 then (Pu.last l who what).isSome else false) = x) := ⟨_, rfl⟩
  obtain ⟨T, hT⟩ : ∃ x, Hid (balL l = x) := ⟨_, rfl⟩
  obtain ⟨P, hP⟩ : ∃ x, Hid (parcelsQ l = x) := ⟨_, rfl⟩
  obtain ⟨H, hH⟩ : ∃ x, Hid (holdQ l what = x) := ⟨_, rfl⟩
  have hRn : R.length ≤ 100000 := by rw [← hR.out]; have := reas_len l who what; have := hn.out; omega
  have hTn : T.length ≤ 100000 := by rw [← hT.out]; have := bals_len l; omega
  have hHn : H.length ≤ 100000 := by rw [← hH.out]; have := holds_len l what; omega
  go_enter Tryz.func4, Tryz.ntmps4
  go_wp2_with (fail)
  go_at_call 15
  refine (pReasons hl.out who what).mono ?_
  rintro e w1 ⟨hB, a1, c1, rfl, hown⟩
  rw [hR.out] at hown ⊢
  rw [hac.out]
  have hl1 := Lib.hid (hl.out.after hB)
  have hB1 := Lib.hid hB
  have ho1 := Lib.hid hown
  clear hB hown hl
  go_wp2_with (fail)
  go_at_call 16
  refine (rReasons hl1.out who what).mono ?_
  rintro e w2 ⟨hB, a2, c2, rfl, hown⟩
  rw [hR.out] at hown ⊢
  rw [hac.out]
  have hl2 := Lib.hid (hl1.out.after hB)
  have hB2 := Lib.hid (hB1.out.trans (hB.mono hB1.out.size))
  have s1 := Lib.hid (Own.slAt icells_len (by omega) (own_after ho1.out hB))
  have s2 := Lib.hid (Own.slAt icells_len (by omega) hown)
  clear hB hown hl1 hB1 ho1
  go_wp2_with (fail)
  go_at_call 17
  refine (pLastPay hl2.out who what).mono ?_
  rintro e w3 ⟨hB, rfl⟩
  rw [last_tuple, hq.out, his.out, hac.out]
  have hl3 := Lib.hid ((hl2.out.after hB).alloc (pobj q))
  have hX3 := Lib.hid (PBox.new w3 q 36)
  have hA3 : Below w3.heap.size w3 (w3.alloc (pobj q)) := (Below.refl _ _).alloc (Nat.le_refl _) _
  have hB3 := Lib.hid (hB2.out.trans ((hB.trans (hA3.mono hB.size)).mono hB2.out.size))
  have s1' := Lib.hid (SlAt.mono (s1.out.below (hB.trans (hA3.mono hB.size))) (Nat.le_trans hB.size hA3.size))
  have s2' := Lib.hid (SlAt.mono (s2.out.below (hB.trans (hA3.mono hB.size))) (Nat.le_trans hB.size hA3.size))
  clear hB hl2 hB2 s1 s2 hA3
  go_wp2_with (fail)
  go_at_call 18
  refine (rLastPay hl3.out who what).mono ?_
  rintro e w4 ⟨hB, rfl⟩
  rw [last_tuple, hq.out, his.out, hac.out]
  obtain ⟨m3, hm3⟩ : ∃ m3, w3.heap.size = m3 := ⟨_, rfl⟩
  obtain ⟨m4, hm4⟩ : ∃ m4, w4.heap.size = m4 := ⟨_, rfl⟩
  have hA4 : Below w4.heap.size w4 (w4.alloc (pobj q)) := (Below.refl _ _).alloc (Nat.le_refl _) _
  have hBA := hB.trans (hA4.mono hB.size)
  have hl4 := Lib.hid (hl3.out.after hBA)
  have hX4 := Lib.hid (PBox.new w4 q 36)
  have hY4 := Lib.hid (hX3.out.below hBA (by simp))
  have hB4 := Lib.hid (hB3.out.trans (hBA.mono hB3.out.size))
  have t1 := Lib.hid (SlAt.mono (s1'.out.below hBA) hBA.size)
  have t2 := Lib.hid (SlAt.mono (s2'.out.below hBA) hBA.size)
  rw [hm3] at hY4 ⊢
  rw [hm4] at hX4
  clear hBA hA4 hB hl3 hX3 hB3 s1' s2' hm3
  go_wp2_with (fail)
  go_at_call 19
  refine (rSameInts R R R.length c1 R.length c2 a1 a2 (w4.alloc (pobj q)).heap.size _ (Lib.hid rfl) (Lib.hid rfl) hRn hRn t1.out t2.out (Nat.le_refl _) (Lib.hid rfl)).mono ?_
  rintro e w5 ⟨rfl, hB⟩
  have hl5 := Lib.hid (hl4.out.after hB)
  have hB5 := Lib.hid (hB4.out.trans (hB.mono hB4.out.size))
  have x4 := hX4.out.below hB hX4.out.lt
  have y4 := hY4.out.below hB hY4.out.lt
  have p0 := x4.c0
  have p1 := x4.c1
  have p2 := x4.c2
  have p3 := x4.c3
  have p4 := x4.c4
  have p5 := x4.c5
  have p6 := x4.c6
  have p7 := x4.c7
  have q0 := y4.c0
  have q1 := y4.c1
  have q2 := y4.c2
  have q3 := y4.c3
  have q4 := y4.c4
  have q5 := y4.c5
  have q6 := y4.c6
  have q7 := y4.c7
  clear hB hl4 hX4 hY4 hB4 t1 t2 x4 y4
  go_wp2_with (go_at_call 11; refine (ppurses _).mono ?_; rintro e w6 ⟨rfl, hB⟩; have hl6 := Lib.hid (hl5.out.after hB); have hB6 := Lib.hid (hB5.out.trans (hB.mono hB5.out.size)); clear hB hl5 hB5 p0 p1 p2 p3 p4 p5 p6 p7 q0 q1 q2 q3 q4 q5 q6 q7)
  go_wp2_with (fail)
  go_at_call 21
  refine (pBalances hl6.out).mono ?_
  rintro e w7 ⟨hB, a7, n7, c7, rfl, hI⟩
  rw [hT.out] at hI
  have hl7 := Lib.hid (hl6.out.after hB)
  have hB7 := Lib.hid (hB6.out.trans (hB.mono hB6.out.size))
  have e7 := Lib.hid hI.hn
  have f7 := hI.hm
  replace hI := Lib.hid hI
  clear hB hl6 hB6
  go_wp2_with (fail)
  go_at_call 22
  refine (rBalances hl7.out).mono ?_
  rintro e w8 ⟨hB, a8, c8, rfl, hown⟩
  rw [hT.out] at hown ⊢
  have hl8 := Lib.hid (hl7.out.after hB)
  have hB8 := Lib.hid (hB7.out.trans (hB.mono hB7.out.size))
  have s7 := Lib.hid (SlAt.mono (hI.out.hs.below hB) hB.size)
  have s8 := Lib.hid (Own.slAt bcells_len (by omega) hown)
  clear hB hown hl7 hB7 hI
  go_wp2_with (fail)
  go_at_call 20
  refine (rSameBalances T T n7 c7 T.length c8 a7 a8 w8.heap.size w8 e7 (Lib.hid rfl) f7 hTn s7.out s8.out (Nat.le_refl _) (Lib.hid rfl)).mono ?_
  rintro e w9 ⟨rfl, hB⟩
  have hl9 := Lib.hid (hl8.out.after hB)
  have hB9 := Lib.hid (hB8.out.trans (hB.mono hB8.out.size))
  clear hB hl8 hB8 s7 s8 e7 f7
  go_wp2_with (fail)
  go_at_call 23
  refine (pParcels hl9.out).mono ?_
  rintro e w10 ⟨hB, a10, n10, c10, rfl, hI, _⟩
  rw [hP.out] at hI
  have hl10 := Lib.hid (hl9.out.after hB)
  have hB10 := Lib.hid (hB9.out.trans (hB.mono hB9.out.size))
  have e10 := Lib.hid hI.hn
  have f10 := hI.hm
  replace hI := Lib.hid hI
  clear hB hl9 hB9
  go_wp2_with (fail)
  go_at_call 24
  refine (rParcels hl10.out (by omega)).mono ?_
  rintro e w11 ⟨hB, a11, n11, c11, rfl, hJ, _⟩
  rw [hP.out] at hJ
  have hl11 := Lib.hid (hl10.out.after hB)
  have hB11 := Lib.hid (hB10.out.trans (hB.mono hB10.out.size))
  have s10 := Lib.hid (SlAt.mono (hI.out.hs.below hB) hB.size)
  have s11 := Lib.hid hJ.hs
  have e11 := Lib.hid hJ.hn
  have f11 := hJ.hm
  clear hB hl10 hB10 hI hJ
  go_wp2_with (fail)
  go_at_call 19
  refine (rSameInts P P n10 c10 n11 c11 a10 a11 w11.heap.size w11 e10 e11 f10 f11 s10.out s11.out (Nat.le_refl _) (Lib.hid rfl)).mono ?_
  rintro e w12 ⟨rfl, hB⟩
  have hl12 := Lib.hid (hl11.out.after hB)
  have hB12 := Lib.hid (hB11.out.trans (hB.mono hB11.out.size))
  clear hB hl11 hB11 s10 s11 e10 e11 f10 f11
  go_wp2_with (fail)
  go_at_call 26
  refine (pHolders hl12.out what).mono ?_
  rintro e w13 ⟨hB, a13, c13, rfl, hown⟩
  rw [hold_same, hH.out] at hown ⊢
  have hl13 := Lib.hid (hl12.out.after hB)
  have hB13 := Lib.hid (hB12.out.trans (hB.mono hB12.out.size))
  have ho13 := Lib.hid hown
  clear hB hown hl12 hB12
  go_wp2_with (fail)
  go_at_call 27
  refine (rHolders hl13.out what).mono ?_
  rintro e w14 ⟨hB, a14, c14, rfl, hown⟩
  rw [hH.out] at hown ⊢
  have hB14 := Lib.hid (hB13.out.trans (hB.mono hB13.out.size))
  have s13 := Lib.hid (Own.slAt dcells_len (by omega) (own_after ho13.out hB))
  have s14 := Lib.hid (Own.slAt dcells_len (by omega) hown)
  clear hB hown hl13 hB13 ho13
  go_wp2_with (fail)
  go_at_call 25
  refine (rSameDues H H H.length c13 H.length c14 a13 a14 w14.heap.size w14 (Lib.hid rfl) (Lib.hid rfl) hHn hHn s13.out s14.out (Nat.le_refl _) (Lib.hid rfl)).mono ?_
  rintro e w15 ⟨rfl, hB⟩
  have hB15 := Lib.hid (hB14.out.trans (hB.mono hB14.out.size))
  clear hB hB14 s13 s14
  go_wp2
  go_ret
  exact ⟨rfl, hB15.out⟩
end Go.Proofs.YtoijlikmigejbaaGreat
