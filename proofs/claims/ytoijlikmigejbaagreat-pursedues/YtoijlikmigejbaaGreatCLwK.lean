/- Walk: the law PurseDues. -/
import Derived.Test.YtoijlikmigejbaaGreatCPrC
import Derived.Test.YtoijlikmigejbaaGreatCRhC
import Derived.Test.YtoijlikmigejbaaGreatCRgE
import Derived.Test.YtoijlikmigejbaaGreatCMemA
namespace Go.Proofs.YtoijlikmigejbaaGreat
open Go.RowKit Go.Proofs.YtoijlikmigejbaaGreat.Pu

theorem openQ_len (l : List Post) (d : List Due) : (openQ l d).length ≤ d.length := by
  unfold openQ; split
  · exact openL_len l d
  · exact Nat.zero_le _
theorem overQ_len (l : List Post) (d : List Due) : (overQ l d).length ≤ l.length * 41 := by
  unfold overQ; split
  · exact overL_len l d
  · exact Nat.zero_le _
theorem DuesE.openQ {l : List Post} {d : List Due} {w w' : World} {e : Ending} (h : DuesE (compCode l d) (openL l d) w e w') : RowE 63 3 dcells (openQ l d) (compCode l d) w e w' := h.row
theorem DuesE.overQ {l : List Post} {d : List Due} {w w' : World} {e : Ending} (h : DuesE (compCode l d) (overL l d) w e w') : RowE 63 3 dcells (overQ l d) (compCode l d) w e w' := h.row

set_option maxRecDepth 100000 in
set_option maxHeartbeats 8000000 in
theorem wDues (l : List Post) (d : List Due) (cs : List Cause) (n cap n2 cap2 n3 cap3 : Nat) (ao ao2 ao3 : Option Addr) (w : World) (hn : n = l.length) (hL : n ≤ 100000 → LIn l n cap ao w.heap.size w)
    (hn2 : n2 = d.length) (hL2 : n2 ≤ 100000 → DIn d n2 cap2 ao2 w.heap.size w) (_hn3 : n3 = cs.length) (hL3 : n3 ≤ 100000 → CIn cs n3 cap3 ao3 w.heap.size w) :
    Calls Tryz.prog 7 #[.slice ao n cap, .slice ao2 n2 cap2, .slice ao3 n3 cap3] w (LawRes w) := by
  replace hn := Lib.hid hn
  replace hn2 := Lib.hid hn2
  replace hL := Lib.hid hL
  replace hL2 := Lib.hid hL2
  replace hL3 := Lib.hid hL3
  clear _hn3
  have hfew := pFew n cap n2 cap2 n3 cap3 ao ao2 ao3 w
  by_cases hf : fewB n n2 n3 = true
  case neg =>
    rw [Bool.not_eq_true] at hf
    rw [hf] at hfew
    replace hfew := Lib.hid hfew
    clear hf
    go_enter Tryz.func7, Tryz.ntmps7
    go_wp2_with (first
      | (go_at_call 10; refine hfew.out.mono ?_; rintro e w2 ⟨rfl, hB2⟩)
      | (go_at_call 11; refine (ppurses _).mono ?_; rintro e w3 ⟨rfl, hB3⟩))
    go_ret
    exact ⟨rfl, hB2.trans (hB3.mono hB2.size)⟩
  case pos =>
  rw [hf] at hfew
  replace hfew := Lib.hid hfew
  obtain ⟨hf1, hf2, hf3⟩ := fewB_of hf
  clear hf
  have hst : Hid (SetIn l d cs 0 n cap n2 cap2 n3 cap3 ao ao2 ao3 w.heap.size w) := ⟨hL.out (by omega), hL2.out (by omega), hL3.out (by omega)⟩
  clear hL hL2 hL3
  have hnx : Hid (∀ W W', SetIn l d cs 0 n cap n2 cap2 n3 cap3 ao ao2 ao3 w.heap.size W → Below W.heap.size W W' → SetIn l d cs 0 n cap n2 cap2 n3 cap3 ao ao2 ao3 w.heap.size W') := fun W W' h hB => ⟨h.l.after hB, h.d.after hB, h.c.after hB⟩
  obtain ⟨x1, hx1⟩ : ∃ x, Hid (chkL okD ltD d = x) := ⟨_, rfl⟩
  obtain ⟨x2, hx2⟩ : ∃ x, Hid (chkL okC ltC cs = x) := ⟨_, rfl⟩
  obtain ⟨cc, hcc⟩ : ∃ x, Hid (compCode l d = x) := ⟨_, rfl⟩
  obtain ⟨O, hO⟩ : ∃ x, Hid (openQ l d = x) := ⟨_, rfl⟩
  obtain ⟨V, hV⟩ : ∃ x, Hid (overQ l d = x) := ⟨_, rfl⟩
  obtain ⟨C, hC⟩ : ∃ x, Hid (covQ l d = x) := ⟨_, rfl⟩
  obtain ⟨sb, hsb⟩ : ∃ x, Hid ((if compCode l d = 0 then settledB l d else false) = x) := ⟨_, rfl⟩
  have hOn : O.length ≤ 100000 := by rw [← hO.out]; have := openQ_len l d; have := hn2.out; omega
  have hVn : V.length ≤ 100000 := by rw [← hV.out]; have := overQ_len l d; have := hn.out; omega
  go_enter Tryz.func7, Tryz.ntmps7
  go_wp2_with (first
    | (go_at_call 10; refine hfew.out.mono ?_; rintro e w1 ⟨rfl, hB1⟩
       have h1 := Lib.hid (hnx.out _ _ hst.out hB1)
       replace hB1 := Lib.hid hB1)
    | (go_at_call 41; refine (pCheckDues h1.out.d).mono ?_; rintro e w2 ⟨rfl, hB⟩; rw [hx1.out]
       have h2 := Lib.hid (hnx.out _ _ h1.out hB)
       have hB2 := Lib.hid (hB1.out.trans (hB.mono hB1.out.size))
       clear hB)
    | (go_at_call 42; refine (rCheckDues h2.out.d).mono ?_; rintro e w3 ⟨rfl, hB⟩; rw [hx1.out]
       have h3 := Lib.hid (hnx.out _ _ h2.out hB)
       have hB3 := Lib.hid (hB2.out.trans (hB.mono hB2.out.size))
       clear hB)
    | (go_at_call 43; refine (pCheckCauses h3.out.c).mono ?_; rintro e w4 ⟨rfl, hB⟩; rw [hx2.out]
       have h4 := Lib.hid (hnx.out _ _ h3.out hB)
       have hB4 := Lib.hid (hB3.out.trans (hB.mono hB3.out.size))
       clear hB)
    | (go_at_call 44; refine (rCheckCauses h4.out.c).mono ?_; rintro e w5 ⟨rfl, hB⟩; rw [hx2.out]
       have h5 := Lib.hid (hnx.out _ _ h4.out hB)
       have hB5 := Lib.hid (hB4.out.trans (hB.mono hB4.out.size))
       clear hB)
    | (go_at_call 45; refine (pOpen h5.out.l h5.out.d).mono ?_; intro e w6 hr; obtain ⟨hB, a6, c6, rfl, hown⟩ := hr.openQ; rw [hO.out] at hown ⊢; rw [hcc.out]
       have h6 := Lib.hid (hnx.out _ _ h5.out hB)
       have hB6 := Lib.hid (hB5.out.trans (hB.mono hB5.out.size))
       have ho6 := Lib.hid hown
       clear hB hown hr)
    | (go_at_call 46; refine (rOpen h6.out.l h6.out.d).mono ?_; rintro e w7 ⟨hB, a7, c7, rfl, hown⟩; rw [hO.out] at hown ⊢; rw [hcc.out]
       have h7 := Lib.hid (hnx.out _ _ h6.out hB)
       have hB7 := Lib.hid (hB6.out.trans (hB.mono hB6.out.size))
       have ho7 := Lib.hid (Own.slAt dcells_len (by omega) hown)
       have ho6' := Lib.hid (Own.slAt dcells_len (by omega) (own_after ho6.out hB))
       clear hB hown)
    | (go_at_call 47; refine (pOver h7.out.l h7.out.d).mono ?_; intro e w8 hr; obtain ⟨hB, a8, c8, rfl, hown⟩ := hr.overQ; rw [hV.out] at hown ⊢; rw [hcc.out]
       have h8 := Lib.hid (hnx.out _ _ h7.out hB)
       have hB8 := Lib.hid (hB7.out.trans (hB.mono hB7.out.size))
       have ho8 := Lib.hid hown
       have p8 := Lib.hid (SlAt.mono (ho6'.out.below hB) hB.size)
       have q8 := Lib.hid (SlAt.mono (ho7.out.below hB) hB.size)
       clear hB hown hr)
    | (go_at_call 48; refine (rOver h8.out.l h8.out.d (by omega)).mono ?_; rintro e w9 ⟨hB, a9, c9, rfl, hown⟩; rw [hV.out] at hown ⊢; rw [hcc.out]
       have h9 := Lib.hid (hnx.out _ _ h8.out hB)
       have hB9 := Lib.hid (hB8.out.trans (hB.mono hB8.out.size))
       have ho9 := Lib.hid (Own.slAt dcells_len (by omega) hown)
       have ho8' := Lib.hid (Own.slAt dcells_len (by omega) (own_after ho8.out hB))
       have p9 := Lib.hid (SlAt.mono (p8.out.below hB) hB.size)
       have q9 := Lib.hid (SlAt.mono (q8.out.below hB) hB.size)
       clear hB hown)
    | (go_at_call 25; (with_reducible refine (rSameDues O O O.length c6 O.length c7 a6 a7 w9.heap.size w9 (Lib.hid rfl) (Lib.hid rfl) hOn hOn p9.out q9.out (Nat.le_refl _) (Lib.hid rfl)).mono ?_); rintro e w10 ⟨rfl, hB⟩
       have h10 := Lib.hid (hnx.out _ _ h9.out hB)
       have hB10 := Lib.hid (hB9.out.trans (hB.mono hB9.out.size))
       have p10 := Lib.hid (SlAt.mono (ho8'.out.below hB) hB.size)
       have q10 := Lib.hid (SlAt.mono (ho9.out.below hB) hB.size)
       clear hB)
    | (go_at_call 25; (with_reducible refine (rSameDues V V V.length c8 V.length c9 a8 a9 w10.heap.size w10 (Lib.hid rfl) (Lib.hid rfl) hVn hVn p10.out q10.out (Nat.le_refl _) (Lib.hid rfl)).mono ?_); rintro e w11 ⟨rfl, hB⟩
       have h11 := Lib.hid (hnx.out _ _ h10.out hB)
       have hB11 := Lib.hid (hB10.out.trans (hB.mono hB10.out.size))
       clear hB)
    | (go_at_call 49; refine (pSettled h11.out.l h11.out.d).mono ?_; rintro e w12 ⟨hB, rfl⟩; rw [hsb.out, hcc.out]
       have h12 := Lib.hid (hnx.out _ _ h11.out hB)
       have hB12 := Lib.hid (hB11.out.trans (hB.mono hB11.out.size))
       clear hB)
    | (go_at_call 50; refine (rSettled h12.out.l h12.out.d (by omega)).mono ?_; rintro e w13 ⟨hB, rfl⟩; rw [hsb.out, hcc.out]
       have h13 := Lib.hid (hnx.out _ _ h12.out hB)
       have hB13 := Lib.hid (hB12.out.trans (hB.mono hB12.out.size))
       clear hB)
    | (go_at_call 51; refine (pCovered h13.out.l h13.out.d).mono ?_; rintro e w14 ⟨hB, a14, n14, c14, rfl, hI⟩; rw [hC.out] at hI; rw [hcc.out]
       have h14 := Lib.hid (hnx.out _ _ h13.out hB)
       have hB14 := Lib.hid (hB13.out.trans (hB.mono hB13.out.size))
       have i14 := Lib.hid hI
       clear hB hI)
    | (go_at_call 52; refine (rCovered h14.out.l h14.out.d).mono ?_; rintro e w15 ⟨hB, a15, n15, c15, rfl, hI⟩; rw [hC.out] at hI; rw [hcc.out]
       have hB15 := Lib.hid (hB14.out.trans (hB.mono hB14.out.size))
       have i15 := Lib.hid hI
       have j15 := Lib.hid (SlAt.mono (i14.out.hs.below hB) hB.size)
       have m14 := i14.out.hm
       have m15 := i15.out.hm
       have e14 := Lib.hid i14.out.hn
       have e15 := Lib.hid i15.out.hn
       clear hB hI)
    | (go_at_call 11; refine (ppurses _).mono ?_; rintro e w16 ⟨rfl, hB⟩
       have hB16 := Lib.hid (hB15.out.trans (hB.mono hB15.out.size))
       have p16 := Lib.hid (j15.out.below hB)
       have q16 := Lib.hid (i15.out.hs.below hB)
       have z16 := hB.size
       clear hB)
    | (go_at_call 19; refine (rSameInts C C n14 c14 n15 c15 a14 a15 w15.heap.size w16 e14 e15 m14 m15 p16.out q16.out z16 (Lib.hid rfl)).mono ?_; rintro e w17 ⟨rfl, hB⟩
       have hB17 := Lib.hid (hB16.out.trans (hB.mono hB16.out.size))
       clear hB))
  go_ret
  exact ⟨rfl, hB17.out⟩
end Go.Proofs.YtoijlikmigejbaaGreat
