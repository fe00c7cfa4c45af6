/- Walks: the reference's book, asked, Sold, Has, HeldOf, Held, Parcels, LastPay. -/
import Derived.Test.YtoijlikmigejbaaGreatCRgD
import Derived.Test.YtoijlikmigejbaaGreatCMemA
import Derived.Test.YtoijlikmigejbaaGreatCSumA
namespace Go.Proofs.YtoijlikmigejbaaGreat
open Go.RowKit Go.Proofs.YtoijlikmigejbaaGreat.Pu

def BoolRes (b : Bool) (w : World) (e : Ending) (w' : World) : Prop := e = .returned (.bool b) ∧ Below w.heap.size w w'
def bookB (l : List Post) : Bool := (check l).2 == 0
theorem bookB_iff {l : List Post} : bookB l = true ↔ (check l).2 = 0 := by unfold bookB; simp

set_option maxRecDepth 100000 in
set_option maxHeartbeats 2000000 in
theorem rbook {l : List Post} {n cap : Nat} {ao : Option Addr} {B : Nat} {w : World} (h : LIn l n cap ao B w) :
    Calls Tryz.prog 81 #[.slice ao n cap] w (BoolRes (bookB l) w) := by
  obtain ⟨ci, hci⟩ : ∃ ci, Hid ((check l).1 = ci) := ⟨_, rfl⟩
  obtain ⟨cr, hcr⟩ : ∃ cr, Hid ((check l).2 = cr) := ⟨_, rfl⟩
  obtain ⟨bb, hbb⟩ : ∃ bb, Hid (bookB l = bb) := ⟨_, rfl⟩
  have hb : (cr == 0) = bb := by rw [← hbb.out, ← hcr.out]; rfl
  replace h := Lib.hid h
  rw [hbb.out]
  go_enter Tryz.func81, Tryz.ntmps81
  go_wp2_with (go_at_call 66; refine (h.out.rCheck).mono ?_; rintro e w1 ⟨rfl, hB1⟩; rw [hci.out, hcr.out])
  go_ret
  exact ⟨rfl, hB1⟩

/-- a code -/
def CodeRes (c : Int) (w : World) (e : Ending) (w' : World) : Prop := e = .returned (.int .i64 c) ∧ Below w.heap.size w w'
set_option maxRecDepth 100000 in
set_option maxHeartbeats 2000000 in
theorem rasked {l : List Post} {n cap : Nat} {ao : Option Addr} {B : Nat} {w : World} (h : LIn l n cap ao B w) (who what : Int) :
    Calls Tryz.prog 76 #[.slice ao n cap, .int .i64 who, .int .i64 what] w (CodeRes (askCode l what who) w) := by
  obtain ⟨ci, hci⟩ : ∃ ci, Hid ((check l).1 = ci) := ⟨_, rfl⟩
  obtain ⟨cr, hcr⟩ : ∃ cr, Hid ((check l).2 = cr) := ⟨_, rfl⟩
  obtain ⟨vp, hvp⟩ : ∃ vp, Hid (inB who 0 40 = vp) := ⟨_, rfl⟩
  obtain ⟨vq, hvq⟩ : ∃ vq, Hid (inB what 10 10000007 = vq) := ⟨_, rfl⟩
  have hcc : Hid (askCode l what who = if cr = 0 then (if vq && vp then 0 else 1) else cr) := by show _ = _; unfold askCode; rw [hcr.out, hvp.out, hvq.out]
  rw [hcc.out]
  replace h := Lib.hid h
  clear hcc
  by_cases h0 : cr = 0
  · subst h0
    cases vp <;> cases vq
    all_goals
      go_enter Tryz.func76, Tryz.ntmps76
      go_wp2_with (first
        | (go_at_call 66; refine (h.out.rCheck).mono ?_; rintro e w1 ⟨rfl, hB1⟩; rw [hci.out, hcr.out])
        | (go_at_call 100; refine (rparty who w1).mono ?_; rintro e w2 ⟨rfl, rfl⟩; rw [hvp.out])
        | (go_at_call 101; refine (rparcel what w1).mono ?_; rintro e w2 ⟨rfl, rfl⟩; rw [hvq.out]))
      go_ret
      exact ⟨rfl, hB1⟩
  · have hne2 : (cr == 0) = false := by simpa using h0
    rw [if_neg h0]
    replace h0 := Lib.hid h0
    go_enter Tryz.func76, Tryz.ntmps76
    go_wp2_with (go_at_call 66; refine (h.out.rCheck).mono ?_; rintro e w1 ⟨rfl, hB1⟩; rw [hci.out, hcr.out])
    go_ret
    exact ⟨rfl, hB1⟩

theorem ask_book {l : List Post} {x y : Int} (h : askCode l x y = 0) : Book l := by
  unfold askCode at h
  split at h
  · rename_i h1; exact book_of_check h1
  · rename_i h1; exact absurd h h1
def soldQ (l : List Post) (what : Int) : Int × Int := if askCode l what 0 = 0 then (if Pu.sold l what = 0 then (0, 5) else (Pu.sold l what, 0)) else (0, askCode l what 0)

set_option maxRecDepth 100000 in
set_option maxHeartbeats 2000000 in
theorem rSold {l : List Post} {n cap : Nat} {ao : Option Addr} {B : Nat} {w : World} (h : LIn l n cap ao B w) (what : Int) :
    Calls Tryz.prog 29 #[.slice ao n cap, .int .i64 what] w (RetII (soldQ l what) w) := by
  obtain ⟨ac, hac⟩ : ∃ ac, Hid (askCode l what 0 = ac) := ⟨_, rfl⟩
  obtain ⟨sv, hsv⟩ : ∃ sv, Hid (Pu.sold l what = sv) := ⟨_, rfl⟩
  have hq : Hid (soldQ l what = if ac = 0 then (if sv = 0 then (0, 5) else (sv, 0)) else (0, ac)) := by show _ = _; unfold soldQ; rw [hac.out, hsv.out]
  replace h := Lib.hid h
  rw [hq.out]
  clear hq
  by_cases h0 : ac = 0
  · have hA := Lib.hid (Book.amtOk (ask_book (hac.out.trans h0)))
    have hn := Lib.hid h.out.hn
    have hm := h.out.hm
    rw [if_pos h0]
    subst h0
    by_cases h1 : sv = 0
    · rw [if_pos h1]
      subst h1
      go_enter Tryz.func29, Tryz.ntmps29
      go_wp2_with (first
        | (go_at_call 76; refine (rasked h.out 0 what).mono ?_; rintro e w1 ⟨rfl, hB1⟩; rw [hac.out]; have h1 := Lib.hid (h.out.after hB1))
        | (go_at_call 86; refine (rsold l n cap what ao B w1 hn hm h1.out.hs hA.out).mono ?_; rintro e w2 ⟨rfl, rfl⟩; rw [hsv.out]))
      go_ret2
      exact ⟨rfl, hB1⟩
    · rw [if_neg h1]
      have hne : (sv == 0) = false := by simpa using h1
      replace h1 := Lib.hid h1
      go_enter Tryz.func29, Tryz.ntmps29
      go_wp2_with (first
        | (go_at_call 76; refine (rasked h.out 0 what).mono ?_; rintro e w1 ⟨rfl, hB1⟩; rw [hac.out]; have h1 := Lib.hid (h.out.after hB1))
        | (go_at_call 86; refine (rsold l n cap what ao B w1 hn hm h1.out.hs hA.out).mono ?_; rintro e w2 ⟨rfl, rfl⟩; rw [hsv.out]))
      go_ret2
      exact ⟨rfl, hB1⟩
  · rw [if_neg h0]
    have hne : (ac != 0) = true := by simpa using h0
    replace h0 := Lib.hid h0
    go_enter Tryz.func29, Tryz.ntmps29
    go_wp2_with (go_at_call 76; refine (rasked h.out 0 what).mono ?_; rintro e w1 ⟨rfl, hB1⟩; rw [hac.out])
    go_ret2
    exact ⟨rfl, hB1⟩

set_option maxRecDepth 100000 in
set_option maxHeartbeats 2000000 in
theorem rHas {l : List Post} {n cap : Nat} {ao : Option Addr} {B : Nat} {w : World} (h : LIn l n cap ao B w) (who what : Int) :
    Calls Tryz.prog 31 #[.slice ao n cap, .int .i64 who, .int .i64 what] w (RetII (numE (askCode l what who) (Pu.has l who what)) w) := by
  obtain ⟨ac, hac⟩ : ∃ ac, Hid (askCode l what who = ac) := ⟨_, rfl⟩
  obtain ⟨sv, hsv⟩ : ∃ sv, Hid (Pu.has l who what = sv) := ⟨_, rfl⟩
  replace h := Lib.hid h
  rw [hac.out, hsv.out]
  unfold numE
  by_cases h0 : ac = 0
  · have hA := Lib.hid (Book.amtOk (ask_book (hac.out.trans h0)))
    have hn := Lib.hid h.out.hn
    have hm := h.out.hm
    rw [if_pos h0]
    subst h0
    go_enter Tryz.func31, Tryz.ntmps31
    go_wp2_with (first
      | (go_at_call 76; refine (rasked h.out who what).mono ?_; rintro e w1 ⟨rfl, hB1⟩; rw [hac.out]; have h1 := Lib.hid (h.out.after hB1))
      | (go_at_call 71; refine (rhas l n cap who what ao B w1 hn hm h1.out.hs hA.out).mono ?_; rintro e w2 ⟨rfl, rfl⟩; rw [hsv.out]))
    go_ret2
    exact ⟨rfl, hB1⟩
  · rw [if_neg h0]
    have hne : (ac != 0) = true := by simpa using h0
    replace h0 := Lib.hid h0
    go_enter Tryz.func31, Tryz.ntmps31
    go_wp2_with (go_at_call 76; refine (rasked h.out who what).mono ?_; rintro e w1 ⟨rfl, hB1⟩; rw [hac.out])
    go_ret2
    exact ⟨rfl, hB1⟩

set_option maxRecDepth 100000 in
set_option maxHeartbeats 2000000 in
theorem rHeldOf {l : List Post} {n cap : Nat} {ao : Option Addr} {B : Nat} {w : World} (h : LIn l n cap ao B w) (what : Int) :
    Calls Tryz.prog 35 #[.slice ao n cap, .int .i64 what] w (RetII (numE (askCode l what 0) (Pu.held l what)) w) := by
  obtain ⟨ac, hac⟩ : ∃ ac, Hid (askCode l what 0 = ac) := ⟨_, rfl⟩
  obtain ⟨sv, hsv⟩ : ∃ sv, Hid (Pu.held l what = sv) := ⟨_, rfl⟩
  replace h := Lib.hid h
  rw [hac.out, hsv.out]
  unfold numE
  by_cases h0 : ac = 0
  · have hA := Lib.hid (Book.amtOk (ask_book (hac.out.trans h0)))
    have hn := Lib.hid h.out.hn
    have hm := h.out.hm
    rw [if_pos h0]
    subst h0
    go_enter Tryz.func35, Tryz.ntmps35
    go_wp2_with (first
      | (go_at_call 76; refine (rasked h.out 0 what).mono ?_; rintro e w1 ⟨rfl, hB1⟩; rw [hac.out]; have h1 := Lib.hid (h.out.after hB1))
      | (go_at_call 72; refine (rheld l n cap what ao B w1 hn hm h1.out.hs hA.out).mono ?_; rintro e w2 ⟨rfl, rfl⟩; rw [hsv.out]))
    go_ret2
    exact ⟨rfl, hB1⟩
  · rw [if_neg h0]
    have hne : (ac != 0) = true := by simpa using h0
    replace h0 := Lib.hid h0
    go_enter Tryz.func35, Tryz.ntmps35
    go_wp2_with (go_at_call 76; refine (rasked h.out 0 what).mono ?_; rintro e w1 ⟨rfl, hB1⟩; rw [hac.out])
    go_ret2
    exact ⟨rfl, hB1⟩

/-- the parcels of a book -/
def parcelsQ (l : List Post) : List Int := if (check l).2 = 0 then parcels l else []
set_option maxRecDepth 100000 in
set_option maxHeartbeats 2000000 in
theorem rParcels {l : List Post} {n cap : Nat} {ao : Option Addr} {B : Nat} {w : World} (h : LIn l n cap ao B w) (hm : n ≤ 1000) :
    Calls Tryz.prog 24 #[.slice ao n cap] w (IRes (parcelsQ l) w) := by
  obtain ⟨bb, hbb⟩ : ∃ bb, Hid (bookB l = bb) := ⟨_, rfl⟩
  replace h := Lib.hid h
  have hnil := Lib.hid (fun W : World => show IIn [] 0 0 none W.heap.size W from ⟨rfl, by omega, Nat.le_refl _, .inl rfl, Nat.le_refl _⟩)
  cases bb with
  | false =>
    have hq : Hid (parcelsQ l = []) := by
      show _ = _; unfold parcelsQ; rw [if_neg]; intro hc; rw [bookB_iff.2 hc] at hbb; cases hbb.out
    go_enter Tryz.func24, Tryz.ntmps24
    go_wp2_with (go_at_call 81; refine (rbook h.out).mono ?_; rintro e w1 ⟨rfl, hB1⟩; rw [hbb.out])
    go_ret
    exact ⟨hB1, none, 0, 0, rfl, by rw [hq.out]; exact hnil.out _, fun ad h => by cases h⟩
  | true =>
    have hq : Hid (parcelsQ l = parcels l) := by
      show _ = _; unfold parcelsQ; rw [if_pos (bookB_iff.1 hbb.out)]
    go_enter Tryz.func24, Tryz.ntmps24
    go_wp2_with (first
      | (go_at_call 81; refine (rbook h.out).mono ?_; rintro e w1 ⟨rfl, hB1⟩; rw [hbb.out]; have h1 := Lib.hid (h.out.after hB1))
      | (go_at_call 84; refine (rparcels h1.out hm).mono ?_; rintro e w2 ⟨hB2, a2, n2, c2, rfl, hI2, had2⟩; replace hI2 := Lib.hid hI2; replace had2 := Lib.hid had2; replace hB2 := Lib.hid (hB1.trans (hB2.mono hB1.size))))
    go_ret
    exact ⟨hB2.out, a2, n2, c2, rfl, by rw [hq.out]; exact hI2.out, had2.out⟩

set_option maxRecDepth 100000 in
set_option maxHeartbeats 4000000 in
theorem rHeld {l : List Post} {n cap : Nat} {ao : Option Addr} {B : Nat} {w : World} (h : LIn l n cap ao B w) (hm : n ≤ 1000) :
    Calls Tryz.prog 33 #[.slice ao n cap] w (RetII (numE (check l).2 (total l)) w) := by
  obtain ⟨ci, hci⟩ : ∃ ci, Hid ((check l).1 = ci) := ⟨_, rfl⟩
  obtain ⟨cr, hcr⟩ : ∃ cr, Hid ((check l).2 = cr) := ⟨_, rfl⟩
  have hn := Lib.hid h.hn
  have hmm := h.hm
  replace h := Lib.hid h
  rw [hcr.out]
  unfold numE
  by_cases h0 : cr = 0
  case neg =>
    rw [if_neg h0]
    have hne : (cr != 0) = true := by simpa using h0
    replace h0 := Lib.hid h0
    go_enter Tryz.func33, Tryz.ntmps33
    go_wp2_with (go_at_call 66; refine (h.out.rCheck).mono ?_; rintro e w1 ⟨rfl, hB1⟩; rw [hci.out, hcr.out])
    go_ret2
    exact ⟨rfl, hB1⟩
  case pos =>
  have hbk := Lib.hid (book_of_check (hcr.out.trans h0))
  have hA := Lib.hid (Book.amtOk hbk.out)
  rw [if_pos h0]
  subst h0
  go_enter Tryz.func33, Tryz.ntmps33
  go_wp2_with (first
    | (go_at_call 66; refine (h.out.rCheck).mono ?_; rintro e w1 ⟨rfl, hB1⟩; rw [hci.out, hcr.out]; have h1 := Lib.hid (h.out.after hB1))
    | (go_at_call 84; refine (rparcels h1.out hm).mono ?_; rintro e w2 ⟨hB2, a2, n2, c2, rfl, hI2, had2⟩; replace hI2 := Lib.hid hI2; have h2 := Lib.hid (h1.out.after hB2); replace hB2 := Lib.hid (hB1.trans (hB2.mono hB1.size)); clear had2))
  have hsum : Hid (sumI ((parcels l).map (Pu.held l)) = total l) := total_sum (parcels_nodup l) l fun p hp => ⟨book_ok hbk.out p hp, (mem_parcels _ l).2 ⟨p, hp, rfl⟩⟩
  have hsp : Hid (∀ x, 0 ≤ Pu.held l x ∧ Pu.held l x ≤ 1000000000) := fun x => by
    have := Book.sp hbk.out x
    have h1 := hasUpto_ge this.2.2.2 0 41 (by omega)
    have h2 := this.2.2.2 ((0 : Nat) : Int)
    refine ⟨this.1, ?_⟩
    unfold Pu.held; omega
  have hpn := Lib.hid hI2.out.hn
  have hpl : n2 ≤ 1000 := by have h1 := parcels_len l; have := hpn.out; have := hn.out; omega
  go_loop [6, 8] (fun v i => ∃ j : Nat, j ≤ n2 ∧ i = .int .i64 j ∧ v = .int .i64 (sumI (((parcels l).take j).map (Pu.held l)))) (fun _ i => n2 - (intOf i).toNat)
  case atStart => exact ⟨0, Nat.zero_le _, rfl, rfl⟩
  case round =>
    obtain ⟨j, hj, rfl, rfl⟩ := hrel
    have hbd := sumI_bd (f := Pu.held l) (M := 1000000000) ((parcels l).take j) fun x _ => hsp.out x
    rw [List.length_take] at hbd
    obtain ⟨s, hs⟩ : ∃ s, sumI (((parcels l).take j).map (Pu.held l)) = s := ⟨_, rfl⟩
    by_cases hlt : j < n2
    · obtain ⟨x, hx⟩ := getq (l := parcels l) (j := j) (by rw [← hpn.out]; exact hlt)
      have hst : Hid (sumI (((parcels l).take (j + 1)).map (Pu.held l)) = s + Pu.held l x) := by
        show _ = _; rw [take_snoc hx, List.map_append, sumI_append, hs]; simp [sumI]
      obtain ⟨b, o, rfl, hb0, c0⟩ := hI2.out.hs.int hx
      have hvb := hsp.out x
      obtain ⟨hv, hhv⟩ : ∃ hv, Hid (Pu.held l x = hv) := ⟨_, rfl⟩
      rw [hhv.out] at hvb hst
      rw [hs] at hbd ⊢
      have hsb : 0 ≤ s ∧ s ≤ 1000000000000 := by omega
      replace hs := Lib.hid hs
      clear hbd hx
      go_wp2_with (go_at_call 72; refine (rheld l n cap x ao B _ hn hmm h2.out.hs hA.out).mono ?_; rintro e w3 ⟨rfl, rfl⟩; rw [hhv.out])
      go_round
      case rel => exact ⟨j + 1, by omega, by go_num, by rw [hst.out]⟩
      case measure => simp [intOf]; omega
    · obtain rfl : n2 = j := by omega
      have e : (parcels l).take n2 = parcels l := by rw [hpn.out]; exact List.take_length
      rw [e, hsum.out]
      clear hbd hs
      go_wp2
      go_ret2
      exact ⟨rfl, hB2.out⟩

set_option maxRecDepth 100000 in
set_option maxHeartbeats 4000000 in
theorem rLastPay {l : List Post} {n cap : Nat} {ao : Option Addr} {B : Nat} {w : World} (h : LIn l n cap ao B w) (who what : Int) :
    Calls Tryz.prog 18 #[.slice ao n cap, .int .i64 who, .int .i64 what] w (LastPayRes l who what w) := by
  have hn := Lib.hid h.hn
  have hmm := h.hm
  obtain ⟨ac, hac⟩ : ∃ ac, Hid (askCode l what who = ac) := ⟨_, rfl⟩
  obtain ⟨q, hq⟩ : ∃ q, Hid ((Pu.last l who what).getD zeroP = q) := ⟨_, rfl⟩
  obtain ⟨is, his⟩ : ∃ is, Hid ((Pu.last l who what).isSome = is) := ⟨_, rfl⟩
  have hres : Hid ((if askCode l what who = 0 then Value.tuple #[pval ((Pu.last l who what).getD zeroP), .bool (Pu.last l who what).isSome, .int .i64 0] else .tuple #[pval zeroP, .bool false, .int .i64 (askCode l what who)]) = if ac = 0 then Value.tuple #[pval q, .bool is, .int .i64 0] else .tuple #[pval zeroP, .bool false, .int .i64 ac]) := by
    show _ = _; rw [hac.out, hq.out, his.out]
  have h1 := Lib.hid (h.alloc (.cells #[.int .i64 0, .int .i64 0, .int .u8 0, .int .i64 0, .int .i64 0, .int .i64 0, .int .i64 0, .int .i64 0] 36))
  have hP0 := PBox.new w zeroP 36
  clear h
  go_enter Tryz.func18, Tryz.ntmps18
  go_wp2_with (fail)
  go_at_call 76
  refine (rasked h1.out who what).mono ?_
  rintro e w1 ⟨rfl, hB1⟩
  rw [hac.out]
  have hBw : Below w.heap.size w w1 := ((Below.refl _ _).alloc (Nat.le_refl _) _).trans (hB1.mono (by simp))
  have hP : PBox w1 w.heap.size zeroP := hP0.below hB1 (by simp)
  have hz : ∀ i, w1.frozen? ⟨w.heap.size, i, none⟩ = false := fun i => (hB1.frozen (p := ⟨w.heap.size, i, none⟩) (by simp)).trans (by simp)
  obtain ⟨b, hb⟩ : ∃ b, w.heap.size = b := ⟨_, rfl⟩
  have hl1 := Lib.hid (h1.out.after hB1)
  rw [hb] at hP hz hBw ⊢
  replace hb := Lib.hid hb
  clear hB1 hP0
  by_cases h0 : ac = 0
  case neg =>
    rw [if_neg h0] at hres
    have hne : (ac != 0) = true := by simpa using h0
    replace h0 := Lib.hid h0
    have q0 := hP.c0
    have q1 := hP.c1
    have q2 := hP.c2
    have q3 := hP.c3
    have q4 := hP.c4
    have q5 := hP.c5
    have q6 := hP.c6
    have q7 := hP.c7
    have hblt := hP.lt
    replace hBw := Lib.hid hBw
    clear hP
    go_wp2
    refine bodyPost_ret (v := .tuple #[pval zeroP, .bool false, .int .i64 ac]) (by simp [results, Tryz.results18, go_sem, q0, q1, q2, q3, q4, q5, q6, q7, zeroP]) rfl ?_
    refine ⟨?_, by rw [hres.out]⟩
    rw [hb.out]
    iterate 8 refine below_set ?_
    exact hBw.out
  case pos =>
  rw [if_pos h0] at hres
  subst h0
  go_wp2_with (fail)
  go_at_call 70
  refine (rlast l n cap who what ao B w1 hn hmm hl1.out.hs hl1.out.hB).mono ?_
  rintro e w2 ⟨rfl, hB2⟩
  rw [hq.out, his.out]
  have hblt1 := hP.lt
  have hz2 : ∀ i, w2.frozen? ⟨b, i, none⟩ = false := fun i => (hB2.frozen (p := ⟨b, i, none⟩) hblt1).trans (hz i)
  have hP2 := hP.below hB2 hblt1
  have hBw2 := Lib.hid (hBw.trans (hB2.mono (Nat.le_of_lt hblt1)))
  have hblt := hP2.lt
  have q0 := hP2.c0
  have q1 := hP2.c1
  have q2 := hP2.c2
  have q3 := hP2.c3
  have q4 := hP2.c4
  have q5 := hP2.c5
  have q6 := hP2.c6
  have q7 := hP2.c7
  clear hz hP hP2 hB2 hBw hblt1
  go_wp2
  refine bodyPost_ret (v := .tuple #[pval q, .bool is, .int .i64 0]) (by simp [results, Tryz.results18, go_sem, hblt, q0, q1, q2, q3, q4, q5, q6, q7]) rfl ?_
  refine ⟨?_, by rw [hres.out]⟩
  rw [hb.out]
  refine Below.alloc ?_ (by simp; omega) _
  iterate 8 refine below_set ?_
  exact hBw2.out
end Go.Proofs.YtoijlikmigejbaaGreat
