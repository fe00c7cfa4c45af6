/- Walks: the reference's Upto, OfParcel, Holders, Reasons. -/
import Derived.Test.YtoijlikmigejbaaGreatCRhA
namespace Go.Proofs.YtoijlikmigejbaaGreat
open Go.RowKit Go.Proofs.YtoijlikmigejbaaGreat.Pu

/-- a row in new memory -/
def RowR {α : Type} (T k : Nat) (enc : α → List Value) (L : List α) (w : World) (e : Ending) (w' : World) : Prop :=
  Below w.heap.size w w' ∧ ∃ ao cap, e = .returned (.slice ao L.length cap) ∧ w'.ownsRow w.heap.size T k (.slice ao L.length cap) L.length (flat enc L)
/-- a row in new memory, and a code -/
def RowE {α : Type} (T k : Nat) (enc : α → List Value) (L : List α) (code : Int) (w : World) (e : Ending) (w' : World) : Prop :=
  Below w.heap.size w w' ∧ ∃ ao cap, e = .returned (.tuple #[.slice ao L.length cap, .int .i64 code]) ∧ w'.ownsRow w.heap.size T k (.slice ao L.length cap) L.length (flat enc L)
theorem one_post (w : World) (p : Post) : SlAt 8 pcells (w.alloc (.cells #[.int .i64 p.id, .int .i64 p.hour, .int .u8 p.kind, .int .i64 p.party, .int .i64 p.parcel, .int .i64 p.amount, .int .i64 p.reason, .int .i64 p.known] 36)).heap.size
    (w.alloc (.cells #[.int .i64 p.id, .int .i64 p.hour, .int .u8 p.kind, .int .i64 p.party, .int .i64 p.parcel, .int .i64 p.amount, .int .i64 p.reason, .int .i64 p.known] 36)) (some ⟨w.heap.size, 0, none⟩) [p] :=
  Own.slAt pcells_len (by omega) (World.ownsRow_lit w #[.int .i64 p.id, .int .i64 p.hour, .int .u8 p.kind, .int .i64 p.party, .int .i64 p.parcel, .int .i64 p.amount, .int .i64 p.reason, .int .i64 p.known] 1 (Nat.le_refl _) (by unfold maxLen; omega) rfl)
theorem someL_book {l : List Post} {P : Post → Bool} (h : bookB l = true) : someL P l = l.filter P := by unfold someL; rw [if_pos (bookB_iff.1 h)]
theorem someL_no {l : List Post} {P : Post → Bool} (h : bookB l = false) : someL P l = [] := by
  unfold someL; rw [if_neg]; intro hc; rw [bookB_iff.2 hc] at h; cases h
def ofParP (what : Int) (p : Post) : Bool := p.parcel == what

set_option maxRecDepth 100000 in
set_option maxHeartbeats 4000000 in
theorem rUpto {l : List Post} {n cap : Nat} {ao : Option Addr} {B : Nat} {w : World} (h : LIn l n cap ao B w) (x : Int) :
    Calls Tryz.prog 37 #[.slice ao n cap, .int .i64 x] w (RowR 36 8 pcells (someL (uptoP x) l) w) := by
  have hn := Lib.hid h.hn
  have hmm := h.hm
  have hB := h.hB
  obtain ⟨bb, hbb⟩ : ∃ bb, Hid (bookB l = bb) := ⟨_, rfl⟩
  obtain ⟨sb, hsb⟩ : ∃ sb, Hid (w.heap.size = sb) := ⟨_, rfl⟩
  have hrefl : Below sb w w := by rw [← hsb.out]; exact Below.refl _ _
  rw [hsb.out] at hB
  replace h := Lib.hid h
  replace hrefl := Lib.hid hrefl
  have hsz : sb ≤ w.heap.size := by rw [hsb.out]; exact Nat.le_refl _
  cases bb with
  | false =>
    have hq := Lib.hid (someL_no (P := uptoP x) hbb.out)
    go_enter Tryz.func37, Tryz.ntmps37
    go_wp2
    go_loopw [5, 6] (fun v i wr => v = .slice none 0 0 ∧ i = .int .i64 0 ∧ wr = w) (fun _ _ _ => 0)
    case atStart => exact ⟨rfl, rfl, rfl⟩
    case round =>
      obtain ⟨rfl, rfl, rfl⟩ := hrel
      by_cases h0 : 0 < n
      · go_wp2_with (go_at_call 81; refine (rbook h.out).mono ?_; rintro e w1 ⟨rfl, hB1⟩; rw [hbb.out])
        go_ret
        exact ⟨hB1, none, 0, by rw [hq.out]; rfl, by rw [hq.out]; exact World.ownsRow_nil _ _ _ _⟩
      · have h00 : n = 0 := by omega
        subst h00
        clear h0
        go_wp2
        go_ret
        exact ⟨by rw [hsb.out]; exact hrefl.out, none, 0, by rw [hq.out]; rfl, by rw [hq.out]; exact World.ownsRow_nil _ _ _ _⟩
  | true =>
  have hq := Lib.hid (someL_book (P := uptoP x) hbb.out)
  have hlen : n ≤ 400 := by rw [hn.out]; exact Book.len (book_of_check (bookB_iff.1 hbb.out))
  go_enter Tryz.func37, Tryz.ntmps37
  go_wp2
  go_loopw [5, 6] (fun v i wr => ∃ j : Nat, j ≤ n ∧ i = .int .i64 j ∧ Below sb w wr ∧ Hid (wr.ownsRow sb 36 8 v ((l.take j).filter (uptoP x)).length (flat pcells ((l.take j).filter (uptoP x))))) (fun _ i _ => n - (intOf i).toNat)
  case atStart => exact ⟨0, Nat.zero_le _, rfl, hrefl.out, World.ownsRow_nil _ _ _ _⟩
  case round =>
    obtain ⟨j, hj, rfl, hb, hown⟩ := hrel
    have hlr := Lib.hid (h.out.below (hb.mono hB))
    have hwr : sb ≤ wr.heap.size := Nat.le_trans hsz hb.size
    have hll : ((l.take j).filter (uptoP x)).length ≤ 400 := by
      have h1 := List.length_filter_le (uptoP x) (l.take j); rw [List.length_take] at h1; omega
    by_cases hlt : j < n
    case pos =>
      obtain ⟨p, hp⟩ := getq (l := l) (j := j) (by rw [← hn.out]; exact hlt)
      have hst := filter_step (P := uptoP x) hp
      obtain ⟨L, hL⟩ : ∃ L, (l.take j).filter (uptoP x) = L := ⟨_, rfl⟩
      rw [hL] at hst hown hll
      replace hst := Lib.hid hst
      replace hp := Lib.hid hp
      replace hb := Lib.hid hb
      clear hL
      obtain ⟨t, ht⟩ : ∃ t, Hid (uptoP x p = t) := ⟨_, rfl⟩
      have hte := ht.out
      unfold uptoP at hte
      rw [ht.out] at hst
      go_upto_region 5 with (go_at_call 81; refine (rbook hlr.out).mono ?_; rintro e w1 ⟨rfl, hB1⟩; rw [hbb.out])
      have hl1 := Lib.hid (hlr.out.after hB1)
      have hb1 := Lib.hid (hb.out.trans (hB1.mono hwr))
      have hown1 := Lib.hid (own_after hown.out hB1)
      have hw1 : sb ≤ w1.heap.size := Nat.le_trans hwr hB1.size
      obtain ⟨b, o, rfl, hb0, c0, c1, c2, c3, c4, c5, c6, c7⟩ := hl1.out.hs.post hp.out
      clear hB1 hlr hb hown
      cases t with
      | false =>
        go_wp2
        go_roundw
        case rel => exact ⟨j + 1, by omega, by go_num, hb1.out, by show World.ownsRow _ _ _ _ _ _ _; rw [hst.out, if_neg (by simp), List.append_nil]; exact hown1.out⟩
        case measure => simp [intOf]; omega
      | true =>
        have hE := Lib.hid (show Below w1.heap.size w1 (w1.alloc (.cells #[.int .i64 p.id, .int .i64 p.hour, .int .u8 p.kind, .int .i64 p.party, .int .i64 p.parcel, .int .i64 p.amount, .int .i64 p.reason, .int .i64 p.known] 36)) from (Below.refl _ _).alloc (Nat.le_refl _) _)
        have hone := Lib.hid (one_post w1 p)
        have how3 := Lib.hid (own_after hown1.out hE.out)
        go_wp2_with (at_builtin; refine list_append_kd kdPost rfl _ _ _ [p] 1 1 _ rfl rfl rfl sb _ _ how3.out _ rfl hone.out (fun ad h => by cases h; exact ⟨_, _, rfl⟩) (by omega) (by simp; omega) ?_; intro v3 w3 hown3 hgr3)
        have hB4 := (hb1.out.trans (hE.out.mono hw1)).grown hgr3 (by simp; omega) (own_far how3.out)
        go_roundw
        case rel =>
          refine ⟨j + 1, by omega, by go_num, hB4, ?_⟩
          show World.ownsRow _ _ _ _ _ _ _
          rw [hst.out, if_pos rfl, flat_app, List.length_append]
          exact hown3
        case measure => simp [intOf]; omega
    case neg =>
      obtain rfl : n = j := by omega
      have e : l.take n = l := by rw [hn.out]; exact List.take_length
      rw [e] at hown hll
      obtain ⟨av, cv, rfl⟩ := own_form hown.out
      have hres : Hid (RowR 36 8 pcells (someL (uptoP x) l) w (.returned (.slice av (l.filter (uptoP x)).length cv)) wr) :=
        ⟨by rw [hsb.out]; exact hb, av, cv, by rw [hq.out], by rw [hq.out, hsb.out]; exact hown.out⟩
      clear hown hb e hll
      go_wp2
      go_ret
      exact hres.out

set_option maxRecDepth 100000 in
set_option maxHeartbeats 4000000 in
theorem rOfParcel {l : List Post} {n cap : Nat} {ao : Option Addr} {B : Nat} {w : World} (h : LIn l n cap ao B w) (x : Int) :
    Calls Tryz.prog 39 #[.slice ao n cap, .int .i64 x] w (RowR 36 8 pcells (someL (ofParP x) l) w) := by
  have hn := Lib.hid h.hn
  have hmm := h.hm
  have hB := h.hB
  obtain ⟨bb, hbb⟩ : ∃ bb, Hid (bookB l = bb) := ⟨_, rfl⟩
  obtain ⟨sb, hsb⟩ : ∃ sb, Hid (w.heap.size = sb) := ⟨_, rfl⟩
  have hrefl : Below sb w w := by rw [← hsb.out]; exact Below.refl _ _
  rw [hsb.out] at hB
  replace h := Lib.hid h
  replace hrefl := Lib.hid hrefl
  have hsz : sb ≤ w.heap.size := by rw [hsb.out]; exact Nat.le_refl _
  cases bb with
  | false =>
    have hq := Lib.hid (someL_no (P := ofParP x) hbb.out)
    go_enter Tryz.func39, Tryz.ntmps39
    go_wp2
    go_loopw [5, 6] (fun v i wr => v = .slice none 0 0 ∧ i = .int .i64 0 ∧ wr = w) (fun _ _ _ => 0)
    case atStart => exact ⟨rfl, rfl, rfl⟩
    case round =>
      obtain ⟨rfl, rfl, rfl⟩ := hrel
      by_cases h0 : 0 < n
      · go_wp2_with (go_at_call 81; refine (rbook h.out).mono ?_; rintro e w1 ⟨rfl, hB1⟩; rw [hbb.out])
        go_ret
        exact ⟨hB1, none, 0, by rw [hq.out]; rfl, by rw [hq.out]; exact World.ownsRow_nil _ _ _ _⟩
      · have h00 : n = 0 := by omega
        subst h00
        clear h0
        go_wp2
        go_ret
        exact ⟨by rw [hsb.out]; exact hrefl.out, none, 0, by rw [hq.out]; rfl, by rw [hq.out]; exact World.ownsRow_nil _ _ _ _⟩
  | true =>
  have hq := Lib.hid (someL_book (P := ofParP x) hbb.out)
  have hlen : n ≤ 400 := by rw [hn.out]; exact Book.len (book_of_check (bookB_iff.1 hbb.out))
  go_enter Tryz.func39, Tryz.ntmps39
  go_wp2
  go_loopw [5, 6] (fun v i wr => ∃ j : Nat, j ≤ n ∧ i = .int .i64 j ∧ Below sb w wr ∧ Hid (wr.ownsRow sb 36 8 v ((l.take j).filter (ofParP x)).length (flat pcells ((l.take j).filter (ofParP x))))) (fun _ i _ => n - (intOf i).toNat)
  case atStart => exact ⟨0, Nat.zero_le _, rfl, hrefl.out, World.ownsRow_nil _ _ _ _⟩
  case round =>
    obtain ⟨j, hj, rfl, hb, hown⟩ := hrel
    have hlr := Lib.hid (h.out.below (hb.mono hB))
    have hwr : sb ≤ wr.heap.size := Nat.le_trans hsz hb.size
    have hll : ((l.take j).filter (ofParP x)).length ≤ 400 := by
      have h1 := List.length_filter_le (ofParP x) (l.take j); rw [List.length_take] at h1; omega
    by_cases hlt : j < n
    case pos =>
      obtain ⟨p, hp⟩ := getq (l := l) (j := j) (by rw [← hn.out]; exact hlt)
      have hst := filter_step (P := ofParP x) hp
      obtain ⟨L, hL⟩ : ∃ L, (l.take j).filter (ofParP x) = L := ⟨_, rfl⟩
      rw [hL] at hst hown hll
      replace hst := Lib.hid hst
      replace hp := Lib.hid hp
      replace hb := Lib.hid hb
      clear hL
      obtain ⟨t, ht⟩ : ∃ t, Hid (ofParP x p = t) := ⟨_, rfl⟩
      have hte := ht.out
      unfold ofParP at hte
      rw [ht.out] at hst
      go_upto_region 5 with (go_at_call 81; refine (rbook hlr.out).mono ?_; rintro e w1 ⟨rfl, hB1⟩; rw [hbb.out])
      have hl1 := Lib.hid (hlr.out.after hB1)
      have hb1 := Lib.hid (hb.out.trans (hB1.mono hwr))
      have hown1 := Lib.hid (own_after hown.out hB1)
      have hw1 : sb ≤ w1.heap.size := Nat.le_trans hwr hB1.size
      obtain ⟨b, o, rfl, hb0, c0, c1, c2, c3, c4, c5, c6, c7⟩ := hl1.out.hs.post hp.out
      clear hB1 hlr hb hown
      cases t with
      | false =>
        go_wp2
        go_roundw
        case rel => exact ⟨j + 1, by omega, by go_num, hb1.out, by show World.ownsRow _ _ _ _ _ _ _; rw [hst.out, if_neg (by simp), List.append_nil]; exact hown1.out⟩
        case measure => simp [intOf]; omega
      | true =>
        have hE := Lib.hid (show Below w1.heap.size w1 (w1.alloc (.cells #[.int .i64 p.id, .int .i64 p.hour, .int .u8 p.kind, .int .i64 p.party, .int .i64 p.parcel, .int .i64 p.amount, .int .i64 p.reason, .int .i64 p.known] 36)) from (Below.refl _ _).alloc (Nat.le_refl _) _)
        have hone := Lib.hid (one_post w1 p)
        have how3 := Lib.hid (own_after hown1.out hE.out)
        go_wp2_with (at_builtin; refine list_append_kd kdPost rfl _ _ _ [p] 1 1 _ rfl rfl rfl sb _ _ how3.out _ rfl hone.out (fun ad h => by cases h; exact ⟨_, _, rfl⟩) (by omega) (by simp; omega) ?_; intro v3 w3 hown3 hgr3)
        have hB4 := (hb1.out.trans (hE.out.mono hw1)).grown hgr3 (by simp; omega) (own_far how3.out)
        go_roundw
        case rel =>
          refine ⟨j + 1, by omega, by go_num, hB4, ?_⟩
          show World.ownsRow _ _ _ _ _ _ _
          rw [hst.out, if_pos rfl, flat_app, List.length_append]
          exact hown3
        case measure => simp [intOf]; omega
    case neg =>
      obtain rfl : n = j := by omega
      have e : l.take n = l := by rw [hn.out]; exact List.take_length
      rw [e] at hown hll
      obtain ⟨av, cv, rfl⟩ := own_form hown.out
      have hres : Hid (RowR 36 8 pcells (someL (ofParP x) l) w (.returned (.slice av (l.filter (ofParP x)).length cv)) wr) :=
        ⟨by rw [hsb.out]; exact hb, av, cv, by rw [hq.out], by rw [hq.out, hsb.out]; exact hown.out⟩
      clear hown hb e hll
      go_wp2
      go_ret
      exact hres.out

theorem holdOf_book {l : List Post} (h : Book l) (x : Int) (k : Nat) : holdOf l x k = if 0 < Pu.has l k x then some ⟨k, x, Pu.has l k x⟩ else none := by
  have := (Book.has_le h k x).1
  unfold holdOf
  by_cases e : Pu.has l k x = 0
  · rw [if_pos e, if_neg (by omega)]
  · rw [if_neg e, if_pos (by omega)]
/-- what parties have for a parcel of a book -/
def holdQ (l : List Post) (x : Int) : List Due := if (check l).2 = 0 then holdL l x else []
theorem holdQ_book {l : List Post} {x : Int} (h : bookB l = true) : holdQ l x = holdL l x := by unfold holdQ; rw [if_pos (bookB_iff.1 h)]
theorem holdQ_no {l : List Post} {x : Int} (h : bookB l = false) : holdQ l x = [] := by
  unfold holdQ; rw [if_neg]; intro hc; rw [bookB_iff.2 hc] at h; cases h

set_option maxRecDepth 100000 in
set_option maxHeartbeats 4000000 in
theorem rHolders {l : List Post} {n cap : Nat} {ao : Option Addr} {B : Nat} {w : World} (h : LIn l n cap ao B w) (x : Int) :
    Calls Tryz.prog 27 #[.slice ao n cap, .int .i64 x] w (RowR 63 3 dcells (holdQ l x) w) := by
  have hn := Lib.hid h.hn
  have hmm := h.hm
  have hB := h.hB
  obtain ⟨bb, hbb⟩ : ∃ bb, Hid (bookB l = bb) := ⟨_, rfl⟩
  obtain ⟨sb, hsb⟩ : ∃ sb, Hid (w.heap.size = sb) := ⟨_, rfl⟩
  have hrefl : Below sb w w := by rw [← hsb.out]; exact Below.refl _ _
  rw [hsb.out] at hB
  replace h := Lib.hid h
  replace hrefl := Lib.hid hrefl
  have hsz : sb ≤ w.heap.size := by rw [hsb.out]; exact Nat.le_refl _
  cases bb with
  | false =>
    have hq := Lib.hid (holdQ_no (x := x) hbb.out)
    go_enter Tryz.func27, Tryz.ntmps27
    go_wp2
    go_loopw [5, 6] (fun v i wr => v = .slice none 0 0 ∧ i = .int .i64 0 ∧ wr = w) (fun _ _ _ => 0)
    case atStart => exact ⟨rfl, rfl, rfl⟩
    case round =>
      obtain ⟨rfl, rfl, rfl⟩ := hrel
      go_wp2_with (go_at_call 81; refine (rbook h.out).mono ?_; rintro e w1 ⟨rfl, hB1⟩; rw [hbb.out])
      go_ret
      exact ⟨hB1, none, 0, by rw [hq.out]; rfl, by rw [hq.out]; exact World.ownsRow_nil _ _ _ _⟩
  | true =>
  have hq := Lib.hid (holdQ_book (x := x) hbb.out)
  have hbk := Lib.hid (book_of_check (bookB_iff.1 hbb.out))
  have ham := Lib.hid (Book.amtOk hbk.out)
  go_enter Tryz.func27, Tryz.ntmps27
  go_wp2
  go_loopw [5, 6] (fun v i wr => ∃ j : Nat, j ≤ 41 ∧ i = .int .i64 j ∧ Below sb w wr ∧ Hid (wr.ownsRow sb 63 3 v ((List.range j).filterMap (holdOf l x)).length (flat dcells ((List.range j).filterMap (holdOf l x))))) (fun _ i _ => 41 - (intOf i).toNat)
  case atStart => exact ⟨0, Nat.zero_le _, rfl, hrefl.out, World.ownsRow_nil _ _ _ _⟩
  case round =>
    obtain ⟨j, hj, rfl, hb, hown⟩ := hrel
    have hlr := Lib.hid (h.out.below (hb.mono hB))
    have hwr : sb ≤ wr.heap.size := Nat.le_trans hsz hb.size
    have hll : ((List.range j).filterMap (holdOf l x)).length ≤ 41 := by
      have h1 := List.length_filterMap_le (holdOf l x) (List.range j); rw [List.length_range] at h1; omega
    by_cases hlt : j < 41
    case pos =>
      have hst := range_step (holdOf l x) j
      rw [holdOf_book hbk.out] at hst
      have hvb := Book.has_le hbk.out (j : Int) x
      obtain ⟨hv, hhv⟩ : ∃ hv, Hid (Pu.has l (j : Int) x = hv) := ⟨_, rfl⟩
      rw [hhv.out] at hst hvb
      obtain ⟨L, hL⟩ : ∃ L, (List.range j).filterMap (holdOf l x) = L := ⟨_, rfl⟩
      rw [hL] at hst hown hll
      replace hst := Lib.hid hst
      replace hb := Lib.hid hb
      clear hL
      go_upto_region 6 with (first
        | (go_at_call 81; refine (rbook hlr.out).mono ?_; rintro e w1 ⟨rfl, hB1⟩; rw [hbb.out]
           have hl1 := Lib.hid (hlr.out.after hB1)
           have hb1 := Lib.hid (hb.out.trans (hB1.mono hwr))
           have hown1 := Lib.hid (own_after hown.out hB1)
           have hw1 : sb ≤ w1.heap.size := Nat.le_trans hwr hB1.size
           clear hB1 hlr hb hown)
        | (go_at_call 71; refine (rhas l n cap (j : Int) x ao B w1 hn hmm hl1.out.hs ham.out).mono ?_; rintro e w2 ⟨rfl, rfl⟩; rw [hhv.out]))
      by_cases hpos : 0 < hv
      case neg =>
        go_wp2
        go_roundw
        case rel => exact ⟨j + 1, by omega, by go_num, hb1.out, by show World.ownsRow _ _ _ _ _ _ _; rw [hst.out, if_neg hpos]; simp only [Option.toList, List.append_nil]; exact hown1.out⟩
        case measure => simp [intOf]; omega
      case pos =>
        have hE := Lib.hid (show Below w1.heap.size w1 (w1.alloc (.cells #[.int .i64 (j : Int), .int .i64 x, .int .i64 hv] 63)) from (Below.refl _ _).alloc (Nat.le_refl _) _)
        have hone := Lib.hid (one_due w1 ⟨j, x, hv⟩)
        have how3 := Lib.hid (own_after hown1.out hE.out)
        go_wp2_with (at_builtin; refine list_append_kd kdDue rfl _ _ _ [⟨j, x, hv⟩] 1 1 _ rfl rfl rfl sb _ _ how3.out _ rfl hone.out (fun ad h => by cases h; exact ⟨_, _, rfl⟩) (by omega) (by simp; omega) ?_; intro v3 w3 hown3 hgr3)
        have hB4 := (hb1.out.trans (hE.out.mono hw1)).grown hgr3 (by simp; omega) (own_far how3.out)
        go_roundw
        case rel =>
          refine ⟨j + 1, by omega, by go_num, hB4, ?_⟩
          show World.ownsRow _ _ _ _ _ _ _
          rw [hst.out, if_pos hpos, flat_app, List.length_append]
          exact hown3
        case measure => simp [intOf]; omega
    case neg =>
      obtain rfl : j = 41 := by omega
      obtain ⟨av, cv, rfl⟩ := own_form hown.out
      have hres : Hid (RowR 63 3 dcells (holdQ l x) w (.returned (.slice av ((List.range 41).filterMap (holdOf l x)).length cv)) wr) :=
        ⟨by rw [hsb.out]; exact hb, av, cv, by rw [hq.out]; rfl, by rw [hq.out, hsb.out]; exact hown.out⟩
      clear hown hb hll
      go_wp2
      go_ret
      exact hres.out

def reasP (who what : Int) (p : Post) : Bool := (p.kind != 1) && (p.party == who) && (p.parcel == what)
/-- the reasons of the payments and clawbacks of a party for a parcel -/
def reasL (l : List Post) (who what : Int) : List Int := (l.filter (reasP who what)).map (·.reason)
def reasQ (l : List Post) (who what : Int) : List Int := if askCode l what who = 0 then reasL l who what else []

set_option maxRecDepth 100000 in
set_option maxHeartbeats 4000000 in
theorem rReasons {l : List Post} {n cap : Nat} {ao : Option Addr} {B : Nat} {w : World} (h : LIn l n cap ao B w) (who what : Int) :
    Calls Tryz.prog 16 #[.slice ao n cap, .int .i64 who, .int .i64 what] w (RowE 3 1 icells (reasQ l who what) (askCode l what who) w) := by
  have hn := Lib.hid h.hn
  have hmm := h.hm
  have hB := h.hB
  obtain ⟨ac, hac⟩ : ∃ ac, Hid (askCode l what who = ac) := ⟨_, rfl⟩
  obtain ⟨sb, hsb⟩ : ∃ sb, Hid (w.heap.size = sb) := ⟨_, rfl⟩
  rw [hsb.out] at hB
  replace h := Lib.hid h
  have hsz : sb ≤ w.heap.size := by rw [hsb.out]; exact Nat.le_refl _
  go_enter Tryz.func16, Tryz.ntmps16
  go_wp2_with (fail)
  go_at_call 76
  refine (rasked h.out who what).mono ?_
  rintro e w1 ⟨rfl, hB1⟩
  rw [hac.out]
  have hl1 := Lib.hid (h.out.after hB1)
  rw [hsb.out] at hB1
  have hsz1 := hB1.size
  replace hB1 := Lib.hid hB1
  by_cases h0 : ac = 0
  case neg =>
    have hq : Hid (reasQ l who what = []) := by show _ = _; unfold reasQ; rw [if_neg (by rw [hac.out]; exact h0)]
    have hne : (ac == 0) = false := by simpa using h0
    replace h0 := Lib.hid h0
    go_wp2
    go_loopw [9, 10] (fun v i wr => v = .slice none 0 0 ∧ i = .int .i64 0 ∧ wr = w1) (fun _ _ _ => 0)
    case atStart => exact ⟨rfl, rfl, rfl⟩
    case round =>
      obtain ⟨rfl, rfl, rfl⟩ := hrel
      by_cases hn0 : 0 < n
      all_goals
        go_wp2
        go_ret2
        exact ⟨by rw [hsb.out]; exact hB1.out, none, 0, by rw [hq.out, hac.out]; rfl, by rw [hq.out]; exact World.ownsRow_nil _ _ _ _⟩
  case pos =>
  have hq : Hid (reasQ l who what = reasL l who what) := by show _ = _; unfold reasQ; rw [if_pos (by rw [hac.out]; exact h0)]
  have hbk := Lib.hid (ask_book (hac.out.trans h0))
  have hlen : n ≤ 400 := by rw [hn.out]; exact Book.len hbk.out
  subst h0
  go_wp2
  go_loopw [9, 10] (fun v i wr => ∃ j : Nat, j ≤ n ∧ i = .int .i64 j ∧ Below sb w wr ∧ Hid (wr.ownsRow sb 3 1 v (reasL (l.take j) who what).length (flat icells (reasL (l.take j) who what)))) (fun _ i _ => n - (intOf i).toNat)
  case atStart => exact ⟨0, Nat.zero_le _, rfl, hB1.out, World.ownsRow_nil _ _ _ _⟩
  case round =>
    obtain ⟨j, hj, rfl, hb, hown⟩ := hrel
    have hlr := Lib.hid (h.out.below (hb.mono hB))
    have hwr : sb ≤ wr.heap.size := Nat.le_trans hsz hb.size
    have hll : (reasL (l.take j) who what).length ≤ 400 := by
      unfold reasL
      rw [List.length_map]
      have h1 := List.length_filter_le (reasP who what) (l.take j); rw [List.length_take] at h1; omega
    by_cases hlt : j < n
    case pos =>
      obtain ⟨p, hp⟩ := getq (l := l) (j := j) (by rw [← hn.out]; exact hlt)
      have hst : reasL (l.take (j + 1)) who what = reasL (l.take j) who what ++ if reasP who what p then [p.reason] else [] := by
        unfold reasL; rw [filter_step hp, List.map_append]; cases reasP who what p <;> rfl
      obtain ⟨L, hL⟩ : ∃ L, reasL (l.take j) who what = L := ⟨_, rfl⟩
      rw [hL] at hst hown hll
      obtain ⟨b, o, rfl, hb0, c0, c1, c2, c3, c4, c5, c6, c7⟩ := hlr.out.hs.post hp
      obtain ⟨t1, ht1⟩ : ∃ t, (p.kind != 1) = t := ⟨_, rfl⟩
      obtain ⟨t2, ht2⟩ : ∃ t, (p.party == who) = t := ⟨_, rfl⟩
      obtain ⟨t3, ht3⟩ : ∃ t, (p.parcel == what) = t := ⟨_, rfl⟩
      have hrp : reasP who what p = (t1 && t2 && t3) := by unfold reasP; rw [ht1, ht2, ht3]
      rw [hrp] at hst
      replace hst := Lib.hid hst
      replace hb := Lib.hid hb
      clear hL hp hlr hrp
      have hcs : (t1 && t2 && t3) = true ∨ (t1 && t2 && t3) = false := by cases (t1 && t2 && t3) <;> simp
      rcases hcs with ht | ht
      · simp only [Bool.and_eq_true] at ht
        obtain ⟨⟨rfl, rfl⟩, rfl⟩ := ht
        have hE := Lib.hid (show Below wr.heap.size wr (wr.alloc (.cells #[.int .i64 p.reason] 3)) from (Below.refl _ _).alloc (Nat.le_refl _) _)
        have hone := Lib.hid (one_int wr p.reason)
        have how3 := Lib.hid (own_after hown.out hE.out)
        go_wp2_with (at_builtin; refine list_append_kd kdInt rfl _ _ _ [p.reason] 1 1 _ rfl rfl rfl sb _ _ how3.out _ rfl hone.out (fun ad h => by cases h; exact ⟨_, _, rfl⟩) (by omega) (by simp; omega) ?_; intro v3 w3 hown3 hgr3)
        have hB4 := (hb.out.trans (hE.out.mono hwr)).grown hgr3 (by simp; omega) (own_far how3.out)
        go_roundw
        case rel =>
          refine ⟨j + 1, by omega, by go_num, hB4, ?_⟩
          show World.ownsRow _ _ _ _ _ _ _
          rw [hst.out]
          simp only [Bool.and_true, if_pos]
          rw [flat_app, List.length_append]
          exact hown3
        case measure => simp [intOf]; omega
      · have hst0 : Hid (reasL (l.take (j + 1)) who what = L) := by show _ = _; rw [hst.out, ht, if_neg (by simp), List.append_nil]
        have hcs : t1 = false ∨ (t1 = true ∧ t2 = false) ∨ (t1 = true ∧ t2 = true ∧ t3 = false) := by cases t1 <;> cases t2 <;> cases t3 <;> simp_all
        clear ht hst
        rcases hcs with rfl | ⟨rfl, rfl⟩ | ⟨rfl, rfl, rfl⟩
        all_goals
          go_wp2
          go_roundw
          case rel => exact ⟨j + 1, by omega, by go_num, hb.out, by show World.ownsRow _ _ _ _ _ _ _; rw [hst0.out]; exact hown.out⟩
          case measure => simp [intOf]; omega
    case neg =>
      obtain rfl : n = j := by omega
      have e : l.take n = l := by rw [hn.out]; exact List.take_length
      rw [e] at hown hll
      obtain ⟨av, cv, rfl⟩ := own_form hown.out
      have hres : Hid (RowE 3 1 icells (reasQ l who what) (askCode l what who) w (.returned (.tuple #[.slice av (reasL l who what).length cv, .int .i64 0])) wr) :=
        ⟨by rw [hsb.out]; exact hb, av, cv, by rw [hq.out, hac.out], by rw [hq.out, hsb.out]; exact hown.out⟩
      clear hown hb e hll hlr
      go_wp2
      go_ret2
      exact hres.out
end Go.Proofs.YtoijlikmigejbaaGreat
