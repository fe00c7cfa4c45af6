/- Walk: Settle. -/
import Derived.Test.YtoijlikmigejbaaGreatG14
import Derived.Maps.RangeWalk
import Derived.Test.YtoijlikmigejbaaGreatG01
namespace Go.Proofs.YtoijlikmigejbaaGreat
open Go.RowKit Go.Proofs.YtoijlikmigejbaaGreat.Pu

theorem two_boxes (w : World) (v1 v2 : Value) (t1 t2 : TypeId) : Boxed ((w.alloc (.cells #[v1] t1)).alloc (.cells #[v2] t2)) w.heap.size t1 v1 ∧ Boxed ((w.alloc (.cells #[v1] t1)).alloc (.cells #[v2] t2)) (w.heap.size + 1) t2 v2 ∧
    ((w.alloc (.cells #[v1] t1)).alloc (.cells #[v2] t2)).heap.size = w.heap.size + 2 := by
  refine ⟨(Boxed.new w t1 v1).alloc _, ?_, by simp⟩
  have := Boxed.new (w.alloc (.cells #[v1] t1)) t2 v2
  rwa [show (w.alloc (.cells #[v1] t1)).heap.size = w.heap.size + 1 by simp] at this
theorem boxed_below {w w' : World} {b M : Nat} {t : TypeId} {v : Value} (h : Boxed w b t v) (hB : Below M w w') (hb : b < M) : Boxed w' b t v := (hB.block b hb).trans h

/-- the first part: what may be wrong -/
structure SetIn (l : List Post) (d : List Due) (cs : List Cause) (hour : Int) (n cap n2 cap2 n3 cap3 : Nat) (ao ao2 ao3 : Option Addr) (B : Nat) (w : World) : Prop where
  l : LIn l n cap ao B w
  d : DIn d n2 cap2 ao2 B w
  c : CIn cs n3 cap3 ao3 B w

theorem foldl_take {α β : Type} {f : β → α → β} {s : β} {l : List α} {j : Nat} {x : α} (h : l[j]? = some x) : (l.take (j + 1)).foldl f s = f ((l.take j).foldl f s) x := by
  rw [take_snoc h, List.foldl_append]; rfl
theorem chkL_all {α : Type} {ok : α → Bool} {lt : α → α → Bool} {l : List α} (h : chkL ok lt l = 0) : ∀ i, i < l.length → okAt ok lt l i = true := by
  unfold chkL at h
  split at h
  · omega
  · split at h
    · rename_i h2
      intro i hi
      exact List.all_eq_true.1 h2 i (List.mem_range.2 hi)
    · omega
theorem chkL_ok {α : Type} {ok : α → Bool} {lt : α → α → Bool} {l : List α} (h : chkL ok lt l = 0) : ∀ x ∈ l, ok x = true := by
  intro x hx
  obtain ⟨i, hi, rfl⟩ := List.getElem_of_mem hx
  have := chkL_all h i hi
  unfold okAt at this
  rw [List.getElem?_eq_getElem hi] at this
  simp only [Bool.and_eq_true] at this
  exact this.1
theorem chkL_len {α : Type} {ok : α → Bool} {lt : α → α → Bool} {l : List α} (h : chkL ok lt l = 0) : l.length ≤ 400 := by
  unfold chkL at h
  split at h <;> omega
theorem okD_amount {d : List Due} (h : chkL okD ltD d = 0) : ∀ x ∈ d, 0 ≤ x.amount ∧ x.amount ≤ 1000000000 := fun x hx => by
  have := chkL_ok h x hx
  simp only [okD, inB, Bool.and_eq_true, decide_eq_true_eq] at this
  omega
section codes
variable {l : List Post} {d : List Due} {cs : List Cause} {hour : Int}
theorem code1 (h : (check l).2 ≠ 0) : settleCode l d cs hour = (check l).2 := by unfold settleCode; rw [if_pos h]
theorem code2 (h : (check l).2 = 0) (h2 : inB hour 0 1000000 = false) : settleCode l d cs hour = 1 := by unfold settleCode; rw [if_neg (by omega), if_pos h2]
theorem code3 (h : (check l).2 = 0) (h2 : inB hour 0 1000000 = true) (h3 : chkL okD ltD d ≠ 0) : settleCode l d cs hour = chkL okD ltD d := by unfold settleCode; rw [if_neg (by omega), if_neg (by rw [h2]; simp), if_pos h3]
theorem code4 (h : (check l).2 = 0) (h2 : inB hour 0 1000000 = true) (h3 : chkL okD ltD d = 0) (h4 : chkL okC ltC cs ≠ 0) : settleCode l d cs hour = chkL okC ltC cs := by
  unfold settleCode; rw [if_neg (by omega), if_neg (by rw [h2]; simp), if_neg (by omega), if_pos h4]
theorem code5 (h : (check l).2 = 0) (h2 : inB hour 0 1000000 = true) (h3 : chkL okD ltD d = 0) (h4 : chkL okC ltC cs = 0) (h5 : hour < lastHour l) : settleCode l d cs hour = 7 := by
  unfold settleCode; rw [if_neg (by omega), if_neg (by rw [h2]; simp), if_neg (by omega), if_neg (by omega), if_pos h5]
theorem code6 (h : (check l).2 = 0) (h2 : inB hour 0 1000000 = true) (h3 : chkL okD ltD d = 0) (h4 : chkL okC ltC cs = 0) (h5 : ¬ hour < lastHour l) :
    settleCode l d cs hour = if 400 < l.length + (settleOut l d cs hour).length ∨ (0 < (settleOut l d cs hour).length ∧ 1000000 < maxId l + (settleOut l d cs hour).length) then 2 else 0 := by
  unfold settleCode; rw [if_neg (by omega), if_neg (by rw [h2]; simp), if_neg (by omega), if_neg (by omega), if_neg h5]
end codes
/-- a chest of a book, in memory -/
def Opened (l : List Post) (N : Nat) (c : CS) (w : World) : Prop := CInv c l ∧ Book l ∧ ChestAt w N c
theorem Opened.after {l : List Post} {N : Nat} {c : CS} {w w' : World} (h : Opened l N c w) (hB : Below w.heap.size w w') : Opened l N c w' := ⟨h.1, h.2.1, h.2.2.below hB h.2.2.lt⟩

/-- what stays through Settle -/
structure SetW (l : List Post) (d : List Due) (cs : List Cause) (hour : Int) (n2 cap2 n3 cap3 : Nat) (ao2 ao3 : Option Addr) (B mb N : Nat) (c : CS) (w0 w : World) : Prop where
  o : Opened l N c w
  b : Below mb w0 w
  y1 : Boxed w mb 24 (.slice ao3 n3 cap3)
  y2 : Boxed w (mb + 1) 3 (.int .i64 hour)
  d : DIn d n2 cap2 ao2 B w
  c : CIn cs n3 cap3 ao3 B w
theorem SetW.after {l : List Post} {d : List Due} {cs : List Cause} {hour : Int} {n2 cap2 n3 cap3 : Nat} {ao2 ao3 : Option Addr} {B mb N : Nat} {c : CS} {w0 w w' : World} (h : SetW l d cs hour n2 cap2 n3 cap3 ao2 ao3 B mb N c w0 w) (hB : Below w.heap.size w w') :
    SetW l d cs hour n2 cap2 n3 cap3 ao2 ao3 B mb N c w0 w' :=
  ⟨h.o.after hB, h.b.trans (hB.mono (Nat.le_of_lt h.y1.lt)), boxed_below h.y1 hB h.y1.lt, boxed_below h.y2 hB h.y2.lt, h.d.after hB, h.c.after hB⟩
theorem SetW.upto {l : List Post} {d : List Due} {cs : List Cause} {hour : Int} {n2 cap2 n3 cap3 : Nat} {ao2 ao3 : Option Addr} {B mb N : Nat} {c : CS} {w0 w w' : World} (h : SetW l d cs hour n2 cap2 n3 cap3 ao2 ao3 B mb N c w0 w) {M : Nat} (hB : Below M w w') (hN : N + 5 < M) (hmN : mb + 2 ≤ N) (hBm : B ≤ mb) :
    SetW l d cs hour n2 cap2 n3 cap3 ao2 ao3 B mb N c w0 w' :=
  ⟨⟨h.o.1, h.o.2.1, h.o.2.2.below hB hN⟩, h.b.trans (hB.mono (by omega)), boxed_below h.y1 hB (by omega), boxed_below h.y2 hB (by omega), h.d.below (hB.mono (by omega)), h.c.below (hB.mono (by omega))⟩

/-- a round of the settling: the due x lies in its box -/
structure Rd (l : List Post) (d : List Due) (cs : List Cause) (hour : Int) (n2 cap2 n3 cap3 : Nat) (ao2 ao3 : Option Addr) (B mb N : Nat) (c : CS) (w0 ws : World) (bi bo : Nat) (ob : Option Nat) (out : List Post) (x : Due) (xb : Nat) (v : Value) (w : World) : Prop where
  S : SetW l d cs hour n2 cap2 n3 cap3 ao2 ao3 B mb N c w0 w
  st : SetSt ws bi bo (bo + 1) mb ob l out out w
  X : WBox w xb x.party x.parcel x.amount
  vb : Boxed w bo 22 v
  vo : w.ownsRow mb 36 8 v out.length (flat pcells out)
section rd
variable {l : List Post} {d : List Due} {cs : List Cause} {hour : Int} {n2 cap2 n3 cap3 : Nat} {ao2 ao3 : Option Addr} {B mb N : Nat} {c : CS} {w0 ws : World} {bi bo : Nat} {ob : Option Nat} {out : List Post} {x : Due} {xb : Nat} {v : Value} {w w' : World}
theorem Rd.after (h : Rd l d cs hour n2 cap2 n3 cap3 ao2 ao3 B mb N c w0 ws bi bo ob out x xb v w) (hB : Below w.heap.size w w') : Rd l d cs hour n2 cap2 n3 cap3 ao2 ao3 B mb N c w0 ws bi bo ob out x xb v w' :=
  ⟨h.S.after hB, h.st.after hB, h.X.below hB h.X.box.lt, boxed_below h.vb hB h.vb.lt, own_after h.vo hB⟩
theorem Rd.start (hS : SetW l d cs hour n2 cap2 n3 cap3 ao2 ao3 B mb N c w0 w) (hst : SetSt ws bi bo (bo + 1) mb ob l out out w) (x : Due) :
    ∃ v, Rd l d cs hour n2 cap2 n3 cap3 ao2 ao3 B mb N c w0 ws bi bo ob out x w.heap.size v (w.alloc (.cells #[.int .i64 x.party, .int .i64 x.parcel, .int .i64 x.amount] 63)) ∧ ∀ k, v.ownBlock = some k → k < w.heap.size := by
  have hB : Below w.heap.size w (w.alloc (.cells #[.int .i64 x.party, .int .i64 x.parcel, .int .i64 x.amount] 63)) := (Below.refl _ _).alloc (Nat.le_refl _) _
  obtain ⟨v, h1, h2, h3⟩ := hst.out
  exact ⟨v, ⟨hS.after hB, hst.after hB, WBox.new .., boxed_below h1 hB h1.lt, own_after h2 hB⟩, fun k hk => (h2.lt k hk).2⟩
theorem Rd.begin (hS : SetW l d cs hour n2 cap2 n3 cap3 ao2 ao3 B mb N c w0 w) (hst : SetSt ws bi bo (bo + 1) mb ob l out out w) :
    ∃ v, (∀ k, v.ownBlock = some k → k < w.heap.size) ∧ (v.ownBlock = ob ∨ ∃ g, v.ownBlock = some g ∧ ws.heap.size ≤ g) ∧
      ∀ (w' : World) (x : Due) (xb : Nat), Below w.heap.size w w' → WBox w' xb x.party x.parcel x.amount → Rd l d cs hour n2 cap2 n3 cap3 ao2 ao3 B mb N c w0 ws bi bo ob out x xb v w' := by
  obtain ⟨v, h1, h2, h3⟩ := hst.out
  exact ⟨v, fun k hk => (h2.lt k hk).2, h3, fun w' x xb hB hX => ⟨hS.after hB, hst.after hB, hX, boxed_below h1 hB h1.lt, own_after h2 hB⟩⟩
theorem Rd.posted (h : Rd l d cs hour n2 cap2 n3 cap3 ao2 ao3 B mb N c w0 ws bi bo ob out x xb v w) {p : Post} {e : Ending} (hp : PostRes bi bo mb (maxId l + out.length) v out p w e w') (hN1 : mb + 2 ≤ N) (hNl : N + 5 < bi) (hbo : bi + 2 ≤ bo) (hxb : bo + 2 ≤ xb) (hBm : B ≤ mb)
    (hv : ∀ k, v.ownBlock = some k → k < xb) (hob : ∀ k, v.ownBlock = some k → bo < k) :
    e = .returned (.tuple #[]) ∧ SetSt ws bi bo (bo + 1) mb ob l (out ++ [p]) out w' ∧ SetW l d cs hour n2 cap2 n3 cap3 ao2 ao3 B mb N c w0 w' ∧ WBox w' xb x.party x.parcel x.amount := by
  obtain ⟨h1, h2⟩ := h.st.posted (by omega) (by omega) h.vb hp
  have hk := hp.2.2.2
  have hkB : Below bi w w' := hk.below (by have := h.vb.lt; omega) (by rintro k (e | e | e) <;> first | omega | (have := hob k e.symm; omega))
  have hnx : ¬ (xb = bi ∨ xb = bo ∨ some xb = v.ownBlock) := by
    rintro (e | e | e)
    · omega
    · omega
    · have := hv xb e.symm; omega
  refine ⟨h1, h2, h.S.upto hkB (by omega) hN1 hBm, h.X.box.kept hk hnx, fun i => ?_⟩
  exact (World.frozen?_of_block (hk.block xb h.X.box.lt hnx)).trans (h.X.fz i)
theorem Rd.five (h : Rd l d cs hour n2 cap2 n3 cap3 ao2 ao3 B mb N c w0 ws bi bo ob out x xb v w) {yb : Nat} {y : Cause} (hY : TBox w yb y.parcel y.reason y.known) :
    w.cell? ⟨yb, 2, none⟩ = some (.int .i64 y.known) ∧ w.cell? ⟨xb, 0, none⟩ = some (.int .i64 x.party) ∧ w.cell? ⟨xb, 1, none⟩ = some (.int .i64 x.parcel) ∧ w.cell? ⟨xb, 2, none⟩ = some (.int .i64 x.amount) ∧
      w.cell? ⟨N + 5, 6, none⟩ = some (.map (some (N + 4))) := ⟨hY.c2, h.X.box.c0, h.X.box.c1, h.X.box.c2, h.S.o.2.2.c6⟩
theorem Rd.lastOf (h : Rd l d cs hour n2 cap2 n3 cap3 ao2 ao3 B mb N c w0 ws bi bo ob out x xb v w) : (c.lastOf x.parcel x.party).known = lastK l x := by
  unfold CS.lastOf lastK; rw [h.S.o.1.last]
end rd

set_option maxRecDepth 100000 in
set_option maxHeartbeats 8000000 in
theorem pSettle {l : List Post} {d : List Due} {cs : List Cause} {n cap n2 cap2 n3 cap3 : Nat} {ao ao2 ao3 : Option Addr} {B : Nat} {w : World} (hour : Int) (h : SetIn l d cs hour n cap n2 cap2 n3 cap3 ao ao2 ao3 B w) :
    Calls Tryz.prog 12 #[.slice ao n cap, .slice ao2 n2 cap2, .slice ao3 n3 cap3, .int .i64 hour] w (SettleRes l d cs hour w) := by
  have hmf : ∀ (fn : Fn) (first cap : Array Value) (w : World), (Instr.makeFunc fn first cap).run Tryz.prog w = .ok (.func fn first cap) w := fun _ _ _ _ => rfl
  obtain ⟨hl, hd, hc⟩ := h
  have hBm := hl.hB
  have Hn := Lib.hid hl.hn
  obtain ⟨hx1, hx2, hx3⟩ := two_boxes w (.slice ao3 n3 cap3) (.int .i64 hour) 24 3
  have hB0 : Below w.heap.size w ((w.alloc (.cells #[.slice ao3 n3 cap3] 24)).alloc (.cells #[.int .i64 hour] 3)) := ((Below.refl _ _).alloc (Nat.le_refl _) _).alloc (by simp) _
  obtain ⟨W0, hW0⟩ : ∃ W0, (w.alloc (.cells #[.slice ao3 n3 cap3] 24)).alloc (.cells #[.int .i64 hour] 3) = W0 := ⟨_, rfl⟩
  rw [hW0] at hx1 hx2 hx3 hB0
  have hl0 := hl.after hB0
  have hd0 := Lib.hid (hd.after hB0)
  have hc0 := Lib.hid (hc.after hB0)
  obtain ⟨mb, hmb⟩ : ∃ mb, w.heap.size = mb := ⟨_, rfl⟩
  rw [hmb] at hx1 hx2 hx3 hB0 hBm
  replace hB0 := Lib.hid hB0
  replace hx1 := Lib.hid hx1
  replace hx2 := Lib.hid hx2
  replace hl0 := Lib.hid hl0
  clear hl hd hc
  go_enter Tryz.func12, Tryz.ntmps12
  go_wp2_with (fail)
  go_at_call 56
  refine hl0.out.opened.mono ?_
  rintro e w1 ⟨hB1, ⟨hbook, N, c, rfl, hN, hI, hC⟩ | ⟨hnb, hne, rfl⟩⟩
  case inr =>
    have hcode := code1 (d := d) (cs := cs) (hour := hour) hne
    obtain ⟨i, hi⟩ : ∃ i, (check l).1 = i := ⟨_, rfl⟩
    obtain ⟨r, hr⟩ : ∃ r, (check l).2 = r := ⟨_, rfl⟩
    rw [hr] at hcode hne
    rw [hi, hr]
    have hne2 : (r != 0) = true := by simp [hne]
    replace hB1 := Lib.hid (hB0.out.trans (hB1.mono (by omega)))
    replace hcode := Lib.hid hcode
    replace hne := Lib.hid hne
    clear hi hr hnb hW0
    go_wp2
    go_ret2
    exact SettleRes.no (by rw [hmb]; exact hB1.out) hcode.out hne.out
  case inl =>
  replace hmb := Lib.hid hmb
  have hck : Hid ((check l).2 = 0) := by show _ = _; rw [check_book hbook]
  have hN1 : mb + 2 ≤ N := by omega
  have hNl := hC.lt
  have hS1 := Lib.hid (show SetW l d cs hour n2 cap2 n3 cap3 ao2 ao3 B mb N c w w1 from ⟨⟨hI, hbook, hC⟩, hB0.out.trans (hB1.mono (by omega)), boxed_below hx1.out hB1 (by omega), boxed_below hx2.out hB1 (by omega), hd0.out.after hB1, hc0.out.after hB1⟩)
  have z1 := hS1.out.y1.cell
  have z2 := hS1.out.y2.cell
  clear hbook hI hC hN hB1 hx1 hx2 hd0 hc0 hW0 hB0
  cases hh : inB hour 0 1000000 with
  | false =>
    have hcode := Lib.hid (code2 (d := d) (cs := cs) hck.out hh)
    go_wp2_with (go_at_call 57; refine (pin _ _ _ _).mono ?_; rintro e w2 ⟨rfl, rfl⟩)
    go_ret2
    exact SettleRes.no (by rw [hmb.out]; exact hS1.out.b) hcode.out (by omega)
  | true =>
  go_wp2_with (go_at_call 57; refine (pin _ _ _ _).mono ?_; rintro e w2 ⟨rfl, rfl⟩)
  replace hh := Lib.hid hh
  go_at_call 41
  refine (pCheckDues hS1.out.d).mono ?_
  rintro e w2 ⟨rfl, hB2⟩
  have hS2 := Lib.hid (hS1.out.after hB2)
  replace z1 := hS2.out.y1.cell
  replace z2 := hS2.out.y2.cell
  have hNl2 := hS2.out.o.2.2.lt
  clear hB2 hS1 hNl
  by_cases h3 : chkL okD ltD d = 0
  case neg =>
    have hcode := Lib.hid (code3 (cs := cs) hck.out hh.out h3)
    obtain ⟨r, hr⟩ : ∃ r, chkL okD ltD d = r := ⟨_, rfl⟩
    rw [hr] at hcode h3 ⊢
    have hne2 : (r != 0) = true := by simp [h3]
    replace h3 := Lib.hid h3
    clear hr
    go_wp2
    go_ret2
    exact SettleRes.no (by rw [hmb.out]; exact hS2.out.b) hcode.out h3.out
  case pos =>
  rw [h3]
  replace h3 := Lib.hid h3
  go_wp2_with (fail)
  go_at_call 43
  refine (pCheckCauses hS2.out.c).mono ?_
  rintro e w3 ⟨rfl, hB3⟩
  have hS3 := Lib.hid (hS2.out.after hB3)
  replace z1 := hS3.out.y1.cell
  replace z2 := hS3.out.y2.cell
  have hNl3 := hS3.out.o.2.2.lt
  clear hB3 hS2 hNl2
  by_cases h4 : chkL okC ltC cs = 0
  case neg =>
    have hcode := Lib.hid (code4 hck.out hh.out h3.out h4)
    obtain ⟨r, hr⟩ : ∃ r, chkL okC ltC cs = r := ⟨_, rfl⟩
    rw [hr] at hcode h4 ⊢
    have hne2 : (r != 0) = true := by simp [h4]
    replace h4 := Lib.hid h4
    clear hr
    go_wp2
    go_ret2
    exact SettleRes.no (by rw [hmb.out]; exact hS3.out.b) hcode.out h4.out
  case pos =>
  rw [h4]
  replace h4 := Lib.hid h4
  have c1 := hS3.out.o.2.2.c1
  rw [hS3.out.o.1.hour] at c1
  go_wp2
  go_quiet (fail)
  by_cases h5 : hour < lastHour l
  case pos =>
    have hcode := Lib.hid (code5 hck.out hh.out h3.out h4.out h5)
    go_wp2
    go_ret2
    exact SettleRes.no (by rw [hmb.out]; exact below_drewN hS3.out.b _) hcode.out (by omega)
  case neg =>
  have hcode := Lib.hid (code6 (cs := cs) hck.out hh.out h3.out h4.out h5)
  have h5' : decide (hour < lastHour l) = false := by simp; omega
  have hS := Lib.hid (hS3.out.after (below_drewN (Below.refl _ _) nq))
  obtain ⟨W, hW⟩ : ∃ W, w3.drewN nq = W := ⟨_, rfl⟩
  rw [hW] at hS ⊢
  clear hS3 z1 z2 hNl3 c1 hl0 hW
  have hNl := hS.out.o.2.2.lt
  have c2 := hS.out.o.2.2.c2
  have hm0 : (W.alloc (.cells #[.int .i64 0] 3)).heap[N]? = some (mapObj vi vbool c.ids) := (Below.heap_alloc _ _ _ (by omega)).trans hS.out.o.2.2.ids
  have hrg := run_rangeM (P := Tryz.prog) Tryz.underlying76 hm0
  have hN0 := MapIt.new (eK := vi) (eV := vbool) hm0
  have hb0 : Boxed ((W.alloc (.cells #[.int .i64 0] 3)).alloc (.mapIter (some N) c.ids.length #[] c.ids.length)) W.heap.size 3 (.int .i64 0) := (Boxed.new W 3 (.int .i64 0)).alloc _
  have hBw : Below W.heap.size W ((W.alloc (.cells #[.int .i64 0] 3)).alloc (.mapIter (some N) c.ids.length #[] c.ids.length)) := ((Below.refl _ _).alloc (Nat.le_refl _) _).alloc (by simp) _
  rw [show (W.alloc (.cells #[.int .i64 0] 3)).heap.size = W.heap.size + 1 by simp] at hrg hN0
  obtain ⟨bi, hbi⟩ : ∃ bi, W.heap.size = bi := ⟨_, rfl⟩
  rw [hbi] at hrg hN0 hb0 hBw hNl
  have hbis : bi + 2 ≤ ((W.alloc (.cells #[.int .i64 0] 3)).alloc (.mapIter (some N) c.ids.length #[] c.ids.length)).heap.size := by simp; omega
  replace hb0 := Lib.hid hb0
  clear hm0
  go_wp2
  go_loopw [16] (fun _ wr => ∃ seen done, MapIt vi vbool wr (bi + 1) N c.ids seen ∧ Hid (Came c.ids seen done) ∧ Hid (Boxed wr bi 3 (.int .i64 (maxI (done.map (·.1))))) ∧ Below bi W wr ∧ bi + 2 ≤ wr.heap.size) (fun _ wr => leftW c.ids (bi + 1) wr)
  case atStart => exact ⟨#[], [], hN0, Came.start c.ids, hb0, hBw, hbis⟩
  case round =>
  obtain ⟨seen, done, hit, hC, hbx, hBr, hsz⟩ := hrel
  clear hrg hN0 hb0 hBw hbis c2
  have hSr := Lib.hid (hS.out.upto hBr (by omega) hN1 hBm)
  have c4 := hSr.out.o.2.2.c4
  have hNr : N + 5 < wr.heap.size := by omega
  go_wp2_with ((at_next; refine wpList_nextM (K := Int) (V := Bool) (eK := vi) (eV := vbool) rfl _ rfl rfl hit (fun hnil => ?_) (fun ⟨i, k, v⟩ w2 hx hit2 hg2 hs2 hen => ?_); rotate_left; have hb2 := hbx.out.kept hg2 (by simp); have hB2 : Below bi W w2 := hBr.grown hg2 (by omega) (fun k e => by cases e; omega); have hdec := Lib.hid (leftM_dec hx); have hlw := Lib.hid hit.left; have hC2 := Lib.hid (hC.out.step hx); obtain ⟨mx, hmx⟩ : ∃ mx, Hid (maxI (done.map (·.1)) = mx) := ⟨_, rfl⟩; rw [hmx.out] at hb2; have i1 := hb2.cell; have i2 := hb2.frozen; replace hB2 := Lib.hid hB2; replace hb2 := Lib.hid hb2; clear hx hg2; rotate_left))
  rotate_left
  · have hk0 : Hid (0 ≤ k) := by
      have hmem : (k, v) ∈ c.ids := hC2.out.subset (by simp)
      rw [hSr.out.o.1.idl] at hmem
      obtain ⟨p, hp, e⟩ := List.mem_map.1 hmem
      cases e
      obtain ⟨q, hq, rfl⟩ := List.getElem_of_mem hp
      have hok := (refused_ok (hSr.out.o.2.1 q _ (List.getElem?_eq_getElem hq))).1
      simp only [okP, inB, Bool.and_eq_true, decide_eq_true_eq] at hok
      show 0 ≤ _
      omega
    have hset := Lib.hid (hb2.out.set (.int .i64 (max mx k)))
    have hit3 : MapIt vi vbool (w2.setCell ⟨bi, 0, none⟩ (.int .i64 (max mx k))) (bi + 1) N c.ids (seen.push i) := hit2.keeps (Below.heap_setCell _ _ _ _ (by simp)) (Below.heap_setCell _ _ _ _ (by dsimp only; omega))
    go_roundw
    case rel =>
      refine ⟨_, done ++ [(k, v)], hit3, hC2, ?_, hB2.out.setCell (p := ⟨bi, 0, none⟩) (Nat.le_refl _) _, by simp; omega⟩
      show Boxed _ _ _ _
      rw [List.map_append, List.map_cons, List.map_nil, maxI_app _ _ hk0.out, hmx.out]; exact hset.out
    case measure => rw [hit3.left, hlw.out]; exact hdec.out
  have hall := hC.out.all hnil
  have hmaxid : maxI (done.map (·.1)) = maxId l := by
    rw [maxI_perm (hall.map _), hSr.out.o.1.idl]
    unfold maxId; rw [List.map_map]; rfl
  rw [hmaxid] at hbx
  clear hall hmaxid hnil hC hit hS
  have hbo := Boxed.new wr 22 (.slice none 0 0)
  have hbi1 := hbx.out.alloc (.cells #[.slice none 0 0] 22)
  have hSo := hSr.out.after ((Below.refl _ wr).alloc (Nat.le_refl _) (.cells #[.slice none 0 0] 22))
  obtain ⟨bo, hbo0⟩ : ∃ bo, wr.heap.size = bo := ⟨_, rfl⟩
  rw [hbo0] at hbo ⊢
  obtain ⟨Wo, hWo⟩ : ∃ Wo, wr.alloc (.cells #[.slice none 0 0] 22) = Wo := ⟨_, rfl⟩
  have hWs : Wo.heap.size = bo + 1 := by rw [← hWo]; simp; exact hbo0
  rw [hWo] at hbo hbi1 hSo ⊢
  have hsz2 : bi + 2 ≤ bo := by omega
  clear hWo hbo0 hbx hSr c4 hNr hsz
  go_at_call 62
  refine (xClone (N + 2) c.held Wo hSo.o.2.2.held).mono ?_
  rintro e w4 ⟨rfl, hw4⟩
  rw [hWs]
  have hB4 : Below Wo.heap.size Wo w4 := by rw [← hw4]; exact (Below.refl _ _).alloc (Nat.le_refl _) _
  have hS4 := Lib.hid (hSo.after hB4)
  have m4 : w4.heap[bo + 1]? = some (mapObj vi vi c.held) := by rw [← hw4, ← hWs]; exact heap_alloc_new Wo _
  have hbi4 := boxed_below hbi1 hB4 (by omega)
  have hbo4 := boxed_below hbo hB4 (by omega)
  have hs4 : w4.heap.size = bo + 2 := by rw [← hw4]; simp; omega
  clear hw4 hSo hbi1 hbo hWs hB4
  replace m4 := Lib.hid m4
  replace hbi4 := Lib.hid hbi4
  replace hbo4 := Lib.hid hbo4
  go_wp2_with (fail)
  go_at_call 63
  refine (pover hS4.out.o.1 hS4.out.o.2.1 hS4.out.o.2.2 hS4.out.d (okD_amount h3.out)).mono ?_
  rintro e w5 ⟨hB5, v5, rfl, ⟨ao5, cap5, rfl⟩, hown5⟩
  have hS5 := Lib.hid (hS4.out.after hB5)
  have hst5 : Hid (SetSt w5 bi bo (bo + 1) mb none l [] [] w5) := by
    refine ⟨KeptBut.refl _ _, ?_, ⟨_, boxed_below hbo4.out hB5 (by omega), World.ownsRow_nil _ _ _ _, .inl rfl⟩, c.held, (hB5.block _ (by omega)).trans m4.out, fun x => ?_⟩
    · have := boxed_below hbi4.out hB5 (by omega)
      simpa using this
    · rw [List.append_nil]; exact hS5.out.o.1.held x
  have hso5 := Lib.hid (SlOut.of (S := fun k => k = bi ∨ k = bo ∨ k = bo + 1 ∨ some k = none) hown5 (by rintro k (h | h | h | h) <;> first | omega | cases h))
  have hsz5 : bo + 2 ≤ w5.heap.size := by rw [← hs4]; exact hB5.size
  have hovn : (overL l d).length ≤ 16400 := by have := overL_len l d; have := Book.len hS5.out.o.2.1; omega
  have hovc : (overL l d).length ≤ cap5 := by
    obtain ⟨_, hr | ⟨g, cap, cur, e1, e2, e3, e4, _⟩⟩ := hown5
    · rw [hr.2]; omega
    · cases e1; exact e4
  have hovi := Lib.hid (overL_in hS5.out.o.2.1 (okD_amount h3.out))
  have hmxi : Hid (0 ≤ maxId l ∧ maxId l ≤ 1000000) := by
    refine maxI_bd (by omega) fun x hx => ?_
    obtain ⟨p, hp, rfl⟩ := List.mem_map.1 hx
    obtain ⟨q, hq, rfl⟩ := List.getElem_of_mem hp
    have hok := (refused_ok (hS5.out.o.2.1 q _ (List.getElem?_eq_getElem hq))).1
    simp only [okP, inB, Bool.and_eq_true, decide_eq_true_eq] at hok
    omega
  have hA5 := Lib.hid (show AmtOk (l ++ []) by rw [List.append_nil]; exact Book.amtOk hS5.out.o.2.1)
  obtain ⟨ov, hov⟩ : ∃ ov, overL l d = ov := ⟨_, rfl⟩
  rw [hov] at hso5 hovn hovc hovi ⊢
  replace hov := Lib.hid hov
  obtain ⟨nov, hnov⟩ : ∃ nov, ov.length = nov := ⟨_, rfl⟩
  rw [hnov] at hovn hovc ⊢
  replace hnov := Lib.hid hnov
  clear hB5 hS4 m4 hbi4 hbo4 hown5 hs4
  go_wp2
  clear hBr hbi h5 h5'
  go_loopw [80] (fun i wr => ∃ (j : Nat) (out : List Post), j ≤ nov ∧ i = .int .i64 j ∧ Hid (out = (ov.take j).foldl (backStep l cs hour) []) ∧ out.length ≤ j ∧ Hid (SetSt w5 bi bo (bo + 1) mb none l out out wr) ∧ Hid (AmtOk (l ++ out))) (fun i _ => nov - (intOf i).toNat)
  case atStart => exact ⟨0, [], Nat.zero_le _, rfl, rfl, Nat.le_refl _, hst5, hA5⟩
  case round =>
  clear hst5 hA5
  obtain ⟨j, out, hj, rfl, hout, holen, hst, hA⟩ := hrel
  by_cases hlt : j < nov
  case pos =>
    obtain ⟨x, hx⟩ := getq (l := ov) (j := j) (by rw [hnov.out]; exact hlt)
    have hSr := Lib.hid (hS5.out.upto (hst.out.kept.below (B := bi) (by omega) (by rintro k (h | h | h | h) <;> first | omega | cases h)) hNl hN1 hBm)
    obtain ⟨b, o, rfl, hb1, hb2, c0, c1, c2⟩ := hso5.out.kept hst.out.kept j x hx
    have hdx := Lib.hid (hovi.out x (List.mem_of_getElem? hx))
    obtain ⟨v, hR, hvlt⟩ := Rd.start hSr.out hst.out x
    have hvb : Hid (∀ k, v.ownBlock = some k → bo < k) := fun k hk => by
      have e0 := hst.out.out
      obtain ⟨v0, g1, g2, g3⟩ := e0
      have hvv : v0 = v := by
        have e1 := (boxed_below g1 ((Below.refl _ wr).alloc (Nat.le_refl _) (.cells #[.int .i64 x.party, .int .i64 x.parcel, .int .i64 x.amount] 63)) g1.lt).cell
        rw [hR.vb.cell] at e1; cases e1; rfl
      subst hvv
      rcases g3 with g3 | ⟨g, g3, g4⟩
      · rw [g3] at hk; cases hk
      · rw [g3] at hk; cases hk; omega
    have hwsz : w5.heap.size ≤ wr.heap.size := hst.out.kept.size
    have hjc : j ≤ cap5 := by omega
    have hx' := Lib.hid hx
    replace hR := Lib.hid hR
    replace hvlt := Lib.hid hvlt
    clear hx hst hSr hb2
    go_wp2_with (fail)
    obtain ⟨Wx, hWx⟩ : ∃ Wx, wr.alloc (.cells #[.int .i64 x.party, .int .i64 x.parcel, .int .i64 x.amount] 63) = Wx := ⟨_, rfl⟩
    obtain ⟨xb, hxb⟩ : ∃ xb, wr.heap.size = xb := ⟨_, rfl⟩
    rw [hWx] at hR ⊢
    rw [hxb] at hR hwsz hvlt ⊢
    clear hWx hxb c0 c1 c2
    refine (pcause hR.out.S.c x.parcel hour mb (mb + 1) hR.out.S.y1.cell hR.out.S.y2.cell).mono ?_
    rintro e w6 ⟨rfl, hB6⟩
    replace hR := Lib.hid (hR.out.after hB6)
    have hws6 : xb < w6.heap.size := hR.out.X.box.lt
    obtain ⟨q, hq⟩ : ∃ q, Hid (causeH cs hour x.parcel = q) := ⟨_, rfl⟩
    rw [hq.out]
    clear hB6
    cases q with
    | none =>
      have hstep : Hid (out = (ov.take (j + 1)).foldl (backStep l cs hour) []) := by
        show _ = _
        rw [foldl_take hx'.out, ← hout.out]; unfold backStep; rw [hq.out]
      have hst7 := Lib.hid (hR.out.st.after ((Below.refl _ w6).alloc (Nat.le_refl _) (.cells #[.int .i64 0, .int .i64 0, .int .i64 0] 71)))
      go_wp2
      go_quiet (fail)
      go_wp2
      go_roundw
      case rel => exact ⟨j + 1, out, by omega, by go_num, hstep, by omega, Lib.hid (hst7.out.drewN _), hA⟩
      case measure => simp [intOf]; omega
    | some y =>
      have hB7 : Below w6.heap.size w6 (w6.alloc (.cells #[.int .i64 y.parcel, .int .i64 y.reason, .int .i64 y.known] 71)) := (Below.refl _ _).alloc (Nat.le_refl _) _
      have hY := TBox.new w6 y.parcel y.reason y.known 71
      replace hR := Lib.hid (hR.out.after hB7)
      obtain ⟨w7, hw7⟩ : ∃ w7, w6.alloc (.cells #[.int .i64 y.parcel, .int .i64 y.reason, .int .i64 y.known] 71) = w7 := ⟨_, rfl⟩
      obtain ⟨yb, hyb⟩ : ∃ yb, w6.heap.size = yb := ⟨_, rfl⟩
      rw [hw7] at hR hY
      rw [hyb] at hY
      clear hB7
      have hlk := Lib.hid hR.out.lastOf
      obtain ⟨lp, hlp⟩ : ∃ lp, Hid (c.lastOf x.parcel x.party = lp) := ⟨_, rfl⟩
      rw [hlp.out] at hlk
      go_wp2
      clear hw7 hyb hws6
      have hRd := Lib.hid (hR.out.after ((Below.refl w7.heap.size w7).drew))
      have hYd := Lib.hid (hY.after ((Below.refl w7.heap.size w7).drew))
      clear hR hY
      refine wp_region_held_drew (S := (fun w' => w'.cell? ⟨yb, 2, none⟩ = some (.int .i64 y.known) ∧ w'.cell? ⟨xb, 0, none⟩ = some (.int .i64 x.party) ∧ w'.cell? ⟨xb, 1, none⟩ = some (.int .i64 x.parcel) ∧ w'.cell? ⟨xb, 2, none⟩ = some (.int .i64 x.amount) ∧
                                        w'.cell? ⟨N + 5, 6, none⟩ = some (.map (some (N + 4))))) (by kernel_rfl) ?_ (fun hHeld0 => ?_)
      · (try dsimp only); (first
                            | exact hRd.out.five hYd.out
                            | exact (hRd.out.after hB8).five (hYd.out.after hB8))
      refine xtake 0 (v := ?_) rfl (by kernel_rfl) (by kernel_rfl) (by kernel_rfl) rfl ?_ ?_ (by assumption) ?_
      rotate_left
      · intro w hSw; (try dsimp only at hSw); go_simp; with_reducible rfl
      · (exact fun _ _ _ hp => hp)
      try simp only [Act.put, List.setIfInBounds_toArray, List.set_cons_zero, List.set_cons_succ]
      refine xtake 1 (v := ?_) rfl (by kernel_rfl) (by kernel_rfl) (by kernel_rfl) rfl ?_ ?_ (by assumption) ?_
      rotate_left
      · intro w hSw; (try dsimp only at hSw); go_simp; with_reducible rfl
      · (exact fun _ _ _ hp => hp)
      try simp only [Act.put, List.setIfInBounds_toArray, List.set_cons_zero, List.set_cons_succ]
      refine xtake 2 (v := ?_) rfl (by kernel_rfl) (by kernel_rfl) (by kernel_rfl) rfl ?_ ?_ (by assumption) ?_
      rotate_left
      · intro w hSw; (try dsimp only at hSw); go_simp; with_reducible rfl
      · (exact fun _ _ _ hp => hp)
      try simp only [Act.put, List.setIfInBounds_toArray, List.set_cons_zero, List.set_cons_succ]
      refine xtake 3 (v := ?_) rfl (by kernel_rfl) (by kernel_rfl) (by kernel_rfl) rfl ?_ ?_ (by assumption) ?_
      rotate_left
      · intro w hSw; (try dsimp only at hSw); go_simp; with_reducible rfl
      · (exact fun _ _ _ hp => hp)
      try simp only [Act.put, List.setIfInBounds_toArray, List.set_cons_zero, List.set_cons_succ]
      refine xtake 4 (v := ?_) rfl (by kernel_rfl) (by kernel_rfl) (by kernel_rfl) rfl ?_ ?_ (by assumption) ?_
      rotate_left
      · intro w hSw; (try dsimp only at hSw); go_simp; with_reducible rfl
      · (exact fun _ _ _ hp => hp)
      try simp only [Act.put, List.setIfInBounds_toArray, List.set_cons_zero, List.set_cons_succ]
      refine xtake 5 (v := ?_) rfl (by kernel_rfl) (by kernel_rfl) (by kernel_rfl) rfl ?_ ?_ (by assumption) ?_
      rotate_left
      · intro w hSw; (try dsimp only at hSw); go_simp; with_reducible rfl
      · (exact fun _ _ _ hp => hp)
      try simp only [Act.put, List.setIfInBounds_toArray, List.set_cons_zero, List.set_cons_succ]
      refine xtake 6 (v := ?_) rfl (by kernel_rfl) (by kernel_rfl) (by kernel_rfl) rfl ?_ ?_ (by assumption) ?_
      rotate_left
      · intro w hSw; (try dsimp only at hSw); go_simp; with_reducible rfl
      · (exact fun _ _ _ hp => hp)
      try simp only [Act.put, List.setIfInBounds_toArray, List.set_cons_zero, List.set_cons_succ]
      refine xtake 7 (v := ?_) rfl (by kernel_rfl) (by kernel_rfl) (by kernel_rfl) rfl ?_ ?_ (by assumption) ?_
      rotate_left
      · intro w hSw; (try dsimp only at hSw); go_simp; with_reducible rfl
      · (exact fun _ _ _ hp => hp)
      try simp only [Act.put, List.setIfInBounds_toArray, List.set_cons_zero, List.set_cons_succ]
      refine xtake 8 (v := ?_) rfl (by kernel_rfl) (by kernel_rfl) (by kernel_rfl) rfl ?_ ?_ (by assumption) ?_
      rotate_left
      · intro w hSw; (try dsimp only at hSw); go_simp; with_reducible rfl
      · (exact fun _ _ _ hp => hp)
      try simp only [Act.put, List.setIfInBounds_toArray, List.set_cons_zero, List.set_cons_succ]
      refine wpAnyH_ready (rs := [9]) (by kernel_rfl) (by simp) ?_
      refine xcons 9 rfl (fun K hK => ?_) ?_
      focus
        (first
          | (go_simp; go_at_call 64; refine (of_ok x _).mono ?_; rintro e w8 ⟨rfl, hB8⟩; have hl := lastLook (hRd.out.after hB8).S.o.2.2 x.parcel x.party 0; rw [hlp.out] at hl; replace hl : (Instr.lookup 79 (.map (some (N + 4))) (.agg #[.int .i64 x.parcel, .int .i64 x.party]) false).run Tryz.prog w8 = .ok (pval lp) w8 := hl; have hf := fieldKnown lp w8; dsimp only))
        refine hK.out _ _ ?_ (fun hHeld1 => ?_)
        · (try dsimp only); (first
                              | exact hRd.out.five hYd.out
                              | exact (hRd.out.after hB8).five (hYd.out.after hB8))
        clear hK K
        try simp only [Act.put, List.setIfInBounds_toArray, List.set_cons_zero, List.set_cons_succ]
        (try clear hHeld0)
        refine wpAnyH_ready (rs := [10]) (by kernel_rfl) (by simp) ?_
        refine xcons 10 rfl (fun K hK => ?_) ?_
        focus
          go_simp
          refine hK.out _ _ ?_ (fun hHeld2 => ?_)
          · (try dsimp only); (first
                                | exact hRd.out.five hYd.out
                                | exact (hRd.out.after hB8).five (hYd.out.after hB8))
          clear hK K
          try simp only [Act.put, List.setIfInBounds_toArray, List.set_cons_zero, List.set_cons_succ]
          (try clear hHeld1)
          refine wpAnyH_ready (rs := [11]) (by kernel_rfl) (by simp) ?_
          refine xcons 11 rfl (fun K hK => ?_) ?_
          focus
            go_simp
            refine hK.out _ _ ?_ (fun hHeld3 => ?_)
            · (try dsimp only); (first
                                  | exact hRd.out.five hYd.out
                                  | exact (hRd.out.after hB8).five (hYd.out.after hB8))
            clear hK K
            try simp only [Act.put, List.setIfInBounds_toArray, List.set_cons_zero, List.set_cons_succ]
            (try clear hHeld2)
            refine xtake 12 (v := ?_) rfl (by kernel_rfl) (by kernel_rfl) (by kernel_rfl) rfl ?_ ?_ (by assumption) ?_
            rotate_left
            · intro w hSw; (try dsimp only at hSw); go_simp; with_reducible rfl
            · (exact fun _ _ _ hp => hp)
            try simp only [Act.put, List.setIfInBounds_toArray, List.set_cons_zero, List.set_cons_succ]
            refine xtake 13 (v := ?_) rfl (by kernel_rfl) (by kernel_rfl) (by kernel_rfl) rfl ?_ ?_ (by assumption) ?_
            rotate_left
            · intro w hSw; (try dsimp only at hSw); go_simp; with_reducible rfl
            · (exact fun _ _ _ hp => hp)
            try simp only [Act.put, List.setIfInBounds_toArray, List.set_cons_zero, List.set_cons_succ]
            refine wpAnyH_done (by kernel_rfl) ?_ _
            (revert hHeld3; intro _)
          rotate_left 1
          exact AllReadyH.nil
        rotate_left 1
        exact AllReadyH.nil
      rotate_left 1
      exact AllReadyH.nil
      replace hR := Lib.hid (hRd.out.after hB8)
      replace hY := Lib.hid (hYd.out.after hB8)
      clear hRd hYd hl hf hB8
      by_cases hpos : lp.known < y.known
      case neg =>
        have hstep : Hid (out = (ov.take (j + 1)).foldl (backStep l cs hour) []) := by
          show _ = _
          rw [foldl_take hx'.out, ← hout.out]; unfold backStep; rw [hq.out]; dsimp only; rw [if_neg (by rw [← hlk.out]; exact hpos)]
        go_wp2
        go_roundw
        case rel => exact ⟨j + 1, out, by omega, by go_num, hstep, by omega, Lib.hid hR.out.st, hA⟩
        case measure => simp [intOf]; omega
      case pos =>
        have hstep : Hid (out ++ [mkP (maxId l + out.length + 1) hour 3 x y] = (ov.take (j + 1)).foldl (backStep l cs hour) []) := by
          show _ = _
          rw [foldl_take hx'.out, ← hout.out]; unfold backStep; rw [hq.out]; dsimp only; rw [if_pos (by rw [← hlk.out]; exact hpos)]
        have x0 := hR.out.X.box.c0
        have x1 := hR.out.X.box.c1
        have x2 := hR.out.X.box.c2
        have y0 := hY.out.c0
        have y1 := hY.out.c1
        have y2 := hY.out.c2
        go_wp2_with (fail)
        refine (ppost bi bo (mb + 1) mb (maxId l + out.length) hour 3 x y v out w8 hR.out.st.id hR.out.vb hR.out.S.y2 hR.out.vo (by omega) (by omega) (by omega) (by have := hmxi.out; omega) (by omega)).mono ?_
        rintro e w9 hp
        obtain ⟨rfl, hst9, hS9, hX9⟩ := hR.out.posted hp hN1 hNl hsz2 (by omega) hBm hvlt.out hvb.out
        obtain ⟨m, hm1, hm2⟩ := hst9.held
        have hA9 : Hid (AmtOk (l ++ (out ++ [mkP (maxId l + out.length + 1) hour 3 x y]))) := by
          show AmtOk _
          rw [← List.append_assoc]; exact AmtOk.snoc hA.out (by have := hdx.out; unfold DueIn at this; unfold mkP; dsimp only; omega)
        have hhb := held_bd x.parcel hA.out
        have hlb : ((l ++ out).length : Int) ≤ 20000 := by have := Book.len hS5.out.o.2.1; rw [List.length_append]; omega
        obtain ⟨hv, hhv⟩ : ∃ hv, Hid (Pu.held (l ++ out) x.parcel = hv) := ⟨_, rfl⟩
        rw [hhv.out] at hhb
        have hxa := hdx.out.2.2
        have hw1 : IntKind.i64.wrap (hv + x.amount) = hv + x.amount := IntWalk.i64_in _ (by omega)
        have hlk2 : (Instr.lookup 77 (.map (some (bo + 1))) (.int .i64 x.parcel) false).run Tryz.prog w9 = .ok (.int .i64 hv) w9 := by
          have := run_lookupM intKey Tryz.underlying77 zeroInt hm1 x.parcel false
          have e1 := hm2 x.parcel
          rw [hhv.out] at e1
          rw [this, ← e1]; unfold gd; cases getM m x.parcel <;> rfl
        have hup := run_updateM (P := Tryz.prog) (eV := vi) intKey Tryz.underlying77 hm1 x.parcel (hv + x.amount)
        have z0 := hX9.box.c0
        have z1 := hX9.box.c1
        have z2 := hX9.box.c2
        have hst10 : Hid (SetSt w5 bi bo (bo + 1) mb none l (out ++ [mkP (maxId l + out.length + 1) hour 3 x y]) (out ++ [mkP (maxId l + out.length + 1) hour 3 x y]) (putO w9 (bo + 1) (mapObj vi vi (putM m x.parcel (hv + x.amount))))) := by
          refine hst9.put (by omega) (by omega) _ _ fun z => ?_
          rw [gd_putM, ← List.append_assoc, held_back ⟨hdx.out.1, hdx.out.2.1⟩, hhv.out, hm2]
        clear hp hst9 hX9 hm1 hm2 hR hY x0 x1 x2 y0 y1 y2 hS9 hhb hlb
        replace hxa := Lib.hid hxa
        go_wp2
        go_roundw
        case rel => exact ⟨j + 1, _, by omega, by go_num, hstep, by simp; omega, hst10, hA9⟩
        case measure => simp [intOf]; omega
  case neg =>
  obtain rfl : j = nov := by omega
  have hfull : Hid (out = (overL l d).foldl (backStep l cs hour) []) := by
    show _ = _
    rw [hov.out, hout.out, List.take_of_length_le (by rw [hnov.out]; exact Nat.le_refl _)]
  have hSr := Lib.hid (hS5.out.upto (hst.out.kept.below (B := bi) (by omega) (by rintro k (h | h | h | h) <;> first | omega | cases h)) hNl hN1 hBm)
  have hwsz : bo + 2 ≤ wr.heap.size := Nat.le_trans hsz5 hst.out.kept.size
  have hdd : ∀ x ∈ d, 0 ≤ x.party ∧ x.party ≤ 40 ∧ 0 ≤ x.amount ∧ x.amount ≤ 1000000000 := fun x hx => by
    have := chkL_ok h3.out x hx
    simp only [okD, inB, Bool.and_eq_true, decide_eq_true_eq] at this
    omega
  have hopi := Lib.hid (openL_in hSr.out.o.2.1 hdd)
  clear hdd hlt hj hout hso5 hovi hov hnov
  go_wp2_with (fail)
  go_at_call 65
  refine (popen hSr.out.o.1 hSr.out.o.2.1 hSr.out.o.2.2 hSr.out.d (okD_amount h3.out)).mono ?_
  rintro e w10 ⟨hB10, v10, rfl, ⟨ao10, cap10, rfl⟩, hown10⟩
  obtain ⟨ob, hst10, hob1, hob2⟩ : ∃ ob : Option Nat, Hid (SetSt w10 bi bo (bo + 1) mb ob l out out w10) ∧ Hid (∀ k, ob = some k → bo + 1 < k) ∧ Hid (∀ k, ob = some k → k < wr.heap.size) := by
    have hst' := hst.out.after hB10
    obtain ⟨v, h1, h2, h3⟩ := hst'.out
    refine ⟨v.ownBlock, ⟨KeptBut.refl _ _, hst'.id, ⟨v, h1, h2, .inl rfl⟩, hst'.held⟩, fun k hk => ?_, fun k hk => ?_⟩
    · rcases h3 with h3 | ⟨g, h3, h4⟩
      · rw [h3] at hk; cases hk
      · rw [h3] at hk; cases hk; omega
    · obtain ⟨v', g1, g2, g3⟩ := hst.out.out
      have e1 := (boxed_below g1 hB10 g1.lt).cell
      rw [h1.cell] at e1
      cases e1
      exact (g2.lt k hk).2
  have hS10 := Lib.hid (hSr.out.after hB10)
  have hso10 := Lib.hid (SlOut.of (S := fun k => k = bi ∨ k = bo ∨ k = bo + 1 ∨ some k = ob) hown10 (by rintro k (h | h | h | h) <;> first | omega | exact hob2.out k h.symm))
  have hsz10 : bo + 2 ≤ w10.heap.size := Nat.le_trans hwsz hB10.size
  have hopn : (openL l d).length ≤ 400 := Nat.le_trans (openL_len l d) (chkL_len h3.out)
  have hopc : (openL l d).length ≤ cap10 := by
    obtain ⟨_, hr | ⟨g, cap, cur, e1, e2, e3, e4, _⟩⟩ := hown10
    · rw [hr.2]; omega
    · cases e1; exact e4
  obtain ⟨op, hop⟩ : ∃ op, openL l d = op := ⟨_, rfl⟩
  rw [hop] at hso10 hopn hopc hopi ⊢
  replace hop := Lib.hid hop
  obtain ⟨nop, hnop⟩ : ∃ nop, op.length = nop := ⟨_, rfl⟩
  rw [hnop] at hopn hopc ⊢
  replace hnop := Lib.hid hnop
  have hol1 : out.length ≤ 16400 := by omega
  clear hB10 hSr hown10 hst hwsz hS5 hsz5 holen hovc hovn hob2
  go_wp2
  go_loopw [121] (fun i wr => ∃ (j : Nat) (out2 : List Post), j ≤ nop ∧ i = .int .i64 j ∧ Hid (out2 = (op.take j).foldl (payStep l cs hour) out) ∧ out2.length ≤ 16400 + j ∧ Hid (SetSt w10 bi bo (bo + 1) mb ob l out2 out2 wr) ∧ Hid (AmtOk (l ++ out2))) (fun i _ => nop - (intOf i).toNat)
  case atStart => exact ⟨0, out, Nat.zero_le _, rfl, rfl, hol1, hst10, hA⟩
  case round =>
  clear hst10 hA
  obtain ⟨j, out2, hj, rfl, hout, holen, hst, hA⟩ := hrel
  by_cases hlt : j < nop
  case pos =>
    obtain ⟨x, hx⟩ := getq (l := op) (j := j) (by rw [hnop.out]; exact hlt)
    have hSr := Lib.hid (hS10.out.upto (hst.out.kept.below (B := bi) (by omega) (by rintro k (h | h | h | h) <;> first | omega | (have := hob1.out k h.symm; omega))) hNl hN1 hBm)
    obtain ⟨b, o, rfl, hb1, hb2, c0, c1, c2⟩ := hso10.out.kept hst.out.kept j x hx
    have hdx := Lib.hid (hopi.out x (List.mem_of_getElem? hx))
    obtain ⟨v, hvlt, hv3, hR⟩ := Rd.begin hSr.out hst.out
    have hvb : Hid (∀ k, v.ownBlock = some k → bo < k) := fun k hk => by
      rcases hv3 with g3 | ⟨g, g3, g4⟩
      · rw [g3] at hk; have := hob1.out k hk; omega
      · rw [g3] at hk; cases hk; omega
    have hwsz : w10.heap.size ≤ wr.heap.size := hst.out.kept.size
    obtain ⟨m, hm1, hm2⟩ := hst.out.held
    have hhb := held_bd x.parcel hA.out
    have hlb : ((l ++ out2).length : Int) ≤ 20000 := by have := Book.len hS10.out.o.2.1; rw [List.length_append]; omega
    obtain ⟨hv, hhv⟩ : ∃ hv, Hid (Pu.held (l ++ out2) x.parcel = hv) := ⟨_, rfl⟩
    rw [hhv.out] at hhb
    have hlk1 : ∀ W, Below wr.heap.size wr W → (Instr.lookup 77 (.map (some (bo + 1))) (.int .i64 x.parcel) false).run Tryz.prog W = .ok (.int .i64 hv) W := fun W hW => by
      have := run_lookupM (w := W) intKey Tryz.underlying77 zeroInt ((hW.block _ (Array.getElem?_eq_some_iff.1 hm1).1).trans hm1) x.parcel false
      have e1 := hm2 x.parcel
      rw [hhv.out] at e1
      rw [this, ← e1]; unfold gd; cases getM m x.parcel <;> rfl
    have hlk := hlk1 _ ((Below.refl _ _).alloc (Nat.le_refl _) (.cells #[.int .i64 x.party, .int .i64 x.parcel, .int .i64 x.amount] 63))
    have hX := Lib.hid (WBox.new wr x.party x.parcel x.amount 63)
    have hBx := Lib.hid ((Below.refl wr.heap.size wr).alloc (Nat.le_refl _) (.cells #[.int .i64 x.party, .int .i64 x.parcel, .int .i64 x.amount] 63))
    have hx' := Lib.hid hx
    have hjc : j ≤ cap10 := by omega
    replace hR := Lib.hid hR
    replace hvlt := Lib.hid hvlt
    replace hhb := Lib.hid hhb
    replace hlb := Lib.hid hlb
    clear hx hSr hb2 hlk1 hm1 hm2 hv3
    go_wp2_with (fail)
    clear hX hBx hlk c0 c1 c2
    obtain ⟨nm, hnm⟩ : ∃ nm, Hid (min x.amount hv = nm) := ⟨_, rfl⟩
    rw [hnm.out]
    replace hR := Lib.hid (hR.out _ ⟨x.party, x.parcel, nm⟩ wr.heap.size ((Below.refl _ _).alloc (Nat.le_refl _) (.cells #[.int .i64 x.party, .int .i64 x.parcel, .int .i64 nm] 63)) (WBox.new wr x.party x.parcel nm 63))
    obtain ⟨Wx, hWx⟩ : ∃ Wx, wr.alloc (.cells #[.int .i64 x.party, .int .i64 x.parcel, .int .i64 nm] 63) = Wx := ⟨_, rfl⟩
    obtain ⟨xb, hxb⟩ : ∃ xb, wr.heap.size = xb := ⟨_, rfl⟩
    rw [hWx] at hR ⊢
    rw [hxb] at hR hwsz hvlt ⊢
    clear hWx hxb
    refine (pcause hR.out.S.c x.parcel hour mb (mb + 1) hR.out.S.y1.cell hR.out.S.y2.cell).mono ?_
    rintro e w6 ⟨rfl, hB6⟩
    replace hR := Lib.hid (hR.out.after hB6)
    have hws6 : xb < w6.heap.size := hR.out.X.box.lt
    obtain ⟨q, hq⟩ : ∃ q, Hid (causeH cs hour x.parcel = q) := ⟨_, rfl⟩
    rw [hq.out]
    have x2 := hR.out.X.box.c2
    dsimp only at x2
    clear hB6
    cases q with
    | none =>
      have hstep : Hid (out2 = (op.take (j + 1)).foldl (payStep l cs hour) out) := by
        show _ = _
        rw [foldl_take hx'.out, ← hout.out]; unfold payStep; rw [hq.out]
      have hst7 := Lib.hid (hR.out.st.after ((Below.refl _ w6).alloc (Nat.le_refl _) (.cells #[.int .i64 0, .int .i64 0, .int .i64 0] 71)))
      go_wp2
      go_roundw
      case rel => exact ⟨j + 1, out2, by omega, by go_num, hstep, by omega, hst7, hA⟩
      case measure => simp [intOf]; omega
    | some y =>
      have hB7 : Below w6.heap.size w6 (w6.alloc (.cells #[.int .i64 y.parcel, .int .i64 y.reason, .int .i64 y.known] 71)) := (Below.refl _ _).alloc (Nat.le_refl _) _
      have hY := Lib.hid (TBox.new w6 y.parcel y.reason y.known 71)
      replace hR := Lib.hid (hR.out.after hB7)
      by_cases hpos : 0 < nm
      case neg =>
        have hstep : Hid (out2 = (op.take (j + 1)).foldl (payStep l cs hour) out) := by
          show _ = _
          rw [foldl_take hx'.out, ← hout.out]; unfold payStep; rw [hq.out]; dsimp only; rw [hhv.out, hnm.out, if_neg hpos]
        clear hB7 hY
        go_wp2
        go_roundw
        case rel => exact ⟨j + 1, out2, by omega, by go_num, hstep, by omega, Lib.hid hR.out.st, hA⟩
        case measure => simp [intOf]; omega
      case pos =>
        have hstep : Hid (out2 ++ [mkP (maxId l + out2.length + 1) hour 2 ⟨x.party, x.parcel, nm⟩ y] = (op.take (j + 1)).foldl (payStep l cs hour) out) := by
          show _ = _
          rw [foldl_take hx'.out, ← hout.out]; unfold payStep; rw [hq.out]; dsimp only; rw [hhv.out, hnm.out, if_pos hpos]
        clear x2
        obtain ⟨w8, hw8⟩ : ∃ w8, w6.alloc (.cells #[.int .i64 y.parcel, .int .i64 y.reason, .int .i64 y.known] 71) = w8 := ⟨_, rfl⟩
        obtain ⟨yb, hyb⟩ : ∃ yb, w6.heap.size = yb := ⟨_, rfl⟩
        rw [hw8] at hR hY
        rw [hyb] at hY hws6
        have x0 := hR.out.X.box.c0
        have x1 := hR.out.X.box.c1
        have x2 := hR.out.X.box.c2
        dsimp only at x0 x1 x2
        have y0 := hY.out.c0
        have y1 := hY.out.c1
        have y2 := hY.out.c2
        clear hB7
        go_wp2_with (fail)
        clear hw8 hyb
        refine (ppost bi bo (mb + 1) mb (maxId l + out2.length) hour 2 ⟨x.party, x.parcel, nm⟩ y v out2 w8 hR.out.st.id hR.out.vb hR.out.S.y2 hR.out.vo (by omega) (by omega) (by omega) (by have := hmxi.out; omega) (by omega)).mono ?_
        rintro e w9 hp
        obtain ⟨rfl, hst9, hS9, hX9⟩ := hR.out.posted hp hN1 hNl hsz2 (by omega) hBm hvlt.out hvb.out
        obtain ⟨m, hm1, hm2⟩ := hst9.held
        have hnmle : nm ≤ x.amount := by have := hnm.out; omega
        have hxa := hdx.out.2.2
        have hA9 : Hid (AmtOk (l ++ (out2 ++ [mkP (maxId l + out2.length + 1) hour 2 ⟨x.party, x.parcel, nm⟩ y]))) := by
          show AmtOk _
          rw [← List.append_assoc]; exact AmtOk.snoc hA.out (by unfold mkP; dsimp only; omega)
        have hhb2 := hhb.out
        have hlb2 := hlb.out
        have hw1 : IntKind.i64.wrap (hv - nm) = hv - nm := IntWalk.i64_in _ (by omega)
        have hlk2 : (Instr.lookup 77 (.map (some (bo + 1))) (.int .i64 x.parcel) false).run Tryz.prog w9 = .ok (.int .i64 hv) w9 := by
          have := run_lookupM intKey Tryz.underlying77 zeroInt hm1 x.parcel false
          have e1 := hm2 x.parcel
          rw [hhv.out] at e1
          rw [this, ← e1]; unfold gd; cases getM m x.parcel <;> rfl
        have hup := run_updateM (P := Tryz.prog) (eV := vi) intKey Tryz.underlying77 hm1 x.parcel (hv - nm)
        have z0 := hX9.box.c0
        have z1 := hX9.box.c1
        have z2 := hX9.box.c2
        dsimp only at z0 z1 z2
        have hst10 : Hid (SetSt w10 bi bo (bo + 1) mb ob l (out2 ++ [mkP (maxId l + out2.length + 1) hour 2 ⟨x.party, x.parcel, nm⟩ y]) (out2 ++ [mkP (maxId l + out2.length + 1) hour 2 ⟨x.party, x.parcel, nm⟩ y]) (putO w9 (bo + 1) (mapObj vi vi (putM m x.parcel (hv - nm))))) := by
          refine hst9.put (by omega) (by omega) _ _ fun z => ?_
          have hpy := hdx.out
          unfold DueIn at hpy
          rw [gd_putM, ← List.append_assoc, held_pay (x := ⟨x.party, x.parcel, nm⟩) ⟨hpy.1, hpy.2.1⟩, hm2]
          dsimp only
          rw [hhv.out]
        clear hp hst9 hX9 hm1 hm2 hR hY x0 x1 x2 y0 y1 y2 hS9 hhb2 hlb2
        replace hxa := Lib.hid hxa
        go_wp2
        go_roundw
        case rel => exact ⟨j + 1, _, by omega, by go_num, hstep, by simp; omega, hst10, hA9⟩
        case measure => simp [intOf]; omega
  case neg =>
  obtain rfl : j = nop := by omega
  have hfin : Hid (settleOut l d cs hour = out2) := by
    show _ = _
    unfold settleOut
    rw [← hfull.out, hop.out, hout.out, List.take_of_length_le (by rw [hnop.out]; exact Nat.le_refl _)]
  have hSr := Lib.hid (hS10.out.upto (hst.out.kept.below (B := bi) (by omega) (by rintro k (h | h | h | h) <;> first | omega | (have := hob1.out k h.symm; omega))) hNl hN1 hBm)
  have hcode2 : Hid (settleCode l d cs hour = if 400 < n + out2.length ∨ (0 < out2.length ∧ 1000000 < maxId l + out2.length) then 2 else 0) := by
    show _ = _
    rw [hcode.out, hfin.out, ← Hn.out]
  have hnl : n ≤ 400 := by rw [Hn.out]; exact Book.len hSr.out.o.2.1
  obtain ⟨v, h1, h2, h3'⟩ := hst.out.out
  obtain ⟨aov, capv, rfl⟩ := own_form h2
  have b0 := h1.cell
  have b1 := hst.out.id.cell
  have hlo := h1.lt
  have hli := hst.out.id.lt
  replace h2 := Lib.hid h2
  obtain ⟨len, hlen⟩ : ∃ len, out2.length = len := ⟨_, rfl⟩
  have hres : Hid (SettleRes l d cs hour w = SettleRes l d cs hour w) := rfl
  rw [hlen] at h2 b0 b1 hcode2 holen
  have hmx := hmxi.out
  clear hst hA hlt hj hout hfull hop hnop hopi hso10 hS10 hcode h1 h3' hres
  replace hlen := Lib.hid hlen
  obtain ⟨mi, hmi⟩ : ∃ mi, maxId l = mi := ⟨_, rfl⟩
  rw [hmi] at b1 hcode2 hmx
  clear hmxi hmi
  by_cases hA : 400 < n + len
  case pos =>
    have hc2 : Hid (settleCode l d cs hour = 2) := by show _ = _; rw [hcode2.out, if_pos (.inl hA)]
    clear hcode2
    go_wp2
    go_ret2
    exact SettleRes.no (by rw [hmb.out]; exact hSr.out.b) hc2.out (by omega)
  case neg =>
  by_cases hB : 0 < len ∧ 1000000 < mi + len
  case pos =>
    have hc2 : Hid (settleCode l d cs hour = 2) := by show _ = _; rw [hcode2.out, if_pos (.inr hB)]
    obtain ⟨hB1, hB2⟩ := hB
    clear hcode2
    go_wp2
    go_ret2
    exact SettleRes.no (by rw [hmb.out]; exact hSr.out.b) hc2.out (by omega)
  case neg =>
  have hc2 : Hid (settleCode l d cs hour = 0) := by show _ = _; rw [hcode2.out, if_neg (by rintro (h | h) <;> contradiction)]
  have hfinal : Hid (SettleRes l d cs hour w (.returned (.tuple #[.slice aov len capv, .int .i64 0])) wr) := by
    refine ⟨by rw [hmb.out]; exact hSr.out.b, .inr ⟨hc2.out, _, rfl, ?_, ?_⟩⟩
    · rw [hfin.out, hlen.out]; exact ⟨_, _, rfl⟩
    · rw [hfin.out, hlen.out, hmb.out]; exact h2.out
  clear hcode2
  by_cases hC : 0 < len
  case pos =>
    have hD : ¬ 1000000 < mi + len := fun h => hB ⟨hC, h⟩
    clear hB
    go_wp2
    go_ret2
    exact hfinal.out
  case neg =>
  obtain rfl : len = 0 := by omega
  clear hB
  go_wp2
  go_ret2
  exact hfinal.out
end Go.Proofs.YtoijlikmigejbaaGreat
