/- Walks: maps.Clone; what is still to be paid (open). Walks: what is too much (over). -/
import Derived.Test.YtoijlikmigejbaaGreatG12
import Derived.Laws.Externs
import Derived.MapKept
import Derived.Test.YtoijlikmigejbaaGreatG01
namespace Go.Proofs.YtoijlikmigejbaaGreat
open Go.RowKit Go.Proofs.YtoijlikmigejbaaGreat.Pu

theorem run_eqIn_map {P : Program} (w : World) (d : Nat) (t k e : TypeId) (p : Option Nat) (h : P.underlying t = some (.map k e)) : (Op.equalIn (d + 1) t (.map p) (.map none)).run P w = .ok p.isNone w := by
  cases p <;> simp [Op.equalIn, run_underlying h]
theorem run_eql_map {P : Program} (w : World) (t k e : TypeId) (p : Option Nat) (h : P.underlying t = some (.map k e)) : (binOp .eql t (.map p) (.map none)).run P w = .ok (.bool p.isNone) w := by
  simp only [binOp]
  simp [show Op.equal t (.map p) (.map none) = Op.equalIn (9999 + 1) t (.map p) (.map none) from rfl, run_eqIn_map w 9999 t k e p h]
theorem run_assert_map {P : Program} (w : World) (t xT k e : TypeId) (v : Value) (h : P.underlying t = some (.map k e)) : (Instr.typeAssert (.iface t v) xT t false).run P w = .ok v w := by
  simp [Instr.typeAssert, run_underlying h, go_sem, Result.andThen]
theorem run_clone {P : Program} (w : World) {r : Nat} {es : Array MapEntry} {clock : Nat} (t : TypeId) (hb : w.heap[r]? = some (.map es clock)) :
    (Extern.MapsClone.clone #[.iface t (.map (some r))]).run P w = .ok (.iface t (.map (some w.heap.size))) (w.alloc (.map es clock)) := by
  have e : Extern.MapsClone.clone #[.iface t (.map (some r))] = (getObj r >>= fun o => match o with
      | .map entries clock => (newObj (.map entries clock) >>= fun n => pure (.iface t (.map (some n))))
      | _ => stuck "maps.clone: a map expected") := rfl
  rw [e]
  simp [MapKept.run_getObj_map hb, Result.andThen, go_sem]

set_option maxRecDepth 100000 in
set_option maxHeartbeats 2000000 in
theorem xClone (b : Nat) (m : List (Int × Int)) (w : World) (hb : w.heap[b]? = some (mapObj vi vi m)) :
    Calls Tryz.prog 62 #[.map (some b)] w fun e w' => e = .returned (.map (some w.heap.size)) ∧ w.alloc (mapObj vi vi m) = w' := by
  have hq := fun w => run_eql_map (P := Tryz.prog) w 77 _ _ (some b) Tryz.underlying77
  unfold mapObj at hb ⊢
  have hcl := run_clone (P := Tryz.prog) w 77 hb
  go_enter Tryz.func62, Tryz.ntmps62
  go_wp2
  rw [run_callFunc_extern Tryz.func113 (by kernel_rfl) (by kernel_rfl) (by kernel_rfl) (e := Extern.MapsClone.clone) (by kernel_rfl), hcl]
  simp only [Result.andThen]
  rw [Oper.upon_value]
  go_wp2
  rw [run_assert_map _ 77 _ _ _ _ Tryz.underlying77]
  simp only [Result.andThen]
  rw [Oper.upon_value]
  go_wp2
  go_ret
  exact ⟨rfl, rfl⟩

/-- what is still to be paid of a due -/
def openD (l : List Post) (x : Due) : Option Due := if 0 < x.amount - Pu.has l x.party x.parcel then some { x with amount := x.amount - Pu.has l x.party x.parcel } else none
def openL (l : List Post) (d : List Due) : List Due := d.filterMap (openD l)
theorem filterMap_step {α β : Type} {f : α → Option β} {d : List α} {j : Nat} {x : α} (h : d[j]? = some x) : (d.take (j + 1)).filterMap f = (d.take j).filterMap f ++ (match f x with | some y => [y] | none => []) := by
  rw [take_snoc h, List.filterMap_append]
  cases hf : f x <;> simp [hf]
theorem filterMap_le {α β : Type} (f : α → Option β) (d : List α) (j : Nat) : ((d.take j).filterMap f).length ≤ j := by
  have := List.length_filterMap_le f (d.take j)
  rw [List.length_take] at this; omega
theorem dcells_len (d : Due) : (dcells d).length = 3 := rfl
theorem dcells_cell (d : Due) : ∀ u ∈ dcells d, u.oneCell' = true := by
  intro u hu
  simp only [dcells, List.mem_cons, List.not_mem_nil, or_false] at hu
  rcases hu with rfl | rfl | rfl <;> rfl
theorem infoDue : (Tryz.prog.info? 63).map (fun i => (i.zero, i.size, i.bytes)) = some (some (dval ⟨0, 0, 0⟩), 3, 24) := by kernel_rfl

/-- a list of dues in new memory -/
def DuesRes (l : List Due) (w : World) (e : Ending) (w' : World) : Prop :=
  Below w.heap.size w w' ∧ ∃ v, e = .returned v ∧ (∃ ao cap, v = .slice ao l.length cap) ∧ w'.ownsRow w.heap.size 63 3 v l.length (flat dcells l)

/-- three numbers in a block of their own, which may be written -/
structure WBox (w : World) (b : Nat) (x y z : Int) : Prop where
  box : TBox w b x y z
  fz : ∀ i, w.frozen? ⟨b, i, none⟩ = false
theorem WBox.new (w : World) (x y z : Int) (t : TypeId) : WBox (w.alloc (.cells #[.int .i64 x, .int .i64 y, .int .i64 z] t)) w.heap.size x y z := ⟨TBox.new w x y z t, fun _ => by simp⟩
theorem WBox.below {w w' : World} {b : Nat} {x y z : Int} {M : Nat} (h : WBox w b x y z) (hb : Below M w w') (hM : b < M) : WBox w' b x y z :=
  ⟨h.box.below hb hM, fun i => (hb.frozen (p := ⟨b, i, none⟩) hM).trans (h.fz i)⟩
theorem WBox.drew {w : World} {b : Nat} {x y z : Int} (h : WBox w b x y z) : WBox w.drew b x y z := ⟨⟨h.box.lt, h.box.c0, h.box.c1, h.box.c2⟩, h.fz⟩
theorem WBox.set2 {w : World} {b : Nat} {x y z : Int} (h : WBox w b x y z) (z' : Int) : WBox (w.setCell ⟨b, 2, none⟩ (.int .i64 z')) b x y z' :=
  ⟨⟨by simp; exact h.box.lt, (World.cell?_setCell_other _ _ _ _ (by simp)).trans h.box.c0, (World.cell?_setCell_other _ _ _ _ (by simp)).trans h.box.c1, World.cell?_setCell_same _ _ _ h.box.c2⟩, fun i => (World.frozen?_setCell _ _ _ _).trans (h.fz i)⟩
theorem WBox.four {w : World} {b k o : Nat} {x y z : Int} {v : Value} (h : WBox w b x y z) (hc : w.cell? ⟨k, o, none⟩ = some v) :
    w.cell? ⟨b, 0, none⟩ = some (.int .i64 x) ∧ w.cell? ⟨b, 1, none⟩ = some (.int .i64 y) ∧ w.cell? ⟨b, 2, none⟩ = some (.int .i64 z) ∧ w.cell? ⟨k, o, none⟩ = some v := ⟨h.box.c0, h.box.c1, h.box.c2, hc⟩
theorem own_after {w w' : World} {base e size n : Nat} {v : Value} {xs : List Value} (h : w.ownsRow base e size v n xs) (hb : Below w.heap.size w w') : w'.ownsRow base e size v n xs := by
  obtain ⟨h0, h | ⟨g, cap, cur, h1, h2, h3, h4⟩⟩ := h
  · exact ⟨h0, .inl h⟩
  · exact ⟨h0, .inr ⟨g, cap, cur, h1, h2, (hb.block g (Array.getElem?_eq_some_iff.1 h3).1).trans h3, h4⟩⟩
theorem own_set {w : World} {base e size n b o : Nat} {v u : Value} {xs : List Value} (h : w.ownsRow base e size v n xs) (hb : ∀ k, v.ownBlock = some k → k ≠ b) : (w.setCell ⟨b, o, none⟩ u).ownsRow base e size v n xs := by
  obtain ⟨h0, h | ⟨g, cap, cur, h1, h2, h3, h4⟩⟩ := h
  · exact ⟨h0, .inl h⟩
  · exact ⟨h0, .inr ⟨g, cap, cur, h1, h2, (Below.heap_setCell _ _ _ _ (hb g (by rw [h1]; rfl))).trans h3, h4⟩⟩
theorem drew_cell (w : World) (a : Addr) : w.drew.cell? a = w.cell? a := rfl

set_option maxRecDepth 100000 in
set_option maxHeartbeats 4000000 in
theorem popen {l : List Post} {N : Nat} {c : CS} {d : List Due} {n cap : Nat} {ao : Option Addr} {B : Nat} {w : World} (hI : CInv c l) (hbk : Book l) (hC : ChestAt w N c) (h : DIn d n cap ao B w) (hd : Hid (∀ x ∈ d, 0 ≤ x.amount ∧ x.amount ≤ 1000000000)) :
    Calls Tryz.prog 65 #[.pointer (some ⟨N + 5, 0, none⟩), .slice ao n cap] w (DuesRes (openL l d) w) := by
  obtain ⟨i0, hi, hz0, hz1, hz2⟩ := info_parts infoDue
  have hB := h.hB
  have hcap := h.hcap
  have hm := h.hm
  have Hn := Lib.hid h.hn
  have HC := Lib.hid (show CInv c l ∧ Book l ∧ ChestAt w N c from ⟨hI, hbk, hC⟩)
  have hNl := hC.lt
  clear hI hbk hC
  go_enter Tryz.func65, Tryz.ntmps65
  go_wp2
  obtain ⟨mb, hmb⟩ : ∃ mb, w.heap.size = mb := ⟨_, rfl⟩
  have hrefl := Below.refl mb w
  rw [hmb] at hB hNl
  replace hmb := Lib.hid hmb
  go_loopw [5, 11] (fun v i wr => ∃ j : Nat, j ≤ n ∧ i = .int .i64 j ∧ Below mb w wr ∧ mb ≤ wr.heap.size ∧ Hid (wr.ownsRow mb 63 3 v (openL l (d.take j)).length (flat dcells (openL l (d.take j))))) (fun _ i _ => n - (intOf i).toNat)
  case atStart => exact ⟨0, Nat.zero_le _, rfl, hrefl, by have := hmb.out; omega, World.ownsRow_nil _ _ _ _⟩
  case round =>
    obtain ⟨j, hj, rfl, hb, hws, hown⟩ := hrel
    by_cases hlt : j < n
    · obtain ⟨x, hx⟩ := getq (l := d) (j := j) (by rw [← Hn.out]; exact hlt)
      have hs' := h.hs.below (hb.mono hB)
      obtain ⟨b, o, rfl, hb0, c0, c1, c2⟩ := hs'.due hx
      have hX := WBox.new wr x.party x.parcel x.amount 63
      have hBx : Below mb w (wr.alloc (.cells #[.int .i64 x.party, .int .i64 x.parcel, .int .i64 x.amount] 63)) := hb.alloc hws _
      have hox := Lib.hid (hown.out.alloc (.cells #[.int .i64 x.party, .int .i64 x.parcel, .int .i64 x.amount] 63))
      have hxa := hd.out x (List.mem_of_getElem? hx)
      have hha := Book.has_le HC.out.2.1 x.party x.parcel
      obtain ⟨vh, hvh⟩ : ∃ vh, Hid (Pu.has l x.party x.parcel = vh) := ⟨_, rfl⟩
      rw [hvh.out] at hha
      have hw1 : IntKind.i64.wrap (x.amount - vh) = x.amount - vh := IntWalk.i64_in _ (by omega)
      have hx' := Lib.hid hx
      have hmbx : mb ≤ wr.heap.size := hws
      have hneb : Hid (∀ k, u5.ownBlock = some k → k ≠ wr.heap.size) := fun k hk => Nat.ne_of_lt (hown.out.lt k hk).2
      clear hx hs' hown
      go_wp2
      refine wp_world (R := fun W => (WBox W wr.heap.size x.party x.parcel x.amount ∧ Below mb w W) ∧ Hid (W.ownsRow mb 63 3 u5 (openL l (d.take j)).length (flat dcells (openL l (d.take j))))) ⟨⟨hX, hBx⟩, hox⟩ ?_
      clear c0 c1 c2 hX hBx hb hox hws
      obtain ⟨xb, hxb⟩ : ∃ xb, wr.heap.size = xb := ⟨_, rfl⟩
      rw [hxb] at hmbx hneb ⊢
      clear hxb
      rintro W ⟨⟨hX, HB⟩, hown⟩
      have hXd := hX.drew
      have hlX := hX.box.lt
      have hCW := HC.out.2.2.below HB hNl
      have c5 := hCW.c5
      have hNW := hCW.lt
      replace HB := Lib.hid HB
      replace hCW := Lib.hid (show ChestAt W.drew N c from hCW.drewN 1)
      clear hX
      refine wp_region_held_drew (S := (fun w' => w'.cell? ⟨xb, 0, none⟩ = some (.int .i64 x.party) ∧ w'.cell? ⟨xb, 1, none⟩ = some (.int .i64 x.parcel) ∧ w'.cell? ⟨xb, 2, none⟩ = some (.int .i64 x.amount) ∧ w'.cell? ⟨N + 5, 5, none⟩ = some (.map (some (N + 3))))) (by kernel_rfl) ?_ (fun hHeld0 => ?_)
      · (try dsimp only); (first
                            | exact hXd.four c5
                            | exact (hXd.below hb2 hlX).four ((hb2.cell (p := ⟨N + 5, 5, none⟩) hNW).trans c5))
      refine xtake 0 (v := ?_) rfl (by kernel_rfl) (by kernel_rfl) (by kernel_rfl) rfl ?_ ?_ (by assumption) ?_
      rotate_left
      · intro w hSw; (try dsimp only at hSw); go_simp; with_reducible rfl
      · (exact fun _ _ _ hp => hp)
      try simp only [Act.put, List.setIfInBounds_toArray, List.set_cons_zero, List.set_cons_succ]
      refine xtake 1 (v := ?_) rfl (by kernel_rfl) (by kernel_rfl) (by kernel_rfl) rfl ?_ ?_ (by assumption) ?_
      rotate_left
      · intro w hSw; (try dsimp only at hSw); go_simp; with_reducible rfl
      · (exact fun _ _ _ hp => hp)
      try simp only [Act.put, List.setIfInBounds_toArray, List.set_cons_zero, List.set_cons_succ]
      refine xtake 2 (v := ?_) rfl (by kernel_rfl) (by kernel_rfl) (by kernel_rfl) rfl ?_ ?_ (by assumption) ?_
      rotate_left
      · intro w hSw; (try dsimp only at hSw); go_simp; with_reducible rfl
      · (exact fun _ _ _ hp => hp)
      try simp only [Act.put, List.setIfInBounds_toArray, List.set_cons_zero, List.set_cons_succ]
      refine xtake 3 (v := ?_) rfl (by kernel_rfl) (by kernel_rfl) (by kernel_rfl) rfl ?_ ?_ (by assumption) ?_
      rotate_left
      · intro w hSw; (try dsimp only at hSw); go_simp; with_reducible rfl
      · (exact fun _ _ _ hp => hp)
      try simp only [Act.put, List.setIfInBounds_toArray, List.set_cons_zero, List.set_cons_succ]
      refine xtake 4 (v := ?_) rfl (by kernel_rfl) (by kernel_rfl) (by kernel_rfl) rfl ?_ ?_ (by assumption) ?_
      rotate_left
      · intro w hSw; (try dsimp only at hSw); go_simp; with_reducible rfl
      · (exact fun _ _ _ hp => hp)
      try simp only [Act.put, List.setIfInBounds_toArray, List.set_cons_zero, List.set_cons_succ]
      refine xtake 5 (v := ?_) rfl (by kernel_rfl) (by kernel_rfl) (by kernel_rfl) rfl ?_ ?_ (by assumption) ?_
      rotate_left
      · intro w hSw; (try dsimp only at hSw); go_simp; with_reducible rfl
      · (exact fun _ _ _ hp => hp)
      try simp only [Act.put, List.setIfInBounds_toArray, List.set_cons_zero, List.set_cons_succ]
      refine xtake 6 (v := ?_) rfl (by kernel_rfl) (by kernel_rfl) (by kernel_rfl) rfl ?_ ?_ (by assumption) ?_
      rotate_left
      · intro w hSw; (try dsimp only at hSw); go_simp; with_reducible rfl
      · (exact fun _ _ _ hp => hp)
      try simp only [Act.put, List.setIfInBounds_toArray, List.set_cons_zero, List.set_cons_succ]
      refine wpAnyH_ready (rs := [7]) (by kernel_rfl) (by simp) ?_
      refine xcons 7 rfl (fun K hK => ?_) ?_
      focus
        (first
          | (go_simp; go_at_call 64; refine (of_ok x _).mono ?_; rintro e w2 ⟨rfl, hb2⟩; have hl := hasLook (hCW.out.below hb2 hNW) x.parcel x.party 0; rw [HC.out.1.has, hvh.out] at hl; replace hl : (Instr.lookup 78 (.map (some (N + 3))) (.agg #[.int .i64 x.parcel, .int .i64 x.party]) false).run Tryz.prog w2 = .ok (.int .i64 vh) w2 := hl; dsimp only))
        refine hK.out _ _ ?_ (fun hHeld1 => ?_)
        · (try dsimp only); (first
                              | exact hXd.four c5
                              | exact (hXd.below hb2 hlX).four ((hb2.cell (p := ⟨N + 5, 5, none⟩) hNW).trans c5))
        clear hK K
        try simp only [Act.put, List.setIfInBounds_toArray, List.set_cons_zero, List.set_cons_succ]
        (try clear hHeld0)
        refine wpAnyH_ready (rs := [8]) (by kernel_rfl) (by simp) ?_
        refine xcons 8 rfl (fun K hK => ?_) ?_
        focus
          go_simp
          refine hK.out _ _ ?_ (fun hHeld2 => ?_)
          · (try dsimp only); (first
                                | exact hXd.four c5
                                | exact (hXd.below hb2 hlX).four ((hb2.cell (p := ⟨N + 5, 5, none⟩) hNW).trans c5))
          clear hK K
          try simp only [Act.put, List.setIfInBounds_toArray, List.set_cons_zero, List.set_cons_succ]
          (try clear hHeld1)
          refine xtake 9 (v := ?_) rfl (by kernel_rfl) (by kernel_rfl) (by kernel_rfl) rfl ?_ ?_ (by assumption) ?_
          rotate_left
          · intro w hSw; (try dsimp only at hSw); go_simp; with_reducible rfl
          · (exact fun _ _ _ hp => hp)
          try simp only [Act.put, List.setIfInBounds_toArray, List.set_cons_zero, List.set_cons_succ]
          refine xtake 10 (v := ?_) rfl (by kernel_rfl) (by kernel_rfl) (by kernel_rfl) rfl ?_ ?_ (by assumption) ?_
          rotate_left
          · intro w hSw; (try dsimp only at hSw); go_simp; with_reducible rfl
          · (exact fun _ _ _ hp => hp)
          try simp only [Act.put, List.setIfInBounds_toArray, List.set_cons_zero, List.set_cons_succ]
          refine wpAnyH_done (by kernel_rfl) ?_ _
          (revert hHeld2; intro _)
        rotate_left 1
        exact AllReadyH.nil
      rotate_left 1
      exact AllReadyH.nil
      clear hCW c5
      have hX2 := hXd.below hb2 hlX
      have HB2 := Lib.hid (HB.out.drew.trans (hb2.mono (Nat.le_trans hmbx (Nat.le_of_lt hlX))))
      have hown2 := Lib.hid (own_after (show W.drew.ownsRow mb 63 3 u5 (openL l (d.take j)).length (flat dcells (openL l (d.take j))) from hown.out) hb2)
      have hlen := filterMap_le (openD l) d j
      have hsz2 := hX2.box.lt
      clear hown hXd hl hb2 HB
      by_cases hpos : 0 < x.amount - vh
      · have hstep : Hid (openL l (d.take (j + 1)) = openL l (d.take j) ++ [⟨x.party, x.parcel, x.amount - vh⟩]) := by
          show _ = _
          have hopen : openD l x = some ⟨x.party, x.parcel, x.amount - vh⟩ := by unfold openD; rw [hvh.out, if_pos hpos]
          unfold openL; rw [filterMap_step hx'.out, hopen]
        replace hlen : (openL l (d.take j)).length ≤ j := hlen
        obtain ⟨ol, hol⟩ : ∃ ol, openL l (d.take j) = ol := ⟨_, rfl⟩
        rw [hol] at hown2 hstep hlen
        obtain ⟨k, hk⟩ : ∃ k, x.amount - vh = k := ⟨_, rfl⟩
        rw [hk] at hpos hstep ⊢
        clear hk hw1 hol hx' hvh
        have hset := Lib.hid (own_set (u := .int .i64 k) (o := 2) hown2.out hneb.out)
        have q0 := hX2.box.c0
        have q1 := hX2.box.c1
        have q2 := hX2.box.c2
        have fz := hX2.fz
        replace HB2 := Lib.hid (HB2.out.setCell (p := ⟨xb, 2, none⟩) hmbx (.int .i64 k))
        have hnw := heap_alloc_new (w2.setCell ⟨xb, 2, none⟩ (.int .i64 k)) (.cells (dcells ⟨x.party, x.parcel, k⟩).toArray 63 (0, 0))
        rw [show (w2.setCell ⟨xb, 2, none⟩ (.int .i64 k)).heap.size = w2.heap.size by simp] at hnw
        have hnews := Lib.hid (World.news_of_block (cs := (dcells ⟨x.party, x.parcel, k⟩).toArray) (t := 63) (fr := (0, 0)) hnw)
        clear hX2 hown2 hnw
        go_wp2_with (at_builtin; refine wpList_append_own_at _ rfl _ _ 23 rfl mb 63 i0 (dval ⟨0, 0, 0⟩) 3 24 Tryz.underlying23 hi hz0 hz1 hz2 rfl (by decide) _ _ _ rfl (hset.out.alloc _) ⟨_, 0, none⟩ 1 1 (dcells ⟨x.party, x.parcel, k⟩) rfl rfl hnews.out (dcells_cell _) (by unfold maxLen; omega) (by omega) (by simp; omega) ?_; intro v3 w3 hown3 hgrow3 _ _)
        go_roundw
        case rel =>
          refine ⟨j + 1, by omega, by go_num, (HB2.out.alloc (by simp; omega) _).grown hgrow3 (by simp; omega) (own_far hset.out), ?_, ?_⟩
          · have := hgrow3.size; simp at this; omega
          · show World.ownsRow _ _ _ _ _ _ _
            rw [hstep.out, flat_app, flat_one, List.length_append]
            exact hown3
        case measure => simp [intOf]; omega
      · have hstep : Hid (openL l (d.take (j + 1)) = openL l (d.take j)) := by
          show _ = _
          have hopen : openD l x = none := by unfold openD; rw [hvh.out, if_neg hpos]
          unfold openL; rw [filterMap_step hx'.out, hopen, List.append_nil]
        obtain ⟨k, hk⟩ : ∃ k, x.amount - vh = k := ⟨_, rfl⟩
        rw [hk] at hpos ⊢
        clear hk hw1 hx' hvh hX2
        go_wp2
        go_roundw
        case rel =>
          refine ⟨j + 1, by omega, by go_num, HB2.out, by omega, ?_⟩
          show World.ownsRow _ _ _ _ _ _ _
          rw [hstep.out]; exact hown2.out
        case measure => simp [intOf]; omega
    · obtain rfl : j = n := by omega
      have hfull : Hid (d.take j = d) := by show _ = _; rw [List.take_of_length_le (by rw [Hn.out]; exact Nat.le_refl _)]
      rw [hfull.out] at hown
      go_wp2
      go_ret
      refine ⟨by rw [hmb.out]; exact hb, _, rfl, own_form hown.out, by rw [hmb.out]; exact hown.out⟩
end Go.Proofs.YtoijlikmigejbaaGreat

namespace Go.Proofs.YtoijlikmigejbaaGreat
open Go.RowKit Go.Proofs.YtoijlikmigejbaaGreat.Pu

/-- what is too much at an account -/
def overD (l : List Post) (d : List Due) (a : Int × Int) : Option Due :=
  if 0 < Pu.has l a.2 a.1 - gd (amtsM d) a then some ⟨a.2, a.1, Pu.has l a.2 a.1 - gd (amtsM d) a⟩ else none
def overL (l : List Post) (d : List Due) : List Due := (accL l).filterMap (overD l d)

theorem amts_bd_aux : ∀ (d : List Due) (m : List ((Int × Int) × Int)), (∀ a, 0 ≤ gd m a ∧ gd m a ≤ 1000000000) → (∀ x ∈ d, 0 ≤ x.amount ∧ x.amount ≤ 1000000000) →
    ∀ a, 0 ≤ gd (d.foldl (fun m d => putM m (d.parcel, d.party) d.amount) m) a ∧ gd (d.foldl (fun m d => putM m (d.parcel, d.party) d.amount) m) a ≤ 1000000000
  | [], _, h, _ => h
  | x :: r, m, h, hd => by
    refine amts_bd_aux r _ (fun a => ?_) (fun y hy => hd y (List.mem_cons_of_mem _ hy))
    rw [gd_putM]
    split
    · exact hd x (List.mem_cons_self ..)
    · exact h a
theorem amts_bd {d : List Due} (hd : ∀ x ∈ d, 0 ≤ x.amount ∧ x.amount ≤ 1000000000) (a : Int × Int) : 0 ≤ gd (amtsM d) a ∧ gd (amtsM d) a ≤ 1000000000 :=
  amts_bd_aux d [] (fun _ => ⟨Int.le_refl 0, by show (0 : Int) ≤ _; omega⟩) hd a
theorem dueLook {w : World} {b : Nat} {m : List ((Int × Int) × Int)} (h : w.heap[b]? = some (mapObj kv vi m)) (x y : Int) (n : Nat) : (Instr.lookup 78 (.map (some b)) (.agg #[.int .i64 x, .int .i64 y]) false).run Tryz.prog (w.drewN n) = .ok (.int .i64 (gd m (x, y))) (w.drewN n) := by
  have := run_lookupM (w := w.drewN n) acctKey Tryz.underlying78 zeroInt (show (w.drewN n).heap[b]? = _ from h) (x, y) false
  rw [this]; unfold gd; cases getM m (x, y) <;> rfl

set_option maxRecDepth 100000 in
set_option maxHeartbeats 4000000 in
theorem pover {l : List Post} {N : Nat} {c : CS} {d : List Due} {n cap : Nat} {ao : Option Addr} {B : Nat} {w : World} (hI : CInv c l) (hbk : Book l) (hC : ChestAt w N c) (h : DIn d n cap ao B w) (hd : Hid (∀ x ∈ d, 0 ≤ x.amount ∧ x.amount ≤ 1000000000)) :
    Calls Tryz.prog 63 #[.pointer (some ⟨N + 5, 0, none⟩), .slice ao n cap] w (DuesRes (overL l d) w) := by
  obtain ⟨i0, hi, hz0, hz1, hz2⟩ := info_parts infoDue
  have HC := Lib.hid (show CInv c l ∧ Book l ∧ ChestAt w N c from ⟨hI, hbk, hC⟩)
  have hNl := hC.lt
  have hla : c.has.length ≤ 400 := Nat.le_trans hI.la (Book.len hbk)
  clear hI hbk hC
  go_enter Tryz.func63, Tryz.ntmps63
  go_wp2_with (fail)
  go_at_call 114
  refine (pamounts h).mono ?_
  rintro e w1 ⟨rfl, hmap, hB1⟩
  have hC1 := Lib.hid (HC.out.2.2.below hB1 hNl)
  have hlt1 := (Array.getElem?_eq_some_iff.1 hmap).1
  replace hmap := Lib.hid hmap
  replace hB1 := Lib.hid hB1
  obtain ⟨mb, hmb⟩ : ∃ mb, w.heap.size = mb := ⟨_, rfl⟩
  rw [hmb] at hNl hlt1 hmap hB1 ⊢
  replace hmb := Lib.hid hmb
  go_wp2_with (fail)
  go_at_call 85
  refine (paccounts N c w1 hC1.out HC.out.1.nd (by omega)).mono ?_
  rintro e w2 ⟨ao2, n2, cap2, dd, rfl, hn2, hcap2, hle2, hpw, hmem, hs2, hB2⟩
  have hdd := acc_eq HC.out.1 HC.out.2.1 hpw hmem
  subst hdd
  clear hpw hmem
  have hC2 := Lib.hid (hC1.out.below hB2 hC1.out.lt)
  have hNl2 := hC2.out.lt
  have hmap2 := Lib.hid ((hB2.block mb hlt1).trans hmap.out)
  have hlt2 : mb < w2.heap.size := Nat.lt_of_lt_of_le hlt1 hB2.size
  have hBB := Lib.hid (hB1.out.trans (hB2.mono (Nat.le_of_lt hlt1)))
  replace hs2 := Lib.hid hs2
  replace hn2 := Lib.hid hn2
  clear hB2 hC1 hmap hB1 hlt1
  go_wp2
  obtain ⟨sb, hsb⟩ : ∃ sb, w2.heap.size = sb := ⟨_, rfl⟩
  have hrefl := Below.refl sb w2
  rw [hsb] at hlt2 hNl2
  replace hs2 : Hid (SlAt 2 acells sb w2 ao2 (accL l)) := by rw [← hsb]; exact hs2
  replace hsb := Lib.hid hsb
  go_loopw [6, 15] (fun v i wr => ∃ j : Nat, j ≤ n2 ∧ i = .int .i64 j ∧ Below sb w2 wr ∧ sb ≤ wr.heap.size ∧ Hid (wr.ownsRow sb 63 3 v (((accL l).take j).filterMap (overD l d)).length (flat dcells (((accL l).take j).filterMap (overD l d))))) (fun _ i _ => n2 - (intOf i).toNat)
  case atStart => exact ⟨0, Nat.zero_le _, rfl, hrefl, by have := hsb.out; omega, World.ownsRow_nil _ _ _ _⟩
  case round =>
    obtain ⟨j, hj, rfl, hb, hws, hown⟩ := hrel
    by_cases hlt : j < n2
    · obtain ⟨⟨x, y⟩, hx⟩ := getq (l := accL l) (j := j) (by rw [← hn2.out]; exact hlt)
      have hs' := hs2.out.below hb
      obtain ⟨b, o, rfl, hb0, c0, c1⟩ := hs'.acct hx
      have hX := ABox.new wr x y 90
      have hBx : Below sb w2 (wr.alloc (.cells #[.int .i64 x, .int .i64 y] 90)) := hb.alloc hws _
      have hox := Lib.hid (hown.out.alloc (.cells #[.int .i64 x, .int .i64 y] 90))
      have hha := Book.has_le HC.out.2.1 y x
      have hhd := amts_bd hd.out (x, y)
      obtain ⟨vh, hvh⟩ : ∃ vh, Hid (Pu.has l y x = vh) := ⟨_, rfl⟩
      obtain ⟨vd, hvd⟩ : ∃ vd, Hid (gd (amtsM d) (x, y) = vd) := ⟨_, rfl⟩
      rw [hvh.out] at hha
      rw [hvd.out] at hhd
      have hw1 : IntKind.i64.wrap (vh - vd) = vh - vd := IntWalk.i64_in _ (by omega)
      have hx' := Lib.hid hx
      have hjc : j ≤ cap2 := by omega
      have hj4 : j ≤ 400 := by omega
      clear hx hs' hown
      dsimp only at c0 c1
      go_wp2
      refine wp_world (R := fun W => (ABox W wr.heap.size x y ∧ Below sb w2 W) ∧ Hid (W.ownsRow sb 63 3 u6 (((accL l).take j).filterMap (overD l d)).length (flat dcells (((accL l).take j).filterMap (overD l d))))) ⟨⟨hX, hBx⟩, hox⟩ ?_
      clear c0 c1 hX hBx hb hox
      obtain ⟨xb, hxb⟩ : ∃ xb, wr.heap.size = xb := ⟨_, rfl⟩
      rw [hxb] at hws ⊢
      clear hxb
      rintro W ⟨⟨hX, HB⟩, hown⟩
      have hlX := hX.lt
      have hCW := hC2.out.below HB (by have := hsb.out; omega)
      have c5 := hCW.c5
      have d0 := hX.c0
      have d1 := hX.c1
      have hNW := hCW.lt
      have hl1 := hasLook hCW x y
      rw [HC.out.1.has, hvh.out] at hl1
      have hl2 := dueLook ((HB.block mb hlt2).trans hmap2.out) x y
      rw [hvd.out] at hl2
      replace HB := Lib.hid HB
      clear hX hCW
      go_quiet (fail)
      have hlen := filterMap_le (overD l d) (accL l) j
      by_cases hpos : 0 < vh - vd
      · have hstep : Hid (((accL l).take (j + 1)).filterMap (overD l d) = ((accL l).take j).filterMap (overD l d) ++ [⟨y, x, vh - vd⟩]) := by
          show _ = _
          have ho : overD l d (x, y) = some ⟨y, x, vh - vd⟩ := by unfold overD; rw [hvh.out, hvd.out, if_pos hpos]
          rw [filterMap_step hx'.out, ho]
        obtain ⟨ol, hol⟩ : ∃ ol, ((accL l).take j).filterMap (overD l d) = ol := ⟨_, rfl⟩
        rw [hol] at hown hstep hlen
        obtain ⟨k, hk⟩ : ∃ k, vh - vd = k := ⟨_, rfl⟩
        rw [hk] at hpos hstep ⊢
        clear hk hw1 hol hx' hvh hvd hl1 hl2
        have hset := Lib.hid (show (W.drewN nq).ownsRow sb 63 3 u6 ol.length (flat dcells ol) from hown.out)
        have hnw := heap_alloc_new (W.drewN nq) (.cells (dcells ⟨y, x, k⟩).toArray 63 (0, 0))
        rw [show (W.drewN nq).heap.size = W.heap.size from rfl] at hnw
        have hnews := Lib.hid (World.news_of_block (cs := (dcells ⟨y, x, k⟩).toArray) (t := 63) (fr := (0, 0)) hnw)
        replace HB := Lib.hid (below_drewN HB.out nq)
        clear hnw hown
        go_wp2_with (at_builtin; refine wpList_append_own_at _ rfl _ _ 23 rfl sb 63 i0 (dval ⟨0, 0, 0⟩) 3 24 Tryz.underlying23 hi hz0 hz1 hz2 rfl (by decide) _ _ _ rfl (hset.out.alloc _) ⟨_, 0, none⟩ 1 1 (dcells ⟨y, x, k⟩) rfl rfl hnews.out (dcells_cell _) (by unfold maxLen; omega) (by omega) (by simp; omega) ?_; intro v3 w3 hown3 hgrow3 _ _)
        go_roundw
        case rel =>
          have hs3 := hgrow3.size
          simp at hs3
          refine ⟨j + 1, by omega, by go_num, (HB.out.alloc (by simp; omega) _).grown hgrow3 (by simp; omega) (own_far hset.out), by omega, ?_⟩
          show World.ownsRow _ _ _ _ _ _ _
          rw [hstep.out, flat_app, flat_one, List.length_append]
          exact hown3
        case measure => simp [intOf]; omega
      · have hstep : Hid (((accL l).take (j + 1)).filterMap (overD l d) = ((accL l).take j).filterMap (overD l d)) := by
          show _ = _
          have ho : overD l d (x, y) = none := by unfold overD; rw [hvh.out, hvd.out, if_neg hpos]
          rw [filterMap_step hx'.out, ho, List.append_nil]
        obtain ⟨k, hk⟩ : ∃ k, vh - vd = k := ⟨_, rfl⟩
        rw [hk] at hpos ⊢
        clear hk hw1 hx' hvh hvd hl1 hl2
        go_wp2
        go_roundw
        case rel =>
          refine ⟨j + 1, by omega, by go_num, below_drewN HB.out nq, by show sb ≤ W.heap.size; omega, ?_⟩
          show World.ownsRow _ _ _ _ _ _ _
          rw [hstep.out]; exact hown.out
        case measure => simp [intOf]; omega
    · obtain rfl : j = n2 := by omega
      have hfull : Hid ((accL l).take j = accL l) := by show _ = _; rw [List.take_of_length_le (by rw [hn2.out]; exact Nat.le_refl _)]
      rw [hfull.out] at hown
      have hle : mb ≤ sb := Nat.le_of_lt hlt2
      replace hb := Lib.hid hb
      go_wp2
      go_ret
      refine ⟨by rw [hmb.out]; exact hBB.out.trans (hb.out.mono hle), _, rfl, own_form hown.out, by rw [hmb.out]; exact own_base hown.out hle⟩
end Go.Proofs.YtoijlikmigejbaaGreat
