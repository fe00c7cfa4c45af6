/- Walk: Covered. -/
import Derived.Test.YtoijlikmigejbaaGreatCPrB
namespace Go.Proofs.YtoijlikmigejbaaGreat
open Go.RowKit Go.Shelf Go.Proofs.YtoijlikmigejbaaGreat.Pu

/-- what is due, by parcel -/
def allM (d : List Due) : List (Int × Int) := d.foldl (fun m x => putM m x.parcel (gd m x.parcel + x.amount)) []
theorem allM_snoc {d : List Due} {j : Nat} {x : Due} (h : d[j]? = some x) : allM (d.take (j + 1)) = putM (allM (d.take j)) x.parcel (gd (allM (d.take j)) x.parcel + x.amount) := by
  rw [take_snoc h, allM, List.foldl_append]; rfl
theorem allM_app (d : List Due) (x : Due) : allM (d ++ [x]) = putM (allM d) x.parcel (gd (allM d) x.parcel + x.amount) := by
  rw [allM, List.foldl_append]; rfl
theorem allM_gd (d : List Due) (x : Int) : gd (allM d) x = dueSum d x := by
  refine snoc_ind (P := fun d => gd (allM d) x = dueSum d x) rfl (fun d e ih => ?_) d
  rw [allM_app, gd_putM]
  unfold dueSum at *
  rw [List.map_append, sumI_append, ← ih]
  by_cases h : x = e.parcel
  · subst h; rw [if_pos rfl]; simp [sumI, dueP]
  · rw [if_neg h]
    have : dueP x e = 0 := if_neg fun e => h e.symm
    simp [sumI, this]
theorem allM_nodup (d : List Due) : ((allM d).map (·.1)).Nodup := by
  refine snoc_ind (P := fun d => ((allM d).map (·.1)).Nodup) List.nodup_nil (fun d e ih => ?_) d
  rw [allM_app]; exact nodup_putM _ _ _ ih
theorem allM_keys (d : List Due) (x : Int) : x ∈ (allM d).map (·.1) ↔ ∃ p ∈ d, p.parcel = x := by
  refine snoc_ind (P := fun d => x ∈ (allM d).map (·.1) ↔ ∃ p ∈ d, p.parcel = x) (by simp [allM]) (fun d e ih => ?_) d
  rw [allM_app, keys_putM]
  have h1 : x ∈ (if (getM (allM d) e.parcel).isSome = true then (allM d).map (·.1) else (allM d).map (·.1) ++ [e.parcel]) ↔ x ∈ (allM d).map (·.1) ∨ x = e.parcel := by
    rw [getM_mem]
    by_cases hm : e.parcel ∈ (allM d).map (·.1)
    · rw [if_pos (by simpa using hm)]
      exact ⟨.inl, fun h => h.elim id fun h => by rw [h]; exact hm⟩
    · rw [if_neg (by simpa using hm), List.mem_append, List.mem_singleton]
  rw [h1, ih]
  constructor
  · rintro (⟨p, hp, h⟩ | h)
    · exact ⟨p, List.mem_append_left _ hp, h⟩
    · exact ⟨e, by simp, h.symm⟩
  · rintro ⟨p, hp, h⟩
    rcases List.mem_append.1 hp with h1 | h1
    · exact .inl ⟨p, h1, h⟩
    · rw [List.mem_singleton.1 h1] at h; exact .inr h.symm
theorem allM_len (d : List Due) : (allM d).length ≤ d.length := by
  refine snoc_ind (P := fun d => (allM d).length ≤ d.length) (Nat.le_refl _) (fun d e ih => ?_) d
  rw [allM_app]
  have := putM_le e.parcel (gd (allM d) e.parcel + e.amount) (allM d)
  rw [List.length_append, List.length_singleton]; omega
theorem keys_dparcels {d : List Due} {s : List Int} (hp : s.Perm ((allM d).map (·.1))) (hs : s.Pairwise (· ≤ ·)) : s = dparcels d := by
  have hnd : s.Nodup := hp.nodup_iff.2 (allM_nodup d)
  refine eq_of_strict (lt := fun x y : Int => x < y) (fun a => by omega) (fun a b c => by omega) (strictI hs hnd) (asc_dparcels d) fun x => ?_
  rw [hp.mem_iff, allM_keys, mem_dparcels]
/-- what is covered -/
def coverP (c : CS) (d : List Due) (p : Int) : Bool := decide (gd (allM d) p ≤ gd c.sold p)
theorem cover_filter {c : CS} {l : List Post} (hI : CInv c l) (d : List Due) : (dparcels d).filter (fun a => !coverP c d a) = covL l d := by
  unfold covL
  refine List.filter_congr fun x _ => ?_
  have h1 : gd c.sold x = Pu.sold l x := by
    unfold gd; rw [hI.sold]
    by_cases h : Pu.sold l x = 0
    · rw [if_pos h, h]; rfl
    · rw [if_neg h]; rfl
  unfold coverP covT
  rw [h1, allM_gd, Bool.eq_iff_iff]
  simp
theorem mapLook {w : World} {b : Nat} {m : List (Int × Int)} (h : w.heap[b]? = some (mapObj vi vi m)) (x : Int) (n : Nat) : (Instr.lookup 77 (.map (some b)) (.int .i64 x) false).run Tryz.prog (w.drewN n) = .ok (.int .i64 (gd m x)) (w.drewN n) := by
  have := run_lookupM (w := w.drewN n) intKey Tryz.underlying77 zeroInt h x false
  rw [this]; unfold gd; cases getM m x <;> rfl

set_option maxRecDepth 100000 in
set_option maxHeartbeats 2000000 in
theorem wants_cover (N cb M : Nat) (c : CS) (d : List Due) (w : World) (hC : ChestAt w N c) (hN : N + 5 < M) (hcb : cb + 2 < M) (_hM : M ≤ w.heap.size) (h6 : w.cell? ⟨cb, 0, none⟩ = some (.pointer (some ⟨N + 5, 0, none⟩)))
    (h8 : w.cell? ⟨cb + 2, 0, none⟩ = some (.map (some (cb + 1)))) (hm : w.heap[cb + 1]? = some (mapObj vi vi (allM d))) :
    WantsI 109 #[.pointer (some ⟨cb + 2, 0, none⟩), .pointer (some ⟨cb, 0, none⟩)] (coverP c d) M w := by
  intro p W hW
  have g6 := (hW.cell (p := ⟨cb, 0, none⟩) (by show cb < M; omega)).trans h6
  have g8 := (hW.cell (p := ⟨cb + 2, 0, none⟩) (by show cb + 2 < M; omega)).trans h8
  have gm := (hW.block (cb + 1) (by omega)).trans hm
  have hCW := hC.below hW hN
  have c3 := hCW.c3
  have hl1 := mapLook gm p
  have hl2 := mapLook hCW.sold p
  have hlt : N + 5 < W.heap.size := hCW.lt
  obtain ⟨v1, hv1⟩ : ∃ v, Hid (gd (allM d) p = v) := ⟨_, rfl⟩
  obtain ⟨v2, hv2⟩ : ∃ v, Hid (gd c.sold p = v) := ⟨_, rfl⟩
  have hP : Hid (coverP c d p = decide (v1 ≤ v2)) := by show _ = _; unfold coverP; rw [hv1.out, hv2.out]
  rw [hv1.out] at hl1
  rw [hv2.out] at hl2
  have hrefl := Lib.hid (Below.refl W.heap.size W)
  clear hCW gm hm h6 h8 hW hC
  go_enter Tryz.func109, Tryz.ntmps109
  go_wp2
  go_quiet (fail)
  go_wp2
  go_ret
  exact ⟨ret_bool hP.out.symm, below_drewN hrefl.out _⟩

set_option maxRecDepth 100000 in
set_option maxHeartbeats 4000000 in
theorem pCovered {l : List Post} {d : List Due} {n cap n2 cap2 : Nat} {ao ao2 : Option Addr} {B : Nat} {w : World} (h : LIn l n cap ao B w) (hd : DIn d n2 cap2 ao2 B w) :
    Calls Tryz.prog 51 #[.slice ao n cap, .slice ao2 n2 cap2] w (IResE (covQ l d) (compCode l d) w) := by
  have hmf : ∀ (fn : Fn) (first cap : Array Value) (w : World), (Instr.makeFunc fn first cap).run Tryz.prog w = .ok (.func fn first cap) w := fun _ _ _ _ => rfl
  have hn2 := Lib.hid hd.hn
  have hB := h.hB
  replace h := Lib.hid h
  replace hd := Lib.hid hd
  go_enter Tryz.func51, Tryz.ntmps51
  go_wp2_with (fail)
  go_at_call 106
  refine (pdues h.out hd.out).mono ?_
  rintro e w1 ⟨hB1, ⟨hcc, h3, N, c, rfl, hO⟩ | ⟨hne, rfl⟩⟩
  case inr =>
    obtain ⟨r, hr⟩ : ∃ r, compCode l d = r := ⟨_, rfl⟩
    have hres : Hid (∀ W, Below w.heap.size w W → IResE (covQ l d) (compCode l d) w (.returned (.tuple #[.slice none 0 0, .int .i64 r])) W) := fun W hB =>
      ⟨hB, none, 0, 0, by rw [hr], by unfold covQ; rw [if_neg hne]; exact ⟨rfl, by omega, Nat.le_refl _, .inl rfl, Nat.le_refl _⟩⟩
    have hBa := Lib.hid (hB1.alloc hB1.size (.cells #[.pointer none] 72))
    rw [hr] at hne ⊢
    have hne2 : (r != 0) = true := by simp [hne]
    replace hne := Lib.hid hne
    clear hr hB1
    go_wp2
    go_ret2
    exact hres.out _ hBa.out
  case inl =>
  have hq : Hid (covQ l d = covL l d) := by show _ = _; unfold covQ; rw [if_pos hcc]
  have hlen : n2 ≤ 400 := by rw [hn2.out]; exact chkL_len h3
  have hdd := Lib.hid (okD_amount h3)
  have hcf := Lib.hid (cover_filter hO.1 d)
  replace hcc := Lib.hid hcc
  have hmm := @run_makeMap Tryz.prog
  have hd1 := hd.out.after hB1
  -- three blocks
  have hw3 : ∃ W, ((w1.alloc (.cells #[.pointer (some ⟨N + 5, 0, none⟩)] 72)).alloc (.map #[] 0)).alloc (.cells #[.map (some (w1.heap.size + 1))] 77) = W := ⟨_, rfl⟩
  have hNl := hO.2.2.lt
  replace hO := Lib.hid hO
  replace hd1 := Lib.hid hd1
  replace hB1 := Lib.hid hB1
  go_wp2
  clear hmm
  obtain ⟨W, hW⟩ := hw3
  rw [hW]
  have hs3 : W.heap.size = w1.heap.size + 3 := by rw [← hW]; simp
  have hb6 : W.cell? ⟨w1.heap.size, 0, none⟩ = some (.pointer (some ⟨N + 5, 0, none⟩)) := by rw [← hW]; exact far_cell (far_cell (cell_of_row _ _ 0 _ _ _ (heap_alloc_new w1 (.cells #[.pointer (some ⟨N + 5, 0, none⟩)] 72))))
  have hb8 : W.cell? ⟨w1.heap.size + 2, 0, none⟩ = some (.map (some (w1.heap.size + 1))) := by
    rw [← hW]
    have := cell_of_row _ _ 0 _ _ _ (heap_alloc_new ((w1.alloc (.cells #[.pointer (some ⟨N + 5, 0, none⟩)] 72)).alloc (.map #[] 0)) (.cells #[.map (some (w1.heap.size + 1))] 77))
    rwa [show ((w1.alloc (.cells #[.pointer (some ⟨N + 5, 0, none⟩)] 72)).alloc (.map #[] 0)).heap.size = w1.heap.size + 2 by simp] at this
  have hbm : W.heap[w1.heap.size + 1]? = some (mapObj vi vi (allM (d.take 0))) := by
    rw [← hW, Below.heap_alloc _ _ _ (by simp)]
    have := heap_alloc_new (w1.alloc (.cells #[.pointer (some ⟨N + 5, 0, none⟩)] 72)) (.map #[] 0)
    rwa [show (w1.alloc (.cells #[.pointer (some ⟨N + 5, 0, none⟩)] 72)).heap.size = w1.heap.size + 1 by simp] at this
  have hbw : Below w1.heap.size w1 W := by rw [← hW]; exact (((Below.refl _ _).alloc (Nat.le_refl _) _).alloc (by simp) _).alloc (by simp; omega) _
  obtain ⟨cb, hcb⟩ : ∃ cb, w1.heap.size = cb := ⟨_, rfl⟩
  have hBcb : B ≤ cb := by rw [← hcb]; exact hd1.out.hB
  rw [hcb] at hs3 hb6 hb8 hbm hbw hNl ⊢
  replace hcb := Lib.hid hcb
  clear hW
  go_loopw [23] (fun i wr => ∃ j : Nat, j ≤ n2 ∧ i = .int .i64 j ∧ Below cb w1 wr ∧ wr.cell? ⟨cb, 0, none⟩ = some (.pointer (some ⟨N + 5, 0, none⟩)) ∧ wr.cell? ⟨cb + 2, 0, none⟩ = some (.map (some (cb + 1))) ∧ Hid (wr.heap[cb + 1]? = some (mapObj vi vi (allM (d.take j)))) ∧ cb + 3 ≤ wr.heap.size) (fun i _ => n2 - (intOf i).toNat)
  case atStart => exact ⟨0, Nat.zero_le _, rfl, hbw, hb6, hb8, hbm, by omega⟩
  case round =>
    obtain ⟨j, hj, rfl, hb, g6, g8, gm, hsz⟩ := hrel
    clear hb6 hb8 hbm hbw
    by_cases hlt : j < n2
    case pos =>
      obtain ⟨x, hx⟩ := getq (l := d) (j := j) (by rw [← hn2.out]; exact hlt)
      have hs' := hd1.out.hs.below (hb.mono hBcb)
      obtain ⟨b, o, rfl, hb0, c0, c1, c2⟩ := hs'.due hx
      have hjc : j ≤ cap2 := by have := hd1.out.hcap; omega
      have hxa := hdd.out x (List.mem_of_getElem? hx)
      have hgb : 0 ≤ gd (allM (d.take j)) x.parcel ∧ gd (allM (d.take j)) x.parcel ≤ j * 1000000000 := by
        rw [allM_gd]
        have h1 := sumI_bd (f := dueP x.parcel) (M := 1000000000) (d.take j) fun e he => by have := hdd.out e (List.mem_of_mem_take he); unfold dueP; split <;> omega
        rw [List.length_take] at h1
        unfold dueSum
        omega
      have hst := Lib.hid (allM_snoc hx)
      obtain ⟨m, hm⟩ : ∃ m, allM (d.take j) = m := ⟨_, rfl⟩
      rw [hm] at gm hst hgb
      have hX := TBox.new wr x.party x.parcel x.amount 63
      have hba := hb.alloc (o := .cells #[.int .i64 x.party, .int .i64 x.parcel, .int .i64 x.amount] 63) (by omega)
      have hga := (Below.heap_alloc wr (.cells #[.int .i64 x.party, .int .i64 x.parcel, .int .i64 x.amount] 63) (cb + 1) (by omega)).trans gm.out
      have q6 := far_cell (o := .cells #[.int .i64 x.party, .int .i64 x.parcel, .int .i64 x.amount] 63) g6
      have q8 := far_cell (o := .cells #[.int .i64 x.party, .int .i64 x.parcel, .int .i64 x.amount] 63) g8
      replace hx := Lib.hid hx
      clear hm hs'
      go_upto_region 8 with (fail)
      obtain ⟨xb, hxb⟩ : ∃ xb, wr.heap.size = xb := ⟨_, rfl⟩
      obtain ⟨w2, hw2⟩ : ∃ w2, wr.alloc (.cells #[.int .i64 x.party, .int .i64 x.parcel, .int .i64 x.amount] 63) = w2 := ⟨_, rfl⟩
      have hs2 : cb + 3 < w2.heap.size := by rw [← hw2]; simp; omega
      rw [hw2] at hX hba hga q6 q8 ⊢
      rw [hxb] at hX ⊢
      have hv0 := mapLook hga x.parcel 0
      obtain ⟨v, hv⟩ : ∃ v, Hid (gd m x.parcel = v) := ⟨_, rfl⟩
      rw [hv.out] at hv0 hgb
      have hl : (Instr.lookup 77 (.map (some (cb + 1))) (.int .i64 x.parcel) false).run Tryz.prog w2 = .ok (.int .i64 v) w2 := hv0
      have hw1' : IntKind.i64.wrap (v + x.amount) = v + x.amount := IntWalk.i64_in _ (by omega)
      have hup := run_updateM (P := Tryz.prog) (eV := vi) intKey Tryz.underlying77 hga x.parcel (v + x.amount)
      have x1 := hX.c1
      have x2 := hX.c2
      have hfin : Hid (Below cb w1 (putO w2 (cb + 1) (mapObj vi vi (putM m x.parcel (v + x.amount)))) ∧ (putO w2 (cb + 1) (mapObj vi vi (putM m x.parcel (v + x.amount)))).cell? ⟨cb, 0, none⟩ = some (.pointer (some ⟨N + 5, 0, none⟩)) ∧
          (putO w2 (cb + 1) (mapObj vi vi (putM m x.parcel (v + x.amount)))).cell? ⟨cb + 2, 0, none⟩ = some (.map (some (cb + 1))) ∧ Hid ((putO w2 (cb + 1) (mapObj vi vi (putM m x.parcel (v + x.amount)))).heap[cb + 1]? = some (mapObj vi vi (putM m x.parcel (v + x.amount)))) ∧
          cb + 3 ≤ (putO w2 (cb + 1) (mapObj vi vi (putM m x.parcel (v + x.amount)))).heap.size) :=
        ⟨below_putO hba (by omega), (putO_cell _ _ _ (by dsimp only; omega)).trans q6, (putO_cell _ _ _ (by dsimp only; omega)).trans q8, putO_same _ _ _ (by omega), by rw [putO_size]; omega⟩
      rw [hv.out] at hst
      clear hX hba hga q6 hv0 c0 c1 c2 g6 g8 gm hw2 hxb hb
      go_wp2
      go_roundw
      case rel => exact ⟨j + 1, by omega, by go_num, hfin.out.1, hfin.out.2.1, hfin.out.2.2.1, by rw [hst.out]; exact hfin.out.2.2.2.1, hfin.out.2.2.2.2⟩
      case measure => simp [intOf]; omega
    case neg =>
      obtain rfl : n2 = j := by omega
      have e : d.take n2 = d := by rw [hn2.out]; exact List.take_length
      rw [e] at gm
      clear e
      have hOr : Hid (Opened l N c wr) := ⟨hO.out.1, hO.out.2.1, hO.out.2.2.below hb hNl⟩
      have hbr := Lib.hid (hB1.out.trans (hb.mono (by rw [← hcb.out]; exact hB1.out.size)))
      have hal := allM_len d
      clear hb
      go_wp2_with (first
        | (go_at_call 83; refine (pKeysI _ _).mono ?_; rintro e w2 ⟨rfl, hw2⟩
           have hk1 : w2.cell? ⟨wr.heap.size, 0, none⟩ = some (.map (some (cb + 1))) := by rw [← hw2]; exact cell_of_row _ _ 0 _ _ _ (heap_alloc_new wr (.cells #[.map (some (cb + 1))] 77))
           have hk2 : w2.heap[cb + 1]? = some (mapObj vi vi (allM d)) := by rw [← hw2]; exact (Below.heap_alloc _ _ _ (by omega)).trans gm.out
           have hk3 : Below wr.heap.size wr w2 := by rw [← hw2]; exact (Below.refl _ _).alloc (Nat.le_refl _) _
           have hk4 : w2.heap.size = wr.heap.size + 1 := by rw [← hw2]; simp
           clear hw2
           replace hk1 := Lib.hid hk1
           replace hk2 := Lib.hid hk2
           replace hk3 := Lib.hid hk3)
        | (go_at_call 82
           refine (xSortedI (cb + 1) (allM d) w2 wr.heap.size (by omega) hk1.out hk2.out (by have := hn2.out; omega)).mono ?_
           rintro e w3 ⟨ao3, n3, cap3, xs, rfl, hperm, hsrt, hsl, hB3⟩
           obtain rfl := keys_dparcels hperm hsrt
           have hn3 : n3 ≤ 1000 := by
             have h1 := hperm.length_eq
             rw [List.length_map] at h1
             have := hn2.out
             obtain ⟨_, h2, _⟩ | ⟨_, _, _, _, h2, _⟩ := hsl
             · omega
             · omega
           have hbx := hk3.out.trans (hB3.mono hk3.out.size)
           have hwant := Lib.hid (wants_cover N cb wr.heap.size c d w3 (hOr.out.2.2.below hbx hOr.out.2.2.lt) hOr.out.2.2.lt (by omega) hbx.size ((hbx.cell (p := ⟨cb, 0, none⟩) (by show cb < _; omega)).trans g6) ((hbx.cell (p := ⟨cb + 2, 0, none⟩) (by show cb + 2 < _; omega)).trans g8) ((hbx.block (cb + 1) (by omega)).trans gm.out))
           have hsz3 := hbx.size
           replace hbx := Lib.hid hbx
           replace hsl := Lib.hid hsl
           clear hperm hsrt hB3)
        | (go_at_call 108
           refine (xDeleteSlI 109 _ (coverP c d) wr.heap.size w2.heap.size (dparcels d) ao3 n3 cap3 w3 hsl.out (by omega) (by omega) (enters_of Tryz.func109 (by kernel_rfl) rfl) hwant (by omega)).mono ?_
           rintro e w4 ⟨ao4, n4, cap4, rfl, hn4, hc4, hs4, hB4⟩
           rw [hcf.out] at hn4 hs4
           replace hn4 := Lib.hid hn4
           replace hs4 := Lib.hid hs4
           replace hB4 := Lib.hid hB4))
      go_ret2
      refine ⟨hbr.out.trans ((hbx.out.trans hB4.out).mono hbr.out.size), ao4, n4, cap4, by rw [hcc.out]; rfl, ?_⟩
      rw [hq.out]
      have hl4 : n4 ≤ 400 := by
        rw [hn4.out]
        have h1 := covF_len l d d
        rw [covF_all] at h1
        have := hn2.out; omega
      exact ⟨hn4.out, by omega, hc4, hs4.out, Nat.le_refl _⟩
end Go.Proofs.YtoijlikmigejbaaGreat
