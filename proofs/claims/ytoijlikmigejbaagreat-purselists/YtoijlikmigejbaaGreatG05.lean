/- Walks: the taking of a posting, from its kind on. Walks: the taking of a posting, refused by its kind. The taking of a posting: what it answers is why the book refuses. -/
import Derived.Test.YtoijlikmigejbaaGreatG04
import Derived.Test.YtoijlikmigejbaaGreatG01
namespace Go.Proofs.YtoijlikmigejbaaGreat
open Go.RowKit Go.Proofs.YtoijlikmigejbaaGreat.Pu

theorem idEntry {w : World} {N : Nat} {m : List (Int × Bool)} (h : w.heap[N]? = some (mapObj vi vbool m)) (hlt : N < w.heap.size) (x : Int) : ∃ (i : Nat) (b0 : Bool), (Instr.mapEntry 76 (.map (some N)) (.int .i64 x)).run Tryz.prog w =
      .ok (.tuple #[.bool b0, .int .i64 (i : Int)]) (putO w N (mapObj vi vbool (entM m x false))) ∧
    (Instr.entryStore 76 (.map (some N)) (.int .i64 (i : Int)) (.bool true)).run Tryz.prog (putO w N (mapObj vi vbool (entM m x false))) = .ok () (putO w N (mapObj vi vbool (putM m x true))) := by
  refine ⟨idxM m x, (getM m x).getD false, run_entryM (z := false) (eV := vbool) intKey Tryz.underlying76 zeroBool h x, ?_⟩
  have := run_storeM (P := Tryz.prog) (T := 76) (y := true) (putO_same w N (mapObj vi vbool (entM m x false)) hlt)
  rwa [putO_putO] at this
theorem Keeps.setNew {N b o : Nat} {w w' : World} (h : Keeps N w w') (hb : w.heap.size ≤ b) (v : Value) : Keeps N w (w'.setCell ⟨b, o, none⟩ v) :=
  ⟨h.os, h.tape, h.output, by simp; exact h.size, fun k hk hn => (Below.heap_setCell _ _ _ _ (by simp; omega)).trans (h.block k hk hn)⟩


/-- a kind's function refuses -/
def KindNo (F : FuncId) (N : Nat) (c : CS) (p : Post) (x : Int) : Prop := ∀ w, ChestAt w N c → Calls Tryz.prog F #[.pointer (some ⟨N + 5, 0, none⟩), pval p] w fun e w' => e = .panicked (refusal x) ∧ Below w.heap.size w w'
/-- a kind's function accepts -/
def KindOk (F : FuncId) (N : Nat) (c c' : CS) (p : Post) : Prop := ∀ w, ChestAt w N c → Calls Tryz.prog F #[.pointer (some ⟨N + 5, 0, none⟩), pval p] w fun e w' => e = .returned (.tuple #[]) ∧ ChestAt w' N c' ∧ Keeps N w w'

theorem kinds1 {x : Int} (h : x = 1) (w : World) : (Instr.index 152 kinds (.int .u8 x)).run Tryz.prog w = .ok (.func (.func 143) #[] #[]) w := by
  subst h
  simp [Instr.index, go_sem, kinds]
theorem kinds2 {x : Int} (h : x = 2) (w : World) : (Instr.index 152 kinds (.int .u8 x)).run Tryz.prog w = .ok (.func (.func 144) #[] #[]) w := by
  subst h
  simp [Instr.index, go_sem, kinds]
theorem kinds3 {x : Int} (h : x = 3) (w : World) : (Instr.index 152 kinds (.int .u8 x)).run Tryz.prog w = .ok (.func (.func 145) #[] #[]) w := by
  subst h
  simp [Instr.index, go_sem, kinds]
theorem S3 {w W : World} {N b : Nat} {c : CS} {p : Post} (h : TSt w N b c p W) : W.cell? ⟨b, 0, none⟩ = some (.int .i64 p.id) ∧ W.cell? ⟨b, 1, none⟩ = some (.int .i64 p.hour) ∧ W.cell? ⟨N + 5, 2, none⟩ = some (.map (some N)) := ⟨h.st.box.c0, h.st.box.c1, h.st.chest.c2⟩
theorem take_hq {R : Ending → World → Prop} {ch : List PanicEntry} {a : Act} {d : Nat} {v : Value} {w : World} (hd : d ≠ 4) (h : bodyPostD Tryz.prog Tryz.f111 R (.panic ch) (a.put (some d) v) w) : bodyPostD Tryz.prog Tryz.f111 R (.panic ch) a w :=
  leaves_congr (by simp [results, Tryz.results111, Act.put, Array.getD_eq_getD_getElem?, Array.getElem?_setIfInBounds_ne hd]) _ _ _ h


theorem S8 {W w' : World} {N b : Nat} {p : Post} (h : PBox W b p) (hk : Keeps N W w') (hb : N + 5 < b) : w'.cell? ⟨b, 0, none⟩ = some (.int .i64 p.id) ∧ w'.cell? ⟨b, 1, none⟩ = some (.int .i64 p.hour) ∧ w'.cell? ⟨b, 2, none⟩ = some (.int .u8 p.kind) ∧ w'.cell? ⟨b, 3, none⟩ = some (.int .i64 p.party) ∧ w'.cell? ⟨b, 4, none⟩ = some (.int .i64 p.parcel) ∧ w'.cell? ⟨b, 5, none⟩ = some (.int .i64 p.amount) ∧ w'.cell? ⟨b, 6, none⟩ = some (.int .i64 p.reason) ∧ w'.cell? ⟨b, 7, none⟩ = some (.int .i64 p.known) :=
  have q := h.keeps hk (.inr hb)
  ⟨q.c0, q.c1, q.c2, q.c3, q.c4, q.c5, q.c6, q.c7⟩

set_option maxRecDepth 100000 in
set_option maxHeartbeats 8000000 in
theorem ptake_ok (N : Nat) (c : CS) (p : Post) (w : World) (hC : ChestAt w N c) (hn : c.n < 400) (h0 : 0 ≤ p.kind) (h1 : p.kind ≤ 255) (hok : okP p = true) (hid : Hid (c.idIn p.id = false)) (hh : c.hour ≤ p.hour) (c2 : CS) (hn0 : 0 ≤ c.n) (hn2 : c2.n = c.n) (F : FuncId) (hix : ∀ w, (Instr.index 152 kinds (.int .u8 p.kind)).run Tryz.prog w = .ok (.func (.func F) #[] #[]) w) (hcf : ∀ (args : Array Value) (w : World), (callFunc F args).run Tryz.prog w = .ok (.enter F args) w) (hF : Hid (KindOk F N c c2 p)) :
    Calls Tryz.prog 111 #[.pointer (some ⟨N + 5, 0, none⟩), pval p] w fun e w' => e = .returned (.int .i64 0) ∧ ChestAt w' N (c2.told p) ∧ Keeps N w w' := by
  have hmf : ∀ (fn : Fn) (first cap : Array Value) (w : World), (Instr.makeFunc fn first cap).run Tryz.prog w = .ok (.func fn first cap) w := fun _ _ _ _ => rfl
  have hT := TSt.new hC p
  have hB : Below w.heap.size w ((w.alloc (pobj p)).alloc (.cells #[.int .i64 0] 27)) := ((Below.refl _ _).alloc (Nat.le_refl _) _).alloc (by simp) _
  have c0 := hC.c0
  have hlt := hC.lt
  have hd : decide (c.n < 400) = true := by simp; omega
  go_enter_defers Tryz.func111, Tryz.ntmps111
  go_wp2_with (first | (go_at_call 132; refine (punless_true _ _).mono ?_; rintro e w1 ⟨rfl, rfl⟩) | (go_at_call 133; refine (pCheckPosting_ok p _ h0 h1 hok).mono ?_; rintro e w1 ⟨rfl, hB1⟩))
  refine wp_world (R := fun W => TSt w N w.heap.size c p W ∧ Below w.heap.size w W) ⟨hT.below hB1, hB.trans (hB1.mono (by simp; omega))⟩ ?_
  clear hB1 hT hB c0 hlt hmf hd hC
  obtain ⟨b, hb⟩ : ∃ b, w.heap.size = b := ⟨_, rfl⟩
  rw [hb]
  have Hb := Lib.hid hb
  clear hb
  rintro W ⟨hT, hB⟩
  have p0 := hT.st.box.c0
  have c2 := hT.st.chest.c2
  have hl := idLook hT.st.chest p.id
  rw [hid.out] at hl
  go_quiet ((go_at_call 132; exact quietS (punless_true _ _)))
  go_wp2
  refine wp_world (R := fun W => TSt w N b c p W ∧ Below b w W) ⟨hT.drewN _, below_drewN hB _⟩ ?_
  clear hT hB p0 c2 hl W
  rintro W ⟨hT, hB⟩
  have p1 := hT.st.box.c1
  have c1 := hT.st.chest.c1
  have hd : decide (c.hour ≤ p.hour) = true := by simp; omega
  go_quiet ((go_at_call 132; exact quietS (punless_true _ _)))
  go_wp2
  refine wp_world (R := fun W => TSt w N b c p W ∧ Below b w W) ⟨hT.drewN _, below_drewN hB _⟩ ?_
  clear hT hB p1 c1 hd W
  rintro W ⟨hT, hB⟩
  have p0 := hT.st.box.c0
  have p1 := hT.st.box.c1
  have p2 := hT.st.box.c2
  have p3 := hT.st.box.c3
  have p4 := hT.st.box.c4
  have p5 := hT.st.box.c5
  have p6 := hT.st.box.c6
  have p7 := hT.st.box.c7
  go_region_held3 (fun w' => w'.cell? ⟨b, 0, none⟩ = some (.int .i64 p.id) ∧ w'.cell? ⟨b, 1, none⟩ = some (.int .i64 p.hour) ∧ w'.cell? ⟨b, 2, none⟩ = some (.int .u8 p.kind) ∧ w'.cell? ⟨b, 3, none⟩ = some (.int .i64 p.party) ∧ w'.cell? ⟨b, 4, none⟩ = some (.int .i64 p.parcel) ∧ w'.cell? ⟨b, 5, none⟩ = some (.int .i64 p.amount) ∧ w'.cell? ⟨b, 6, none⟩ = some (.int .i64 p.reason) ∧ w'.cell? ⟨b, 7, none⟩ = some (.int .i64 p.known))
    (first
      | go_keep
      | exact S8 hT.st.box ((((Keeps.refl N W).drewN 1).alloc _).trans hK1) hT.st.far)
    (first | (go_at_call 134; refine (ptakes _).mono ?_; rintro e w1 ⟨rfl, o, rfl⟩) | (refine (hF.out _ ((hT.st.chest.drewN 1).alloc _)).mono ?_; rintro e w1 ⟨rfl, hC1, hK1⟩))
  go_wp2
  refine wp_world (R := TSt w N b c2 p) (hT.step ((((Keeps.refl N W).drewN 1).alloc _).trans hK1) hC1) ?_
  clear hC1 hK1 hix p0 p1 p2 p3 p4 p5 p6 p7 hB hT
  clear W
  intro W hT
  have p0 := hT.st.box.c0
  have p1 := hT.st.box.c1
  have q0 := hT.st.chest.c0
  have q1 := hT.st.chest.c1
  have q2 := hT.st.chest.c2
  have f0 := hT.st.chest.f0
  have f1 := hT.st.chest.f1
  have hne : b ≠ N + 5 := by have := hT.st.far; omega
  have hw : IntKind.i64.wrap (c2.n + 1) = c2.n + 1 := IntWalk.i64_in _ (by omega)
  obtain ⟨ix, b0, he, hst⟩ := idEntry (w := ((W.setCell ⟨N + 5, 0, none⟩ (.int .i64 (c2.n + 1))).setCell ⟨N + 5, 1, none⟩ (.int .i64 p.hour)).drew) (N := N) (m := c2.ids)
    (by have := (((hT.st.chest.set_n (c2.n + 1)).set_hour p.hour).drewN 1).ids; exact this) (by have := hT.st.chest.lt; simp; omega) p.id
  have hT3 : TSt w N b (c2.told p) p (putO ((W.setCell ⟨N + 5, 0, none⟩ (.int .i64 (c2.n + 1))).setCell ⟨N + 5, 1, none⟩ (.int .i64 p.hour)).drew N (mapObj vi vbool (putM c2.ids p.id true))) :=
    hT.step ((((Keeps.refl N W).setCell (by omega) _).setCell (by omega) _).drew.putO (by omega) _) ((((hT.st.chest.set_n (c2.n + 1)).set_hour p.hour).drewN 1).put_ids _)
  have e0 := hT3.err
  have e1 := hT3.fz
  replace hT3 := Lib.hid hT3
  have k0 : TSt w N b c2 p W.drew := hT.drewN 1
  have k1 : TSt w N b { c2 with n := c2.n + 1 } p (W.setCell ⟨N + 5, 0, none⟩ (.int .i64 (c2.n + 1))) := hT.step ((Keeps.refl N W).setCell (by omega) _) (hT.st.chest.set_n _)
  have k2 := k1.step ((Keeps.refl N _).setCell (o := 1) (b := N + 5) (by omega) (.int .i64 p.hour)) (k1.st.chest.set_hour p.hour)
  have k3 := (k2.drewN 1).step ((Keeps.refl N _).putO (b := N) (by omega) (mapObj vi vbool (entM c2.ids p.id false))) ((k2.drewN 1).st.chest.put_ids _)
  have K0 := Lib.hid (S3 k0)
  have K1 := Lib.hid (S3 k1)
  have K2 := Lib.hid (S3 k2)
  have K3 := Lib.hid (S3 k3)
  have K4 := Lib.hid (S3 hT3.out)
  clear k0 k1 k2 k3 hT
  replace hn2 := Lib.hid hn2
  refine wp_region_held_drew (S := (fun w' => w'.cell? ⟨b, 0, none⟩ = some (.int .i64 p.id) ∧ w'.cell? ⟨b, 1, none⟩ = some (.int .i64 p.hour) ∧ w'.cell? ⟨N + 5, 2, none⟩ = some (.map (some N)))) (by kernel_rfl) ?_ (fun hHeld0 => ?_)
  · (try dsimp only); (first
                        | exact K0.out
                        | exact K1.out
                        | exact K2.out
                        | exact K3.out
                        | exact K4.out)
  refine xtake 0 (v := ?_) rfl (by kernel_rfl) (by kernel_rfl) (by kernel_rfl) rfl ?_ ?_ (by assumption) ?_
  rotate_left
  · intro w hSw; (try dsimp only at hSw); go_simp; with_reducible rfl
  · (exact fun _ _ _ hp => take_hq (by decide) hp)
  try simp only [Act.put, List.setIfInBounds_toArray, List.set_cons_zero, List.set_cons_succ]
  refine xtake 1 (v := ?_) rfl (by kernel_rfl) (by kernel_rfl) (by kernel_rfl) rfl ?_ ?_ (by assumption) ?_
  rotate_left
  · intro w hSw; (try dsimp only at hSw); go_simp; with_reducible rfl
  · (exact fun _ _ _ hp => take_hq (by decide) hp)
  try simp only [Act.put, List.setIfInBounds_toArray, List.set_cons_zero, List.set_cons_succ]
  refine xtake 2 (v := ?_) rfl (by kernel_rfl) (by kernel_rfl) (by kernel_rfl) rfl ?_ ?_ (by assumption) ?_
  rotate_left
  · intro w hSw; (try dsimp only at hSw); go_simp; with_reducible rfl
  · (exact fun _ _ _ hp => take_hq (by decide) hp)
  try simp only [Act.put, List.setIfInBounds_toArray, List.set_cons_zero, List.set_cons_succ]
  refine xtake 3 (v := ?_) rfl (by kernel_rfl) (by kernel_rfl) (by kernel_rfl) rfl ?_ ?_ (by assumption) ?_
  rotate_left
  · intro w hSw; (try dsimp only at hSw); go_simp; with_reducible rfl
  · (exact fun _ _ _ hp => take_hq (by decide) hp)
  try simp only [Act.put, List.setIfInBounds_toArray, List.set_cons_zero, List.set_cons_succ]
  refine xtake 4 (v := ?_) rfl (by kernel_rfl) (by kernel_rfl) (by kernel_rfl) rfl ?_ ?_ (by assumption) ?_
  rotate_left
  · intro w hSw; (try dsimp only at hSw); go_simp; with_reducible rfl
  · (exact fun _ _ _ hp => take_hq (by decide) hp)
  try simp only [Act.put, List.setIfInBounds_toArray, List.set_cons_zero, List.set_cons_succ]
  refine xtake 5 (v := ?_) rfl (by kernel_rfl) (by kernel_rfl) (by kernel_rfl) rfl ?_ ?_ (by assumption) ?_
  rotate_left
  · intro w hSw; (try dsimp only at hSw); go_simp; with_reducible rfl
  · (exact fun _ _ _ hp => take_hq (by decide) hp)
  try simp only [Act.put, List.setIfInBounds_toArray, List.set_cons_zero, List.set_cons_succ]
  refine xtake 6 (v := ?_) rfl (by kernel_rfl) (by kernel_rfl) (by kernel_rfl) rfl ?_ ?_ (by assumption) ?_
  rotate_left
  · intro w hSw; (try dsimp only at hSw); go_simp; with_reducible rfl
  · (exact fun _ _ _ hp => take_hq (by decide) hp)
  try simp only [Act.put, List.setIfInBounds_toArray, List.set_cons_zero, List.set_cons_succ]
  refine xtake 7 (v := ?_) rfl (by kernel_rfl) (by kernel_rfl) (by kernel_rfl) rfl ?_ ?_ (by assumption) ?_
  rotate_left
  · intro w hSw; (try dsimp only at hSw); go_simp; with_reducible rfl
  · (exact fun _ _ _ hp => take_hq (by decide) hp)
  try simp only [Act.put, List.setIfInBounds_toArray, List.set_cons_zero, List.set_cons_succ]
  refine xtake 8 (v := ?_) rfl (by kernel_rfl) (by kernel_rfl) (by kernel_rfl) rfl ?_ ?_ (by assumption) ?_
  rotate_left
  · intro w hSw; (try dsimp only at hSw); go_simp; with_reducible rfl
  · (exact fun _ _ _ hp => take_hq (by decide) hp)
  try simp only [Act.put, List.setIfInBounds_toArray, List.set_cons_zero, List.set_cons_succ]
  refine xtake 9 (v := ?_) rfl (by kernel_rfl) (by kernel_rfl) (by kernel_rfl) rfl ?_ ?_ (by assumption) ?_
  rotate_left
  · intro w hSw; (try dsimp only at hSw); go_simp; with_reducible rfl
  · (exact fun _ _ _ hp => take_hq (by decide) hp)
  try simp only [Act.put, List.setIfInBounds_toArray, List.set_cons_zero, List.set_cons_succ]
  refine xtake 10 (v := ?_) rfl (by kernel_rfl) (by kernel_rfl) (by kernel_rfl) rfl ?_ ?_ (by assumption) ?_
  rotate_left
  · intro w hSw; (try dsimp only at hSw); go_simp; with_reducible rfl
  · (exact fun _ _ _ hp => take_hq (by decide) hp)
  try simp only [Act.put, List.setIfInBounds_toArray, List.set_cons_zero, List.set_cons_succ]
  refine xtake 13 (v := ?_) rfl (by kernel_rfl) (by kernel_rfl) (by kernel_rfl) rfl ?_ ?_ (by assumption) ?_
  rotate_left
  · intro w hSw; (try dsimp only at hSw); go_simp; with_reducible rfl
  · (exact fun _ _ _ hp => take_hq (by decide) hp)
  try simp only [Act.put, List.setIfInBounds_toArray, List.set_cons_zero, List.set_cons_succ]
  refine xtake 14 (v := ?_) rfl (by kernel_rfl) (by kernel_rfl) (by kernel_rfl) rfl ?_ ?_ (by assumption) ?_
  rotate_left
  · intro w hSw; (try dsimp only at hSw); go_simp; with_reducible rfl
  · (exact fun _ _ _ hp => take_hq (by decide) hp)
  try simp only [Act.put, List.setIfInBounds_toArray, List.set_cons_zero, List.set_cons_succ]
  refine wpAnyH_ready (rs := [11]) (by kernel_rfl) (by simp) ?_
  refine xcons 11 rfl (fun K hK => ?_) ?_
  focus
    go_simp
    refine hK.out _ _ ?_ (fun hHeld1 => ?_)
    · (try dsimp only); (first
                          | exact K0.out
                          | exact K1.out
                          | exact K2.out
                          | exact K3.out
                          | exact K4.out)
    clear hK K
    try simp only [Act.put, List.setIfInBounds_toArray, List.set_cons_zero, List.set_cons_succ]
    (try clear hHeld0)
    refine xtake 12 (v := ?_) rfl (by kernel_rfl) (by kernel_rfl) (by kernel_rfl) rfl ?_ ?_ (by assumption) ?_
    rotate_left
    · intro w hSw; (try dsimp only at hSw); go_simp; with_reducible rfl
    · (exact fun _ _ _ hp => take_hq (by decide) hp)
    try simp only [Act.put, List.setIfInBounds_toArray, List.set_cons_zero, List.set_cons_succ]
    refine xtake 15 (v := ?_) rfl (by kernel_rfl) (by kernel_rfl) (by kernel_rfl) rfl ?_ ?_ (by assumption) ?_
    rotate_left
    · intro w hSw; (try dsimp only at hSw); go_simp; with_reducible rfl
    · (exact fun _ _ _ hp => take_hq (by decide) hp)
    try simp only [Act.put, List.setIfInBounds_toArray, List.set_cons_zero, List.set_cons_succ]
    refine xtake 16 (v := ?_) rfl (by kernel_rfl) (by kernel_rfl) (by kernel_rfl) rfl ?_ ?_ (by assumption) ?_
    rotate_left
    · intro w hSw; (try dsimp only at hSw); go_simp; with_reducible rfl
    · (exact fun _ _ _ hp => take_hq (by decide) hp)
    try simp only [Act.put, List.setIfInBounds_toArray, List.set_cons_zero, List.set_cons_succ]
    refine wpAnyH_ready (rs := [17]) (by kernel_rfl) (by simp) ?_
    refine xcons 17 rfl (fun K hK => ?_) ?_
    focus
      go_simp
      refine hK.out _ _ ?_ (fun hHeld2 => ?_)
      · (try dsimp only); (first
                            | exact K0.out
                            | exact K1.out
                            | exact K2.out
                            | exact K3.out
                            | exact K4.out)
      clear hK K
      try simp only [Act.put, List.setIfInBounds_toArray, List.set_cons_zero, List.set_cons_succ]
      (try clear hHeld1)
      refine xtake 18 (v := ?_) rfl (by kernel_rfl) (by kernel_rfl) (by kernel_rfl) rfl ?_ ?_ (by assumption) ?_
      rotate_left
      · intro w hSw; (try dsimp only at hSw); go_simp; with_reducible rfl
      · (exact fun _ _ _ hp => take_hq (by decide) hp)
      try simp only [Act.put, List.setIfInBounds_toArray, List.set_cons_zero, List.set_cons_succ]
      refine xtake 19 (v := ?_) rfl (by kernel_rfl) (by kernel_rfl) (by kernel_rfl) rfl ?_ ?_ (by assumption) ?_
      rotate_left
      · intro w hSw; (try dsimp only at hSw); go_simp; with_reducible rfl
      · (exact fun _ _ _ hp => take_hq (by decide) hp)
      try simp only [Act.put, List.setIfInBounds_toArray, List.set_cons_zero, List.set_cons_succ]
      refine wpAnyH_ready (rs := [20]) (by kernel_rfl) (by simp) ?_
      refine xcons 20 rfl (fun K hK => ?_) ?_
      focus
        go_simp
        refine hK.out _ _ ?_ (fun hHeld3 => ?_)
        · (try dsimp only); (first
                              | exact K0.out
                              | exact K1.out
                              | exact K2.out
                              | exact K3.out
                              | exact K4.out)
        clear hK K
        try simp only [Act.put, List.setIfInBounds_toArray, List.set_cons_zero, List.set_cons_succ]
        (try clear hHeld2)
        refine wpAnyH_ready (rs := [21]) (by kernel_rfl) (by simp) ?_
        refine xcons 21 rfl (fun K hK => ?_) ?_
        focus
          go_simp
          refine hK.out _ _ ?_ (fun hHeld4 => ?_)
          · (try dsimp only); (first
                                | exact K0.out
                                | exact K1.out
                                | exact K2.out
                                | exact K3.out
                                | exact K4.out)
          clear hK K
          try simp only [Act.put, List.setIfInBounds_toArray, List.set_cons_zero, List.set_cons_succ]
          (try clear hHeld3)
          refine xtake 22 (v := ?_) rfl (by kernel_rfl) (by kernel_rfl) (by kernel_rfl) rfl ?_ ?_ (by assumption) ?_
          rotate_left
          · intro w hSw; (try dsimp only at hSw); go_simp; with_reducible rfl
          · (exact fun _ _ _ hp => take_hq (by decide) hp)
          try simp only [Act.put, List.setIfInBounds_toArray, List.set_cons_zero, List.set_cons_succ]
          refine wpAnyH_ready (rs := [23]) (by kernel_rfl) (by simp) ?_
          refine xcons 23 rfl (fun K hK => ?_) ?_
          focus
            go_simp
            refine hK.out _ _ ?_ (fun hHeld5 => ?_)
            · (try dsimp only); (first
                                  | exact K0.out
                                  | exact K1.out
                                  | exact K2.out
                                  | exact K3.out
                                  | exact K4.out)
            clear hK K
            try simp only [Act.put, List.setIfInBounds_toArray, List.set_cons_zero, List.set_cons_succ]
            (try clear hHeld4)
            refine wpAnyH_done (by kernel_rfl) ?_ _
            (revert hHeld5; intro _)
          rotate_left 1
          exact AllReadyH.nil
        rotate_left 1
        exact AllReadyH.nil
      rotate_left 1
      exact AllReadyH.nil
    rotate_left 1
    exact AllReadyH.nil
  rotate_left 1
  exact AllReadyH.nil
  go_wp2
  refine door_ret (b + 1) 0 _ (by simp) (World.cell?_setCell_same _ _ _ hT3.out.err) ⟨rfl, ?_, ?_⟩
  · exact hT3.out.st.chest.same (by simp) fun k _ hk => Below.heap_setCell _ _ _ _ (by have := hT3.out.st.far; simp; omega)
  · exact hT3.out.st.keep.setNew (by rw [Hb.out]; omega) _

end Go.Proofs.YtoijlikmigejbaaGreat

namespace Go.Proofs.YtoijlikmigejbaaGreat
open Go.RowKit Go.Proofs.YtoijlikmigejbaaGreat.Pu

set_option maxRecDepth 100000 in
set_option maxHeartbeats 8000000 in
theorem ptake_no (N : Nat) (c : CS) (p : Post) (w : World) (hC : ChestAt w N c) (hn : c.n < 400) (h0 : 0 ≤ p.kind) (h1 : p.kind ≤ 255) (hok : okP p = true) (hid : Hid (c.idIn p.id = false)) (hh : c.hour ≤ p.hour) (x : Int) (F : FuncId) (hix : ∀ w, (Instr.index 152 kinds (.int .u8 p.kind)).run Tryz.prog w = .ok (.func (.func F) #[] #[]) w) (hcf : ∀ (args : Array Value) (w : World), (callFunc F args).run Tryz.prog w = .ok (.enter F args) w) (hF : Hid (KindNo F N c p x)) :
    Calls Tryz.prog 111 #[.pointer (some ⟨N + 5, 0, none⟩), pval p] w fun e w' => e = .returned (.int .i64 x) ∧ Below w.heap.size w w' := by
  have hmf : ∀ (fn : Fn) (first cap : Array Value) (w : World), (Instr.makeFunc fn first cap).run Tryz.prog w = .ok (.func fn first cap) w := fun _ _ _ _ => rfl
  have hT := TSt.new hC p
  have hB : Below w.heap.size w ((w.alloc (pobj p)).alloc (.cells #[.int .i64 0] 27)) := ((Below.refl _ _).alloc (Nat.le_refl _) _).alloc (by simp) _
  have c0 := hC.c0
  have hlt := hC.lt
  have hd : decide (c.n < 400) = true := by simp; omega
  go_enter_defers Tryz.func111, Tryz.ntmps111
  go_wp2_with (first | (go_at_call 132; refine (punless_true _ _).mono ?_; rintro e w1 ⟨rfl, rfl⟩) | (go_at_call 133; refine (pCheckPosting_ok p _ h0 h1 hok).mono ?_; rintro e w1 ⟨rfl, hB1⟩))
  refine wp_world (R := fun W => TSt w N w.heap.size c p W ∧ Below w.heap.size w W) ⟨hT.below hB1, hB.trans (hB1.mono (by simp; omega))⟩ ?_
  clear hB1 hT hB c0 hlt hmf hd hC
  obtain ⟨b, hb⟩ : ∃ b, w.heap.size = b := ⟨_, rfl⟩
  rw [hb]
  have Hb := Lib.hid hb
  clear hb
  rintro W ⟨hT, hB⟩
  have p0 := hT.st.box.c0
  have c2 := hT.st.chest.c2
  have hl := idLook hT.st.chest p.id
  rw [hid.out] at hl
  go_quiet ((go_at_call 132; exact quietS (punless_true _ _)))
  go_wp2
  refine wp_world (R := fun W => TSt w N b c p W ∧ Below b w W) ⟨hT.drewN _, below_drewN hB _⟩ ?_
  clear hT hB p0 c2 hl W
  rintro W ⟨hT, hB⟩
  have p1 := hT.st.box.c1
  have c1 := hT.st.chest.c1
  have hd : decide (c.hour ≤ p.hour) = true := by simp; omega
  go_quiet ((go_at_call 132; exact quietS (punless_true _ _)))
  go_wp2
  refine wp_world (R := fun W => TSt w N b c p W ∧ Below b w W) ⟨hT.drewN _, below_drewN hB _⟩ ?_
  clear hT hB p1 c1 hd W
  rintro W ⟨hT, hB⟩
  have p0 := hT.st.box.c0
  have p1 := hT.st.box.c1
  have p2 := hT.st.box.c2
  have p3 := hT.st.box.c3
  have p4 := hT.st.box.c4
  have p5 := hT.st.box.c5
  have p6 := hT.st.box.c6
  have p7 := hT.st.box.c7
  refine wp_region_held_drew (S := (fun w' => w'.cell? ⟨b, 0, none⟩ = some (.int .i64 p.id) ∧ w'.cell? ⟨b, 1, none⟩ = some (.int .i64 p.hour) ∧ w'.cell? ⟨b, 2, none⟩ = some (.int .u8 p.kind) ∧ w'.cell? ⟨b, 3, none⟩ = some (.int .i64 p.party) ∧ w'.cell? ⟨b, 4, none⟩ = some (.int .i64 p.parcel) ∧ w'.cell? ⟨b, 5, none⟩ = some (.int .i64 p.amount) ∧ w'.cell? ⟨b, 6, none⟩ = some (.int .i64 p.reason) ∧ w'.cell? ⟨b, 7, none⟩ = some (.int .i64 p.known))) (by kernel_rfl) ?_ (fun hHeld0 => ?_)
  · (try dsimp only); (first
                        | go_keep
                        | exact S8 hT.st.box (((Keeps.refl N W).drewN 1).alloc _) hT.st.far)
  refine xtake 1 (v := ?_) rfl (by kernel_rfl) (by kernel_rfl) (by kernel_rfl) rfl ?_ ?_ (by assumption) ?_
  rotate_left
  · intro w hSw; (try dsimp only at hSw); go_simp; with_reducible rfl
  · (exact fun _ _ _ hp => take_hq (by decide) hp)
  try simp only [Act.put, List.setIfInBounds_toArray, List.set_cons_zero, List.set_cons_succ]
  refine xtake 2 (v := ?_) rfl (by kernel_rfl) (by kernel_rfl) (by kernel_rfl) rfl ?_ ?_ (by assumption) ?_
  rotate_left
  · intro w hSw; (try dsimp only at hSw); go_simp; with_reducible rfl
  · (exact fun _ _ _ hp => take_hq (by decide) hp)
  try simp only [Act.put, List.setIfInBounds_toArray, List.set_cons_zero, List.set_cons_succ]
  refine xtake 4 (v := ?_) rfl (by kernel_rfl) (by kernel_rfl) (by kernel_rfl) rfl ?_ ?_ (by assumption) ?_
  rotate_left
  · intro w hSw; (try dsimp only at hSw); go_simp; with_reducible rfl
  · (exact fun _ _ _ hp => take_hq (by decide) hp)
  try simp only [Act.put, List.setIfInBounds_toArray, List.set_cons_zero, List.set_cons_succ]
  refine xtake 5 (v := ?_) rfl (by kernel_rfl) (by kernel_rfl) (by kernel_rfl) rfl ?_ ?_ (by assumption) ?_
  rotate_left
  · intro w hSw; (try dsimp only at hSw); go_simp; with_reducible rfl
  · (exact fun _ _ _ hp => take_hq (by decide) hp)
  try simp only [Act.put, List.setIfInBounds_toArray, List.set_cons_zero, List.set_cons_succ]
  refine wpAnyH_ready (rs := [0]) (by kernel_rfl) (by simp) ?_
  refine xcons 0 rfl (fun K hK => ?_) ?_
  focus
    go_simp
    (first
      | (go_at_call 134; refine (ptakes _).mono ?_; rintro e w1 ⟨rfl, o, rfl⟩)
      | (refine (hF.out _ ((hT.st.chest.drewN 1).alloc _)).mono ?_
         rintro e w1 ⟨rfl, hB1⟩
         refine take_door Hb.out (((hT.drewN 1).below ((Below.refl _ _).alloc (Nat.le_refl _) _)).below hB1) ?_ ?_
         · exact ((below_drewN hB 1).alloc (Nat.le_of_lt (Nat.lt_of_lt_of_le hT.st.box.lt (Nat.le_refl _))) _).trans (hB1.mono (by have := hT.st.box.lt; simp; omega))
         · simp))
    try dsimp only
    refine hK.out _ _ ?_ (fun hHeld1 => ?_)
    · (try dsimp only); (first
                          | go_keep
                          | exact S8 hT.st.box (((Keeps.refl N W).drewN 1).alloc _) hT.st.far)
    clear hK K
    try simp only [Act.put, List.setIfInBounds_toArray, List.set_cons_zero, List.set_cons_succ]
    (try clear hHeld0)
    refine wpAnyH_ready (rs := [3]) (by kernel_rfl) (by simp) ?_
    refine xcons 3 rfl (fun K hK => ?_) ?_
    focus
      go_simp
      refine hK.out _ _ ?_ (fun hHeld2 => ?_)
      · (try dsimp only); (first
                            | go_keep
                            | exact S8 hT.st.box (((Keeps.refl N W).drewN 1).alloc _) hT.st.far)
      clear hK K
      try simp only [Act.put, List.setIfInBounds_toArray, List.set_cons_zero, List.set_cons_succ]
      (try clear hHeld1)
      refine wpAnyH_ready (rs := [6]) (by kernel_rfl) (by simp) ?_
      refine xcons 6 rfl (fun K hK => ?_) ?_
      focus
        go_simp
        (first
          | (go_at_call 134; refine (ptakes _).mono ?_; rintro e w1 ⟨rfl, o, rfl⟩)
          | (refine (hF.out _ ((hT.st.chest.drewN 1).alloc _)).mono ?_
             rintro e w1 ⟨rfl, hB1⟩
             refine take_door Hb.out (((hT.drewN 1).below ((Below.refl _ _).alloc (Nat.le_refl _) _)).below hB1) ?_ ?_
             · exact ((below_drewN hB 1).alloc (Nat.le_of_lt (Nat.lt_of_lt_of_le hT.st.box.lt (Nat.le_refl _))) _).trans (hB1.mono (by have := hT.st.box.lt; simp; omega))
             · simp))
      exact AllReadyH.nil
    exact AllReadyH.nil
  exact AllReadyH.nil

end Go.Proofs.YtoijlikmigejbaaGreat

namespace Go.Proofs.YtoijlikmigejbaaGreat
open Go.RowKit Go.Proofs.YtoijlikmigejbaaGreat.Pu

/-- take's answer -/
def TakeRes (N : Nat) (l : List Post) (p : Post) (w : World) (e : Ending) (w' : World) : Prop :=
  e = .returned (.int .i64 (refused l p)) ∧ Keeps N w w' ∧ ∃ c', CInv c' (if refused l p = 0 then l ++ [p] else l) ∧ ChestAt w' N c'

theorem enter1 (args : Array Value) (w : World) : (callFunc 143 args).run Tryz.prog w = .ok (.enter 143 args) w := by
  simp [callFunc, go_sem]
  rw [if_neg (by simp [Tryz.f143]), if_neg (by simp [Tryz.f143])]
theorem enter2 (args : Array Value) (w : World) : (callFunc 144 args).run Tryz.prog w = .ok (.enter 144 args) w := by
  simp [callFunc, go_sem]
  rw [if_neg (by simp [Tryz.f144]), if_neg (by simp [Tryz.f144])]
theorem enter3 (args : Array Value) (w : World) : (callFunc 145 args).run Tryz.prog w = .ok (.enter 145 args) w := by
  simp [callFunc, go_sem]
  rw [if_neg (by simp [Tryz.f145]), if_neg (by simp [Tryz.f145])]

theorem TakeRes.no {N : Nat} {c : CS} {l : List Post} {p : Post} {w : World} {x : Int} (hI : CInv c l) (hC : ChestAt w N c) (hx : refused l p = x) (h0 : x ≠ 0) {e : Ending} {w' : World}
    (h : e = .returned (.int .i64 x) ∧ Below w.heap.size w w') : TakeRes N l p w e w' := by
  refine ⟨by rw [hx]; exact h.1, .of_below h.2, c, ?_, hC.below h.2 hC.lt⟩
  rw [if_neg (by rw [hx]; exact h0)]; exact hI
theorem TakeRes.yes {N : Nat} {c' : CS} {l : List Post} {p : Post} {w : World} (hI : CInv c' (l ++ [p])) (hx : refused l p = 0) {e : Ending} {w' : World}
    (h : e = .returned (.int .i64 0) ∧ ChestAt w' N c' ∧ Keeps N w w') : TakeRes N l p w e w' := by
  refine ⟨by rw [hx]; exact h.1, h.2.2, c', ?_, h.2.1⟩
  rw [if_pos hx]; exact hI

theorem ptake (N : Nat) (l : List Post) (c : CS) (p : Post) (w : World) (hI : CInv c l) (hb : Book l) (hC : ChestAt w N c) (h0 : 0 ≤ p.kind) (h1 : p.kind ≤ 255) :
    Calls Tryz.prog 111 #[.pointer (some ⟨N + 5, 0, none⟩), pval p] w (TakeRes N l p w) := by
  have hA := Book.amtOk hb
  have hn0 : 0 ≤ c.n := by rw [hI.n]; omega
  by_cases hn : c.n < 400
  case neg =>
    have hr : refused l p = 2 := by unfold refused; rw [if_pos (by have := hI.n; omega)]
    exact (ptake_full N c p w hC hn).mono fun _ _ h => .no hI hC hr (by omega) h
  have hl : ¬ 400 ≤ l.length := by have := hI.n; omega
  cases hok : okP p with
  | false =>
    have hr : refused l p = 1 := by unfold refused; rw [if_neg hl, if_pos (by rw [hok]; rfl)]
    exact (ptake_bad N c p w hC hn h0 h1 hok).mono fun _ _ h => .no hI hC hr (by omega) h
  | true =>
  cases hid : c.idIn p.id with
  | true =>
    have hr : refused l p = 6 := by unfold refused; rw [if_neg hl, if_neg (by rw [hok]; simp), if_pos (by rw [← hI.ids]; exact hid)]
    exact (ptake_id N c p w hC hn h0 h1 hok hid).mono fun _ _ h => .no hI hC hr (by omega) h
  | false =>
  by_cases hh : p.hour < c.hour
  · have hr : refused l p = 7 := by
      unfold refused; rw [if_neg hl, if_neg (by rw [hok]; simp), if_neg (by rw [← hI.ids, hid]; simp), if_pos]
      refine ⟨?_, by rw [← hI.hour]; exact hh⟩
      cases l with
      | nil => have := hI.hour; simp only [lastHour, List.getLast?_nil] at this; have := okP_hour hok; omega
      | cons => simp
    exact (ptake_hour N c p w hC hn h0 h1 hok hid hh).mono fun _ _ h => .no hI hC hr (by omega) h
  have ht := refused_tail hl hok (by rw [← hI.ids]; exact hid) (fun h => hh (by rw [hI.hour]; exact h.2))
  have hp := okP_party hok
  have hidl : l.any (fun q => q.id == p.id) = false := by rw [← hI.ids]; exact hid
  have ha := okP_amount hok
  have hlen : l.length < 400 := by omega
  have hle : c.hour ≤ p.hour := by omega
  have hs := sold_bd p.parcel hA
  have hhe := held_bd p.parcel hA
  have hha := has_bd p.party p.parcel hA
  have hsold := hI.sold p.parcel
  rcases okP_kind hok with hk | hk | hk
  · by_cases hz : Pu.sold l p.parcel = 0
    · rw [if_pos hz] at hsold
      have hr : refused l p = 0 := by rw [ht]; unfold refusedTail; rw [if_pos hk, if_neg (by omega)]
      exact (ptake_ok N c p w hC hn h0 h1 hok hid hle (c.sale p) hn0 rfl _ (kinds1 hk) enter1 fun w1 hC1 => psale_ok N c p w1 hC1 hsold).mono
        fun _ _ h => .yes (hI.sale hk (by omega) hz (Book.unheld hb hz) hp.1 hp.2 hidl) hr h
    · rw [if_neg hz] at hsold
      have hr : refused l p = 6 := by rw [ht]; unfold refusedTail; rw [if_pos hk, if_pos (by omega)]
      exact (ptake_no N c p w hC hn h0 h1 hok hid hle 6 _ (kinds1 hk) enter1 fun w1 hC1 => psale_no N c p w1 hC1 _ hsold).mono fun _ _ h => .no hI hC hr (by omega) h
  · by_cases hz : Pu.sold l p.parcel = 0
    · rw [if_pos hz] at hsold
      have hr : refused l p = 5 := by rw [ht]; unfold refusedTail; rw [if_neg (by omega), if_pos hz]
      exact (ptake_no N c p w hC hn h0 h1 hok hid hle 5 _ (kinds2 hk) enter2 fun w1 hC1 => ppay_none N c p w1 hC1 hsold).mono fun _ _ h => .no hI hC hr (by omega) h
    rw [if_neg hz] at hsold
    by_cases hq : Pu.held l p.parcel < p.amount
    · have hr : refused l p = 70 := by rw [ht]; unfold refusedTail; rw [if_neg (by omega), if_neg hz, if_pos hk, if_pos hq]
      exact (ptake_no N c p w hC hn h0 h1 hok hid hle 70 _ (kinds2 hk) enter2 fun w1 hC1 => ppay_poor N c p w1 hC1 _ hsold (by rw [hI.held]; exact hq)).mono fun _ _ h => .no hI hC hr (by omega) h
    · have hr : refused l p = 0 := by rw [ht]; unfold refusedTail; rw [if_neg (by omega), if_neg hz, if_pos hk, if_neg hq]
      refine (ptake_ok N c p w hC hn h0 h1 hok hid hle (c.pay p) hn0 rfl _ (kinds2 hk) enter2 fun w1 hC1 => ?_).mono fun _ _ h => .yes (hI.pay hk hp.1 hp.2 hidl) hr h
      exact ppay_ok N c p w1 hC1 _ hsold (by rw [hI.held]; omega) ⟨by omega, by omega⟩ (by rw [hI.held]; omega) (by rw [hI.has]; omega)
  · by_cases hz : Pu.sold l p.parcel = 0
    · rw [if_pos hz] at hsold
      have hr : refused l p = 5 := by rw [ht]; unfold refusedTail; rw [if_neg (by omega), if_pos hz]
      exact (ptake_no N c p w hC hn h0 h1 hok hid hle 5 _ (kinds3 hk) enter3 fun w1 hC1 => pback_none N c p w1 hC1 hsold).mono fun _ _ h => .no hI hC hr (by omega) h
    rw [if_neg hz] at hsold
    have hlast : c.lastOf p.parcel p.party = (Pu.last l p.party p.parcel).getD zeroP := by unfold CS.lastOf; rw [hI.last]
    by_cases hq : Pu.has l p.party p.parcel < p.amount
    · have hr : refused l p = 70 := by rw [ht]; unfold refusedTail; rw [if_neg (by omega), if_neg hz, if_neg (by omega), if_pos hq]
      exact (ptake_no N c p w hC hn h0 h1 hok hid hle 70 _ (kinds3 hk) enter3 fun w1 hC1 => pback_poor N c p w1 hC1 _ hsold (by rw [hI.has]; exact hq)).mono fun _ _ h => .no hI hC hr (by omega) h
    by_cases hre : p.known ≤ ((Pu.last l p.party p.parcel).getD zeroP).known
    · have hr : refused l p = 71 := by rw [ht]; unfold refusedTail; rw [if_neg (by omega), if_neg hz, if_neg (by omega), if_neg hq, if_pos hre]
      exact (ptake_no N c p w hC hn h0 h1 hok hid hle 71 _ (kinds3 hk) enter3 fun w1 hC1 => pback_reason N c p w1 hC1 _ hsold (by rw [hI.has]; omega) (by rw [hlast]; exact hre)).mono fun _ _ h => .no hI hC hr (by omega) h
    · have hr : refused l p = 0 := by rw [ht]; unfold refusedTail; rw [if_neg (by omega), if_neg hz, if_neg (by omega), if_neg hq, if_neg hre]
      refine (ptake_ok N c p w hC hn h0 h1 hok hid hle (c.back p) hn0 rfl _ (kinds3 hk) enter3 fun w1 hC1 => ?_).mono fun _ _ h => .yes (hI.back hk hp.1 hp.2 hidl) hr h
      exact pback_ok N c p w1 hC1 _ hsold (by rw [hI.has]; omega) (by rw [hlast]; omega) ⟨by omega, by omega⟩ (by rw [hI.held]; omega) (by rw [hI.has]; omega)
end Go.Proofs.YtoijlikmigejbaaGreat
