/- Walks: a clawback. Walks: the deferred closure of a posting's taking; the table of kinds. The chest and the book: what a chest holds behind the postings of a book. Plain Lean. Walks: the taking of a posting, where it is refused ahead of its kind. -/
import Derived.Test.YtoijlikmigejbaaGreatG03
import Derived.Recover
import Derived.Laws.EntriesVeiled
namespace Go.Proofs.YtoijlikmigejbaaGreat
open Go.RowKit Go.Proofs.YtoijlikmigejbaaGreat.Pu

def CS.back (c : CS) (p : Post) : CS :=
  { c with held := putM c.held p.parcel (gd c.held p.parcel + p.amount), has := putM c.has (p.parcel, p.party) (gd c.has (p.parcel, p.party) - p.amount) }
def CS.lastOf (c : CS) (x y : Int) : Post := (getM c.last (x, y)).getD zeroP

theorem lastLook {w : World} {N : Nat} {c : CS} (h : ChestAt w N c) (x y : Int) (n : Nat) : (Instr.lookup 79 (.map (some (N + 4))) (.agg #[.int .i64 x, .int .i64 y]) false).run Tryz.prog (w.drewN n) = .ok (pval (c.lastOf x y)) (w.drewN n) := by
  have := run_lookupM acctKey Tryz.underlying79 zeroPost (h.drewN n).last (x, y) false
  rw [this]; unfold CS.lastOf; cases getM c.last (x, y) <;> rfl

theorem fieldKnown (q : Post) (w : World) : (Instr.field 36 (pval q) 7).run Tryz.prog w = .ok (.int .i64 q.known) w := by
  simp [Instr.field, go_sem, asAgg]
theorem abox1 (w : World) (p : Post) : ABox ((w.alloc (pobj p)).alloc (.cells #[.int .i64 p.parcel, .int .i64 p.party] 90)) (w.heap.size + 1) p.parcel p.party := by
  have := ABox.new (w.alloc (pobj p)) p.parcel p.party 90
  rw [show (w.alloc (pobj p)).heap.size = w.heap.size + 1 from by simp] at this
  exact this

set_option maxRecDepth 100000 in
set_option maxHeartbeats 2000000 in
theorem pback_none (N : Nat) (c : CS) (p : Post) (w : World) (hC : ChestAt w N c) (hg : Hid (getM c.sold p.parcel = none)) :
    Calls Tryz.prog 145 #[.pointer (some ⟨N + 5, 0, none⟩), pval p] w fun e w' => e = .panicked (refusal 5) ∧ Below w.heap.size w w' := by
  have hB1 : Below w.heap.size w (w.alloc (pobj p)) := (Below.refl _ _).alloc (Nat.le_refl _) _
  have hC1 := hC.alloc (pobj p)
  have hlook : ∀ n, (Instr.lookup 77 (.map (some (N + 1))) (.int .i64 p.parcel) true).run Tryz.prog ((w.alloc (pobj p)).drewN n) = .ok (.tuple #[.int .i64 0, .bool false]) ((w.alloc (pobj p)).drewN n) := fun n => by
    have := run_lookupM intKey Tryz.underlying77 zeroInt (hC1.drewN n).sold p.parcel true
    rw [this, hg.out]; rfl
  have a2 := hC.c3
  have hlt := hC.lt
  clear hC hC1 hg
  go_enter Tryz.func145, Tryz.ntmps145
  go_wp2
  go_quiet (fail)
  go_wp2_with (go_at_call 132; refine (punless_false _ _).mono ?_; rintro e w' ⟨rfl, rfl⟩)
  exact ⟨rfl, rfl, below_drewN hB1 _⟩

set_option maxRecDepth 100000 in
set_option maxHeartbeats 8000000 in
theorem pback_poor (N : Nat) (c : CS) (p : Post) (w : World) (hC : ChestAt w N c) (x : Int) (hg : Hid (getM c.sold p.parcel = some x)) (hpoor : gd c.has (p.parcel, p.party) < p.amount) :
    Calls Tryz.prog 145 #[.pointer (some ⟨N + 5, 0, none⟩), pval p] w fun e w' => e = .panicked (refusal 70) ∧ Below w.heap.size w w' := by
  have hB1 : Below w.heap.size w (w.alloc (pobj p)) := (Below.refl _ _).alloc (Nat.le_refl _) _
  have hC1 := hC.alloc (pobj p)
  have hlook : ∀ n, (Instr.lookup 77 (.map (some (N + 1))) (.int .i64 p.parcel) true).run Tryz.prog ((w.alloc (pobj p)).drewN n) = .ok (.tuple #[.int .i64 x, .bool true]) ((w.alloc (pobj p)).drewN n) := fun n => by
    have := run_lookupM intKey Tryz.underlying77 zeroInt (hC1.drewN n).sold p.parcel true
    rw [this, hg.out]; rfl
  have a2 := hC.c3
  have hlt := hC.lt
  have hS0 : PSt w N w.heap.size c p (w.alloc (pobj p)) ∧ Below w.heap.size w (w.alloc (pobj p)) := ⟨PSt.new hC p, hB1⟩
  have hfar : N + 5 < w.heap.size + 1 := by have := hC.lt; omega
  clear hC hC1 hg hB1
  obtain ⟨vs, hvs⟩ : ∃ v, Hid (v = gd c.has (p.parcel, p.party)) := ⟨_, rfl⟩
  rw [← hvs.out] at hpoor
  have hd : decide (p.amount ≤ vs) = false := by simp; omega
  go_enter Tryz.func145, Tryz.ntmps145
  go_wp2
  go_quiet (fail)
  go_wp2_with (go_at_call 132; refine (punless_true _ _).mono ?_; rintro e w' ⟨rfl, rfl⟩)
  refine wp_world (R := fun W2 => (PSt w N w.heap.size c p W2 ∧ ABox W2 (w.heap.size + 1) p.parcel p.party) ∧ Below w.heap.size w W2) ⟨⟨(hS0.1.alloc _).drewN _, (abox1 w p).keeps ((Keeps.refl N _).drewN _) (.inr hfar)⟩, below_drewN (hS0.2.alloc (by simp) _) _⟩ ?_
  clear hS0 hlook a2 hlt
  obtain ⟨b, hb⟩ : ∃ b, w.heap.size = b := ⟨_, rfl⟩
  rw [hb] at hfar ⊢
  have Hb := Lib.hid hb
  clear hb
  obtain ⟨ab, hab⟩ : ∃ ab, b + 1 = ab := ⟨_, rfl⟩
  rw [hab] at hfar ⊢
  clear hab
  rintro W2 ⟨⟨hS, hA⟩, hBW⟩
  have q5 := hS.chest.c5
  have p5 := hS.box.c5
  have a0 := hA.c0
  have a1 := hA.c1
  have hl : (Instr.lookup 78 (.map (some (N + 3))) (.agg #[.int .i64 p.parcel, .int .i64 p.party]) false).run Tryz.prog W2.drew = .ok (.int .i64 vs) W2.drew := by rw [hvs.out]; exact hasLook hS.chest p.parcel p.party 1
  clear hS hA
  go_still_tail 9, (by kernel_rfl)
  go_wp2_with (go_at_call 132; refine (punless_false _ _).mono ?_; rintro e w' ⟨rfl, rfl⟩)
  exact ⟨rfl, rfl, Hb.out ▸ hBW.drew⟩

set_option maxRecDepth 100000 in
set_option maxHeartbeats 8000000 in
theorem pback_reason (N : Nat) (c : CS) (p : Post) (w : World) (hC : ChestAt w N c) (x : Int) (hg : Hid (getM c.sold p.parcel = some x)) (hpoor : p.amount ≤ gd c.has (p.parcel, p.party)) (hre : p.known ≤ (c.lastOf p.parcel p.party).known) :
    Calls Tryz.prog 145 #[.pointer (some ⟨N + 5, 0, none⟩), pval p] w fun e w' => e = .panicked (refusal 71) ∧ Below w.heap.size w w' := by
  have hB1 : Below w.heap.size w (w.alloc (pobj p)) := (Below.refl _ _).alloc (Nat.le_refl _) _
  have hC1 := hC.alloc (pobj p)
  have hlook : ∀ n, (Instr.lookup 77 (.map (some (N + 1))) (.int .i64 p.parcel) true).run Tryz.prog ((w.alloc (pobj p)).drewN n) = .ok (.tuple #[.int .i64 x, .bool true]) ((w.alloc (pobj p)).drewN n) := fun n => by
    have := run_lookupM intKey Tryz.underlying77 zeroInt (hC1.drewN n).sold p.parcel true
    rw [this, hg.out]; rfl
  have a2 := hC.c3
  have hlt := hC.lt
  have hS0 : PSt w N w.heap.size c p (w.alloc (pobj p)) ∧ Below w.heap.size w (w.alloc (pobj p)) := ⟨PSt.new hC p, hB1⟩
  have hfar : N + 5 < w.heap.size + 1 := by have := hC.lt; omega
  clear hC hC1 hg hB1
  obtain ⟨vs, hvs⟩ : ∃ v, Hid (v = gd c.has (p.parcel, p.party)) := ⟨_, rfl⟩
  rw [← hvs.out] at hpoor
  have hd : decide (p.amount ≤ vs) = true := by simp; omega
  obtain ⟨q, hq⟩ : ∃ q, Hid (q = c.lastOf p.parcel p.party) := ⟨_, rfl⟩
  rw [← hq.out] at hre
  have hd2 : decide (q.known < p.known) = false := by simp; omega
  go_enter Tryz.func145, Tryz.ntmps145
  go_wp2
  go_quiet (fail)
  go_wp2_with (go_at_call 132; refine (punless_true _ _).mono ?_; rintro e w' ⟨rfl, rfl⟩)
  refine wp_world (R := fun W2 => (PSt w N w.heap.size c p W2 ∧ ABox W2 (w.heap.size + 1) p.parcel p.party) ∧ Below w.heap.size w W2) ⟨⟨(hS0.1.alloc _).drewN _, (abox1 w p).keeps ((Keeps.refl N _).drewN _) (.inr hfar)⟩, below_drewN (hS0.2.alloc (by simp) _) _⟩ ?_
  clear hS0 hlook a2 hlt
  obtain ⟨b, hb⟩ : ∃ b, w.heap.size = b := ⟨_, rfl⟩
  rw [hb] at hfar ⊢
  have Hb := Lib.hid hb
  clear hb
  obtain ⟨ab, hab⟩ : ∃ ab, b + 1 = ab := ⟨_, rfl⟩
  rw [hab] at hfar ⊢
  clear hab
  rintro W2 ⟨⟨hS, hA⟩, hBW⟩
  have q5 := hS.chest.c5
  have p5 := hS.box.c5
  have a0 := hA.c0
  have a1 := hA.c1
  have hl := hasLook hS.chest p.parcel p.party
  rw [← hvs.out] at hl
  go_quiet ((go_at_call 132; exact quietS (punless_true _ _)))
  go_wp2
  refine wp_world (R := fun W3 => (PSt w N b c p W3 ∧ ABox W3 ab p.parcel p.party) ∧ Below b w W3) ⟨⟨hS.drewN _, hA.keeps ((Keeps.refl N _).drewN _) (.inr hfar)⟩, below_drewN hBW _⟩ ?_
  clear hl q5 p5 a0 a1 hS hA hBW
  rintro W3 ⟨⟨hS, hA⟩, hBW⟩
  have q6 := hS.chest.c6
  have p7 := hS.box.c7
  have a0 := hA.c0
  have a1 := hA.c1
  have hl : (Instr.lookup 79 (.map (some (N + 4))) (.agg #[.int .i64 p.parcel, .int .i64 p.party]) false).run Tryz.prog W3.drew = .ok (pval q) W3.drew := by rw [hq.out]; exact lastLook hS.chest p.parcel p.party 1
  have hf := fieldKnown q
  clear hS hA
  go_still_tail 10, (by kernel_rfl)
  go_wp2_with (go_at_call 132; refine (punless_false _ _).mono ?_; rintro e w' ⟨rfl, rfl⟩)
  exact ⟨rfl, rfl, Hb.out ▸ hBW.drew⟩

set_option maxRecDepth 100000 in
set_option maxHeartbeats 8000000 in
theorem pback_ok (N : Nat) (c : CS) (p : Post) (w : World) (hC : ChestAt w N c) (x : Int) (hg : Hid (getM c.sold p.parcel = some x)) (hpoor : p.amount ≤ gd c.has (p.parcel, p.party)) (hre : (c.lastOf p.parcel p.party).known < p.known) (ha : 0 ≤ p.amount ∧ p.amount ≤ 1000000000) (hh : -1000000000000000 ≤ gd c.held p.parcel ∧ gd c.held p.parcel ≤ 1000000000000000) (hs : gd c.has (p.parcel, p.party) ≤ 1000000000000000) :
    Calls Tryz.prog 145 #[.pointer (some ⟨N + 5, 0, none⟩), pval p] w fun e w' => e = .returned (.tuple #[]) ∧ ChestAt w' N (c.back p) ∧ Keeps N w w' := by
  have hB1 : Below w.heap.size w (w.alloc (pobj p)) := (Below.refl _ _).alloc (Nat.le_refl _) _
  have hC1 := hC.alloc (pobj p)
  have hlook : ∀ n, (Instr.lookup 77 (.map (some (N + 1))) (.int .i64 p.parcel) true).run Tryz.prog ((w.alloc (pobj p)).drewN n) = .ok (.tuple #[.int .i64 x, .bool true]) ((w.alloc (pobj p)).drewN n) := fun n => by
    have := run_lookupM intKey Tryz.underlying77 zeroInt (hC1.drewN n).sold p.parcel true
    rw [this, hg.out]; rfl
  have a2 := hC.c3
  have hlt := hC.lt
  have hS0 : PSt w N w.heap.size c p (w.alloc (pobj p)) ∧ Below w.heap.size w (w.alloc (pobj p)) := ⟨PSt.new hC p, hB1⟩
  have hfar : N + 5 < w.heap.size + 1 := by have := hC.lt; omega
  clear hC hC1 hg hB1
  obtain ⟨vs, hvs⟩ : ∃ v, Hid (v = gd c.has (p.parcel, p.party)) := ⟨_, rfl⟩
  obtain ⟨vh, hvh⟩ : ∃ v, Hid (v = gd c.held p.parcel) := ⟨_, rfl⟩
  rw [← hvh.out] at hh
  rw [← hvs.out] at hpoor hs
  have hd : decide (p.amount ≤ vs) = true := by simp; omega
  obtain ⟨q, hq⟩ : ∃ q, Hid (q = c.lastOf p.parcel p.party) := ⟨_, rfl⟩
  rw [← hq.out] at hre
  have hd2 : decide (q.known < p.known) = true := by simp; omega
  go_enter Tryz.func145, Tryz.ntmps145
  go_wp2
  go_quiet (fail)
  go_wp2_with (go_at_call 132; refine (punless_true _ _).mono ?_; rintro e w' ⟨rfl, rfl⟩)
  refine wp_world (R := fun W2 => (PSt w N w.heap.size c p W2 ∧ ABox W2 (w.heap.size + 1) p.parcel p.party) ∧ Below w.heap.size w W2) ⟨⟨(hS0.1.alloc _).drewN _, (abox1 w p).keeps ((Keeps.refl N _).drewN _) (.inr hfar)⟩, below_drewN (hS0.2.alloc (by simp) _) _⟩ ?_
  clear hS0 hlook a2 hlt
  obtain ⟨b, hb⟩ : ∃ b, w.heap.size = b := ⟨_, rfl⟩
  rw [hb] at hfar ⊢
  have Hb := Lib.hid hb
  clear hb
  obtain ⟨ab, hab⟩ : ∃ ab, b + 1 = ab := ⟨_, rfl⟩
  rw [hab] at hfar ⊢
  clear hab
  rintro W2 ⟨⟨hS, hA⟩, hBW⟩
  have q5 := hS.chest.c5
  have p5 := hS.box.c5
  have a0 := hA.c0
  have a1 := hA.c1
  have hl := hasLook hS.chest p.parcel p.party
  rw [← hvs.out] at hl
  go_quiet ((go_at_call 132; exact quietS (punless_true _ _)))
  go_wp2
  refine wp_world (R := fun W3 => (PSt w N b c p W3 ∧ ABox W3 ab p.parcel p.party) ∧ Below b w W3) ⟨⟨hS.drewN _, hA.keeps ((Keeps.refl N _).drewN _) (.inr hfar)⟩, below_drewN hBW _⟩ ?_
  clear hl q5 p5 a0 a1 hS hA hBW
  rintro W3 ⟨⟨hS, hA⟩, hBW⟩
  have q6 := hS.chest.c6
  have p7 := hS.box.c7
  have a0 := hA.c0
  have a1 := hA.c1
  have hl := lastLook hS.chest p.parcel p.party
  rw [← hq.out] at hl
  have hf := fieldKnown q
  go_quiet ((go_at_call 132; exact quietS (punless_true _ _)))
  go_wp2
  refine wp_world (R := fun W4 => PSt w N b c p W4 ∧ ABox W4 ab p.parcel p.party) ⟨hS.drewN _, hA.keeps ((Keeps.refl N _).drewN _) (.inr hfar)⟩ ?_
  clear hl q6 p7 a0 a1 hS hA hBW
  rintro W4 ⟨hS, hA⟩
  have q4 := hS.chest.c4
  have p4 := hS.box.c4
  have p5 := hS.box.c5
  have hl : (Instr.lookup 77 (.map (some (N + 2))) (.int .i64 p.parcel) false).run Tryz.prog W4.drew = .ok (.int .i64 vh) W4.drew := by rw [hvh.out]; exact heldLook hS.chest p.parcel 1
  have hw1 : IntKind.i64.wrap (vh + p.amount) = vh + p.amount := IntWalk.i64_in _ (by omega)
  have hu := heldUpd hS.chest p.parcel (vh + p.amount)
  go_still_tail 10, (by kernel_rfl)
  go_wp2
  refine wp_world (R := fun W5 => PSt w N b { c with held := putM c.held p.parcel (vh + p.amount) } p W5 ∧ ABox W5 ab p.parcel p.party) ⟨(hS.drewN 1).step ((Keeps.refl N _).putO (by omega) _) ((hS.chest.drewN 1).put_held _), hA.keeps (((Keeps.refl N W4).drewN 1).putO (by omega) _) (.inr hfar)⟩ ?_
  clear q4 p4 p5 hl hw1 hu hS hA
  rintro W5 ⟨hS, hA⟩
  have q5 := hS.chest.c5
  have p5 := hS.box.c5
  have a0 := hA.c0
  have a1 := hA.c1
  have hw1 : IntKind.i64.wrap (vs - p.amount) = vs - p.amount := IntWalk.i64_in _ (by omega)
  have hl : (Instr.lookup 78 (.map (some (N + 3))) (.agg #[.int .i64 p.parcel, .int .i64 p.party]) false).run Tryz.prog W5.drew = .ok (.int .i64 vs) W5.drew := by rw [hvs.out]; exact hasLook hS.chest p.parcel p.party 1
  obtain ⟨ix, he, hst, hl2⟩ := hasEntry hS.chest p.parcel p.party
  have hst := hst (vs - p.amount)
  rw [← hvs.out] at he hl2
  dsimp only at he hst hl2
  have hfb := hS.far
  have hS3 := Lib.hid hS
  have hA3 := Lib.hid hA
  clear hS hA
  go_region_held3 (fun w' => w'.cell? ⟨N + 5, 5, none⟩ = some (.map (some (N + 3))) ∧ w'.cell? ⟨ab, 0, none⟩ = some (.int .i64 p.parcel) ∧ w'.cell? ⟨ab, 1, none⟩ = some (.int .i64 p.party) ∧ w'.cell? ⟨b, 5, none⟩ = some (.int .i64 p.amount))
    (first
      | go_keep
      | (go_split_ands
         refine ⟨?_, ?_, ?_, ?_⟩ <;> (repeat rw [putO_cell _ _ _ (by dsimp only; omega)]) <;> assumption))
    (fail)
  all_goals
    go_wp2
    go_end0
    refine ⟨rfl, ?_, ?_⟩
    · have := (hS3.out.chest.drewN 1).put_has (putM c.has (p.parcel, p.party) (vs - p.amount))
      unfold CS.back
      rw [← hvh.out, ← hvs.out]
      exact this
    · exact (hS3.out.keep.drewN 1).putO (by omega) _
end Go.Proofs.YtoijlikmigejbaaGreat

namespace Go.Proofs.YtoijlikmigejbaaGreat
open Go.RowKit Go.Proofs.YtoijlikmigejbaaGreat.Pu

set_option maxRecDepth 100000 in
set_option maxHeartbeats 2000000 in
theorem ptake1_panicking (b : Nat) (x c : Int) (w : World) (hc : w.cell? ⟨b, 0, none⟩ = some (.int .i64 x)) (hz : w.frozen? ⟨b, 0, none⟩ = false) (hb : b < w.heap.size) :
    CallsD Tryz.prog 131 #[.pointer (some ⟨b, 0, none⟩)] (.panicking (refusal c)) w fun e u' w' =>
      e = .returned (.tuple #[]) ∧ u' = .panicking [{ v := .iface 149 (.agg #[.int .i64 c]), recovered := true }] ∧ w'.cell? ⟨b, 0, none⟩ = some (.int .i64 c) ∧ ∀ M w0, M ≤ b → Below M w0 w → Below M w0 w' := by
  have hta : ∀ w, (Instr.typeAssert (.iface 149 (.agg #[.int .i64 c])) 20 149 true).run Tryz.prog w = .ok (.tuple #[.agg #[.int .i64 c], .bool true]) w := fun w => by
    simp [Instr.typeAssert, run_underlying Tryz.underlying149, go_sem, Result.andThen]
  refine callsD_of_wpS Tryz.func131 rfl fun c₀ cs hu => ?_
  apply wpS_seq
  apply wpS_region
  simp [wpOpsS, go_sem, recoverD, hu, refusal, Tryz.ntmps131, Exit.thenS]
  refine wpS_of_wp ?_
  go_wp2
  cases c₀
  have hc2 : ((w.setCell ⟨b, 0, none⟩ (.int .i64 c)).alloc (.cells #[.int .i64 c] 149)).cell? ⟨b, 0, none⟩ = some (.int .i64 c) := by
    rw [World.cell?_of_block (Below.heap_alloc _ _ _ (by simp; exact hb))]; exact World.cell?_setCell_same _ _ _ hc
  simp only [bodyPostS, results, Tryz.results131]
  exact ⟨trivial, _, rfl, .tuple #[], by simp [go_sem], rfl, rfl, hc2, fun M w0 h hB => (hB.setCell h _).alloc (by simp; omega) _⟩

set_option maxRecDepth 100000 in
theorem ptake1_idle (b : Nat) (w : World) :
    CallsD Tryz.prog 131 #[.pointer (some ⟨b, 0, none⟩)] .returning w fun e u' w' => e = .returned (.tuple #[]) ∧ u' = .returning ∧ w = w' := by
  refine callsD_of_wpS Tryz.func131 rfl fun c₀ cs hu => ?_
  apply wpS_seq
  apply wpS_region
  simp [wpOpsS, go_sem, recoverD, hu, Tryz.ntmps131, Exit.thenS]
  refine wpS_of_wp ?_
  go_wp2
  cases c₀
  simp_all [bodyPostS, results, Tryz.results131]

abbrev kinds : Value := .agg #[.nilFunc, .func (.func 143) #[] #[], .func (.func 144) #[] #[], .func (.func 145) #[] #[]]
theorem ptakes (w : World) : Calls Tryz.prog 134 #[] w fun e w' => e = .returned kinds ∧ ∃ o, w' = w.alloc o := by
  have hn : ∀ (a : Addr) (m : Mode) (w : World), (store a .nilFunc m).run Tryz.prog w = stored Tryz.prog w a .nilFunc m := fun a m w => run_store _ w a _ m rfl
  go_enter Tryz.func134, Tryz.ntmps134
  go_wp2
  refine bodyPost_ret (v := kinds) (by simp [results, Tryz.results134, go_sem, kinds]) rfl ⟨rfl, _, rfl⟩

theorem take_results {tmps : Array Value} {b : Nat} {c : Int} {W : World} (h4 : tmps[4]? = some (.pointer (some ⟨b, 0, none⟩))) (hc : W.cell? ⟨b, 0, none⟩ = some (.int .i64 c)) : (results Tryz.f111 tmps).run Tryz.prog W = .ok (.int .i64 c) W := by
  simp [results, Tryz.results111, go_sem, h4, hc]
theorem door_panic {R : Ending → World → Prop} {tmps : Array Value} (b : Nat) (x c : Int) (W : World) (h4 : tmps[4]? = some (.pointer (some ⟨b, 0, none⟩))) (hc : W.cell? ⟨b, 0, none⟩ = some (.int .i64 x)) (hz : W.frozen? ⟨b, 0, none⟩ = false) (hb : b < W.heap.size)
    (hR : ∀ W', W'.cell? ⟨b, 0, none⟩ = some (.int .i64 c) → (∀ M w0, M ≤ b → Below M w0 W → Below M w0 W') → R (.returned (.int .i64 c)) W') :
    bodyPostD Tryz.prog Tryz.f111 R (.panic (refusal c)) { tmps := tmps, defers := [{ target := .fn (.func 131) #[.pointer (some ⟨b, 0, none⟩)], args := #[] }] } W := by
  refine leaves_cons (f := 131) (args := #[.pointer (some ⟨b, 0, none⟩)]) (by simp) (by simp [go_sem]) ?_
  refine (ptake1_panicking b x c W hc hz hb).mono ?_
  rintro e u' W' ⟨rfl, rfl, hc', hB⟩
  exact ⟨_, take_results h4 hc', hR W' hc' hB⟩

theorem door_ret {R : Ending → World → Prop} {tmps : Array Value} (b : Nat) (c : Int) (W : World) (h4 : tmps[4]? = some (.pointer (some ⟨b, 0, none⟩))) (hc : W.cell? ⟨b, 0, none⟩ = some (.int .i64 c))
    (hR : R (.returned (.int .i64 c)) W) :
    bodyPostD Tryz.prog Tryz.f111 R .ret { tmps := tmps, defers := [{ target := .fn (.func 131) #[.pointer (some ⟨b, 0, none⟩)], args := #[] }] } W := by
  refine leaves_cons (f := 131) (args := #[.pointer (some ⟨b, 0, none⟩)]) (by simp) (by simp [go_sem]) ?_
  refine (ptake1_idle b W).mono ?_
  rintro e u' W' ⟨rfl, rfl, rfl⟩
  exact ⟨_, take_results h4 hc, hR⟩
end Go.Proofs.YtoijlikmigejbaaGreat

namespace Go.Proofs.YtoijlikmigejbaaGreat
open Go.Proofs.YtoijlikmigejbaaGreat.Pu

def CS.told (c : CS) (p : Post) : CS := { c with n := c.n + 1, hour := p.hour, ids := putM c.ids p.id true }
def CS.idIn (c : CS) (x : Int) : Bool := (getM c.ids x).getD false
def CS.new : CS := ⟨0, 0, [], [], [], [], []⟩

def totOf (p : Post) : Int := if p.kind = 1 then p.amount else if p.kind = 2 then - p.amount else if p.kind = 3 then p.amount else 0
/-- what is held altogether -/
def total (l : List Post) : Int := sumI (l.map totOf)
theorem total_app (l : List Post) (p : Post) : total (l ++ [p]) = total l + totOf p := by simp [total, sumI_append, sumI]
theorem sum_putM {K : Type} [DecidableEq K] (x : K) (v : Int) : ∀ (m : List (K × Int)), sumI ((putM m x v).map (·.2)) = sumI (m.map (·.2)) - (getM m x).getD 0 + v
  | [] => by simp [putM, sumI, getM, findM]
  | (k, u) :: r => by
    rw [getM_cons]
    by_cases h : x = k
    · rw [putM, if_pos h, if_pos h]; simp [sumI]; omega
    · rw [putM, if_neg h, if_neg h]; have := sum_putM x v r; simp only [List.map_cons, sumI]; omega
theorem keys_putM {K V : Type} [DecidableEq K] (x : K) (v : V) : ∀ (m : List (K × V)), (putM m x v).map (·.1) = if (getM m x).isSome then m.map (·.1) else m.map (·.1) ++ [x]
  | [] => by simp [putM, getM, findM]
  | (k, u) :: r => by
    rw [getM_cons]
    by_cases h : x = k
    · rw [putM, if_pos h, if_pos h]; simp
    · rw [putM, if_neg h, if_neg h]; have := keys_putM x v r; simp only [List.map_cons, this]; split <;> rfl
theorem getM_mem {K V : Type} [DecidableEq K] (x : K) : ∀ (m : List (K × V)), (getM m x).isSome = decide (x ∈ m.map (·.1))
  | [] => by simp [getM, findM]
  | (k, u) :: r => by
    rw [getM_cons]
    by_cases h : x = k
    · rw [if_pos h]; simp [h]
    · rw [if_neg h, getM_mem x r]; simp [h]
theorem nodup_putM {K V : Type} [DecidableEq K] (x : K) (v : V) (m : List (K × V)) (h : (m.map (·.1)).Nodup) : ((putM m x v).map (·.1)).Nodup := by
  rw [keys_putM]
  split
  · exact h
  · rename_i hn
    rw [getM_mem] at hn
    simp only [decide_eq_true_eq] at hn
    rw [List.nodup_append]
    exact ⟨h, by simp, fun a ha b hb e => hn (by simp only [List.mem_singleton] at hb; subst hb; subst e; exact ha)⟩
theorem putM_absent {K V : Type} [DecidableEq K] (x : K) (v : V) : ∀ (m : List (K × V)), x ∉ m.map (·.1) → putM m x v = m ++ [(x, v)]
  | [], _ => rfl
  | (k, u) :: r, h => by
    have hk : ¬ x = k := fun e => h (by simp [e])
    rw [putM, if_neg hk, putM_absent x v r (fun hm => h (by simp only [List.map_cons]; exact List.mem_cons_of_mem _ hm))]; rfl

structure CInv (c : CS) (l : List Post) : Prop where
  n : c.n = l.length
  hour : c.hour = lastHour l
  ids : ∀ x, c.idIn x = l.any (fun q => q.id == x)
  sold : ∀ x, getM c.sold x = if sold l x = 0 then none else some (sold l x)
  held : ∀ x, gd c.held x = held l x
  has : ∀ x y, gd c.has (x, y) = has l y x
  last : ∀ x y, getM c.last (x, y) = last l y x
  idl : c.ids = l.map fun p => (p.id, true)
  tot : sumI (c.held.map (·.2)) = total l
  nd : (c.has.map (·.1)).Nodup
  ndh : (c.held.map (·.1)).Nodup
  lh : c.held.length ≤ l.length
  la : c.has.length ≤ l.length
  nds : (c.sold.map (·.1)).Nodup

theorem putM_le {K V : Type} [DecidableEq K] (x : K) (v : V) : ∀ (m : List (K × V)), (putM m x v).length ≤ m.length + 1
  | [] => by simp [putM]
  | (k, u) :: r => by
    rw [putM]
    split
    · simp
    · have := putM_le x v r; simp only [List.length_cons]; omega
theorem getM_of_mem {K V : Type} [DecidableEq K] {k : K} {v : V} : ∀ {m : List (K × V)}, (m.map (·.1)).Nodup → (k, v) ∈ m → getM m k = some v
  | [], _, h => by simp at h
  | (k', u) :: r, hn, h => by
    rw [getM_cons]
    simp only [List.map_cons, List.nodup_cons] at hn
    rcases List.mem_cons.1 h with h | h
    · cases h; rw [if_pos rfl]
    · rw [if_neg (fun e => hn.1 (by rw [← e]; exact List.mem_map_of_mem h))]
      exact getM_of_mem hn.2 h

theorem ids_app {c : CS} {l : List Post} {p : Post} (h : c.ids = l.map fun p => (p.id, true)) (hn : l.any (fun q => q.id == p.id) = false) : putM c.ids p.id true = (l ++ [p]).map fun p => (p.id, true) := by
  rw [putM_absent, h]
  · simp
  · rw [h]
    simp only [List.map_map, List.mem_map, Function.comp, not_exists, not_and]
    intro q hq e
    rw [List.any_eq_false] at hn
    exact hn q hq (by simp [e])

theorem CInv.new : CInv CS.new [] := by
  refine ⟨rfl, rfl, fun x => rfl, fun x => rfl, fun x => ?_, fun x y => rfl, fun x y => rfl, rfl, rfl, List.nodup_nil, List.nodup_nil, Nat.le_refl _, Nat.le_refl _, List.nodup_nil⟩
  have : ∀ k, hasUpto [] x k = 0 := fun k => by
    induction k with
    | zero => rfl
    | succ k ih => rw [hasUpto, ih]; rfl
  show (0 : Int) = Pu.held [] x
  rw [Pu.held, this]; rfl

theorem has_app (l : List Post) (p : Post) (who what : Int) : Pu.has (l ++ [p]) who what = Pu.has l who what + hasOf who what p := by simp [Pu.has, sumI_append, sumI]
theorem sold_app (l : List Post) (p : Post) (what : Int) : Pu.sold (l ++ [p]) what = Pu.sold l what + soldOf what p := by simp [Pu.sold, sumI_append, sumI]
theorem hasUpto_app (l : List Post) (p : Post) (what : Int) (h0 : 0 ≤ p.party) : ∀ k : Nat, hasUpto (l ++ [p]) what k = hasUpto l what k + (if p.party < k then hasOf p.party what p else 0)
  | 0 => by rw [if_neg (by omega)]; rfl
  | k + 1 => by
    rw [hasUpto, hasUpto_app l p what h0 k, has_app, hasUpto]
    by_cases e : p.party = k
    · rw [if_neg (by omega), if_pos (by omega), e]; omega
    · have : hasOf k what p = 0 := by unfold hasOf; rw [if_neg (by omega)]
      rw [this]
      by_cases e2 : p.party < k
      · rw [if_pos e2, if_pos (by omega)]; omega
      · rw [if_neg e2, if_neg (by omega)]; omega
theorem held_app (l : List Post) (p : Post) (what : Int) (h0 : 0 ≤ p.party) (h1 : p.party ≤ 40) : Pu.held (l ++ [p]) what = Pu.held l what + soldOf what p - hasOf p.party what p := by
  unfold Pu.held
  rw [sold_app, hasUpto_app _ _ _ h0, if_pos (by omega)]; omega
theorem last_app (l : List Post) (p : Post) (who what : Int) : Pu.last (l ++ [p]) who what = if isPay who what p then some p else Pu.last l who what := by
  rw [last_append]
  simp only [Pu.last]
  by_cases h : isPay who what p = true
  · simp [h]
  · simp [h]

theorem okP_party {p : Post} (h : okP p = true) : 0 ≤ p.party ∧ p.party ≤ 40 := by
  simp only [okP, inB, Bool.and_eq_true, decide_eq_true_eq] at h
  exact h.1.2
theorem okP_kind {p : Post} (h : okP p = true) : p.kind = 1 ∨ p.kind = 2 ∨ p.kind = 3 := by
  simp only [okP, inB, Bool.and_eq_true, decide_eq_true_eq] at h
  omega
theorem okP_hour {p : Post} (h : okP p = true) : 0 ≤ p.hour := by
  simp only [okP, inB, Bool.and_eq_true, decide_eq_true_eq] at h
  omega

theorem gd_putM {K : Type} [DecidableEq K] (m : List (K × Int)) (x y : K) (v : Int) : gd (putM m x v) y = if y = x then v else gd m y := by
  unfold gd; rw [getM_putM]; split <;> rfl

theorem CInv.sale {c : CS} {l : List Post} {p : Post} (h : CInv c l) (hk : p.kind = 1) (ha : p.amount ≠ 0) (hs : Pu.sold l p.parcel = 0) (hh : Pu.held l p.parcel = 0) (h0 : 0 ≤ p.party) (h1 : p.party ≤ 40) (hid : l.any (fun q => q.id == p.id) = false) :
    CInv ((c.sale p).told p) (l ++ [p]) := by
  have hof : ∀ who what, hasOf who what p = 0 := fun who what => by unfold hasOf; simp [hk]
  refine ⟨?_, ?_, fun x => ?_, fun x => ?_, fun x => ?_, fun x y => ?_, fun x y => ?_, ids_app h.idl hid, ?_, ?_, ?_, ?_, ?_, ?_⟩
  · show c.n + 1 = _; rw [h.n]; simp
  · show p.hour = _; simp [lastHour]
  · have := h.ids x
    unfold CS.idIn CS.told at *
    simp only [getM_putM, List.any_append, List.any_cons, List.any_nil, Bool.or_false]
    by_cases e : x = p.id
    · simp [e]
    · rw [if_neg e, show (p.id == x) = false by simp; omega, Bool.or_false]; exact this
  · show getM (putM c.sold p.parcel p.amount) x = _
    rw [getM_putM, sold_app]
    by_cases e : x = p.parcel
    · subst e; rw [if_pos rfl, hs]; simp [soldOf, hk, ha]
    · rw [if_neg e, show soldOf x p = 0 by unfold soldOf; rw [if_neg (by omega)], Int.add_zero]; exact h.sold x
  · show gd (putM c.held p.parcel p.amount) x = _
    rw [gd_putM, held_app _ _ _ h0 h1, hof]
    by_cases e : x = p.parcel
    · subst e; rw [if_pos rfl, hh]; simp [soldOf, hk]
    · rw [if_neg e, show soldOf x p = 0 by unfold soldOf; rw [if_neg (by omega)], h.held]; omega
  · show gd c.has (x, y) = _
    rw [has_app, hof, Int.add_zero]; exact h.has x y
  · show getM c.last (x, y) = _
    rw [last_app, show isPay y x p = false by simp [isPay, hk]]; exact h.last x y
  · show sumI ((putM c.held p.parcel p.amount).map (·.2)) = _
    have hg : (getM c.held p.parcel).getD 0 = 0 := (h.held p.parcel).trans hh
    rw [sum_putM, h.tot, total_app, hg, totOf, if_pos hk]; omega
  · exact h.nd
  · exact nodup_putM _ _ _ h.ndh
  · have := putM_le p.parcel p.amount c.held; have := h.lh; show (putM c.held p.parcel p.amount).length ≤ _; simp; omega
  · have := h.la; show c.has.length ≤ _; simp; omega
  · exact nodup_putM _ _ _ h.nds

theorem CInv.pay {c : CS} {l : List Post} {p : Post} (h : CInv c l) (hk : p.kind = 2) (h0 : 0 ≤ p.party) (h1 : p.party ≤ 40) (hid : l.any (fun q => q.id == p.id) = false) :
    CInv ((c.pay p).told p) (l ++ [p]) := by
  have hso : ∀ what, soldOf what p = 0 := fun what => by unfold soldOf; rw [if_neg (by omega)]
  refine ⟨?_, ?_, fun x => ?_, fun x => ?_, fun x => ?_, fun x y => ?_, fun x y => ?_, ids_app h.idl hid, ?_, ?_, ?_, ?_, ?_, ?_⟩
  · show c.n + 1 = _; rw [h.n]; simp
  · show p.hour = _; simp [lastHour]
  · have := h.ids x
    unfold CS.idIn CS.told at *
    simp only [getM_putM, List.any_append, List.any_cons, List.any_nil, Bool.or_false]
    by_cases e : x = p.id
    · simp [e]
    · rw [if_neg e, show (p.id == x) = false by simp; omega, Bool.or_false]; exact this
  · show getM c.sold x = _
    rw [sold_app, hso, Int.add_zero]; exact h.sold x
  · show gd (putM c.held p.parcel (gd c.held p.parcel - p.amount)) x = _
    rw [gd_putM, held_app _ _ _ h0 h1, hso]
    by_cases e : x = p.parcel
    · subst e; rw [if_pos rfl, h.held]; simp [hasOf, hk]
    · rw [if_neg e, show hasOf p.party x p = 0 by unfold hasOf; rw [if_neg (by omega)], h.held]; omega
  · show gd (putM c.has (p.parcel, p.party) (gd c.has (p.parcel, p.party) + p.amount)) (x, y) = _
    rw [gd_putM, has_app]
    by_cases e : (x, y) = (p.parcel, p.party)
    · have e' := Prod.mk.inj e
      rw [if_pos e, h.has, e'.1, e'.2]; simp [hasOf, hk]
    · rw [if_neg e, show hasOf y x p = 0 by unfold hasOf; rw [if_neg (fun e2 => e (by rw [e2.1, e2.2]))], h.has]; omega
  · show getM (putM c.last (p.parcel, p.party) p) (x, y) = _
    rw [getM_putM, last_app]
    by_cases e : (x, y) = (p.parcel, p.party)
    · have e' := Prod.mk.inj e
      rw [if_pos e, e'.1, e'.2]; simp [isPay, hk]
    · rw [if_neg e, show isPay y x p = false by
        simp only [isPay, Bool.and_eq_false_iff, beq_eq_false_iff_ne]
        by_cases e2 : p.party = y
        · exact .inr fun e3 => e (by rw [e2, e3])
        · exact .inl (.inr e2)]
      exact h.last x y
  · show sumI ((putM c.held p.parcel (gd c.held p.parcel - p.amount)).map (·.2)) = _
    rw [sum_putM, h.tot, total_app, totOf, if_neg (by omega), if_pos hk]; unfold gd; omega
  · exact nodup_putM _ _ _ h.nd
  · exact nodup_putM _ _ _ h.ndh
  · have := putM_le p.parcel (gd c.held p.parcel - p.amount) c.held; have := h.lh; show (putM c.held p.parcel (gd c.held p.parcel - p.amount)).length ≤ _; simp; omega
  · have := putM_le (p.parcel, p.party) (gd c.has (p.parcel, p.party) + p.amount) c.has; have := h.la; show (putM c.has (p.parcel, p.party) (gd c.has (p.parcel, p.party) + p.amount)).length ≤ _; simp; omega
  · exact h.nds

theorem CInv.back {c : CS} {l : List Post} {p : Post} (h : CInv c l) (hk : p.kind = 3) (h0 : 0 ≤ p.party) (h1 : p.party ≤ 40) (hid : l.any (fun q => q.id == p.id) = false) :
    CInv ((c.back p).told p) (l ++ [p]) := by
  have hso : ∀ what, soldOf what p = 0 := fun what => by unfold soldOf; rw [if_neg (by omega)]
  refine ⟨?_, ?_, fun x => ?_, fun x => ?_, fun x => ?_, fun x y => ?_, fun x y => ?_, ids_app h.idl hid, ?_, ?_, ?_, ?_, ?_, ?_⟩
  · show c.n + 1 = _; rw [h.n]; simp
  · show p.hour = _; simp [lastHour]
  · have := h.ids x
    unfold CS.idIn CS.told at *
    simp only [getM_putM, List.any_append, List.any_cons, List.any_nil, Bool.or_false]
    by_cases e : x = p.id
    · simp [e]
    · rw [if_neg e, show (p.id == x) = false by simp; omega, Bool.or_false]; exact this
  · show getM c.sold x = _
    rw [sold_app, hso, Int.add_zero]; exact h.sold x
  · show gd (putM c.held p.parcel (gd c.held p.parcel + p.amount)) x = _
    rw [gd_putM, held_app _ _ _ h0 h1, hso]
    by_cases e : x = p.parcel
    · subst e; rw [if_pos rfl, h.held]; simp [hasOf, hk]
    · rw [if_neg e, show hasOf p.party x p = 0 by unfold hasOf; rw [if_neg (by omega)], h.held]; omega
  · show gd (putM c.has (p.parcel, p.party) (gd c.has (p.parcel, p.party) - p.amount)) (x, y) = _
    rw [gd_putM, has_app]
    by_cases e : (x, y) = (p.parcel, p.party)
    · have e' := Prod.mk.inj e
      rw [if_pos e, h.has, e'.1, e'.2]; simp [hasOf, hk]; omega
    · rw [if_neg e, show hasOf y x p = 0 by unfold hasOf; rw [if_neg (fun e2 => e (by rw [e2.1, e2.2]))], h.has]; omega
  · show getM c.last (x, y) = _
    rw [last_app, show isPay y x p = false by simp [isPay, hk]]; exact h.last x y
  · show sumI ((putM c.held p.parcel (gd c.held p.parcel + p.amount)).map (·.2)) = _
    rw [sum_putM, h.tot, total_app, totOf, if_neg (by omega), if_neg (by omega), if_pos hk]; unfold gd; omega
  · exact nodup_putM _ _ _ h.nd
  · exact nodup_putM _ _ _ h.ndh
  · have := putM_le p.parcel (gd c.held p.parcel + p.amount) c.held; have := h.lh; show (putM c.held p.parcel (gd c.held p.parcel + p.amount)).length ≤ _; simp; omega
  · have := putM_le (p.parcel, p.party) (gd c.has (p.parcel, p.party) - p.amount) c.has; have := h.la; show (putM c.has (p.parcel, p.party) (gd c.has (p.parcel, p.party) - p.amount)).length ≤ _; simp; omega
  · exact h.nds

theorem checkFrom_zero : ∀ (r pre : List Post), (checkFrom pre r).2 = 0 → ∀ k p, r[k]? = some p → refused (pre ++ r.take k) p = 0
  | [], _, _, _, _, h => by simp at h
  | q :: r, pre, h, k, p, hk => by
    rw [checkFrom] at h
    split at h
    · rename_i h0
      cases k with
      | zero => simp only [List.getElem?_cons_zero, Option.some.injEq] at hk; subst hk; simpa using h0
      | succ k =>
        have := checkFrom_zero r (pre ++ [q]) h k p (by simpa using hk)
        simpa using this
    · rename_i h0; exact absurd h h0
theorem check_zero {l : List Post} (h : (check l).2 = 0) : Book l := fun k p hk => by simpa using checkFrom_zero l [] h k p hk
theorem Book.amtOk {l : List Post} (h : Book l) : AmtOk l := by
  intro p hp
  obtain ⟨k, hk, rfl⟩ := List.getElem_of_mem hp
  have := okP_amount (refused_ok (h k _ (List.getElem?_eq_getElem hk))).1
  omega
theorem sold_take_le (what : Int) {l : List Post} (h : AmtOk l) (k : Nat) : Pu.sold (l.take k) what ≤ Pu.sold l what := by
  have e : Pu.sold l what = Pu.sold (l.take k) what + Pu.sold (l.drop k) what := by
    conv => lhs; rw [← List.take_append_drop k l]
    rw [Pu.sold, List.map_append, sumI_append]; rfl
  have := sold_bd what (l := l.drop k) (fun q hq => h q (List.mem_of_mem_drop hq))
  omega
theorem Book.unsold {l : List Post} (h : Book l) {x : Int} (hs : Pu.sold l x = 0) : ∀ p ∈ l, p.parcel ≠ x := by
  intro p hp e
  obtain ⟨k, hk, rfl⟩ := List.getElem_of_mem hp
  have hq := List.getElem?_eq_getElem hk
  have hr := h k _ hq
  have hA := Book.amtOk h
  have hok := (refused_ok hr).1
  have h1 := sold_take_le x hA k
  have h2 := sold_take_le x hA (k + 1)
  have h3 := (sold_bd x (hA.take k)).1
  rw [sold_snoc hq] at h2
  have ha := okP_amount hok
  rcases okP_kind hok with hk1 | hk1
  · have : soldOf x l[k] = l[k].amount := by unfold soldOf; rw [if_pos ⟨hk1, e⟩]
    omega
  · have h0 : Pu.sold (l.take k) l[k].parcel = 0 := by rw [e]; omega
    unfold refused at hr
    rw [if_pos h0, if_neg (by omega)] at hr
    (repeat' split at hr) <;> omega
theorem Book.unhad {l : List Post} (h : Book l) {x : Int} (hs : Pu.sold l x = 0) (y : Int) : Pu.has l y x = 0 := by
  have h0 := Book.unsold h hs
  clear h hs
  induction l with
  | nil => rfl
  | cons p r ih =>
    have e : Pu.has (p :: r) y x = hasOf y x p + Pu.has r y x := rfl
    have := h0 p (List.mem_cons_self ..)
    rw [e, ih fun q hq => h0 q (List.mem_cons_of_mem _ hq), hasOf, if_neg (by omega)]; rfl
theorem Book.unheld {l : List Post} (h : Book l) {x : Int} (hs : Pu.sold l x = 0) : Pu.held l x = 0 := by
  have : ∀ k, hasUpto l x k = 0 := fun k => by
    induction k with
    | zero => rfl
    | succ k ih => rw [hasUpto, ih, Book.unhad h hs]; rfl
  rw [Pu.held, hs, this]; rfl
theorem held_bd (what : Int) {l : List Post} (h : AmtOk l) : -(42 * (l.length * 1000000000) : Int) ≤ Pu.held l what ∧ Pu.held l what ≤ 42 * (l.length * 1000000000) := by
  have h1 := hasUpto_bd what h 41
  have h2 := sold_bd what h
  unfold Pu.held; omega
end Go.Proofs.YtoijlikmigejbaaGreat

namespace Go.Proofs.YtoijlikmigejbaaGreat
open Go.RowKit Go.Proofs.YtoijlikmigejbaaGreat.Pu

/-- in the midst of take: the posting's block, the error's block behind it -/
structure TSt (w0 : World) (N b : Nat) (c : CS) (p : Post) (w : World) : Prop where
  st : PSt w0 N b c p w
  lt : b + 1 < w.heap.size
  err : w.cell? ⟨b + 1, 0, none⟩ = some (.int .i64 0)
  fz : w.frozen? ⟨b + 1, 0, none⟩ = false
theorem TSt.new {w : World} {N : Nat} {c : CS} (h : ChestAt w N c) (p : Post) : TSt w N w.heap.size c p ((w.alloc (pobj p)).alloc (.cells #[.int .i64 0] 27)) := by
  have hs : (w.alloc (pobj p)).heap.size = w.heap.size + 1 := by simp
  refine ⟨(PSt.new h p).alloc _, by simp, ?_, ?_⟩
  · rw [← hs]; simp
  · rw [← hs]; simp
theorem TSt.step {w0 w w' : World} {N b : Nat} {c c' : CS} {p : Post} (h : TSt w0 N b c p w) (hk : Keeps N w w') (hc : ChestAt w' N c') : TSt w0 N b c' p w' :=
  ⟨h.st.step hk hc, Nat.lt_of_lt_of_le h.lt hk.size, (hk.cell h.lt (.inr (by have := h.st.far; omega))).trans h.err, (hk.frozen h.lt (.inr (by have := h.st.far; omega))).trans h.fz⟩
theorem TSt.below {w0 w w' : World} {N b : Nat} {c : CS} {p : Post} (h : TSt w0 N b c p w) (hB : Below w.heap.size w w') : TSt w0 N b c p w' :=
  h.step (.of_below hB) (h.st.chest.below hB h.st.chest.lt)
theorem TSt.drewN {w0 w : World} {N b : Nat} {c : CS} {p : Post} (h : TSt w0 N b c p w) (n : Nat) : TSt w0 N b c p (w.drewN n) := h.step ((Keeps.refl N w).drewN n) (h.st.chest.drewN n)

/-- the way out of take at a refusal -/
theorem take_door {w0 W : World} {N : Nat} {c : CS} {p : Post} {tmps : Array Value} {x : Int} {b : Nat} (hb : w0.heap.size = b) (h : TSt w0 N b c p W) (hB : Below b w0 W) (h4 : tmps[4]? = some (.pointer (some ⟨b + 1, 0, none⟩))) :
    bodyPostD Tryz.prog Tryz.f111 (fun e w' => e = .returned (.int .i64 x) ∧ Below w0.heap.size w0 w') (.panic (refusal x)) { tmps := tmps, defers := [{ target := .fn (.func 131) #[.pointer (some ⟨b + 1, 0, none⟩)], args := #[] }] } W :=
  door_panic (b + 1) 0 x W h4 h.err h.fz h.lt fun W' _ hW => ⟨rfl, by rw [hb]; exact hW b w0 (by omega) hB⟩

theorem idLook {w : World} {N : Nat} {c : CS} (h : ChestAt w N c) (x : Int) (n : Nat) : (Instr.lookup 76 (.map (some N)) (.int .i64 x) false).run Tryz.prog (w.drewN n) = .ok (.bool (c.idIn x)) (w.drewN n) := by
  have := run_lookupM intKey Tryz.underlying76 zeroBool (h.drewN n).ids x false
  rw [this]; unfold CS.idIn; cases getM c.ids x <;> rfl

set_option maxRecDepth 100000 in
set_option maxHeartbeats 4000000 in
theorem ptake_full (N : Nat) (c : CS) (p : Post) (w : World) (hC : ChestAt w N c) (hn : ¬ c.n < 400) :
    Calls Tryz.prog 111 #[.pointer (some ⟨N + 5, 0, none⟩), pval p] w fun e w' => e = .returned (.int .i64 2) ∧ Below w.heap.size w w' := by
  have hmf : ∀ (fn : Fn) (first cap : Array Value) (w : World), (Instr.makeFunc fn first cap).run Tryz.prog w = .ok (.func fn first cap) w := fun _ _ _ _ => rfl
  have hT := TSt.new hC p
  have hB : Below w.heap.size w ((w.alloc (pobj p)).alloc (.cells #[.int .i64 0] 27)) := ((Below.refl _ _).alloc (Nat.le_refl _) _).alloc (by simp) _
  have c0 := hC.c0
  have hlt := hC.lt
  have hd : decide (c.n < 400) = false := by simp; omega
  go_enter_defers Tryz.func111, Tryz.ntmps111
  go_wp2_with (go_at_call 132; refine (punless_false _ _).mono ?_; rintro e w1 ⟨rfl, rfl⟩)
  exact take_door rfl hT hB (by simp)

set_option maxRecDepth 100000 in
set_option maxHeartbeats 4000000 in
theorem ptake_bad (N : Nat) (c : CS) (p : Post) (w : World) (hC : ChestAt w N c) (hn : c.n < 400) (h0 : 0 ≤ p.kind) (h1 : p.kind ≤ 255) (hok : okP p = false) :
    Calls Tryz.prog 111 #[.pointer (some ⟨N + 5, 0, none⟩), pval p] w fun e w' => e = .returned (.int .i64 1) ∧ Below w.heap.size w w' := by
  have hmf : ∀ (fn : Fn) (first cap : Array Value) (w : World), (Instr.makeFunc fn first cap).run Tryz.prog w = .ok (.func fn first cap) w := fun _ _ _ _ => rfl
  have hT := TSt.new hC p
  have hB : Below w.heap.size w ((w.alloc (pobj p)).alloc (.cells #[.int .i64 0] 27)) := ((Below.refl _ _).alloc (Nat.le_refl _) _).alloc (by simp) _
  have c0 := hC.c0
  have hlt := hC.lt
  have hd : decide (c.n < 400) = true := by simp; omega
  go_enter_defers Tryz.func111, Tryz.ntmps111
  go_wp2_with (go_at_call 132; refine (punless_true _ _).mono ?_; rintro e w1 ⟨rfl, rfl⟩)
  go_at_call 133; refine (pCheckPosting_no p _ h0 h1 hok).mono ?_; rintro e w1 ⟨rfl, hB1⟩
  go_wp2_with (go_at_call 132; refine (punless_false _ _).mono ?_; rintro e w1 ⟨rfl, rfl⟩)
  exact take_door rfl (hT.below hB1) (hB.trans (hB1.mono (by simp; omega))) (by simp)

set_option maxRecDepth 100000 in
set_option maxHeartbeats 4000000 in
theorem ptake_id (N : Nat) (c : CS) (p : Post) (w : World) (hC : ChestAt w N c) (hn : c.n < 400) (h0 : 0 ≤ p.kind) (h1 : p.kind ≤ 255) (hok : okP p = true) (hid : Hid (c.idIn p.id = true)) :
    Calls Tryz.prog 111 #[.pointer (some ⟨N + 5, 0, none⟩), pval p] w fun e w' => e = .returned (.int .i64 6) ∧ Below w.heap.size w w' := by
  have hmf : ∀ (fn : Fn) (first cap : Array Value) (w : World), (Instr.makeFunc fn first cap).run Tryz.prog w = .ok (.func fn first cap) w := fun _ _ _ _ => rfl
  have hT := TSt.new hC p
  have hB : Below w.heap.size w ((w.alloc (pobj p)).alloc (.cells #[.int .i64 0] 27)) := ((Below.refl _ _).alloc (Nat.le_refl _) _).alloc (by simp) _
  have c0 := hC.c0
  have hlt := hC.lt
  have hd : decide (c.n < 400) = true := by simp; omega
  go_enter_defers Tryz.func111, Tryz.ntmps111
  go_wp2_with (first | (go_at_call 132; refine (punless_true _ _).mono ?_; rintro e w1 ⟨rfl, rfl⟩) | (go_at_call 133; refine (pCheckPosting_ok p _ h0 h1 hok).mono ?_; rintro e w1 ⟨rfl, hB1⟩))
  refine wp_world (R := fun W => TSt w N w.heap.size c p W ∧ Below w.heap.size w W) ⟨hT.below hB1, hB.trans (hB1.mono (by simp; omega))⟩ ?_
  clear hB1 hT hB c0 hlt hmf hd hC
  obtain ⟨b, hb⟩ : ∃ b, w.heap.size = b := ⟨_, rfl⟩
  rw [hb]
  have Hb := Lib.hid hb
  clear hb
  rintro W ⟨hT, hB⟩
  have p0 := hT.st.box.c0
  have c2 := hT.st.chest.c2
  have hl := idLook hT.st.chest p.id
  rw [hid.out] at hl
  have hl1 : (Instr.lookup 76 (.map (some N)) (.int .i64 p.id) false).run Tryz.prog W.drew = .ok (.bool true) W.drew := hl 1
  go_still_tail 8, (by kernel_rfl)
  go_wp2_with (go_at_call 132; refine (punless_false _ _).mono ?_; rintro e w1 ⟨rfl, rfl⟩)
  refine take_door Hb.out (hT.drewN 1) (below_drewN hB 1) ?_
  simp

set_option maxRecDepth 100000 in
set_option maxHeartbeats 4000000 in
theorem ptake_hour (N : Nat) (c : CS) (p : Post) (w : World) (hC : ChestAt w N c) (hn : c.n < 400) (h0 : 0 ≤ p.kind) (h1 : p.kind ≤ 255) (hok : okP p = true) (hid : Hid (c.idIn p.id = false)) (hh : p.hour < c.hour) :
    Calls Tryz.prog 111 #[.pointer (some ⟨N + 5, 0, none⟩), pval p] w fun e w' => e = .returned (.int .i64 7) ∧ Below w.heap.size w w' := by
  have hmf : ∀ (fn : Fn) (first cap : Array Value) (w : World), (Instr.makeFunc fn first cap).run Tryz.prog w = .ok (.func fn first cap) w := fun _ _ _ _ => rfl
  have hT := TSt.new hC p
  have hB : Below w.heap.size w ((w.alloc (pobj p)).alloc (.cells #[.int .i64 0] 27)) := ((Below.refl _ _).alloc (Nat.le_refl _) _).alloc (by simp) _
  have c0 := hC.c0
  have hlt := hC.lt
  have hd : decide (c.n < 400) = true := by simp; omega
  go_enter_defers Tryz.func111, Tryz.ntmps111
  go_wp2_with (first | (go_at_call 132; refine (punless_true _ _).mono ?_; rintro e w1 ⟨rfl, rfl⟩) | (go_at_call 133; refine (pCheckPosting_ok p _ h0 h1 hok).mono ?_; rintro e w1 ⟨rfl, hB1⟩))
  refine wp_world (R := fun W => TSt w N w.heap.size c p W ∧ Below w.heap.size w W) ⟨hT.below hB1, hB.trans (hB1.mono (by simp; omega))⟩ ?_
  clear hB1 hT hB c0 hlt hmf hd hC
  obtain ⟨b, hb⟩ : ∃ b, w.heap.size = b := ⟨_, rfl⟩
  rw [hb]
  have Hb := Lib.hid hb
  clear hb
  rintro W ⟨hT, hB⟩
  have p0 := hT.st.box.c0
  have c2 := hT.st.chest.c2
  have hl := idLook hT.st.chest p.id
  rw [hid.out] at hl
  go_quiet ((go_at_call 132; exact quietS (punless_true _ _)))
  go_wp2
  refine wp_world (R := fun W => TSt w N b c p W ∧ Below b w W) ⟨hT.drewN _, below_drewN hB _⟩ ?_
  clear hT hB p0 c2 hl W
  rintro W ⟨hT, hB⟩
  have p1 := hT.st.box.c1
  have c1 := hT.st.chest.c1
  have hd : decide (c.hour ≤ p.hour) = false := by simp; omega
  go_still_tail 7, (by kernel_rfl)
  go_wp2_with (go_at_call 132; refine (punless_false _ _).mono ?_; rintro e w1 ⟨rfl, rfl⟩)
  refine take_door Hb.out (hT.drewN 1) (below_drewN hB 1) ?_
  simp

end Go.Proofs.YtoijlikmigejbaaGreat
