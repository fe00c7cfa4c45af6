/- Walks: the purse's small functions. The chest: what the postings of a book come to, in memory. Walks: what postings of the kinds do to a chest. -/
import Derived.Test.YtoijlikmigejbaaGreatG01
import Derived.Recover
import Derived.KernelRfl
import Derived.Deep.RegionHeld3
import Derived.StillTailTactics
namespace Go.Proofs.YtoijlikmigejbaaGreat
open Go.RowKit Go.Proofs.YtoijlikmigejbaaGreat.Pu

theorem pin (n a b : Int) (w : World) :
    Calls Tryz.prog 57 #[.int .i64 n, .int .i64 a, .int .i64 b] w fun e w' => e = .returned (.bool (inB n a b)) ∧ w = w' := by
  go_enter Tryz.func57, Tryz.ntmps57
  go_wp2
  all_goals (go_ret; simp_all [inB]; try omega)
theorem pisParcel (n : Int) (w : World) :
    Calls Tryz.prog 96 #[.int .i64 n] w fun e w' => e = .returned (.bool (inB n 10 10000007)) ∧ w = w' := by
  go_enter Tryz.func96, Tryz.ntmps96
  go_wp2_with (go_at_call 57; refine (pin _ _ _ _).mono ?_; rintro e w' ⟨rfl, rfl⟩)
  go_ret
  exact ⟨rfl, rfl⟩
theorem pisParty (n : Int) (w : World) :
    Calls Tryz.prog 97 #[.int .i64 n] w fun e w' => e = .returned (.bool (inB n 0 40)) ∧ w = w' := by
  go_enter Tryz.func97, Tryz.ntmps97
  go_wp2_with (go_at_call 57; refine (pin _ _ _ _).mono ?_; rintro e w' ⟨rfl, rfl⟩)
  go_ret
  exact ⟨rfl, rfl⟩

set_option maxHeartbeats 1000000 in
theorem pCheckPosting0 (id hour kind party parcel amount reason known : Int) (w : World) (h0 : 0 ≤ kind) (h1 : kind ≤ 255) (c : Int) (hc : Hid (c = okE ⟨id, hour, kind, party, parcel, amount, reason, known⟩)) :
    Calls Tryz.prog 133 #[.agg #[.int .i64 id, .int .i64 hour, .int .u8 kind, .int .i64 party, .int .i64 parcel, .int .i64 amount, .int .i64 reason, .int .i64 known]] w
      fun e w' => e = .returned (.int .i64 c) ∧ Below w.heap.size w w' := by
  go_enter Tryz.func133, Tryz.ntmps133
  go_wp2_with (first | (go_at_call 57; refine (pin _ _ _ _).mono ?_; rintro e w' ⟨rfl, rfl⟩) | (go_at_call 96; refine (pisParcel _ _).mono ?_; rintro e w' ⟨rfl, rfl⟩) | (go_at_call 97; refine (pisParty _ _).mono ?_; rintro e w' ⟨rfl, rfl⟩))
  all_goals go_ret
  all_goals (refine ⟨ret_int ?_, (Below.refl _ _).alloc (Nat.le_refl _) _⟩; rw [hc.out]; simp_all [okE, okP])
theorem pCheckPosting_ok (p : Post) (w : World) (h0 : 0 ≤ p.kind) (h1 : p.kind ≤ 255) (h : okP p = true) :
    Calls Tryz.prog 133 #[pval p] w fun e w' => e = .returned (.int .i64 0) ∧ Below w.heap.size w w' :=
  pCheckPosting0 _ _ _ _ _ _ _ _ w h0 h1 _ (by rw [okE, h]; rfl)
theorem pCheckPosting_no (p : Post) (w : World) (h0 : 0 ≤ p.kind) (h1 : p.kind ≤ 255) (h : okP p = false) :
    Calls Tryz.prog 133 #[pval p] w fun e w' => e = .returned (.int .i64 1) ∧ Below w.heap.size w w' :=
  pCheckPosting0 _ _ _ _ _ _ _ _ w h0 h1 _ (by rw [okE, h]; rfl)
theorem pCheckPosting (p : Post) (w : World) (h0 : 0 ≤ p.kind) (h1 : p.kind ≤ 255) :
    Calls Tryz.prog 133 #[pval p] w fun e w' => e = .returned (.int .i64 (okE p)) ∧ Below w.heap.size w w' :=
  pCheckPosting0 _ _ _ _ _ _ _ _ w h0 h1 _ rfl

/-- what a posting that is not allowed is given up with -/
def refusal (c : Int) : List PanicEntry := [{ v := .iface 149 (.agg #[.int .i64 c]), recovered := false }]
theorem punless_true (c : Int) (w : World) : Calls Tryz.prog 132 #[.bool true, .int .i64 c] w fun e w' => e = .returned (.tuple #[]) ∧ w = w' := by
  go_enter Tryz.func132, Tryz.ntmps132
  go_wp2
  go_end0
  exact ⟨rfl, rfl⟩
theorem punless_false (c : Int) (w : World) : Calls Tryz.prog 132 #[.bool false, .int .i64 c] w fun e w' => e = .panicked (refusal c) ∧ w = w' := by
  go_enter Tryz.func132, Tryz.ntmps132
  go_wp2
  exact ⟨rfl, rfl, rfl⟩
end Go.Proofs.YtoijlikmigejbaaGreat

namespace Go.Proofs.YtoijlikmigejbaaGreat
open Go.RowKit Go.Proofs.YtoijlikmigejbaaGreat.Pu

abbrev kv (a : Int × Int) : Value := .agg #[.int .i64 a.1, .int .i64 a.2]

theorem intKey : KeyTy Tryz.prog 3 vi := intKeyTy Tryz.underlying3

theorem acctEq0 (a b c d : Int) (w : World) : (Op.equalIn 10000 90 (.agg #[.int .i64 a, .int .i64 b]) (.agg #[.int .i64 c, .int .i64 d])).run Tryz.prog w = .ok (decide (((a, b) : Int × Int) = (c, d))) w := by
  go_simp
  by_cases h1 : a = c
  · by_cases h2 : b = d <;> simp [h1, h2]
  · simp [h1]
theorem acctCheck (a c : Int) (w : World) (e : Bool) : (Instr.checkKey e 10000 90 (.agg #[.int .i64 a, .int .i64 c])).run Tryz.prog w = .ok () w := by
  have h1 : ∀ n : Int, (Instr.checkKey e 9999 3 (.int .i64 n)).run Tryz.prog w = .ok () w := fun n =>
    MapKept.run_checkKey (d := .int .i64) (k := .int .i64 n) Tryz.underlying3 (by simp [MapKept.IsKey]) e 9998
  rw [show (10000 : Nat) = 9999 + 1 from rfl, Instr.checkKey]
  go_simp
theorem acctKey : KeyTy Tryz.prog 90 kv :=
  structKeyTy ⟨_, Tryz.underlying90, fun _ _ => rfl⟩ (fun a b w => acctEq0 a.1 a.2 b.1 b.2 w) (fun e x w => acctCheck x.1 x.2 w e)
    (fun x => by rw [show (10000 : Nat) = 9998 + 1 + 1 from rfl]; simp [Instr.sameBits])

theorem zeroInt (w : World) : (zeroValue 3).run Tryz.prog w = .ok (.int .i64 0) w := by kernel_rfl
theorem zeroBool (w : World) : (zeroValue 4).run Tryz.prog w = .ok (.bool false) w := by kernel_rfl
theorem zeroPost (w : World) : (zeroValue 36).run Tryz.prog w = .ok (pval zeroP) w := by kernel_rfl

/-- what a chest holds -/
structure CS where
  n : Int
  hour : Int
  ids : List (Int × Bool)
  sold : List (Int × Int)
  held : List (Int × Int)
  has : List ((Int × Int) × Int)
  last : List ((Int × Int) × Post)

abbrev vbool (b : Bool) : Value := .bool b
/-- a chest in memory: five maps from block N on, the struct behind them -/
structure ChestAt (w : World) (N : Nat) (c : CS) : Prop where
  lt : N + 5 < w.heap.size
  c0 : w.cell? ⟨N + 5, 0, none⟩ = some (.int .i64 c.n)
  c1 : w.cell? ⟨N + 5, 1, none⟩ = some (.int .i64 c.hour)
  c2 : w.cell? ⟨N + 5, 2, none⟩ = some (.map (some N))
  c3 : w.cell? ⟨N + 5, 3, none⟩ = some (.map (some (N + 1)))
  c4 : w.cell? ⟨N + 5, 4, none⟩ = some (.map (some (N + 2)))
  c5 : w.cell? ⟨N + 5, 5, none⟩ = some (.map (some (N + 3)))
  c6 : w.cell? ⟨N + 5, 6, none⟩ = some (.map (some (N + 4)))
  f0 : w.frozen? ⟨N + 5, 0, none⟩ = false
  f1 : w.frozen? ⟨N + 5, 1, none⟩ = false
  ids : w.heap[N]? = some (mapObj vi vbool c.ids)
  sold : w.heap[N + 1]? = some (mapObj vi vi c.sold)
  held : w.heap[N + 2]? = some (mapObj vi vi c.held)
  has : w.heap[N + 3]? = some (mapObj kv vi c.has)
  last : w.heap[N + 4]? = some (mapObj kv pval c.last)

theorem wp_world {P : Program} {c : Code} {Q : Exit → Act → World → Prop} {a : Act} {w : World} {R : World → Prop} (hR : R w) (h : ∀ W, R W → c.wp P Q a W) : c.wp P Q a w := h w hR

/-- an account in a block of its own -/
structure ABox (w : World) (b : Nat) (x y : Int) : Prop where
  lt : b < w.heap.size
  c0 : w.cell? ⟨b, 0, none⟩ = some (.int .i64 x)
  c1 : w.cell? ⟨b, 1, none⟩ = some (.int .i64 y)
theorem ABox.new (w : World) (x y : Int) (t : TypeId) : ABox (w.alloc (.cells #[.int .i64 x, .int .i64 y] t)) w.heap.size x y := ⟨by simp, by simp, by simp⟩

/-- all but the six blocks of a chest is kept -/
structure Keeps (N : Nat) (w w' : World) : Prop where
  os : w'.os = w.os
  tape : w'.tape = w.tape
  output : w'.output = w.output
  size : w.heap.size ≤ w'.heap.size
  block : ∀ k, k < w.heap.size → (k < N ∨ N + 5 < k) → w'.heap[k]? = w.heap[k]?
section
variable {N : Nat} {w w' w'' : World}
theorem Keeps.refl (N : Nat) (w : World) : Keeps N w w := ⟨rfl, rfl, rfl, Nat.le_refl _, fun _ _ _ => rfl⟩
theorem Keeps.trans (h : Keeps N w w') (h' : Keeps N w' w'') : Keeps N w w'' :=
  ⟨h'.os.trans h.os, h'.tape.trans h.tape, h'.output.trans h.output, Nat.le_trans h.size h'.size, fun k hk hn => (h'.block k (Nat.lt_of_lt_of_le hk h.size) hn).trans (h.block k hk hn)⟩
theorem Keeps.of_below (h : Below w.heap.size w w') : Keeps N w w' := ⟨h.os, h.tape, h.output, h.size, fun k hk _ => h.block k hk⟩
theorem Keeps.cell (h : Keeps N w w') {b o : Nat} (hb : b < w.heap.size) (hn : b < N ∨ N + 5 < b) : w'.cell? ⟨b, o, none⟩ = w.cell? ⟨b, o, none⟩ := World.cell?_of_block (h.block b hb hn)
theorem Keeps.frozen (h : Keeps N w w') {b o : Nat} (hb : b < w.heap.size) (hn : b < N ∨ N + 5 < b) : w'.frozen? ⟨b, o, none⟩ = w.frozen? ⟨b, o, none⟩ := World.frozen?_of_block (h.block b hb hn)
theorem Keeps.below (h : Keeps N w w') {B : Nat} (hB : B ≤ N) (hw : B ≤ w.heap.size) : Below B w w' := ⟨h.os, h.tape, h.output, h.size, fun k hk => h.block k (by omega) (by omega)⟩
theorem Keeps.putO (h : Keeps N w w') {b : Nat} (hb : N ≤ b ∧ b ≤ N + 5) (o : Obj) : Keeps N w (putO w' b o) :=
  h.trans ⟨rfl, rfl, rfl, by rw [putO_size]; exact Nat.le_refl _, fun k _ hn => putO_other _ _ _ (by omega)⟩
theorem Keeps.setCell (h : Keeps N w w') {b o : Nat} (hb : N ≤ b ∧ b ≤ N + 5) (v : Value) : Keeps N w (w'.setCell ⟨b, o, none⟩ v) :=
  h.trans ⟨rfl, rfl, rfl, by simp, fun k _ hn => Below.heap_setCell _ _ _ _ (by simp; omega)⟩
theorem Keeps.alloc (h : Keeps N w w') (o : Obj) : Keeps N w (w'.alloc o) :=
  h.trans ⟨rfl, rfl, rfl, by simp, fun k hk _ => Below.heap_alloc _ _ _ hk⟩
theorem Keeps.drewN (h : Keeps N w w') (n : Nat) : Keeps N w (w'.drewN n) := h.trans ⟨rfl, rfl, rfl, Nat.le_refl _, fun _ _ _ => rfl⟩
theorem Keeps.drew (h : Keeps N w w') : Keeps N w w'.drew := h.trans ⟨rfl, rfl, rfl, Nat.le_refl _, fun _ _ _ => rfl⟩
theorem PBox.keeps {b : Nat} {p : Post} (h : PBox w b p) (hk : Keeps N w w') (hb : b < N ∨ N + 5 < b) : PBox w' b p :=
  ⟨Nat.lt_of_lt_of_le h.lt hk.size, (hk.cell h.lt hb).trans h.c0, (hk.cell h.lt hb).trans h.c1, (hk.cell h.lt hb).trans h.c2, (hk.cell h.lt hb).trans h.c3, (hk.cell h.lt hb).trans h.c4, (hk.cell h.lt hb).trans h.c5,
    (hk.cell h.lt hb).trans h.c6, (hk.cell h.lt hb).trans h.c7⟩
theorem ABox.keeps {b : Nat} {x y : Int} (h : ABox w b x y) (hk : Keeps N w w') (hb : b < N ∨ N + 5 < b) : ABox w' b x y :=
  ⟨Nat.lt_of_lt_of_le h.lt hk.size, (hk.cell h.lt hb).trans h.c0, (hk.cell h.lt hb).trans h.c1⟩
theorem ChestAt.same {c : CS} (h : ChestAt w N c) (hs : w.heap.size ≤ w'.heap.size) (hb : ∀ k, N ≤ k → k ≤ N + 5 → w'.heap[k]? = w.heap[k]?) : ChestAt w' N c :=
  ⟨Nat.lt_of_lt_of_le h.lt hs, (World.cell?_of_block (hb (N + 5) (by omega) (by omega))).trans h.c0, (World.cell?_of_block (hb (N + 5) (by omega) (by omega))).trans h.c1, (World.cell?_of_block (hb (N + 5) (by omega) (by omega))).trans h.c2,
    (World.cell?_of_block (hb (N + 5) (by omega) (by omega))).trans h.c3, (World.cell?_of_block (hb (N + 5) (by omega) (by omega))).trans h.c4, (World.cell?_of_block (hb (N + 5) (by omega) (by omega))).trans h.c5, (World.cell?_of_block (hb (N + 5) (by omega) (by omega))).trans h.c6,
    (World.frozen?_of_block (hb (N + 5) (by omega) (by omega))).trans h.f0, (World.frozen?_of_block (hb (N + 5) (by omega) (by omega))).trans h.f1,
    (hb N (by omega) (by omega)).trans h.ids, (hb (N + 1) (by omega) (by omega)).trans h.sold, (hb (N + 2) (by omega) (by omega)).trans h.held, (hb (N + 3) (by omega) (by omega)).trans h.has, (hb (N + 4) (by omega) (by omega)).trans h.last⟩
theorem ChestAt.below {c : CS} {B : Nat} (h : ChestAt w N c) (hb : Below B w w') (hB : N + 5 < B) : ChestAt w' N c := h.same hb.size fun k _ hk => hb.block k (by omega)
theorem ChestAt.alloc {c : CS} (h : ChestAt w N c) (o : Obj) : ChestAt (w.alloc o) N c := h.below ((Below.refl _ _).alloc (Nat.le_refl _) _) h.lt
theorem ChestAt.drewN {c : CS} (h : ChestAt w N c) (n : Nat) : ChestAt (w.drewN n) N c := h.same (Nat.le_refl _) fun _ _ _ => rfl
theorem ChestAt.put_ids {c : CS} (h : ChestAt w N c) (m : List (Int × Bool)) : ChestAt (putO w (N) (mapObj vi vbool m)) N { c with ids := m } :=
  ⟨by rw [putO_size]; exact h.lt, (putO_cell _ _ _ (by dsimp only; omega)).trans h.c0, (putO_cell _ _ _ (by dsimp only; omega)).trans h.c1, (putO_cell _ _ _ (by dsimp only; omega)).trans h.c2, (putO_cell _ _ _ (by dsimp only; omega)).trans h.c3, (putO_cell _ _ _ (by dsimp only; omega)).trans h.c4, (putO_cell _ _ _ (by dsimp only; omega)).trans h.c5, (putO_cell _ _ _ (by dsimp only; omega)).trans h.c6, (putO_frozen _ _ _ (by dsimp only; omega)).trans h.f0, (putO_frozen _ _ _ (by dsimp only; omega)).trans h.f1,
    putO_same _ _ _ (by have := h.lt; omega), (putO_other _ _ _ (by omega)).trans h.sold, (putO_other _ _ _ (by omega)).trans h.held, (putO_other _ _ _ (by omega)).trans h.has, (putO_other _ _ _ (by omega)).trans h.last⟩
theorem ChestAt.put_sold {c : CS} (h : ChestAt w N c) (m : List (Int × Int)) : ChestAt (putO w (N + 1) (mapObj vi vi m)) N { c with sold := m } :=
  ⟨by rw [putO_size]; exact h.lt, (putO_cell _ _ _ (by dsimp only; omega)).trans h.c0, (putO_cell _ _ _ (by dsimp only; omega)).trans h.c1, (putO_cell _ _ _ (by dsimp only; omega)).trans h.c2, (putO_cell _ _ _ (by dsimp only; omega)).trans h.c3, (putO_cell _ _ _ (by dsimp only; omega)).trans h.c4, (putO_cell _ _ _ (by dsimp only; omega)).trans h.c5, (putO_cell _ _ _ (by dsimp only; omega)).trans h.c6, (putO_frozen _ _ _ (by dsimp only; omega)).trans h.f0, (putO_frozen _ _ _ (by dsimp only; omega)).trans h.f1,
    (putO_other _ _ _ (by omega)).trans h.ids, putO_same _ _ _ (by have := h.lt; omega), (putO_other _ _ _ (by omega)).trans h.held, (putO_other _ _ _ (by omega)).trans h.has, (putO_other _ _ _ (by omega)).trans h.last⟩
theorem ChestAt.put_held {c : CS} (h : ChestAt w N c) (m : List (Int × Int)) : ChestAt (putO w (N + 2) (mapObj vi vi m)) N { c with held := m } :=
  ⟨by rw [putO_size]; exact h.lt, (putO_cell _ _ _ (by dsimp only; omega)).trans h.c0, (putO_cell _ _ _ (by dsimp only; omega)).trans h.c1, (putO_cell _ _ _ (by dsimp only; omega)).trans h.c2, (putO_cell _ _ _ (by dsimp only; omega)).trans h.c3, (putO_cell _ _ _ (by dsimp only; omega)).trans h.c4, (putO_cell _ _ _ (by dsimp only; omega)).trans h.c5, (putO_cell _ _ _ (by dsimp only; omega)).trans h.c6, (putO_frozen _ _ _ (by dsimp only; omega)).trans h.f0, (putO_frozen _ _ _ (by dsimp only; omega)).trans h.f1,
    (putO_other _ _ _ (by omega)).trans h.ids, (putO_other _ _ _ (by omega)).trans h.sold, putO_same _ _ _ (by have := h.lt; omega), (putO_other _ _ _ (by omega)).trans h.has, (putO_other _ _ _ (by omega)).trans h.last⟩
theorem ChestAt.put_has {c : CS} (h : ChestAt w N c) (m : List ((Int × Int) × Int)) : ChestAt (putO w (N + 3) (mapObj kv vi m)) N { c with has := m } :=
  ⟨by rw [putO_size]; exact h.lt, (putO_cell _ _ _ (by dsimp only; omega)).trans h.c0, (putO_cell _ _ _ (by dsimp only; omega)).trans h.c1, (putO_cell _ _ _ (by dsimp only; omega)).trans h.c2, (putO_cell _ _ _ (by dsimp only; omega)).trans h.c3, (putO_cell _ _ _ (by dsimp only; omega)).trans h.c4, (putO_cell _ _ _ (by dsimp only; omega)).trans h.c5, (putO_cell _ _ _ (by dsimp only; omega)).trans h.c6, (putO_frozen _ _ _ (by dsimp only; omega)).trans h.f0, (putO_frozen _ _ _ (by dsimp only; omega)).trans h.f1,
    (putO_other _ _ _ (by omega)).trans h.ids, (putO_other _ _ _ (by omega)).trans h.sold, (putO_other _ _ _ (by omega)).trans h.held, putO_same _ _ _ (by have := h.lt; omega), (putO_other _ _ _ (by omega)).trans h.last⟩
theorem ChestAt.put_last {c : CS} (h : ChestAt w N c) (m : List ((Int × Int) × Post)) : ChestAt (putO w (N + 4) (mapObj kv pval m)) N { c with last := m } :=
  ⟨by rw [putO_size]; exact h.lt, (putO_cell _ _ _ (by dsimp only; omega)).trans h.c0, (putO_cell _ _ _ (by dsimp only; omega)).trans h.c1, (putO_cell _ _ _ (by dsimp only; omega)).trans h.c2, (putO_cell _ _ _ (by dsimp only; omega)).trans h.c3, (putO_cell _ _ _ (by dsimp only; omega)).trans h.c4, (putO_cell _ _ _ (by dsimp only; omega)).trans h.c5, (putO_cell _ _ _ (by dsimp only; omega)).trans h.c6, (putO_frozen _ _ _ (by dsimp only; omega)).trans h.f0, (putO_frozen _ _ _ (by dsimp only; omega)).trans h.f1,
    (putO_other _ _ _ (by omega)).trans h.ids, (putO_other _ _ _ (by omega)).trans h.sold, (putO_other _ _ _ (by omega)).trans h.held, (putO_other _ _ _ (by omega)).trans h.has, putO_same _ _ _ (by have := h.lt; omega)⟩
theorem ChestAt.set_n {c : CS} (h : ChestAt w N c) (x : Int) : ChestAt (w.setCell ⟨N + 5, 0, none⟩ (.int .i64 x)) N { c with n := x } :=
  ⟨by simp; exact h.lt, World.cell?_setCell_same _ _ _ h.c0, (World.cell?_setCell_other _ _ _ _ (by simp)).trans h.c1, (World.cell?_setCell_other _ _ _ _ (by simp)).trans h.c2, (World.cell?_setCell_other _ _ _ _ (by simp)).trans h.c3, (World.cell?_setCell_other _ _ _ _ (by simp)).trans h.c4, (World.cell?_setCell_other _ _ _ _ (by simp)).trans h.c5, (World.cell?_setCell_other _ _ _ _ (by simp)).trans h.c6, (World.frozen?_setCell _ _ _ _).trans h.f0, (World.frozen?_setCell _ _ _ _).trans h.f1,
    (Below.heap_setCell _ _ _ _ (by simp)).trans h.ids, (Below.heap_setCell _ _ _ _ (by simp)).trans h.sold, (Below.heap_setCell _ _ _ _ (by simp)).trans h.held, (Below.heap_setCell _ _ _ _ (by simp)).trans h.has, (Below.heap_setCell _ _ _ _ (by simp)).trans h.last⟩
theorem ChestAt.set_hour {c : CS} (h : ChestAt w N c) (x : Int) : ChestAt (w.setCell ⟨N + 5, 1, none⟩ (.int .i64 x)) N { c with hour := x } :=
  ⟨by simp; exact h.lt, (World.cell?_setCell_other _ _ _ _ (by simp)).trans h.c0, World.cell?_setCell_same _ _ _ h.c1, (World.cell?_setCell_other _ _ _ _ (by simp)).trans h.c2, (World.cell?_setCell_other _ _ _ _ (by simp)).trans h.c3, (World.cell?_setCell_other _ _ _ _ (by simp)).trans h.c4, (World.cell?_setCell_other _ _ _ _ (by simp)).trans h.c5, (World.cell?_setCell_other _ _ _ _ (by simp)).trans h.c6, (World.frozen?_setCell _ _ _ _).trans h.f0, (World.frozen?_setCell _ _ _ _).trans h.f1,
    (Below.heap_setCell _ _ _ _ (by simp)).trans h.ids, (Below.heap_setCell _ _ _ _ (by simp)).trans h.sold, (Below.heap_setCell _ _ _ _ (by simp)).trans h.held, (Below.heap_setCell _ _ _ _ (by simp)).trans h.has, (Below.heap_setCell _ _ _ _ (by simp)).trans h.last⟩
end
end Go.Proofs.YtoijlikmigejbaaGreat

namespace Go.Proofs.YtoijlikmigejbaaGreat
open Go.RowKit Go.Proofs.YtoijlikmigejbaaGreat.Pu

abbrev pobj (p : Post) : Obj := .cells #[.int .i64 p.id, .int .i64 p.hour, .int .u8 p.kind, .int .i64 p.party, .int .i64 p.parcel, .int .i64 p.amount, .int .i64 p.reason, .int .i64 p.known] 36
def CS.sale (c : CS) (p : Post) : CS := { c with sold := putM c.sold p.parcel p.amount, held := putM c.held p.parcel p.amount }

set_option maxRecDepth 100000 in
set_option maxHeartbeats 2000000 in
theorem psale_no (N : Nat) (c : CS) (p : Post) (w : World) (hC : ChestAt w N c) (x : Int) (hg : Hid (getM c.sold p.parcel = some x)) :
    Calls Tryz.prog 143 #[.pointer (some ⟨N + 5, 0, none⟩), pval p] w fun e w' => e = .panicked (refusal 6) ∧ Below w.heap.size w w' := by
  have hB1 : Below w.heap.size w (w.alloc (pobj p)) := (Below.refl _ _).alloc (Nat.le_refl _) _
  have hC1 := hC.alloc (pobj p)
  have hlook : ∀ n, (Instr.lookup 77 (.map (some (N + 1))) (.int .i64 p.parcel) true).run Tryz.prog ((w.alloc (pobj p)).drewN n) = .ok (.tuple #[.int .i64 x, .bool true]) ((w.alloc (pobj p)).drewN n) := fun n => by
    have := run_lookupM intKey Tryz.underlying77 zeroInt (hC1.drewN n).sold p.parcel true
    rw [this, hg.out]; rfl
  have a2 := hC.c3
  have hlt := hC.lt
  clear hC hC1 hg
  go_enter Tryz.func143, Tryz.ntmps143
  go_wp2
  go_quiet (fail)
  go_wp2_with (go_at_call 132; refine (punless_false _ _).mono ?_; rintro e w' ⟨rfl, rfl⟩)
  exact ⟨rfl, rfl, below_drewN hB1 _⟩

set_option maxRecDepth 100000 in
set_option maxHeartbeats 4000000 in
theorem psale_ok (N : Nat) (c : CS) (p : Post) (w : World) (hC : ChestAt w N c) (hg : Hid (getM c.sold p.parcel = none)) :
    Calls Tryz.prog 143 #[.pointer (some ⟨N + 5, 0, none⟩), pval p] w fun e w' => e = .returned (.tuple #[]) ∧ ChestAt w' N (c.sale p) ∧ Keeps N w w' := by
  have hC1 := hC.alloc (pobj p)
  have hlook : ∀ n, (Instr.lookup 77 (.map (some (N + 1))) (.int .i64 p.parcel) true).run Tryz.prog ((w.alloc (pobj p)).drewN n) = .ok (.tuple #[.int .i64 0, .bool false]) ((w.alloc (pobj p)).drewN n) := fun n => by
    have := run_lookupM intKey Tryz.underlying77 zeroInt (hC1.drewN n).sold p.parcel true
    rw [this, hg.out]; rfl
  have a2 := hC.c3
  have hlt := hC.lt
  go_enter Tryz.func143, Tryz.ntmps143
  go_wp2
  go_quiet (fail)
  go_wp2_with (go_at_call 132; refine (punless_true _ _).mono ?_; rintro e w' ⟨rfl, rfl⟩)
  obtain ⟨W, hW⟩ : ∃ W, (w.alloc (pobj p)).drewN nq = W := ⟨_, rfl⟩
  obtain ⟨b, hb⟩ : ∃ b, w.heap.size = b := ⟨_, rfl⟩
  have hCW : ChestAt W N c := hW ▸ hC1.drewN nq
  have hPW : PBox W b p := by rw [← hW, ← hb]; exact (PBox.new w p _).below (below_drewN (Below.refl (w.heap.size + 1) _) _) (by omega)
  have hKW : Keeps N w W := hW ▸ ((Keeps.refl N w).alloc (pobj p)).drewN nq
  rw [hW, hb]
  have hbn : N + 5 < b := by omega
  clear hlook hC1 hC a2 hlt hW hb
  have hK2 := Lib.hid hKW
  clear hKW
  have q3 := hCW.c3
  have q4 := hCW.c4
  have p4 := hPW.c4
  have p5 := hPW.c5
  obtain ⟨i1, hi1⟩ : ∃ i : Nat, i = idxM c.sold p.parcel := ⟨_, rfl⟩
  obtain ⟨i2, hi2⟩ : ∃ i : Nat, i = idxM c.held p.parcel := ⟨_, rfl⟩
  have e1 := run_entryM (P := Tryz.prog) (z := 0) (eV := vi) intKey Tryz.underlying77 zeroInt (w := W.drew) (b := N + 1) hCW.sold p.parcel
  have e2 := run_storeM (P := Tryz.prog) (T := 77) (y := p.amount) (putO_same W.drew (N + 1) (mapObj vi vi (entM c.sold p.parcel 0)) (by have := hCW.lt; simp; omega))
  rw [putO_putO] at e2
  have h3 : (putO W.drew (N + 1) (mapObj vi vi (putM c.sold p.parcel p.amount))).heap[N + 2]? = some (mapObj vi vi c.held) := by rw [putO_other _ _ _ (by omega)]; exact hCW.held
  have e3 := run_entryM (P := Tryz.prog) (z := 0) (eV := vi) intKey Tryz.underlying77 zeroInt h3 p.parcel
  have e4 := run_storeM (P := Tryz.prog) (T := 77) (y := p.amount) (putO_same (putO W.drew (N + 1) (mapObj vi vi (putM c.sold p.parcel p.amount))) (N + 2) (mapObj vi vi (entM c.held p.parcel 0)) (by have := hCW.lt; rw [putO_size]; simp; omega))
  rw [putO_putO] at e4
  rw [← hi1] at e1 e2
  rw [← hi2] at e3 e4
  have hC2 := Lib.hid hCW
  clear hi1 hi2 h3 hPW hCW
  go_region_held3 (fun w' => w'.cell? ⟨N + 5, 3, none⟩ = some (.map (some (N + 1))) ∧ w'.cell? ⟨N + 5, 4, none⟩ = some (.map (some (N + 2))) ∧ w'.cell? ⟨b, 4, none⟩ = some (.int .i64 p.parcel) ∧ w'.cell? ⟨b, 5, none⟩ = some (.int .i64 p.amount))
    (first
      | go_keep
      | (go_split_ands
         refine ⟨?_, ?_, ?_, ?_⟩ <;> (repeat rw [putO_cell _ _ _ (by dsimp only; omega)]) <;> assumption))
    (fail)
  go_wp2
  go_end0
  exact ⟨rfl, ((hC2.out.drewN 1).put_sold _).put_held _, ((hK2.out.drew).putO (by omega) _).putO (by omega) _⟩

def gd {K : Type} [DecidableEq K] (m : List (K × Int)) (x : K) : Int := (getM m x).getD 0
def CS.pay (c : CS) (p : Post) : CS :=
  { c with held := putM c.held p.parcel (gd c.held p.parcel - p.amount), has := putM c.has (p.parcel, p.party) (gd c.has (p.parcel, p.party) + p.amount), last := putM c.last (p.parcel, p.party) p }

/-- in the midst of a posting's taking: the chest, the posting's own block; what is kept since w0 -/
structure PSt (w0 : World) (N b : Nat) (c : CS) (p : Post) (w : World) : Prop where
  chest : ChestAt w N c
  box : PBox w b p
  keep : Keeps N w0 w
  far : N + 5 < b
theorem PSt.new {w : World} {N : Nat} {c : CS} (h : ChestAt w N c) (p : Post) : PSt w N w.heap.size c p (w.alloc (pobj p)) :=
  ⟨h.alloc _, PBox.new w p _, (Keeps.refl N w).alloc _, h.lt⟩
theorem PSt.step {w0 w w' : World} {N b : Nat} {c c' : CS} {p : Post} (h : PSt w0 N b c p w) (hk : Keeps N w w') (hc : ChestAt w' N c') : PSt w0 N b c' p w' :=
  ⟨hc, h.box.keeps hk (.inr h.far), h.keep.trans hk, h.far⟩
theorem PSt.drewN {w0 w : World} {N b : Nat} {c : CS} {p : Post} (h : PSt w0 N b c p w) (n : Nat) : PSt w0 N b c p (w.drewN n) := h.step ((Keeps.refl N w).drewN n) (h.chest.drewN n)
theorem PSt.alloc {w0 w : World} {N b : Nat} {c : CS} {p : Post} (h : PSt w0 N b c p w) (o : Obj) : PSt w0 N b c p (w.alloc o) := h.step ((Keeps.refl N w).alloc o) (h.chest.alloc o)

theorem heldLook {w : World} {N : Nat} {c : CS} (h : ChestAt w N c) (x : Int) (n : Nat) : (Instr.lookup 77 (.map (some (N + 2))) (.int .i64 x) false).run Tryz.prog (w.drewN n) = .ok (.int .i64 (gd c.held x)) (w.drewN n) := by
  have := run_lookupM intKey Tryz.underlying77 zeroInt (h.drewN n).held x false
  rw [this]; unfold gd; cases getM c.held x <;> rfl
theorem hasLook {w : World} {N : Nat} {c : CS} (h : ChestAt w N c) (x y : Int) (n : Nat) : (Instr.lookup 78 (.map (some (N + 3))) (.agg #[.int .i64 x, .int .i64 y]) false).run Tryz.prog (w.drewN n) = .ok (.int .i64 (gd c.has (x, y))) (w.drewN n) := by
  have := run_lookupM acctKey Tryz.underlying78 zeroInt (h.drewN n).has (x, y) false
  rw [this]; unfold gd; cases getM c.has (x, y) <;> rfl

set_option maxRecDepth 100000 in
set_option maxHeartbeats 2000000 in
theorem ppay_none (N : Nat) (c : CS) (p : Post) (w : World) (hC : ChestAt w N c) (hg : Hid (getM c.sold p.parcel = none)) :
    Calls Tryz.prog 144 #[.pointer (some ⟨N + 5, 0, none⟩), pval p] w fun e w' => e = .panicked (refusal 5) ∧ Below w.heap.size w w' := by
  have hB1 : Below w.heap.size w (w.alloc (pobj p)) := (Below.refl _ _).alloc (Nat.le_refl _) _
  have hC1 := hC.alloc (pobj p)
  have hlook : ∀ n, (Instr.lookup 77 (.map (some (N + 1))) (.int .i64 p.parcel) true).run Tryz.prog ((w.alloc (pobj p)).drewN n) = .ok (.tuple #[.int .i64 0, .bool false]) ((w.alloc (pobj p)).drewN n) := fun n => by
    have := run_lookupM intKey Tryz.underlying77 zeroInt (hC1.drewN n).sold p.parcel true
    rw [this, hg.out]; rfl
  have a2 := hC.c3
  have hlt := hC.lt
  clear hC hC1 hg
  go_enter Tryz.func144, Tryz.ntmps144
  go_wp2
  go_quiet (fail)
  go_wp2_with (go_at_call 132; refine (punless_false _ _).mono ?_; rintro e w' ⟨rfl, rfl⟩)
  exact ⟨rfl, rfl, below_drewN hB1 _⟩

set_option maxRecDepth 100000 in
set_option maxHeartbeats 4000000 in
theorem ppay_poor (N : Nat) (c : CS) (p : Post) (w : World) (hC : ChestAt w N c) (x : Int) (hg : Hid (getM c.sold p.parcel = some x)) (hpoor : gd c.held p.parcel < p.amount) :
    Calls Tryz.prog 144 #[.pointer (some ⟨N + 5, 0, none⟩), pval p] w fun e w' => e = .panicked (refusal 70) ∧ Below w.heap.size w w' := by
  have hB1 : Below w.heap.size w (w.alloc (pobj p)) := (Below.refl _ _).alloc (Nat.le_refl _) _
  have hC1 := hC.alloc (pobj p)
  have hlook : ∀ n, (Instr.lookup 77 (.map (some (N + 1))) (.int .i64 p.parcel) true).run Tryz.prog ((w.alloc (pobj p)).drewN n) = .ok (.tuple #[.int .i64 x, .bool true]) ((w.alloc (pobj p)).drewN n) := fun n => by
    have := run_lookupM intKey Tryz.underlying77 zeroInt (hC1.drewN n).sold p.parcel true
    rw [this, hg.out]; rfl
  have a2 := hC.c3
  have hlt := hC.lt
  have hS0 : PSt w N w.heap.size c p (w.alloc (pobj p)) ∧ Below w.heap.size w (w.alloc (pobj p)) := ⟨PSt.new hC p, hB1⟩
  clear hC hC1 hg hB1
  have hd : decide (p.amount ≤ gd c.held p.parcel) = false := by simp; omega
  go_enter Tryz.func144, Tryz.ntmps144
  go_wp2
  go_quiet (fail)
  go_wp2_with (go_at_call 132; refine (punless_true _ _).mono ?_; rintro e w' ⟨rfl, rfl⟩)
  refine wp_world (R := fun W => PSt w N w.heap.size c p W ∧ Below w.heap.size w W) ⟨hS0.1.drewN _, below_drewN hS0.2 _⟩ ?_
  clear hS0 hlook a2 hlt
  rintro W ⟨hS, hBW⟩
  obtain ⟨b, hb⟩ : ∃ b, w.heap.size = b := ⟨_, rfl⟩
  rw [hb] at hS ⊢
  have Hb := Lib.hid hb
  clear hb
  have q4 := hS.chest.c4
  have p4 := hS.box.c4
  have p5 := hS.box.c5
  have hl : (Instr.lookup 77 (.map (some (N + 2))) (.int .i64 p.parcel) false).run Tryz.prog W.drew = .ok (.int .i64 (gd c.held p.parcel)) W.drew := heldLook hS.chest p.parcel 1
  clear hS
  go_still_tail 10, (by kernel_rfl)
  go_wp2_with (go_at_call 132; refine (punless_false _ _).mono ?_; rintro e w' ⟨rfl, rfl⟩)
  exact ⟨rfl, rfl, Hb.out ▸ hBW.drew⟩

theorem heldUpd {w : World} {N : Nat} {c : CS} (h : ChestAt w N c) (x y : Int) : (Instr.mapUpdate 77 (.map (some (N + 2))) (.int .i64 x) (.int .i64 y)).run Tryz.prog w.drew = .ok () (putO w.drew (N + 2) (mapObj vi vi (putM c.held x y))) :=
  run_updateM (eV := vi) intKey Tryz.underlying77 (h.drewN 1).held x y
theorem lastUpd {w : World} {N : Nat} {c : CS} (h : ChestAt w N c) (x y : Int) (p : Post) : (Instr.mapUpdate 79 (.map (some (N + 4))) (.agg #[.int .i64 x, .int .i64 y]) (pval p)).run Tryz.prog w.drew = .ok () (putO w.drew (N + 4) (mapObj kv pval (putM c.last (x, y) p))) :=
  run_updateM (eV := pval) acctKey Tryz.underlying79 (h.drewN 1).last (x, y) p
theorem hasEntry {w : World} {N : Nat} {c : CS} (h : ChestAt w N c) (x y : Int) : ∃ i : Nat, (Instr.mapEntry 78 (.map (some (N + 3))) (.agg #[.int .i64 x, .int .i64 y])).run Tryz.prog w.drew =
      .ok (.tuple #[.int .i64 (gd c.has (x, y)), .int .i64 (i : Int)]) (putO w.drew (N + 3) (mapObj kv vi (entM c.has (x, y) 0))) ∧
    (∀ v, (Instr.entryStore 78 (.map (some (N + 3))) (.int .i64 (i : Int)) (.int .i64 v)).run Tryz.prog (putO w.drew (N + 3) (mapObj kv vi (entM c.has (x, y) 0))) = .ok () (putO w.drew (N + 3) (mapObj kv vi (putM c.has (x, y) v)))) ∧
    (Instr.lookup 78 (.map (some (N + 3))) (.agg #[.int .i64 x, .int .i64 y]) false).run Tryz.prog (putO w.drew (N + 3) (mapObj kv vi (entM c.has (x, y) 0))) = .ok (.int .i64 (gd c.has (x, y))) (putO w.drew (N + 3) (mapObj kv vi (entM c.has (x, y) 0))) := by
  have hlt : N + 3 < w.drew.heap.size := by have := h.lt; simp; omega
  refine ⟨idxM c.has (x, y), run_entryM (z := 0) (eV := vi) acctKey Tryz.underlying78 zeroInt (h.drewN 1).has (x, y), fun v => ?_, ?_⟩
  · have := run_storeM (P := Tryz.prog) (T := 78) (y := v) (putO_same w.drew (N + 3) (mapObj kv vi (entM c.has (x, y) 0)) hlt)
    rwa [putO_putO] at this
  · have := run_lookupM acctKey Tryz.underlying78 zeroInt (putO_same w.drew (N + 3) (mapObj kv vi (entM c.has (x, y) 0)) hlt) (x, y) false
    rw [this]
    have e : getM (entM c.has (x, y) 0) (x, y) = some (gd c.has (x, y)) := by
      unfold entM gd
      cases hg : getM c.has (x, y) with
      | some v => simp [hg]
      | none => rw [← putM_new 0 hg, getM_putM]; simp
    rw [e]; rfl

set_option maxRecDepth 100000 in
set_option maxHeartbeats 8000000 in
theorem ppay_ok (N : Nat) (c : CS) (p : Post) (w : World) (hC : ChestAt w N c) (x : Int) (hg : Hid (getM c.sold p.parcel = some x)) (hpoor : p.amount ≤ gd c.held p.parcel)
    (ha : 0 ≤ p.amount ∧ p.amount ≤ 1000000000) (hh : gd c.held p.parcel ≤ 1000000000000000) (hs : -1000000000000000 ≤ gd c.has (p.parcel, p.party) ∧ gd c.has (p.parcel, p.party) ≤ 1000000000000000) :
    Calls Tryz.prog 144 #[.pointer (some ⟨N + 5, 0, none⟩), pval p] w fun e w' => e = .returned (.tuple #[]) ∧ ChestAt w' N (c.pay p) ∧ Keeps N w w' := by
  have hC1 := hC.alloc (pobj p)
  have hlook : ∀ n, (Instr.lookup 77 (.map (some (N + 1))) (.int .i64 p.parcel) true).run Tryz.prog ((w.alloc (pobj p)).drewN n) = .ok (.tuple #[.int .i64 x, .bool true]) ((w.alloc (pobj p)).drewN n) := fun n => by
    have := run_lookupM intKey Tryz.underlying77 zeroInt (hC1.drewN n).sold p.parcel true
    rw [this, hg.out]; rfl
  have a2 := hC.c3
  have hlt := hC.lt
  have hS0 := PSt.new hC p
  clear hC hC1 hg
  have hd : decide (p.amount ≤ gd c.held p.parcel) = true := by simp; omega
  obtain ⟨vh, hvh⟩ : ∃ v, Hid (v = gd c.held p.parcel) := ⟨_, rfl⟩
  obtain ⟨vs, hvs⟩ : ∃ v, Hid (v = gd c.has (p.parcel, p.party)) := ⟨_, rfl⟩
  rw [← hvh.out] at hpoor hd hh
  rw [← hvs.out] at hs
  go_enter Tryz.func144, Tryz.ntmps144
  go_wp2
  go_quiet (fail)
  go_wp2_with (go_at_call 132; refine (punless_true _ _).mono ?_; rintro e w' ⟨rfl, rfl⟩)
  refine wp_world (R := PSt w N w.heap.size c p) (hS0.drewN _) ?_
  clear hS0 hlook a2 hlt
  intro W hS
  obtain ⟨b, hb⟩ : ∃ b, w.heap.size = b := ⟨_, rfl⟩
  rw [hb] at hS ⊢
  have Hb := Lib.hid hb
  clear hb
  have q4 := hS.chest.c4
  have p4 := hS.box.c4
  have p5 := hS.box.c5
  have p3 := hS.box.c3
  have hbl := hS.box.lt
  have hl := heldLook hS.chest p.parcel
  rw [← hvh.out] at hl
  go_quiet ((go_at_call 132; exact quietS (punless_true _ _)))
  go_wp2
  refine wp_world (R := fun W2 => PSt w N b c p W2 ∧ ABox W2 W.heap.size p.parcel p.party) ⟨(hS.alloc _).drewN _, (ABox.new W _ _ _).keeps ((Keeps.refl N _).drewN _) (.inr (by have := hS.chest.lt; omega))⟩ ?_
  have hfar : N + 5 < W.heap.size := hS.chest.lt
  clear hS hl q4 p4 p5 p3 hbl
  obtain ⟨ab, hab⟩ : ∃ ab, W.heap.size = ab := ⟨_, rfl⟩
  rw [hab] at hfar ⊢
  clear hab
  rintro W2 ⟨hS, hA⟩
  have q4 := hS.chest.c4
  have p4 := hS.box.c4
  have p5 := hS.box.c5
  have hl : (Instr.lookup 77 (.map (some (N + 2))) (.int .i64 p.parcel) false).run Tryz.prog W2.drew = .ok (.int .i64 vh) W2.drew := by rw [hvh.out]; exact heldLook hS.chest p.parcel 1
  have hw1 : IntKind.i64.wrap (vh - p.amount) = vh - p.amount := IntWalk.i64_in _ (by omega)
  have hu := heldUpd hS.chest p.parcel (vh - p.amount)
  go_still_tail 10, (by kernel_rfl)
  go_wp2
  refine wp_world (R := fun W3 => PSt w N b { c with held := putM c.held p.parcel (vh - p.amount) } p W3 ∧ ABox W3 ab p.parcel p.party) ⟨(hS.drewN 1).step ((Keeps.refl N _).putO (by omega) _) ((hS.chest.drewN 1).put_held _), hA.keeps (((Keeps.refl N W2).drewN 1).putO (by omega) _) (.inr hfar)⟩ ?_
  clear q4 p4 p5 hl hw1 hu hS hA
  rintro W3 ⟨hS, hA⟩
  have q5 := hS.chest.c5
  have p5 := hS.box.c5
  have a0 := hA.c0
  have a1 := hA.c1
  have hw1 : IntKind.i64.wrap (vs + p.amount) = vs + p.amount := IntWalk.i64_in _ (by omega)
  have hl : (Instr.lookup 78 (.map (some (N + 3))) (.agg #[.int .i64 p.parcel, .int .i64 p.party]) false).run Tryz.prog W3.drew = .ok (.int .i64 vs) W3.drew := by rw [hvs.out]; exact hasLook hS.chest p.parcel p.party 1
  obtain ⟨ix, he, hst, hl2⟩ := hasEntry hS.chest p.parcel p.party
  have hst := hst (vs + p.amount)
  rw [← hvs.out] at he hl2
  dsimp only at he hst hl2
  have hfb := hS.far
  have hS3 := Lib.hid hS
  have hA3 := Lib.hid hA
  clear hS hA
  go_region_held3 (fun w' => w'.cell? ⟨N + 5, 5, none⟩ = some (.map (some (N + 3))) ∧ w'.cell? ⟨ab, 0, none⟩ = some (.int .i64 p.parcel) ∧ w'.cell? ⟨ab, 1, none⟩ = some (.int .i64 p.party) ∧ w'.cell? ⟨b, 5, none⟩ = some (.int .i64 p.amount))
    (first
      | go_keep
      | (go_split_ands
         refine ⟨?_, ?_, ?_, ?_⟩ <;> (repeat rw [putO_cell _ _ _ (by dsimp only; omega)]) <;> assumption))
    (fail)
  all_goals
    go_wp2
    refine wp_world (R := fun W4 => PSt w N b { c with held := putM c.held p.parcel (vh - p.amount), has := putM c.has (p.parcel, p.party) (vs + p.amount) } p W4 ∧ ABox W4 ab p.parcel p.party)
      ⟨(hS3.out.drewN 1).step ((Keeps.refl N _).putO (by omega) _) ((hS3.out.chest.drewN 1).put_has _), hA3.out.keeps (((Keeps.refl N W3).drewN 1).putO (by omega) _) (.inr hfar)⟩ ?_
    rintro W4 ⟨hS, hA⟩
    clear he hst hl2 hl hw1 q5 p5 a0 a1 hS3 hA3
    have q6 := hS.chest.c6
    have p0 := hS.box.c0
    have p1 := hS.box.c1
    have p2 := hS.box.c2
    have p3 := hS.box.c3
    have p4 := hS.box.c4
    have p5 := hS.box.c5
    have p6 := hS.box.c6
    have p7 := hS.box.c7
    have a0 := hA.c0
    have a1 := hA.c1
    have hu := lastUpd hS.chest p.parcel p.party p
    go_still_tail 6, (by kernel_rfl)
    go_wp2
    go_end0
    refine ⟨rfl, ?_, ?_⟩
    · have := (hS.chest.drewN 1).put_last (putM c.last (p.parcel, p.party) p)
      unfold CS.pay
      rw [← hvh.out, ← hvs.out]
      exact this
    · exact (hS.keep.drewN 1).putO (by omega) _

end Go.Proofs.YtoijlikmigejbaaGreat
