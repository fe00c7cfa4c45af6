/- Walks: the closures of Settle: cause, post. Walks: the closure post of Settle. Settle in plain Lean: what it appends, and why it does not. -/
import Derived.Test.YtoijlikmigejbaaGreatG13
import Derived.RangeFuncBox
namespace Go.Proofs.YtoijlikmigejbaaGreat
open Go.RowKit Go.Proofs.YtoijlikmigejbaaGreat.Pu

def wantC (what hour : Int) (y : Cause) : Bool := (y.parcel == what) && decide (y.known ≤ hour)
def causeH (cs : List Cause) (hour what : Int) : Option Cause := cs.find? (wantC what hour)
def zeroC : Cause := ⟨0, 0, 0⟩

set_option maxRecDepth 100000 in
set_option maxHeartbeats 1000000 in
theorem pWantC (y : Cause) (what hour : Int) (Bp Bh : Nat) (W : World) (hp : W.cell? ⟨Bp, 0, none⟩ = some (.int .i64 what)) (hh : W.cell? ⟨Bh, 0, none⟩ = some (.int .i64 hour)) :
    Calls Tryz.prog 60 #[cval y, .pointer (some ⟨Bp, 0, none⟩), .pointer (some ⟨Bh, 0, none⟩)] W fun e W' => e = .returned (.bool (wantC what hour y)) ∧ Below W.heap.size W W' := by
  have hlp := World.block_lt_of_cell? W _ hp
  have hlh := World.block_lt_of_cell? W _ hh
  dsimp only at hlp hlh
  have hB : Hid (Below W.heap.size W (W.alloc (.cells #[.int .i64 y.parcel, .int .i64 y.reason, .int .i64 y.known] 71))) := (Below.refl _ _).alloc (Nat.le_refl _) _
  obtain ⟨v, hv⟩ : ∃ v, Hid (wantC what hour y = v) := ⟨_, rfl⟩
  by_cases h1 : y.parcel = what
  · have h2 : Hid (wantC what hour y = decide (y.known ≤ hour)) := by show _ = _; unfold wantC; simp [h1]
    have h3 : (y.parcel == what) = true := by simp [h1]
    replace h1 := Lib.hid h1
    go_enter Tryz.func60, Tryz.ntmps60
    go_wp2
    go_ret
    exact ⟨by rw [h2.out]; rfl, hB.out⟩
  · have h2 : Hid (wantC what hour y = false) := by show _ = _; unfold wantC; simp [h1]
    have h3 : (y.parcel == what) = false := by simp [h1]
    replace h1 := Lib.hid h1
    go_enter Tryz.func60, Tryz.ntmps60
    go_wp2
    go_ret
    exact ⟨by rw [h2.out]; rfl, hB.out⟩

/-- the place of the first that is wanted; -1: there is none -/
def idxC (P : Cause → Bool) (d : List Cause) : Int := match d.findIdx? P with
  | some i => (i : Int)
  | none => -1
theorem idxC_hit {P : Cause → Bool} {d : List Cause} {j : Nat} {a : Cause} (ha : d[j]? = some a) (hP : P a = true) (hb : ∀ i x, i < j → d[i]? = some x → P x = false) : idxC P d = (j : Int) := by
  obtain ⟨hj, rfl⟩ := List.getElem?_eq_some_iff.1 ha
  have : d.findIdx? P = some j := by
    rw [List.findIdx?_eq_some_iff_getElem]
    exact ⟨hj, hP, fun i hi => by rw [hb i _ hi (List.getElem?_eq_getElem (by omega))]; simp⟩
  unfold idxC; rw [this]
theorem idxC_miss {P : Cause → Bool} {d : List Cause} (hb : ∀ i x, i < d.length → d[i]? = some x → P x = false) : idxC P d = -1 := by
  have : d.findIdx? P = none := by
    rw [List.findIdx?_eq_none_iff]
    intro x hx
    obtain ⟨i, hi, rfl⟩ := List.getElem_of_mem hx
    exact hb i _ hi (List.getElem?_eq_getElem hi)
  unfold idxC; rw [this]
/-- a test of causes -/
def WantsC (wf : FuncId) (wc : Array Value) (P : Cause → Bool) (M : Nat) (w : World) : Prop :=
  ∀ (y : Cause) (W : World), Below M w W → Calls Tryz.prog wf (#[cval y] ++ wc) W fun e W' => e = .returned (.bool (P y)) ∧ Below W.heap.size W W'

set_option maxRecDepth 100000 in
set_option maxHeartbeats 1000000 in
theorem xIndexC (wf : FuncId) (wc : Array Value) (P : Cause → Bool) (M : Nat) (d : List Cause) (n cap : Nat) (ao : Option Addr) (w : World) (hn : Hid (n = d.length)) (hm : n ≤ 100000) (hcap : n ≤ cap) (hs : SlAt 3 ccells w.heap.size w ao d)
    (ew : ∀ args w, (callFunc wf args).run Tryz.prog w = .ok (.enter wf args) w) (hw : Hid (WantsC wf wc P M w)) (hM : M ≤ w.heap.size) :
    Calls Tryz.prog 59 #[.slice ao n cap, .func (.func wf) #[] wc] w fun e w' => e = .returned (.int .i64 (idxC P d)) ∧ Below w.heap.size w w' := by
  go_enter Tryz.func59, Tryz.ntmps59
  go_wp2
  go_loopw [5, 8] (fun _ i wr => ∃ j : Nat, j ≤ n ∧ i = .int .i64 j ∧ Below w.heap.size w wr ∧ Hid (∀ i x, i < j → d[i]? = some x → P x = false)) (fun _ i _ => n - (intOf i).toNat)
  case atStart => exact ⟨0, Nat.zero_le _, rfl, Below.refl _ _, fun i x hi => by omega⟩
  case round =>
    obtain ⟨j, hj, rfl, hb, hno⟩ := hrel
    by_cases hlt : j < n
    · obtain ⟨a, ha⟩ := getq (l := d) (j := j) (by rw [← hn.out]; exact hlt)
      obtain ⟨b, o, rfl, hb0, c0, c1, c2⟩ := (hs.below hb).cause ha
      have ha' := Lib.hid ha
      have hjc : j ≤ cap := by omega
      have hcall := hw.out a wr (hb.mono hM)
      clear ha
      cases hP : P a with
      | true =>
        rw [hP] at hcall
        have hres : Hid (idxC P d = (j : Int)) := idxC_hit ha'.out hP hno.out
        replace hcall := Lib.hid hcall
        go_wp2_with (refine hcall.out.mono ?_; rintro e w2 ⟨rfl, hB2⟩)
        go_ret
        exact ⟨by rw [hres.out]; rfl, hb.trans (hB2.mono hb.size)⟩
      | false =>
        rw [hP] at hcall
        replace hcall := Lib.hid hcall
        go_wp2_with (refine hcall.out.mono ?_; rintro e w2 ⟨rfl, hB2⟩)
        go_roundw
        case rel => exact ⟨j + 1, by omega, by go_num, hb.trans (hB2.mono hb.size), fun i x hi hx => by
            by_cases e : i = j
            · subst e; rw [ha'.out] at hx; cases hx; exact hP
            · exact hno.out i x (by omega) hx⟩
        case measure => simp [intOf]; omega
    · obtain rfl : j = n := by omega
      have hres : Hid (idxC P d = -1) := idxC_miss (by rw [← hn.out]; exact hno.out)
      go_wp2
      go_ret
      exact ⟨by rw [hres.out]; rfl, hb⟩

theorem find_idxC (P : Cause → Bool) : ∀ (d : List Cause), (d.find? P = none ∧ d.findIdx? P = none) ∨ ∃ i y, d.find? P = some y ∧ d.findIdx? P = some i ∧ d[i]? = some y
  | [] => .inl ⟨rfl, rfl⟩
  | x :: r => by
    by_cases h : P x = true
    · exact .inr ⟨0, x, by simp [h], by simp [List.findIdx?_cons, h], rfl⟩
    · rcases find_idxC P r with ⟨h1, h2⟩ | ⟨i, y, h1, h2, h3⟩
      · exact .inl ⟨by simp [h, h1], by simp [List.findIdx?_cons, h, h2]⟩
      · exact .inr ⟨i + 1, y, by simp [h, h1], by simp [List.findIdx?_cons, h, h2], by simpa using h3⟩

theorem below_far {b k o : Nat} {w w' : World} {v : Value} (h : Below b w w') (hk : b ≤ k) : Below b w (w'.setCell ⟨k, o, none⟩ v) := h.setCell (p := ⟨k, o, none⟩) hk v

/-- cause's answer -/
def CauseRes (o : Option Cause) (w : World) (e : Ending) (w' : World) : Prop := e = .returned (.tuple #[cval (o.getD zeroC), .bool o.isSome]) ∧ Below w.heap.size w w'

set_option maxRecDepth 100000 in
set_option maxHeartbeats 2000000 in
theorem pcause {cs : List Cause} {n cap : Nat} {ao : Option Addr} {B : Nat} {W : World} (h : CIn cs n cap ao B W) (what hour : Int) (Bc Bh : Nat) (hc : W.cell? ⟨Bc, 0, none⟩ = some (.slice ao n cap)) (hh : W.cell? ⟨Bh, 0, none⟩ = some (.int .i64 hour)) :
    Calls Tryz.prog 58 #[.int .i64 what, .pointer (some ⟨Bc, 0, none⟩), .pointer (some ⟨Bh, 0, none⟩)] W (CauseRes (causeH cs hour what) W) := by
  have hmf : ∀ (fn : Fn) (first cap : Array Value) (w : World), (Instr.makeFunc fn first cap).run Tryz.prog w = .ok (.func fn first cap) w := fun _ _ _ _ => rfl
  have hlc := World.block_lt_of_cell? W _ hc
  have hlh := World.block_lt_of_cell? W _ hh
  dsimp only at hlc hlh
  have hP := TBox.new (W.alloc (.cells #[.int .i64 what] 3)) 0 0 0 71
  rw [show (W.alloc (.cells #[.int .i64 what] 3)).heap.size = W.heap.size + 1 by simp] at hP
  obtain ⟨W1, hW1⟩ : ∃ W1, (W.alloc (.cells #[.int .i64 what] 3)).alloc (.cells #[.int .i64 0, .int .i64 0, .int .i64 0] 71) = W1 := ⟨_, rfl⟩
  rw [hW1] at hP
  have hB1 : Hid (Below W.heap.size W W1) := by show Below _ _ _; rw [← hW1]; exact ((Below.refl _ _).alloc (Nat.le_refl _) _).alloc (by simp) _
  have hs1 : W1.heap.size = W.heap.size + 2 := by rw [← hW1]; simp
  have hp1 : W1.cell? ⟨W.heap.size, 0, none⟩ = some (.int .i64 what) := by rw [← hW1]; exact far_cell (by simp)
  have hc1 : W1.cell? ⟨Bc, 0, none⟩ = some (.slice ao n cap) := (hB1.out.cell (p := ⟨Bc, 0, none⟩) hlc).trans hc
  have hh1 : W1.cell? ⟨Bh, 0, none⟩ = some (.int .i64 hour) := (hB1.out.cell (p := ⟨Bh, 0, none⟩) hlh).trans hh
  have hz1 : ∀ i, W1.frozen? ⟨W.heap.size + 1, i, none⟩ = false := fun i => by rw [← hW1]; have := (WBox.new (W.alloc (.cells #[.int .i64 what] 3)) 0 0 0 71).fz i; rwa [show (W.alloc (.cells #[.int .i64 what] 3)).heap.size = W.heap.size + 1 by simp] at this
  have hwant : Hid (WantsC 60 #[.pointer (some ⟨W.heap.size, 0, none⟩), .pointer (some ⟨Bh, 0, none⟩)] (wantC what hour) W1.heap.size W1) := fun y W2 hb =>
    pWantC y what hour W.heap.size Bh W2 ((hb.cell (p := ⟨W.heap.size, 0, none⟩) (by dsimp only; omega)).trans hp1) ((hb.cell (p := ⟨Bh, 0, none⟩) (by dsimp only; omega)).trans hh1)
  have hix := Lib.hid (xIndexC 60 _ (wantC what hour) W1.heap.size cs n cap ao W1 h.hn h.hm h.hcap ((h.hs.below (hB1.out.mono h.hB)).mono (by have := h.hB; omega)) (enters_of Tryz.func60 (by kernel_rfl) rfl) hwant (Nat.le_refl _))
  have Hh := Lib.hid h
  clear h hwant hp1 hh hc
  rcases find_idxC (wantC what hour) cs with ⟨h1, h2⟩ | ⟨i, y, h1, h2, h3⟩
  · have hidx : idxC (wantC what hour) cs = -1 := by unfold idxC; rw [h2]
    rw [hidx] at hix
    have hres : Hid (causeH cs hour what = none) := h1
    clear h1 h2 hidx
    go_enter Tryz.func58, Tryz.ntmps58
    go_wp2_with (fail)
    go_at_call 59
    refine hix.out.mono ?_
    rintro e w2 ⟨rfl, hB2⟩
    have hP2 := hP.after hB2
    have hlP := hP.lt
    have hz2 : ∀ i, w2.frozen? ⟨W.heap.size + 1, i, none⟩ = false := fun i => (hB2.frozen (p := ⟨W.heap.size + 1, i, none⟩) (by dsimp only; omega)).trans (hz1 i)
    have p0 := hP2.c0
    have p1 := hP2.c1
    have p2 := hP2.c2
    have hBB := Lib.hid (hB1.out.trans (hB2.mono hB1.out.size))
    clear hP hP2 hz1 hix hc1 hh1 hB2 hW1
    go_wp2
    refine bodyPost_ret (v := .tuple #[cval zeroC, .bool false]) (by simp [results, Tryz.results58, go_sem, p0, p1, p2, zeroC]) rfl ?_
    refine ⟨by rw [hres.out]; rfl, ?_⟩
    iterate 3 refine below_far ?_ (by omega)
    exact hBB.out
  · have hidx : idxC (wantC what hour) cs = (i : Int) := by unfold idxC; rw [h2]
    rw [hidx] at hix
    have hres : Hid (causeH cs hour what = some y) := h1
    clear h1 h2 hidx
    go_enter Tryz.func58, Tryz.ntmps58
    go_wp2_with (fail)
    go_at_call 59
    refine hix.out.mono ?_
    rintro e w2 ⟨rfl, hB2⟩
    have hP2 := hP.after hB2
    have hlP := hP.lt
    have hz2 : ∀ i, w2.frozen? ⟨W.heap.size + 1, i, none⟩ = false := fun i => (hB2.frozen (p := ⟨W.heap.size + 1, i, none⟩) (by dsimp only; omega)).trans (hz1 i)
    have p0 := hP2.c0
    have p1 := hP2.c1
    have p2 := hP2.c2
    have hBB := Lib.hid (hB1.out.trans (hB2.mono hB1.out.size))
    have hc2 := (hB2.cell (p := ⟨Bc, 0, none⟩) (by dsimp only; omega)).trans hc1
    obtain ⟨b, o, rfl, hb0, c0, c1, c2⟩ := (Hh.out.hs.below (hBB.out.mono Hh.out.hB)).cause h3
    have hin : i < n := by rw [Hh.out.hn]; exact (List.getElem?_eq_some_iff.1 h3).1
    have hic : i ≤ cap := by have := Hh.out.hcap; omega
    have hneg : ¬ ((i : Int) < 0) := by omega
    have hBl := Hh.out.hB
    replace h3 := Lib.hid h3
    clear hP hP2 hz1 hix hc1 hh1 hB2 hW1 Hh
    go_wp2
    refine bodyPost_ret (v := .tuple #[cval y, .bool true]) (by simp [results, Tryz.results58, go_sem, p0, p1, p2]) rfl ?_
    refine ⟨by rw [hres.out]; rfl, ?_⟩
    iterate 3 refine below_far ?_ (by omega)
    exact hBB.out
end Go.Proofs.YtoijlikmigejbaaGreat

namespace Go.Proofs.YtoijlikmigejbaaGreat
open Go.RowKit Go.Proofs.YtoijlikmigejbaaGreat.Pu

/-- all that was there is kept, but the blocks of S -/
structure KeptBut (S : Nat → Prop) (w w' : World) : Prop where
  os : w'.os = w.os
  tape : w'.tape = w.tape
  output : w'.output = w.output
  size : w.heap.size ≤ w'.heap.size
  block : ∀ k, k < w.heap.size → ¬ S k → w'.heap[k]? = w.heap[k]?
theorem KeptBut.refl (S : Nat → Prop) (w : World) : KeptBut S w w := ⟨rfl, rfl, rfl, Nat.le_refl _, fun _ _ _ => rfl⟩
theorem KeptBut.trans {S : Nat → Prop} {a b c : World} (h : KeptBut S a b) {S' : Nat → Prop} (k : KeptBut S' b c) (hS : ∀ i, i < a.heap.size → S' i → S i) : KeptBut S a c :=
  ⟨k.os.trans h.os, k.tape.trans h.tape, k.output.trans h.output, Nat.le_trans h.size k.size, fun i hi hn => (k.block i (Nat.lt_of_lt_of_le hi h.size) (fun hs => hn (hS i hi hs))).trans (h.block i hi hn)⟩
theorem KeptBut.of_below {S : Nat → Prop} {w w' : World} (h : Below w.heap.size w w') : KeptBut S w w' := ⟨h.os, h.tape, h.output, h.size, fun k hk _ => h.block k hk⟩
theorem KeptBut.of_set (w : World) (b o : Nat) (v : Value) : KeptBut (fun k => k = b) w (w.setCell ⟨b, o, none⟩ v) := ⟨rfl, rfl, rfl, by simp, fun k _ hn => Below.heap_setCell _ _ _ _ hn⟩
theorem KeptBut.of_put (w : World) (b : Nat) (o : Obj) : KeptBut (fun k => k = b) w (putO w b o) := ⟨rfl, rfl, rfl, by rw [putO_size]; exact Nat.le_refl _, fun k _ hn => putO_other _ _ _ hn⟩
theorem KeptBut.of_grown {w w' : World} {row : Option Nat} (h : w.grownBy w' row) : KeptBut (fun k => some k = row) w w' := ⟨h.os, h.tape, h.output, h.size, fun k hk hn => h.block k hk hn⟩
theorem KeptBut.mono {S S' : Nat → Prop} {w w' : World} (h : KeptBut S w w') (hS : ∀ k, k < w.heap.size → S k → S' k) : KeptBut S' w w' := ⟨h.os, h.tape, h.output, h.size, fun k hk hn => h.block k hk (fun hs => hn (hS k hk hs))⟩
theorem KeptBut.below {S : Nat → Prop} {w w' : World} (h : KeptBut S w w') {B : Nat} (hB : B ≤ w.heap.size) (hS : ∀ k, S k → B ≤ k) : Below B w w' :=
  ⟨h.os, h.tape, h.output, h.size, fun k hk => h.block k (Nat.lt_of_lt_of_le hk hB) (fun hs => by have := hS k hs; omega)⟩
theorem KeptBut.boxed {S : Nat → Prop} {w w' : World} (h : KeptBut S w w') {b : Nat} {t : TypeId} {v : Value} (hb : Boxed w b t v) (hn : ¬ S b) : Boxed w' b t v := (h.block b hb.lt hn).trans hb
theorem KeptBut.own {S : Nat → Prop} {w w' : World} {base e size n : Nat} {v : Value} {xs : List Value} (h : KeptBut S w w') (hr : w.ownsRow base e size v n xs) (hn : ∀ g, v.ownBlock = some g → ¬ S g) : w'.ownsRow base e size v n xs := by
  obtain ⟨h0, hr | ⟨g, cap, cur, h1, h2, h3, h4⟩⟩ := hr
  · exact ⟨h0, .inl hr⟩
  · exact ⟨h0, .inr ⟨g, cap, cur, h1, h2, (h.block g (Array.getElem?_eq_some_iff.1 h3).1 (hn g (by rw [h1]; rfl))).trans h3, h4⟩⟩

theorem TBox.kept {S : Nat → Prop} {w w' : World} {b : Nat} {x y z : Int} (h : TBox w b x y z) (hk : KeptBut S w w') (hn : ¬ S b) : TBox w' b x y z :=
  ⟨Nat.lt_of_lt_of_le h.lt hk.size, (World.cell?_of_block (hk.block b h.lt hn)).trans h.c0, (World.cell?_of_block (hk.block b h.lt hn)).trans h.c1, (World.cell?_of_block (hk.block b h.lt hn)).trans h.c2⟩

def mkP (id hour kind : Int) (x : Due) (y : Cause) : Post := ⟨id, hour, kind, x.party, x.parcel, x.amount, y.reason, y.known⟩

/-- post's answer -/
def PostRes (bi bo sb : Nat) (id : Int) (v : Value) (out : List Post) (p : Post) (w : World) (e : Ending) (w' : World) : Prop :=
  e = .returned (.tuple #[]) ∧ Boxed w' bi 3 (.int .i64 (id + 1)) ∧
  (∃ v', Boxed w' bo 22 v' ∧ w'.ownsRow sb 36 8 v' (out.length + 1) (flat pcells (out ++ [p])) ∧ (v'.ownBlock = v.ownBlock ∨ ∃ g, v'.ownBlock = some g ∧ w.heap.size ≤ g)) ∧
  KeptBut (fun k => k = bi ∨ k = bo ∨ some k = v.ownBlock) w w'

set_option maxRecDepth 100000 in
set_option maxHeartbeats 4000000 in
theorem ppost (bi bo bh sb : Nat) (id hour kind : Int) (x : Due) (y : Cause) (v : Value) (out : List Post) (W : World) (hbi : Boxed W bi 3 (.int .i64 id)) (hbo : Boxed W bo 22 v) (hbh : Boxed W bh 3 (.int .i64 hour))
    (hown : W.ownsRow sb 36 8 v out.length (flat pcells out)) (hne : bi ≠ bo) (hnh : bh ≠ bi) (hsb : sb ≤ bo) (hid : 0 ≤ id ∧ id ≤ 1000000000) (hlen : out.length ≤ 100000) :
    Calls Tryz.prog 61 #[.int .u8 kind, dval x, cval y, .pointer (some ⟨bi, 0, none⟩), .pointer (some ⟨bo, 0, none⟩), .pointer (some ⟨bh, 0, none⟩)] W (PostRes bi bo sb id v out (mkP (id + 1) hour kind x y) W) := by
  obtain ⟨i0, hi, hz0, hz1, hz2⟩ := info_parts infoPost
  have hli := hbi.lt
  have hlo := hbo.lt
  have hlh := hbh.lt
  -- the boxes of the arguments
  obtain ⟨W1, hW1⟩ : ∃ W1, (W.alloc (.cells #[.int .i64 x.party, .int .i64 x.parcel, .int .i64 x.amount] 63)).alloc (.cells #[.int .i64 y.parcel, .int .i64 y.reason, .int .i64 y.known] 71) = W1 := ⟨_, rfl⟩
  have hs1 : W1.heap.size = W.heap.size + 2 := by rw [← hW1]; simp
  have hB1 : Hid (Below W.heap.size W W1) := by show Below _ _ _; rw [← hW1]; exact ((Below.refl _ _).alloc (Nat.le_refl _) _).alloc (by simp) _
  have hX1 : TBox W1 W.heap.size x.party x.parcel x.amount := by
    rw [← hW1]; exact (TBox.new W x.party x.parcel x.amount 63).after ((Below.refl _ _).alloc (Nat.le_refl _) _)
  have hY1 : TBox W1 (W.heap.size + 1) y.parcel y.reason y.known := by
    rw [← hW1]
    have := TBox.new (W.alloc (.cells #[.int .i64 x.party, .int .i64 x.parcel, .int .i64 x.amount] 63)) y.parcel y.reason y.known 71
    rwa [show (W.alloc (.cells #[.int .i64 x.party, .int .i64 x.parcel, .int .i64 x.amount] 63)).heap.size = W.heap.size + 1 by simp] at this
  have hK1 : KeptBut (fun _ => False) W W1 := KeptBut.of_below hB1.out
  have hbi1 := hK1.boxed hbi (fun h => h)
  have hbo1 := hK1.boxed hbo (fun h => h)
  have hbh1 := hK1.boxed hbh (fun h => h)
  have hown1 := hK1.own hown (fun _ _ h => h)
  have i1c := hbi1.cell
  have i1f := hbi1.frozen
  have hw1 : IntKind.i64.wrap (id + 1) = id + 1 := IntWalk.i64_in _ (by omega)
  have hnri := hbi1.not_row (by decide) hown1
  -- the number
  obtain ⟨W2, hW2⟩ : ∃ W2, W1.setCell ⟨bi, 0, none⟩ (.int .i64 (id + 1)) = W2 := ⟨_, rfl⟩
  have hK2 : KeptBut (fun k => k = bi) W1 W2 := by rw [← hW2]; exact KeptBut.of_set ..
  have hs2 : W2.heap.size = W.heap.size + 2 := by rw [← hW2]; simp; exact hs1
  have hbi2 : Boxed W2 bi 3 (.int .i64 (id + 1)) := by rw [← hW2]; exact hbi1.set _
  have hbo2 := hK2.boxed hbo1 (fun h => hne h.symm)
  have hbh2 := hK2.boxed hbh1 hnh
  have hown2 := hK2.own hown1 (fun g hg e => hnri (by rw [← e, hg]))
  have hX2 := hX1.kept hK2 (fun e => by omega)
  have hY2 := hY1.kept hK2 (fun e => by omega)
  have hnw := heap_alloc_new W2 (.cells (pcells (mkP (id + 1) hour kind x y)).toArray 36 (0, 0))
  have hnews := Lib.hid (World.news_of_block hnw)
  rw [hs2] at hnews
  have x0 := hX2.c0
  have x1 := hX2.c1
  have x2 := hX2.c2
  have y1 := hY2.c1
  have y2 := hY2.c2
  have b0 := hbi2.cell
  have b1 := hbo2.cell
  have b2 := hbh2.cell
  have hr0 := hown2.alloc (.cells (pcells (mkP (id + 1) hour kind x y)).toArray 36)
  have HK := Lib.hid (show KeptBut (fun k => k = bi) W W2 from (hK1.mono (fun _ _ h => h.elim)).trans hK2 (fun k _ h => h))
  replace hr0 := Lib.hid hr0
  replace hbo2 := Lib.hid hbo2
  replace hown2 := Lib.hid hown2
  replace hbi2 := Lib.hid hbi2
  have Hs1 := Lib.hid hs1
  have hob := Lib.hid (show ∀ g, v.ownBlock = some g → g ≠ bo from fun g hg e => hbo.not_row (by decide) hown (by rw [hg, e]))
  have hoi := Lib.hid (show ∀ g, v.ownBlock = some g → g ≠ bi from fun g hg e => hbi.not_row (by decide) hown (by rw [hg, e]))
  clear hbi hbo hbh hown hX1 hY1 hK1 hbi1 hbo1 hbh1 hown1 hK2 hbh2 hX2 hY2 hnw hnri hB1
  go_enter Tryz.func61, Tryz.ntmps61
  go_wp2_with (first
    | (at_builtin; refine wpList_append_own_at _ rfl _ _ 22 rfl sb 36 i0 (pval zeroP) 8 64 Tryz.underlying22 hi hz0 hz1 hz2 rfl (by decide) _ _ _ rfl hr0.out ⟨_, 0, none⟩ 1 1 (pcells (mkP (id + 1) hour kind x y)) rfl rfl hnews.out (pcells_cell _) (by unfold maxLen; omega) (by omega) (by simp; omega) ?_
       intro v' w3 hown' hgrow _ hloc
       obtain ⟨g', cap', rfl⟩ := ownsRow_succ hown'
       obtain ⟨hv1, hv2, hr2, hk2, hb2⟩ := hbo2.out.appended (by decide) hown2.out (by omega) hsb hown' hgrow
       have hc1 := hv1.cell
       have hf1 := hv1.frozen
       have HG := Lib.hid (show (W2.alloc (.cells (pcells (mkP (id + 1) hour kind x y)).toArray 36)).grownBy w3 v.ownBlock from hgrow)
       replace hloc := Lib.hid (show (Value.slice (some ⟨g', 0, none⟩) (out.length + 1) cap').ownBlock = v.ownBlock ∨ (Value.slice (some ⟨g', 0, none⟩) (out.length + 1) cap').ownBlock = some (W2.alloc (.cells (pcells (mkP (id + 1) hour kind x y)).toArray 36)).heap.size from hloc)
       replace hv2 := Lib.hid hv2
       replace hr2 := Lib.hid hr2
       clear hv1 hk2 hb2 hown' hgrow
       go_frame))
  (try simp only [Exit.inBlock, Exit.then]); refine bodyPost_ret (results_none rfl _ _ _) rfl ?_
  have HA : KeptBut (fun k => some k = v.ownBlock) W2 w3 := by
    refine ((KeptBut.of_below (S := fun k => some k = v.ownBlock) ((Below.refl _ W2).alloc (Nat.le_refl _) _)).trans (KeptBut.of_grown HG.out) (fun k _ h => h))
  have HF : KeptBut (fun k => k = bi ∨ k = bo ∨ some k = v.ownBlock) W (w3.setCell ⟨bo, 0, none⟩ (.slice (some ⟨g', 0, none⟩) (out.length + 1) cap')) :=
    ((HK.out.mono (S' := fun k => k = bi ∨ k = bo ∨ some k = v.ownBlock) (fun k _ h => .inl h)).trans HA (fun k _ h => .inr (.inr h))).trans (KeptBut.of_set _ _ _ _) (fun k _ h => .inr (.inl h))
  refine ⟨rfl, ?_, ⟨_, hv2.out, ?_, ?_⟩, HF⟩
  · refine (KeptBut.of_set w3 bo 0 _).boxed (HA.boxed hbi2.out (fun e => hoi.out bi e.symm rfl)) hne
  · rw [flat_app, flat_one]; exact hr2.out
  · rcases hloc.out with h | h
    · exact .inl h
    · exact .inr ⟨_, h, by simp; omega⟩
end Go.Proofs.YtoijlikmigejbaaGreat

namespace Go.Proofs.YtoijlikmigejbaaGreat
open Go.RowKit Go.Proofs.YtoijlikmigejbaaGreat.Pu

def maxI : List Int → Int
  | [] => 0
  | x :: r => max x (maxI r)
theorem maxI_perm {a b : List Int} (h : a.Perm b) : maxI a = maxI b := by
  induction h with
  | nil => rfl
  | cons x _ ih => simp only [maxI, ih]
  | swap x y l => simp only [maxI]; omega
  | trans _ _ h1 h2 => rw [h1, h2]
theorem maxI_app (a : List Int) (x : Int) (hx : 0 ≤ x) : maxI (a ++ [x]) = max (maxI a) x := by
  induction a with
  | nil => simp only [List.nil_append, maxI]; omega
  | cons y r ih => simp only [List.cons_append, maxI, ih]; omega
theorem maxI_bd {a : List Int} {M : Int} (hM : 0 ≤ M) (h : ∀ x ∈ a, x ≤ M) : 0 ≤ maxI a ∧ maxI a ≤ M := by
  induction a with
  | nil => exact ⟨Int.le_refl 0, hM⟩
  | cons y r ih =>
    have := ih fun x hx => h x (List.mem_cons_of_mem _ hx)
    have := h y (List.mem_cons_self ..)
    simp only [maxI]; omega
/-- the greatest number of a posting -/
def maxId (l : List Post) : Int := maxI (l.map (·.id))

def lastK (l : List Post) (x : Due) : Int := ((Pu.last l x.party x.parcel).getD zeroP).known
def backStep (l : List Post) (cs : List Cause) (hour : Int) (out : List Post) (x : Due) : List Post :=
  match causeH cs hour x.parcel with
  | some y => if lastK l x < y.known then out ++ [mkP (maxId l + out.length + 1) hour 3 x y] else out
  | none => out
def payStep (l : List Post) (cs : List Cause) (hour : Int) (out : List Post) (x : Due) : List Post :=
  match causeH cs hour x.parcel with
  | some y => if 0 < min x.amount (Pu.held (l ++ out) x.parcel) then out ++ [mkP (maxId l + out.length + 1) hour 2 { x with amount := min x.amount (Pu.held (l ++ out) x.parcel) } y] else out
  | none => out
def settleOut (l : List Post) (d : List Due) (cs : List Cause) (hour : Int) : List Post :=
  (openL l d).foldl (payStep l cs hour) ((overL l d).foldl (backStep l cs hour) [])
/-- why nothing can be settled -/
def settleCode (l : List Post) (d : List Due) (cs : List Cause) (hour : Int) : Int :=
  if (check l).2 ≠ 0 then (check l).2 else if inB hour 0 1000000 = false then 1 else if chkL okD ltD d ≠ 0 then chkL okD ltD d else if chkL okC ltC cs ≠ 0 then chkL okC ltC cs
  else if hour < lastHour l then 7
  else if 400 < l.length + (settleOut l d cs hour).length ∨ (0 < (settleOut l d cs hour).length ∧ 1000000 < maxId l + (settleOut l d cs hour).length) then 2 else 0
/-- Settle's answer -/
def SettleRes (l : List Post) (d : List Due) (cs : List Cause) (hour : Int) (w : World) (e : Ending) (w' : World) : Prop :=
  Below w.heap.size w w' ∧ ((settleCode l d cs hour ≠ 0 ∧ e = .returned (.tuple #[.slice none 0 0, .int .i64 (settleCode l d cs hour)])) ∨
    (settleCode l d cs hour = 0 ∧ ∃ v, e = .returned (.tuple #[v, .int .i64 0]) ∧ (∃ ao cap, v = .slice ao (settleOut l d cs hour).length cap) ∧
      w'.ownsRow w.heap.size 36 8 v (settleOut l d cs hour).length (flat pcells (settleOut l d cs hour))))
theorem SettleRes.no {l : List Post} {d : List Due} {cs : List Cause} {hour x : Int} {w w' : World} (hB : Below w.heap.size w w') (hx : settleCode l d cs hour = x) (h0 : x ≠ 0) : SettleRes l d cs hour w (.returned (.tuple #[.slice none 0 0, .int .i64 x])) w' :=
  ⟨hB, .inl ⟨by rw [hx]; exact h0, by rw [hx]⟩⟩

/-- the state of the settling: out is what was posted; H what the copy of the held amounts knows of it -/
structure SetSt (w0 : World) (bi bo hb sb : Nat) (ob : Option Nat) (l : List Post) (out H : List Post) (w : World) : Prop where
  kept : KeptBut (fun k => k = bi ∨ k = bo ∨ k = hb ∨ some k = ob) w0 w
  id : Boxed w bi 3 (.int .i64 (maxId l + out.length))
  out : ∃ v, Boxed w bo 22 v ∧ w.ownsRow sb 36 8 v out.length (flat pcells out) ∧ (v.ownBlock = ob ∨ ∃ g, v.ownBlock = some g ∧ w0.heap.size ≤ g)
  held : ∃ m, w.heap[hb]? = some (mapObj vi vi m) ∧ ∀ x, gd m x = Pu.held (l ++ H) x
theorem SetSt.after {w0 : World} {bi bo hb sb : Nat} {ob : Option Nat} {l out H : List Post} {w w' : World} (h : SetSt w0 bi bo hb sb ob l out H w) (hB : Below w.heap.size w w') : SetSt w0 bi bo hb sb ob l out H w' := by
  have hk : KeptBut (fun _ => False) w w' := KeptBut.of_below hB
  obtain ⟨v, h1, h2, h3⟩ := h.out
  obtain ⟨m, h4, h5⟩ := h.held
  exact ⟨h.kept.trans hk (fun _ _ h => h.elim), hk.boxed h.id (fun h => h), ⟨v, hk.boxed h1 (fun h => h), hk.own h2 (fun _ _ h => h), h3⟩, m, (hB.block hb (Array.getElem?_eq_some_iff.1 h4).1).trans h4, h5⟩
theorem SetSt.drewN {w0 : World} {bi bo hb sb : Nat} {ob : Option Nat} {l out H : List Post} {w : World} (h : SetSt w0 bi bo hb sb ob l out H w) (n : Nat) : SetSt w0 bi bo hb sb ob l out H (w.drewN n) := h.after (below_drewN (Below.refl _ _) n)
theorem SetSt.put {w0 : World} {bi bo hb sb : Nat} {ob : Option Nat} {l out H : List Post} {w : World} (h : SetSt w0 bi bo hb sb ob l out H w) (hne : hb ≠ bi) (hne2 : hb ≠ bo) (m : List (Int × Int)) (H' : List Post) (hm : ∀ x, gd m x = Pu.held (l ++ H') x) :
    SetSt w0 bi bo hb sb ob l out H' (putO w hb (mapObj vi vi m)) := by
  have hk := KeptBut.of_put w hb (mapObj vi vi m)
  obtain ⟨v, h1, h2, h3⟩ := h.out
  obtain ⟨m0, h4, h5⟩ := h.held
  refine ⟨h.kept.trans hk (fun k _ h => .inr (.inr (.inl h))), hk.boxed h.id (fun e => hne e.symm), ⟨v, hk.boxed h1 (fun e => hne2 e.symm), hk.own h2 (fun g hg e => ?_), h3⟩, m, putO_same _ _ _ (Array.getElem?_eq_some_iff.1 h4).1, hm⟩
  obtain ⟨_, hr | ⟨g', cap, cur, e1, e2, e3, _⟩⟩ := h2
  · rw [hr.1] at hg; cases hg
  · rw [e1] at hg; cases hg; dsimp only at e; rw [e, h4] at e3; cases e3
/-- behind post -/
theorem SetSt.posted {w0 : World} {bi bo hb sb : Nat} {ob : Option Nat} {l out H : List Post} {w w' : World} (h : SetSt w0 bi bo hb sb ob l out H w) (hne : hb ≠ bi) (hne2 : hb ≠ bo) {v : Value} (hv : Boxed w bo 22 v) {e : Ending} {p : Post} (hp : PostRes bi bo sb (maxId l + out.length) v out p w e w') :
    e = .returned (.tuple #[]) ∧ SetSt w0 bi bo hb sb ob l (out ++ [p]) H w' := by
  obtain ⟨he, hi, ⟨v', h1, h2, h3⟩, hk⟩ := hp
  obtain ⟨v0, g1, g2, g3⟩ := h.out
  obtain ⟨m, h4, h5⟩ := h.held
  have hvv : v0 = v := by
    have e1 := g1.cell; rw [hv.cell] at e1; cases e1; rfl
  subst hvv
  have hl0 := h.kept.size
  refine ⟨he, h.kept.trans hk ?_, ?_, ⟨v', h1, ?_, ?_⟩, m, (hk.block hb (Array.getElem?_eq_some_iff.1 h4).1 ?_).trans h4, h5⟩
  · rintro k hkl (e | e | e)
    · exact .inl e
    · exact .inr (.inl e)
    · refine .inr (.inr (.inr ?_))
      rcases g3 with g3 | ⟨g, g3, g4⟩
      · rw [e, g3]
      · rw [g3] at e; cases e; omega
  · have : maxId l + ((out ++ [p]).length : Int) = maxId l + out.length + 1 := by simp; omega
    rw [this]; exact hi
  · rw [List.length_append]; exact h2
  · rcases h3 with h3 | ⟨g, h3, h3'⟩
    · rcases g3 with g3 | ⟨g, g3, g4⟩
      · exact .inl (h3.trans g3)
      · exact .inr ⟨g, h3.trans g3, g4⟩
    · exact .inr ⟨g, h3, Nat.le_trans hl0 h3'⟩
  · rintro (e | e | e)
    · exact hne e
    · exact hne2 e
    · obtain ⟨_, hr | ⟨g', cap, cur, e1, e2, e3, _⟩⟩ := g2
      · rw [hr.1] at e; cases e
      · rw [e1] at e; simp only [Value.ownBlock, Option.some.injEq] at e; subst e; rw [h4] at e3; cases e3

/-- a list of dues that lies beside the blocks of S -/
def SlOut (S : Nat → Prop) (w : World) (ao : Option Addr) (l : List Due) : Prop := ∀ (i : Nat) (x : Due), l[i]? = some x → ∃ b o, ao = some ⟨b, o, none⟩ ∧ b < w.heap.size ∧ ¬ S b ∧
  w.cell? ⟨b, o + i * 3, none⟩ = some (.int .i64 x.party) ∧ w.cell? ⟨b, o + i * 3 + 1, none⟩ = some (.int .i64 x.parcel) ∧ w.cell? ⟨b, o + i * 3 + 2, none⟩ = some (.int .i64 x.amount)
theorem SlOut.kept {S : Nat → Prop} {w w' : World} {ao : Option Addr} {l : List Due} (h : SlOut S w ao l) (hk : KeptBut S w w') : SlOut S w' ao l := fun i x hx => by
  obtain ⟨b, o, h1, h2, h3, h4, h5, h6⟩ := h i x hx
  have e := hk.block b h2 h3
  exact ⟨b, o, h1, Nat.lt_of_lt_of_le h2 hk.size, h3, (World.cell?_of_block e).trans h4, (World.cell?_of_block e).trans h5, (World.cell?_of_block e).trans h6⟩
theorem SlOut.of {S : Nat → Prop} {w : World} {ao : Option Addr} {l : List Due} {base n cap : Nat} (h : w.ownsRow base 63 3 (.slice ao n cap) n (flat dcells l)) (hS : ∀ k, S k → k < base) : SlOut S w ao l := fun i x hx => by
  obtain ⟨b, o, h1, h2, h4, h5, h6⟩ := SlAt.due (Own.slAt dcells_len (by omega) h) hx
  refine ⟨b, o, h1, h2, fun hs => ?_, h4, h5, h6⟩
  have h7 := own_far h b (by rw [h1]; rfl)
  have h8 := hS b hs
  omega

theorem parcels_len (l : List Post) : (parcels l).length ≤ l.length := by
  have h1 : ∀ (n : Int) (a : List Int), (insA n a).length ≤ a.length + 1 := fun n a => by
    induction a with
    | nil => simp [insA]
    | cons x r ih =>
      rw [insA]
      split
      · simp
      · split
        · simp
        · simp only [List.length_cons]; omega
  have h2 : ∀ (l : List Post) (a : List Int), (l.foldl (fun a p => insA p.parcel a) a).length ≤ a.length + l.length := fun l => by
    induction l with
    | nil => intro a; simp
    | cons p r ih => intro a; rw [List.foldl_cons]; have := ih (insA p.parcel a); have := h1 p.parcel a; simp only [List.length_cons]; omega
  have := h2 l []
  unfold parcels
  simpa using this
theorem accL_len (l : List Post) : (accL l).length ≤ l.length * 41 := by
  have h : ∀ xs : List Int, (xs.flatMap fun x => (List.range 41).filterMap fun k : Nat => if Pu.has l k x = 0 then none else some (x, (k : Int))).length ≤ xs.length * 41 := fun xs => by
    induction xs with
    | nil => simp
    | cons x r ih =>
      rw [List.flatMap_cons, List.length_append, List.length_cons]
      have := List.length_filterMap_le (fun k : Nat => if Pu.has l k x = 0 then none else some (x, (k : Int))) (List.range 41)
      rw [List.length_range] at this
      omega
  have h1 := h (parcels l)
  have h2 := parcels_len l
  have h3 : (parcels l).length * 41 ≤ l.length * 41 := Nat.mul_le_mul_right _ h2
  exact Nat.le_trans h1 h3
theorem overL_len (l : List Post) (d : List Due) : (overL l d).length ≤ l.length * 41 := Nat.le_trans (List.length_filterMap_le _ _) (accL_len l)
theorem openL_len (l : List Post) (d : List Due) : (openL l d).length ≤ d.length := List.length_filterMap_le _ _
/-- what a due in a list of the purse is -/
def DueIn (x : Due) : Prop := 0 ≤ x.party ∧ x.party ≤ 40 ∧ 1 ≤ x.amount ∧ x.amount ≤ 1000000000
theorem overL_in {l : List Post} {d : List Due} (hb : Book l) (hd : ∀ x ∈ d, 0 ≤ x.amount ∧ x.amount ≤ 1000000000) : ∀ x ∈ overL l d, DueIn x := by
  intro x hx
  obtain ⟨⟨a, b⟩, ha, he⟩ := List.mem_filterMap.1 hx
  have h1 := (mem_accL a b).1 ha
  unfold overD at he
  split at he
  · cases he
    have h2 := Book.has_le hb b a
    have h3 := amts_bd hd (a, b)
    rename_i h4
    refine ⟨h1.2.1, h1.2.2.1, ?_, ?_⟩ <;> dsimp only at * <;> omega
  · cases he
theorem openL_in {l : List Post} {d : List Due} (hb : Book l) (hd : ∀ x ∈ d, 0 ≤ x.party ∧ x.party ≤ 40 ∧ 0 ≤ x.amount ∧ x.amount ≤ 1000000000) : ∀ x ∈ openL l d, DueIn x := by
  intro x hx
  obtain ⟨y, hy, he⟩ := List.mem_filterMap.1 hx
  unfold openD at he
  split at he
  · cases he
    have h2 := Book.has_le hb y.party y.parcel
    have h3 := hd y hy
    rename_i h4
    refine ⟨h3.1, h3.2.1, ?_, ?_⟩ <;> dsimp only <;> omega
  · cases he
theorem AmtOk.snoc {l : List Post} (h : AmtOk l) {p : Post} (hp : 0 ≤ p.amount ∧ p.amount ≤ 1000000000) : AmtOk (l ++ [p]) := fun q hq => by
  rcases List.mem_append.1 hq with h1 | h1
  · exact h q h1
  · rw [List.mem_singleton.1 h1]; exact hp
theorem held_back {l : List Post} {id hour : Int} {x : Due} {y : Cause} (hx : 0 ≤ x.party ∧ x.party ≤ 40) (z : Int) : Pu.held (l ++ [mkP id hour 3 x y]) z = if z = x.parcel then Pu.held l x.parcel + x.amount else Pu.held l z := by
  rw [held_app _ _ _ hx.1 hx.2]
  unfold soldOf hasOf mkP
  dsimp only
  by_cases h : z = x.parcel
  · subst h; simp <;> omega
  · rw [if_neg (show ¬ ((3 : Int) = 1 ∧ x.parcel = z) by omega), if_neg (show ¬ (x.party = x.party ∧ x.parcel = z) from fun e => h e.2.symm), if_neg h]; omega
theorem held_pay {l : List Post} {id hour : Int} {x : Due} {y : Cause} (hx : 0 ≤ x.party ∧ x.party ≤ 40) (z : Int) : Pu.held (l ++ [mkP id hour 2 x y]) z = if z = x.parcel then Pu.held l x.parcel - x.amount else Pu.held l z := by
  rw [held_app _ _ _ hx.1 hx.2]
  unfold soldOf hasOf mkP
  dsimp only
  by_cases h : z = x.parcel
  · subst h; simp
  · rw [if_neg (show ¬ ((2 : Int) = 1 ∧ x.parcel = z) by omega), if_neg (show ¬ (x.party = x.party ∧ x.parcel = z) from fun e => h e.2.symm), if_neg h]; omega
end Go.Proofs.YtoijlikmigejbaaGreat
