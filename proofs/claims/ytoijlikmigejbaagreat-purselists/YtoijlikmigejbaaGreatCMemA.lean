/- What the laws on settling need: few, rows of their own, wiping a row. -/
import Derived.Test.YtoijlikmigejbaaGreatCLawR
import Derived.Test.YtoijlikmigejbaaGreatCAppS
namespace Go.Proofs.YtoijlikmigejbaaGreat
open Go.RowKit Go.Proofs.YtoijlikmigejbaaGreat.Pu

/-- append([]api.Posting{}, l...) in a list of operations -/
theorem list_append_sl0 {ops : Array Oper} {rest : List Oper} {o : Oper} {a : Act} {w : World} {Q : Exit → Act → World → Prop} (hgd : o.guard = none) (s x : Operand) (g0 : Nat) (l : List Post) (m cap : Nat) (ao : Option Addr)
    (ho : o.op = .call { callee := .builtin .append, args := #[s, x], argTypes := #[22, 22] }) (hs0 : a.eval s = .slice (some ⟨g0, 0, none⟩) 0 0) (hx : a.eval x = .slice ao m cap)
    (base : Nat) (hown : w.ownsRow base 36 8 (.slice (some ⟨g0, 0, none⟩) 0 0) 0 []) (B : Nat) (hn : m = l.length) (hs : SlAt 8 pcells B w ao l)
    (had : ∀ ad, ao = some ad → ∃ b o, ad = ⟨b, o, none⟩) (hnm : m ≤ 1000000) (hbase : base ≤ w.heap.size)
    (h : ∀ g c w', w'.ownsRow base 36 8 (.slice (some ⟨g, 0, none⟩) m c) m (flat pcells l) → w.grownBy w' (some g0) → wpList Tryz.prog ops Q rest (a.put o.dst (.slice (some ⟨g, 0, none⟩) m c)) w') :
    wpList Tryz.prog ops Q (o :: rest) a w := by
  refine wpList_plain hgd fun K hK => ?_
  obtain ⟨v', w', hr, h2, h3, g, c, rfl⟩ := run_append_sl w base _ 0 [] hown o.type l m cap ao B hn hs had (by omega) hbase ⟨g0, 0, rfl⟩
  unfold Oper.wp execOp
  simp only [ho, resolve, invoke, builtin, Sem.run_bind, Sem.run_pure, Result.andThen_ok, List.map_toArray, List.map_cons, List.map_nil, hs0, hx, hr]
  rw [Nat.zero_add, List.nil_append] at h2
  rw [Nat.zero_add]
  exact hK _ _ (h g c w' h2 h3)

/-- a list that is short -/
def fewB (n n2 n3 : Nat) : Bool := decide (n ≤ 24) && (decide (n2 ≤ 20) || (decide (400 < n2) && decide (n2 ≤ 405))) && (decide (n3 ≤ 20) || (decide (400 < n3) && decide (n3 ≤ 405)))
theorem fewB_of {n n2 n3 : Nat} (h : fewB n n2 n3 = true) : n ≤ 24 ∧ n2 ≤ 405 ∧ n3 ≤ 405 := by
  simp only [fewB, Bool.and_eq_true, Bool.or_eq_true, decide_eq_true_eq] at h
  omega
theorem b_true (p : Prop) [Decidable p] (h : p) : decide p = true := decide_eq_true h
theorem b_false (p : Prop) [Decidable p] (h : ¬ p) : decide p = false := decide_eq_false h
/-- where a length lies -/
structure Ln (n : Nat) (a b c : Bool) : Prop where
  e1 : decide (n ≤ 20) = a
  e2 : decide (400 < n) = b
  e3 : decide (n ≤ 405) = c
  f1 : decide ((n : Int) ≤ 20) = a
  f2 : decide (400 < (n : Int)) = b
  f3 : decide ((n : Int) ≤ 405) = c
theorem ln_four (n : Nat) : Ln n true false true ∨ Ln n false false true ∨ Ln n false true true ∨ Ln n false true false := by
  rcases Nat.lt_or_ge 20 n with h1 | h1
  · rcases Nat.lt_or_ge 400 n with h2 | h2
    · rcases Nat.lt_or_ge 405 n with h3 | h3
      · exact .inr (.inr (.inr ⟨b_false _ (by omega), b_true _ (by omega), b_false _ (by omega), b_false _ (by omega), b_true _ (by omega), b_false _ (by omega)⟩))
      · exact .inr (.inr (.inl ⟨b_false _ (by omega), b_true _ (by omega), b_true _ (by omega), b_false _ (by omega), b_true _ (by omega), b_true _ (by omega)⟩))
    · exact .inr (.inl ⟨b_false _ (by omega), b_false _ (by omega), b_true _ (by omega), b_false _ (by omega), b_false _ (by omega), b_true _ (by omega)⟩)
  · exact .inl ⟨b_true _ (by omega), b_false _ (by omega), b_true _ (by omega), b_true _ (by omega), b_false _ (by omega), b_true _ (by omega)⟩

set_option maxRecDepth 100000 in
set_option maxHeartbeats 4000000 in
theorem pFew (n cap n2 cap2 n3 cap3 : Nat) (ao ao2 ao3 : Option Addr) (w : World) :
    Calls Tryz.prog 10 #[.slice ao n cap, .slice ao2 n2 cap2, .slice ao3 n3 cap3] w fun e w' => e = .returned (.bool (fewB n n2 n3)) ∧ Below w.heap.size w w' := by
  obtain ⟨r, hr⟩ : ∃ r, fewB n n2 n3 = r := ⟨_, rfl⟩
  rw [hr]
  unfold fewB at hr
  have hB := Lib.hid (Below.refl w.heap.size w)
  by_cases h1 : n ≤ 24
  case neg =>
    rw [b_false _ h1] at hr
    have hr2 := Lib.hid hr
    have d1 : decide ((n : Int) ≤ 24) = false := by simp; omega
    clear hr
    go_enter Tryz.func10, Tryz.ntmps10
    go_wp2
    go_ret
    exact ⟨by rw [← hr2.out]; rfl, hB.out⟩
  case pos =>
    rw [b_true _ h1] at hr
    have d1 : decide ((n : Int) ≤ 24) = true := by simp; omega
    rcases ln_four n2 with h2 | h2 | h2 | h2 <;> rcases ln_four n3 with h3 | h3 | h3 | h3
    all_goals
      rw [h2.e1, h2.e2, h2.e3, h3.e1, h3.e2, h3.e3] at hr
      have hr2 := Lib.hid hr
      have g1 := h2.f1
      have g2 := h2.f2
      have g3 := h2.f3
      have k1 := h3.f1
      have k2 := h3.f2
      have k3 := h3.f3
      clear hr h2 h3 h1
      go_enter Tryz.func10, Tryz.ntmps10
      go_wp2
      go_ret
      exact ⟨by rw [← hr2.out]; rfl, hB.out⟩

/-- what Append and Settle give -/
def settleQ (l : List Post) (d : List Due) (cs : List Cause) (hour : Int) : List Post := if settleCode l d cs hour = 0 then settleOut l d cs hour else []
/-- a row of postings that was made between two sizes of the heap -/
structure Rw (lo hi : Nat) (l : List Post) (ao : Option Addr) (n cap : Nat) (w : World) : Prop where
  own : w.ownsRow lo 36 8 (.slice ao n cap) n (flat pcells l)
  far : ∀ k, Value.ownBlock (.slice ao n cap) = some k → k < hi
  n : n = l.length
  hi : hi ≤ w.heap.size
theorem Rw.of {lo : Nat} {l : List Post} {ao : Option Addr} {n cap : Nat} {w : World} (h : w.ownsRow lo 36 8 (.slice ao n cap) n (flat pcells l)) (hn : n = l.length) : Rw lo w.heap.size l ao n cap w :=
  ⟨h, fun k hk => (h.lt k hk).2, hn, Nat.le_refl _⟩
theorem Rw.after {lo hi : Nat} {l : List Post} {ao : Option Addr} {n cap : Nat} {w w' : World} (h : Rw lo hi l ao n cap w) (hB : Below w.heap.size w w') : Rw lo hi l ao n cap w' := ⟨own_after h.own hB, h.far, h.n, Nat.le_trans h.hi hB.size⟩
theorem Rw.kept {lo hi : Nat} {l : List Post} {ao : Option Addr} {n cap : Nat} {w w' : World} {S : Nat → Prop} (h : Rw lo hi l ao n cap w) (hk : KeptBut S w w') (hS : ∀ k, lo ≤ k → k < hi → ¬ S k) : Rw lo hi l ao n cap w' :=
  ⟨hk.own h.own fun g hg => hS g (own_far h.own g hg) (h.far g hg), h.far, h.n, Nat.le_trans h.hi hk.size⟩
theorem Rw.at {lo hi : Nat} {l : List Post} {ao : Option Addr} {n cap : Nat} {w : World} (h : Rw lo hi l ao n cap w) : SlAt 8 pcells w.heap.size w ao l := Own.slAt pcells_len (by omega) h.own
theorem Rw.cap {lo hi : Nat} {l : List Post} {ao : Option Addr} {n cap : Nat} {w : World} (h : Rw lo hi l ao n cap w) : n ≤ cap := by
  obtain ⟨_, hr | ⟨g, cap', cur, e1, e2, e3, e4, _⟩⟩ := h.own
  · omega
  · cases e1; exact e4
theorem Rw.had {lo hi : Nat} {l : List Post} {ao : Option Addr} {n cap : Nat} {w : World} (h : Rw lo hi l ao n cap w) : ∀ ad, ao = some ad → ∃ b o, ad = ⟨b, o, none⟩ := fun ad had => by
  obtain ⟨_, hr | ⟨g, cap', cur, e1, e2, e3, e4, _⟩⟩ := h.own
  · have := hr.1; simp only [Value.slice.injEq] at this; rw [this.1] at had; cases had
  · cases e1; cases had; exact ⟨_, _, rfl⟩
theorem Rw.lin {lo hi : Nat} {l : List Post} {ao : Option Addr} {n cap : Nat} {w : World} (h : Rw lo hi l ao n cap w) (hm : n ≤ 100000) (hk : Kinds l) : LIn l n cap ao w.heap.size w := Own.lin h.own h.n hm hk
theorem Rw.nil (lo : Nat) (w : World) : Rw lo w.heap.size [] none 0 0 w := Rw.of (World.ownsRow_nil w lo _ _) rfl
theorem appQ_len (l : List Post) (p : Post) : (appQ l p).length ≤ l.length + 1 := by
  unfold appQ; split <;> simp
theorem settleQ_len (l : List Post) (d : List Due) (cs : List Cause) (hour : Int) : (settleQ l d cs hour).length ≤ 400 := by
  unfold settleQ
  split
  · rename_i h
    unfold settleCode at h
    split at h
    · omega
    · split at h
      · omega
      · split at h
        · omega
        · split at h
          · omega
          · split at h
            · omega
            · split at h
              · omega
              · omega
  · simp
theorem someL_len (P : Post → Bool) (l : List Post) : (someL P l).length ≤ l.length := by
  unfold someL; split
  · exact List.length_filter_le _ _
  · exact Nat.zero_le _
/-- the answer is a row of its own and a code -/
def NewRes (l : List Post) (code : Int) (w : World) (e : Ending) (w' : World) : Prop :=
  Below w.heap.size w w' ∧ ∃ ao n cap, e = .returned (.tuple #[.slice ao n cap, .int .i64 code]) ∧ Rw w.heap.size w'.heap.size l ao n cap w'
theorem nAppend {l : List Post} {n cap : Nat} {ao : Option Addr} {B : Nat} {w : World} (h : LIn l n cap ao B w) (p : Post) (hp : 0 ≤ p.kind ∧ p.kind ≤ 255) :
    Calls Tryz.prog 55 #[.slice ao n cap, pval p] w (NewRes (appQ l p) (appCode l p) w) := by
  refine (h.pAppend p hp).mono ?_
  rintro e w' ⟨hB, ⟨h0, rfl⟩ | ⟨h0, b, c, rfl, hown⟩⟩
  · refine ⟨hB, none, 0, 0, rfl, ?_⟩
    unfold appQ; rw [if_neg h0]; exact Rw.nil _ _
  · refine ⟨hB, _, _, c, by rw [h0], ?_⟩
    unfold appQ; rw [if_pos h0]; exact Rw.of hown (by simp)
theorem nSettle {l : List Post} {d : List Due} {cs : List Cause} {n cap n2 cap2 n3 cap3 : Nat} {ao ao2 ao3 : Option Addr} {B : Nat} {w : World} (hour : Int) (h : SetIn l d cs hour n cap n2 cap2 n3 cap3 ao ao2 ao3 B w) :
    Calls Tryz.prog 12 #[.slice ao n cap, .slice ao2 n2 cap2, .slice ao3 n3 cap3, .int .i64 hour] w (NewRes (settleQ l d cs hour) (settleCode l d cs hour) w) := by
  refine (pSettle hour h).mono ?_
  rintro e w' ⟨hB, ⟨h0, rfl⟩ | ⟨h0, v, rfl, ⟨a, c, rfl⟩, hown⟩⟩
  · refine ⟨hB, none, 0, 0, rfl, ?_⟩
    unfold settleQ; rw [if_neg h0]; exact Rw.nil _ _
  · refine ⟨hB, _, _, c, by rw [h0], ?_⟩
    unfold settleQ; rw [if_pos h0]; exact Rw.of hown rfl
theorem nUpto {l : List Post} {n cap : Nat} {ao : Option Addr} {B : Nat} {w : World} (h : LIn l n cap ao B w) (hour : Int) :
    Calls Tryz.prog 36 #[.slice ao n cap, .int .i64 hour] w fun e w' => Below w.heap.size w w' ∧ ∃ ao n cap, e = .returned (.slice ao n cap) ∧ Rw w.heap.size w'.heap.size (someL (uptoP hour) l) ao n cap w' := by
  refine (pUpto h hour).mono ?_
  rintro e w' ⟨hB, a, c, rfl, hown⟩
  exact ⟨hB, a, _, c, rfl, Rw.of hown rfl⟩

/-- a row that is being written -/
structure Wp (lo : Nat) (ao : Option Addr) (m cap : Nat) (w0 w : World) : Prop where
  kept : KeptBut (fun k => Value.ownBlock (.slice ao m cap) = some k) w0 w
  own : ∃ xs, w.ownsRow lo 36 8 (.slice ao m cap) m xs
theorem Wp.start {lo hi : Nat} {l : List Post} {ao : Option Addr} {m cap : Nat} {w : World} (h : Rw lo hi l ao m cap w) : Wp lo ao m cap w w := ⟨KeptBut.refl _ _, _, h.own⟩
theorem Wp.after {lo : Nat} {ao : Option Addr} {m cap : Nat} {w0 w w' : World} (h : Wp lo ao m cap w0 w) (hB : Below w.heap.size w w') : Wp lo ao m cap w0 w' :=
  ⟨h.kept.trans (KeptBut.of_below (S := fun _ => False) hB) (fun _ _ h => h.elim), h.own.imp fun _ h => own_after h hB⟩
theorem Wp.cells {lo : Nat} {ao : Option Addr} {m cap : Nat} {w0 w : World} (h : Wp lo ao m cap w0 w) {i : Nat} (hi : i < m) : ∃ g, ao = some ⟨g, 0, none⟩ ∧ g < w.heap.size ∧ (∀ j, w.frozen? ⟨g, j, none⟩ = false) ∧
    ∀ j, j < 8 → ∃ u, w.cell? ⟨g, i * 8 + j, none⟩ = some u := by
  obtain ⟨xs, hx⟩ := h.own
  obtain ⟨m', rfl⟩ : ∃ m', m = m' + 1 := ⟨m - 1, by omega⟩
  obtain ⟨g, c, e⟩ := ownsRow_succ hx
  cases e
  refine ⟨g, rfl, (hx.lt g rfl).2, fun j => hx.frozenAt j, fun j hj => ?_⟩
  have h1 := hx.cellAt (i * 8 + j) (by omega)
  have h2 := hx.1
  rw [h1, List.getElem?_eq_getElem (show i * 8 + j < xs.length by omega)]
  exact ⟨_, rfl⟩
theorem Wp.set {lo g : Nat} {m cap : Nat} {w0 w : World} (h : Wp lo (some ⟨g, 0, none⟩) m cap w0 w) (o : Nat) (u : Value) : Wp lo (some ⟨g, 0, none⟩) m cap w0 (w.setCell ⟨g, o, none⟩ u) := by
  obtain ⟨xs, hx⟩ := h.own
  exact ⟨h.kept.trans (KeptBut.of_set w g o u) (fun k _ e => by rw [e]; rfl), _, (hx.stored o u).1⟩
end Go.Proofs.YtoijlikmigejbaaGreat
