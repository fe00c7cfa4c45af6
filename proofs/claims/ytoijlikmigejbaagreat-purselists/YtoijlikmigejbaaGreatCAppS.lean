/- append(v, l...) of postings. -/
import Derived.Test.YtoijlikmigejbaaGreatG06
import Derived.Deep.AppendSrc
namespace Go.Proofs.YtoijlikmigejbaaGreat
open Go.RowKit Go.Proofs.YtoijlikmigejbaaGreat.Pu

/-- append(v, l...), v a row of its own -/
theorem run_append_sl (w : World) (base : Nat) (v : Value) (n : Nat) (xs : List Value) (hown : w.ownsRow base 36 8 v n xs) (ty : TypeId) (l : List Post) (m cap : Nat) (ao : Option Addr) (B : Nat) (hn : m = l.length) (hs : SlAt 8 pcells B w ao l)
    (had : ∀ ad, ao = some ad → ∃ b o, ad = ⟨b, o, none⟩) (hnm : n + m ≤ 1000000) (hbase : base ≤ w.heap.size) (hv : ∃ g c, v = .slice (some ⟨g, 0, none⟩) n c) :
    ∃ v' w', (Builtin.append_ #[22, 22] ty #[v, .slice ao m cap]).run Tryz.prog w = .ok v' w' ∧ w'.ownsRow base 36 8 v' (n + m) (xs ++ flat pcells l) ∧ w.grownBy w' v.ownBlock ∧ ∃ g c, v' = .slice (some ⟨g, 0, none⟩) (n + m) c := by
  obtain ⟨i0, hi, hz0, hz1, hz2⟩ := info_parts infoPost
  cases ao with
  | none =>
    have hl : l = [] := by
      rcases hs with h | ⟨b, o, h, _⟩
      · exact h
      · cases h
    subst hl
    simp only [List.length_nil] at hn
    subst hn
    obtain ⟨g, c, rfl⟩ := hv
    have hsrc : Src Tryz.prog i0.size 22 (.slice none 0 cap) 0 [] w := Src.ofNil w Tryz.underlying22 cap
    have hcap : n ≤ c := by
      obtain ⟨_, ⟨h, _⟩ | ⟨g', c', cur, h, _, _, h2, _⟩⟩ := hown
      · cases h
      · simp only [Value.slice.injEq] at h; rw [h.2.2]; exact h2
    have hr := run_append_room_src w 22 22 ty 36 i0 Tryz.underlying22 hi g 0 n c (.slice none 0 cap) 0 [] hsrc hcap (fun j hj => by simp at hj) (fun j hj => by simp at hj)
    refine ⟨_, _, hr, ?_, ?_, g, c, rfl⟩
    · simpa [flat, World.setCells] using hown
    · simp [World.setCells]
      exact ⟨rfl, rfl, rfl, Nat.le_refl _, fun _ _ _ => rfl⟩
  | some ad =>
    obtain ⟨b, o, rfl⟩ := had ad rfl
    obtain ⟨v', w', h1, h2, h3, h4, h5⟩ := run_append_own_at (P := Tryz.prog) w base 22 ty 36 i0 (pval zeroP) 8 64 Tryz.underlying22 hi hz0 hz1 hz2 rfl (by decide) v n xs hown ⟨b, o, none⟩ m cap (flat pcells l)
      (by rw [flat_length pcells_len, hn]) (hs.news pcells_len) (flat_cell pcells_cell l) (by unfold maxLen; omega) (by omega) hbase
    refine ⟨v', w', h1, h2, h3, ?_⟩
    obtain ⟨g, c, rfl⟩ := hv
    rcases h2.2 with ⟨h, _⟩ | ⟨g', c', _, h, _⟩
    · have := (h4.1 h).1; cases this
    · exact ⟨g', c', h⟩

theorem step_append_sl {ops : Array Oper} {o : Oper} {a : Act} {w : World} {K : Act → World → Prop} {Q : Exit → Act → World → Prop} {E : Prop} (hgd : o.guard = none) (s x : Operand) (v : Value) (l : List Post) (m cap : Nat) (ao : Option Addr)
    (ho : o.op = .call { callee := .builtin .append, args := #[s, x], argTypes := #[22, 22] }) (hs0 : a.eval s = v) (hx : a.eval x = .slice ao m cap)
    (base n : Nat) (xs : List Value) (hown : w.ownsRow base 36 8 v n xs) (B : Nat) (hn : m = l.length) (hs : SlAt 8 pcells B w ao l)
    (had : ∀ ad, ao = some ad → ∃ b o, ad = ⟨b, o, none⟩) (hnm : n + m ≤ 1000000) (hbase : base ≤ w.heap.size) (hv : ∃ g c, v = .slice (some ⟨g, 0, none⟩) n c)
    (h : ∀ g c w', w'.ownsRow base 36 8 (.slice (some ⟨g, 0, none⟩) (n + m) c) (n + m) (xs ++ flat pcells l) → w.grownBy w' v.ownBlock → K (a.put o.dst (.slice (some ⟨g, 0, none⟩) (n + m) c)) w') :
    if Region.wanted o (yielded ops a.tmps) = true then Oper.wp Tryz.prog o a w K Q else E := by
  have hw : Region.wanted o (yielded ops a.tmps) = true := by simp [Region.wanted, hgd]
  rw [if_pos hw]
  obtain ⟨v', w', hr, h2, h3, g, c, rfl⟩ := run_append_sl w base v n xs hown o.type l m cap ao B hn hs had hnm hbase hv
  unfold Oper.wp execOp
  simp only [ho, resolve, invoke, builtin, Sem.run_bind, Sem.run_pure, Result.andThen_ok, List.map_toArray, List.map_cons, List.map_nil, hs0, hx, hr]
  exact h g c w' h2 h3

theorem step_append_sl0 {ops : Array Oper} {o : Oper} {a : Act} {w : World} {K : Act → World → Prop} {Q : Exit → Act → World → Prop} {E : Prop} (hgd : o.guard = none) (s x : Operand) (g0 : Nat) (l : List Post) (m cap : Nat) (ao : Option Addr)
    (ho : o.op = .call { callee := .builtin .append, args := #[s, x], argTypes := #[22, 22] }) (hs0 : a.eval s = .slice (some ⟨g0, 0, none⟩) 0 0) (hx : a.eval x = .slice ao m cap)
    (base : Nat) (hown : w.ownsRow base 36 8 (.slice (some ⟨g0, 0, none⟩) 0 0) 0 []) (B : Nat) (hn : m = l.length) (hs : SlAt 8 pcells B w ao l)
    (had : ∀ ad, ao = some ad → ∃ b o, ad = ⟨b, o, none⟩) (hnm : m ≤ 1000000) (hbase : base ≤ w.heap.size)
    (h : ∀ g c w', w'.ownsRow base 36 8 (.slice (some ⟨g, 0, none⟩) m c) m (flat pcells l) → w.grownBy w' (some g0) → K (a.put o.dst (.slice (some ⟨g, 0, none⟩) m c)) w') :
    if Region.wanted o (yielded ops a.tmps) = true then Oper.wp Tryz.prog o a w K Q else E :=
  step_append_sl hgd s x _ l m cap ao ho hs0 hx base 0 [] hown B hn hs had (by omega) hbase ⟨g0, 0, rfl⟩ fun g c w' h1 h2 => by
    rw [Nat.zero_add, List.nil_append] at h1
    rw [Nat.zero_add]
    exact h g c w' h1 h2
theorem own_empty_at {w : World} {base g T k : Nat} (hg : w.heap[g]? = some (.cells #[] T)) (hb : base ≤ g) : w.ownsRow base T k (.slice (some ⟨g, 0, none⟩) 0 0) 0 [] :=
  ⟨by simp, .inr ⟨g, 0, #[], rfl, hb, hg, Nat.le_refl _, Nat.zero_le _, by simp, by simp⟩⟩
theorem two_first (w : World) (o1 o2 : Obj) : ((w.alloc o1).alloc o2).heap[w.heap.size]? = some o1 := by
  rw [Below.heap_alloc _ _ _ (by simp)]; exact heap_alloc_new w o1
theorem two_second (w : World) (o1 o2 : Obj) : ((w.alloc o1).alloc o2).heap[w.heap.size + 1]? = some o2 := by
  have := heap_alloc_new (w.alloc o1) o2
  rwa [show (w.alloc o1).heap.size = w.heap.size + 1 by simp] at this

end Go.Proofs.YtoijlikmigejbaaGreat
