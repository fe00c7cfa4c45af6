/- append(v, l...) of rows of any kind. -/
import Derived.Test.YtoijlikmigejbaaGreatCAppS
import Derived.Test.YtoijlikmigejbaaGreatG09
namespace Go.Proofs.YtoijlikmigejbaaGreat
open Go.RowKit Go.Proofs.YtoijlikmigejbaaGreat.Pu

/-- a kind of row: its type, the slice's type, what an element's cells are -/
structure Kd {α : Type} (T tS k : Nat) (enc : α → List Value) : Prop where
  ht : Tryz.prog.underlying tS = some (.slice T)
  info : ∃ (i : TypeInfo) (z : Value), Tryz.prog.info? T = some i ∧ i.zero = some z ∧ i.size = k ∧ i.bytes ≤ 64 ∧ z.cells.size = k
  pos : 0 < k
  len : ∀ x, (enc x).length = k
  cell : ∀ x, ∀ u ∈ enc x, u.oneCell' = true
theorem icells_cell (x : Int) : ∀ u ∈ icells x, u.oneCell' = true := fun u hu => by
  simp only [icells, List.mem_singleton] at hu
  subst hu; rfl
theorem kdInt : Kd 3 32 1 icells := by
  obtain ⟨i0, hi, hz0, hz1, hz2⟩ := info_parts infoInt
  exact ⟨Tryz.underlying32, ⟨i0, _, hi, hz0, hz1, by omega, rfl⟩, by omega, icells_len, icells_cell⟩
theorem kdPost : Kd 36 22 8 pcells := by
  obtain ⟨i0, hi, hz0, hz1, hz2⟩ := info_parts infoPost
  exact ⟨Tryz.underlying22, ⟨i0, _, hi, hz0, hz1, by omega, rfl⟩, by omega, pcells_len, pcells_cell⟩

theorem run_append_kd {α : Type} {T tS k : Nat} {enc : α → List Value} (K : Kd T tS k enc) (w : World) (base : Nat) (v : Value) (n : Nat) (xs : List Value) (hown : w.ownsRow base T k v n xs) (ty : TypeId) (l : List α) (m cap : Nat) (ao : Option Addr) (B : Nat) (hn : m = l.length) (hs : SlAt k enc B w ao l)
    (had : ∀ ad, ao = some ad → ∃ b o, ad = ⟨b, o, none⟩) (hnm : n + m ≤ 1000000) (hbase : base ≤ w.heap.size) :
    ∃ v' w', (Builtin.append_ #[tS, tS] ty #[v, .slice ao m cap]).run Tryz.prog w = .ok v' w' ∧ w'.ownsRow base T k v' (n + m) (xs ++ flat enc l) ∧ w.grownBy w' v.ownBlock := by
  obtain ⟨i0, z, hi, hz0, hz1, hz2, hz3⟩ := K.info
  subst hz1
  cases ao with
  | none =>
    have hl : l = [] := by
      rcases hs with h | ⟨b, o, h, _⟩
      · exact h
      · cases h
    subst hl
    simp only [List.length_nil] at hn
    subst hn
    have hsrc : Src Tryz.prog i0.size tS (.slice none 0 cap) 0 [] w := Src.ofNil w K.ht cap
    rcases hown.2 with ⟨rfl, rfl⟩ | ⟨g, c, cur, rfl, hg1, hg2, hcap, hcs⟩
    · refine ⟨.slice none 0 0, w, ?_, by simpa [flat] using hown, World.grownBy.refl w _⟩
      simp [Builtin.append_, run_underlying K.ht, sizeOf, typeInfo, hi, Builtin.lenOf, Builtin.firstCells]
    · have hr := run_append_room_src w tS tS ty T i0 K.ht hi g 0 n c (.slice none 0 cap) 0 [] hsrc hcap (fun j hj => by simp at hj) (fun j hj => by simp at hj)
      refine ⟨_, _, hr, ?_, ?_⟩
      · simpa [flat, World.setCells] using hown
      · simp [World.setCells]
        exact ⟨rfl, rfl, rfl, Nat.le_refl _, fun _ _ _ => rfl⟩
  | some ad =>
    obtain ⟨b, o, rfl⟩ := had ad rfl
    have hb : (n + m) * i0.bytes ≤ 140737488355328 := Nat.le_trans (Nat.mul_le_mul hnm hz2) (by omega)
    obtain ⟨v', w', h1, h2, h3, h4, h5⟩ := run_append_own_at (P := Tryz.prog) w base tS ty T i0 z i0.size i0.bytes K.ht hi hz0 rfl rfl hz3 K.pos v n xs hown ⟨b, o, none⟩ m cap (flat enc l)
      (by rw [flat_length K.len, hn]) (hs.news K.len) (flat_cell K.cell l) (by unfold maxLen; omega) hb hbase
    exact ⟨v', w', h1, h2, h3⟩

/-- in a list of operations -/
theorem list_append_kd {α : Type} {T tS k : Nat} {enc : α → List Value} (K : Kd T tS k enc) {ops : Array Oper} {rest : List Oper} {o : Oper} {a : Act} {w : World} {Q : Exit → Act → World → Prop} (hgd : o.guard = none) (s x : Operand) (v : Value) (l : List α) (m cap : Nat) (ao : Option Addr)
    (ho : o.op = .call { callee := .builtin .append, args := #[s, x], argTypes := #[tS, tS] }) (hs0 : a.eval s = v) (hx : a.eval x = .slice ao m cap)
    (base n : Nat) (xs : List Value) (hown : w.ownsRow base T k v n xs) (B : Nat) (hn : m = l.length) (hs : SlAt k enc B w ao l)
    (had : ∀ ad, ao = some ad → ∃ b o, ad = ⟨b, o, none⟩) (hnm : n + m ≤ 1000000) (hbase : base ≤ w.heap.size)
    (h : ∀ v' w', w'.ownsRow base T k v' (n + m) (xs ++ flat enc l) → w.grownBy w' v.ownBlock → wpList Tryz.prog ops Q rest (a.put o.dst v') w') :
    wpList Tryz.prog ops Q (o :: rest) a w := by
  refine wpList_plain hgd fun K' hK => ?_
  obtain ⟨v', w', hr, h2, h3⟩ := run_append_kd K w base v n xs hown o.type l m cap ao B hn hs had hnm hbase
  unfold Oper.wp execOp
  simp only [ho, resolve, invoke, builtin, Sem.run_bind, Sem.run_pure, Result.andThen_ok, List.map_toArray, List.map_cons, List.map_nil, hs0, hx, hr]
  exact hK _ _ (h v' w' h2 h3)
/-- in a drawn region -/
theorem step_append_kd {α : Type} {T tS k : Nat} {enc : α → List Value} (K : Kd T tS k enc) {ops : Array Oper} {o : Oper} {a : Act} {w : World} {K' : Act → World → Prop} {Q : Exit → Act → World → Prop} {E : Prop} (hgd : o.guard = none) (s x : Operand) (v : Value) (l : List α) (m cap : Nat) (ao : Option Addr)
    (ho : o.op = .call { callee := .builtin .append, args := #[s, x], argTypes := #[tS, tS] }) (hs0 : a.eval s = v) (hx : a.eval x = .slice ao m cap)
    (base n : Nat) (xs : List Value) (hown : w.ownsRow base T k v n xs) (B : Nat) (hn : m = l.length) (hs : SlAt k enc B w ao l)
    (had : ∀ ad, ao = some ad → ∃ b o, ad = ⟨b, o, none⟩) (hnm : n + m ≤ 1000000) (hbase : base ≤ w.heap.size)
    (h : ∀ v' w', w'.ownsRow base T k v' (n + m) (xs ++ flat enc l) → w.grownBy w' v.ownBlock → K' (a.put o.dst v') w') :
    if Region.wanted o (yielded ops a.tmps) = true then Oper.wp Tryz.prog o a w K' Q else E := by
  have hw : Region.wanted o (yielded ops a.tmps) = true := by simp [Region.wanted, hgd]
  rw [if_pos hw]
  obtain ⟨v', w', hr, h2, h3⟩ := run_append_kd K w base v n xs hown o.type l m cap ao B hn hs had hnm hbase
  unfold Oper.wp execOp
  simp only [ho, resolve, invoke, builtin, Sem.run_bind, Sem.run_pure, Result.andThen_ok, List.map_toArray, List.map_cons, List.map_nil, hs0, hx, hr]
  exact h v' w' h2 h3
end Go.Proofs.YtoijlikmigejbaaGreat
