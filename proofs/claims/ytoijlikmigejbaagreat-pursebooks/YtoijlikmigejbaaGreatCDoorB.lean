/- What comes in, read as data: lists of dues and of causes. -/
import Derived.Test.YtoijlikmigejbaaGreatCDoor
namespace Go.Proofs.YtoijlikmigejbaaGreat
open Go.RowKit Go.Proofs.YtoijlikmigejbaaGreat.Pu Go.ChangeShapes Go.WideShapes Go.Deep

section
variable {H : Type} {enc : TypeId × Value → H} {w : World} {held : Bool}
theorem dec_three {fs : Array Field} (hfs : fs.toList.map (·.type) = [3, 3, 3]) (c : Nat → Value)
    (h : ∀ (j : Nat) (f : Field), fs[j]? = some f → ∃ (n : Nat) (y : DataW H × List MemPlace), DataW.trod enc Tryz.prog w 0 (fun _ => true) held n f.type [c j] = some y) :
    ∃ x y z : Int, c 0 = .int .i64 x ∧ c 1 = .int .i64 y ∧ c 2 = .int .i64 z := by
  have hf : ∀ (j : Nat) (t : TypeId), ([3, 3, 3] : List TypeId)[j]? = some t → ∃ (n : Nat) (y : DataW H × List MemPlace), DataW.trod enc Tryz.prog w 0 (fun _ => true) held n t [c j] = some y := fun j t ht => by
    rw [← hfs, List.getElem?_map] at ht
    cases hq : fs.toList[j]? with
    | none => rw [hq] at ht; cases ht
    | some f => rw [hq] at ht; cases ht; exact h j f (by simpa using hq)
  obtain ⟨n0, y0, g0⟩ := hf 0 _ rfl
  obtain ⟨n1, y1, g1⟩ := hf 1 _ rfl
  obtain ⟨n2, y2, g2⟩ := hf 2 _ rfl
  obtain ⟨z0, e0, _⟩ := field_int Tryz.underlying3 g0
  obtain ⟨z1, e1, _⟩ := field_int Tryz.underlying3 g1
  obtain ⟨z2, e2, _⟩ := field_int Tryz.underlying3 g2
  exact ⟨z0, z1, z2, e0, e1, e2⟩
theorem dec_due {fs : Array Field} (hfs : fs.toList.map (·.type) = [3, 3, 3]) (c : Nat → Value)
    (h : ∀ (j : Nat) (f : Field), fs[j]? = some f → ∃ (n : Nat) (y : DataW H × List MemPlace), DataW.trod enc Tryz.prog w 0 (fun _ => true) held n f.type [c j] = some y) :
    ∃ x : Due, True ∧ ∀ (j : Nat) (u : Value), (dcells x)[j]? = some u → c j = u := by
  obtain ⟨x, y, z, h0, h1, h2⟩ := dec_three hfs c h
  refine ⟨⟨x, y, z⟩, trivial, fun j u hu => ?_⟩
  match j, hu with
  | 0, hu => cases hu; exact h0
  | 1, hu => cases hu; exact h1
  | 2, hu => cases hu; exact h2
  | j + 3, hu => simp [dcells] at hu
theorem dec_cause {fs : Array Field} (hfs : fs.toList.map (·.type) = [3, 3, 3]) (c : Nat → Value)
    (h : ∀ (j : Nat) (f : Field), fs[j]? = some f → ∃ (n : Nat) (y : DataW H × List MemPlace), DataW.trod enc Tryz.prog w 0 (fun _ => true) held n f.type [c j] = some y) :
    ∃ x : Cause, True ∧ ∀ (j : Nat) (u : Value), (ccells x)[j]? = some u → c j = u := by
  obtain ⟨x, y, z, h0, h1, h2⟩ := dec_three hfs c h
  refine ⟨⟨x, y, z⟩, trivial, fun j u hu => ?_⟩
  match j, hu with
  | 0, hu => cases hu; exact h0
  | 1, hu => cases hu; exact h1
  | 2, hu => cases hu; exact h2
  | j + 3, hu => simp [ccells] at hu
theorem fsDue : ∃ fs, Tryz.prog.underlying 63 = some (.struct fs) ∧ oneCellFields Tryz.prog fs = true ∧ Tryz.prog.cellsOf 63 = fs.size ∧ fs.size = 3 ∧ fs.toList.map (·.type) = [3, 3, 3] :=
  ⟨_, Tryz.underlying63, by kernel_rfl, by kernel_rfl, rfl, rfl⟩
theorem fsCause : ∃ fs, Tryz.prog.underlying 71 = some (.struct fs) ∧ oneCellFields Tryz.prog fs = true ∧ Tryz.prog.cellsOf 71 = fs.size ∧ fs.size = 3 ∧ fs.toList.map (·.type) = [3, 3, 3] :=
  ⟨_, Tryz.underlying71, by kernel_rfl, by kernel_rfl, rfl, rfl⟩
set_option maxRecDepth 100000 in
/-- a list of dues, read -/
theorem open_dues {b0 : Nat} {v : Value} {d : DataW H} {p : List MemPlace} (hv : Value.okWide Tryz.prog w .any b0 23 v) (h : DataW.Trod enc Tryz.prog w 0 (fun _ => true) held 23 v d p) :
    ∃ (ao : Option Addr) (n cap : Nat) (l : List Due), v = .slice ao n cap ∧ n = l.length ∧ (n ≤ 100000 → DIn l n cap ao w.heap.size w) := by
  obtain ⟨fs, h1, h2, h3, h4, h5⟩ := fsDue
  obtain ⟨ao, n, cap, l, rfl, hn, hcap, hs, hQ, had⟩ := open_rows (P := Tryz.prog) 3 dcells (fun _ => True) Tryz.underlying23 h1 h2 h3 h4 (dec_due h5) dcells_len hv h
  exact ⟨ao, n, cap, l, rfl, hn, fun hm => ⟨hn, hm, hcap, hs, Nat.le_refl _⟩⟩
set_option maxRecDepth 100000 in
/-- a list of causes, read -/
theorem open_causes {b0 : Nat} {v : Value} {d : DataW H} {p : List MemPlace} (hv : Value.okWide Tryz.prog w .any b0 24 v) (h : DataW.Trod enc Tryz.prog w 0 (fun _ => true) held 24 v d p) :
    ∃ (ao : Option Addr) (n cap : Nat) (l : List Cause), v = .slice ao n cap ∧ n = l.length ∧ (n ≤ 100000 → CIn l n cap ao w.heap.size w) := by
  obtain ⟨fs, h1, h2, h3, h4, h5⟩ := fsCause
  obtain ⟨ao, n, cap, l, rfl, hn, hcap, hs, hQ, had⟩ := open_rows (P := Tryz.prog) 3 ccells (fun _ => True) Tryz.underlying24 h1 h2 h3 h4 (dec_cause h5) (fun _ => rfl) hv h
  exact ⟨ao, n, cap, l, rfl, hn, fun hm => ⟨hn, hm, hcap, hs, Nat.le_refl _⟩⟩
end
end Go.Proofs.YtoijlikmigejbaaGreat
