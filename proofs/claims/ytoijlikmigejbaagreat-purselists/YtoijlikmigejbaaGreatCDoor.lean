/- What comes in, read as data: lists of structs of ints, a posting by value. -/
import Derived.Test.YtoijlikmigejbaaGreatG15
import Derived.WalkKit
import Derived.ProofKit
import Derived.OpenShut
import Derived.Deep.Slices
import Derived.Deep.Fields
import Derived.ChangeSame
namespace Go.Proofs.YtoijlikmigejbaaGreat
open Go.RowKit Go.Proofs.YtoijlikmigejbaaGreat.Pu Go.ChangeShapes Go.WideShapes Go.Deep

theorem choose_list {α : Type} (R : Nat → α → Prop) : ∀ (n : Nat), (∀ i, i < n → ∃ x, R i x) → ∃ l : List α, l.length = n ∧ ∀ i x, l[i]? = some x → R i x
  | 0, _ => ⟨[], rfl, fun i x h => by simp at h⟩
  | n + 1, h => by
    obtain ⟨l, hl, hr⟩ := choose_list R n fun i hi => h i (by omega)
    obtain ⟨x, hx⟩ := h n (by omega)
    refine ⟨l ++ [x], by simp [hl], fun i y hy => ?_⟩
    rcases Nat.lt_or_ge i n with h1 | h1
    · rw [List.getElem?_append_left (by omega)] at hy; exact hr i y hy
    · rw [List.getElem?_append_right (by omega), hl] at hy
      have h2 : i - n = 0 := by
        have := (List.getElem?_eq_some_iff.1 hy).1; simp at this; omega
      rw [h2] at hy; simp at hy; subst hy
      rw [show i = n by omega]; exact hx

section
variable {H : Type} {enc : TypeId × Value → H} {P : Program} {w : World} {base : Nat} {spare : Nat → Bool} {held : Bool}
theorem open_slice_fields {t e : TypeId} {fs : Array Field} {fuel : Nat} {cs : List Value} {x : DataW H × List MemPlace} (ht : P.underlying t = some (.slice e)) (he : P.underlying e = some (.struct fs))
    (hone : oneCellFields P fs = true) (hC : P.cellsOf e = fs.size) (h : DataW.trod enc P w base spare held fuel t cs = some x) :
    (cs = [.slice none 0 0] ∧ x = (.nil, [])) ∨
    ∃ (a : Addr) (len cap m : Nat), cs = [.slice (some a) len cap] ∧ len ≤ cap ∧ cap ≤ maxLen ∧ m = (if spare a.block then cap else len) ∧
      ∀ i, i < m → ∀ (j : Nat) (f : Field), fs[j]? = some f → ∃ (n : Nat) (v : Value) (y : DataW H × List MemPlace), w.cell? (a.add (i * fs.size + j)) = some v ∧ DataW.trod enc P w base spare held n f.type [v] = some y := by
  rcases open_slice ht h with h0 | ⟨a, len, cap, m, n, D, Pl, hcs, hb, hl, hm, hmm, hx, hi⟩
  · exact .inl h0
  · refine .inr ⟨a, len, cap, m, hcs, hl, hm, hmm, fun i him => ?_⟩
    obtain ⟨cs', hc, ht'⟩ := hi i him
    rw [hC] at hc
    obtain ⟨ys, n', hn', hy, hlen, hyl, hf⟩ := DataW.trod_struct he ht'
    obtain ⟨_, hcl, hat⟩ := World.cells?_some hc
    intro j f hj
    obtain ⟨ho, hk⟩ := hone_of hone j f hj
    have hjl : j < fs.size := (Array.getElem?_eq_some_iff.1 hj).1
    have hcell := hat j hjl
    have hv : cs'[j]? = some (cs'[j]'(by omega)) := List.getElem?_eq_getElem (by omega)
    have h1 := hf j f hj
    rw [ho, hk] at h1
    have hone' : (cs'.drop j).take 1 = [cs'[j]'(by omega)] := by
      rw [List.drop_eq_getElem_cons (by omega)]
      rfl
    rw [hone'] at h1
    have hys : ys[j]? = some (ys[j]'(by omega)) := List.getElem?_eq_getElem (by omega)
    refine ⟨n', _, _, ?_, h1.trans hys⟩
    rw [← Go.Deep.add_add, hcell, hv]

theorem open_rows {α : Type} {t e : TypeId} {fs : Array Field} (k : Nat) (encF : α → List Value) (Q : α → Prop) {b0 : Nat} {v : Value} {d : DataW H} {p : List MemPlace} (ht : P.underlying t = some (.slice e)) (he : P.underlying e = some (.struct fs))
    (hone : oneCellFields P fs = true) (hC : P.cellsOf e = fs.size) (hk : fs.size = k)
    (dec : ∀ c : Nat → Value, (∀ (j : Nat) (f : Field), fs[j]? = some f → ∃ (n : Nat) (y : DataW H × List MemPlace), DataW.trod enc P w base (fun _ => true) held n f.type [c j] = some y) → ∃ x, Q x ∧ ∀ (j : Nat) (u : Value), (encF x)[j]? = some u → c j = u) (hlen : ∀ x, (encF x).length = k)
    (hv : Value.okWide P w .any b0 t v) (h : DataW.Trod enc P w base (fun _ => true) held t v d p) :
    ∃ (ao : Option Addr) (n cap : Nat) (l : List α), v = .slice ao n cap ∧ n = l.length ∧ n ≤ cap ∧ SlAt k encF w.heap.size w ao l ∧ (∀ x ∈ l, Q x) ∧ ∀ ad, ao = some ad → ∃ b o, ad = ⟨b, o, none⟩ := by
  obtain ⟨a0, len0, cap0, rfl⟩ := okWide_slice ht hv
  obtain ⟨fuel, hf⟩ := h
  rcases open_slice_fields ht he hone hC hf with ⟨hcs, _⟩ | ⟨a, len, cap, m, hcs, hl, hm, hmm, hi⟩
  · simp [Value.cells] at hcs
    obtain ⟨rfl, rfl, rfl⟩ := hcs
    exact ⟨none, 0, 0, [], rfl, rfl, Nat.le_refl _, .inl rfl, fun x hx => by simp at hx, fun ad h => by cases h⟩
  · simp [Value.cells] at hcs
    obtain ⟨rfl, rfl, rfl⟩ := hcs
    have hspot : a.spot = none := by
      simp only [Value.okWide, ht, Cell.okWide, Cell.ok] at hv
      exact hv.2.2.2.1
    obtain ⟨b, o, sp⟩ := a
    simp only at hspot
    subst hspot
    simp only [if_true] at hmm
    subst hmm
    obtain ⟨l, hll, hlr⟩ := choose_list (fun i (x : α) => Q x ∧ ∀ (j : Nat) (u : Value), (encF x)[j]? = some u → w.cell? ⟨b, o + i * k + j, none⟩ = some u) len0 (fun i hil => by
      have hci : ∀ (j : Nat) (f : Field), fs[j]? = some f → ∃ v, w.cell? ⟨b, o + i * k + j, none⟩ = some v ∧ ∃ (n : Nat) (y : DataW H × List MemPlace), DataW.trod enc P w base (fun _ => true) held n f.type [v] = some y := fun j f hj => by
        obtain ⟨n, v, y, h1, h2⟩ := hi i (by omega) j f hj
        refine ⟨v, ?_, n, y, h2⟩
        rw [Addr.add_lit, hk, ← Nat.add_assoc] at h1; exact h1
      obtain ⟨x, hQ, hx⟩ := dec (fun j => (w.cell? ⟨b, o + i * k + j, none⟩).getD undef) (fun j f hj => by
        obtain ⟨v, h1, n, y, h2⟩ := hci j f hj
        exact ⟨n, y, by rw [h1]; exact h2⟩)
      refine ⟨x, hQ, fun j u hu => ?_⟩
      have hjk : j < fs.size := by rw [hk, ← hlen x]; exact (List.getElem?_eq_some_iff.1 hu).1
      obtain ⟨v, h1, _⟩ := hci j fs[j] (Array.getElem?_eq_getElem hjk)
      have := hx j u hu
      rw [h1] at this ⊢
      exact congrArg some this)
    refine ⟨some ⟨b, o, none⟩, len0, m, l, rfl, hll.symm, hl, ?_, fun x hx => ?_, fun ad h => by cases h; exact ⟨_, _, rfl⟩⟩
    · rcases Nat.eq_zero_or_pos l.length with h0 | h0
      · exact .inl (List.length_eq_zero_iff.1 h0)
      · refine .inr ⟨b, o, rfl, ?_, fun i x hx => (hlr i x hx).2⟩
        by_cases hk0 : k = 0
        · obtain ⟨_, _, _, _, row, cells, hsh, _⟩ : _ ∧ _ ∧ _ ∧ _ ∧ ∃ row cells, w.shape? b = some (row, cells) ∧ _ := by
            simp only [Value.okWide, ht, Cell.okWide, Cell.ok] at hv
            obtain ⟨g1, g2, g3, g4, g5⟩ := hv
            exact ⟨g1, g2, g3, g4, g5⟩
          unfold World.shape? at hsh
          rcases Nat.lt_or_ge b w.heap.size with h | h
          · exact h
          · rw [Array.getElem?_eq_none h] at hsh; cases hsh
        · have hx := List.getElem?_eq_getElem h0
          have := (hlr 0 _ hx).2 0 _ (List.getElem?_eq_getElem (by rw [hlen]; omega))
          exact World.block_lt_of_cell? w _ this
    · obtain ⟨i, hi2, rfl⟩ := List.getElem_of_mem hx
      exact (hlr i _ (List.getElem?_eq_getElem hi2)).1

theorem field_int {t : TypeId} {k : IntKind} {n : Nat} {v : Value} {y : DataW H × List MemPlace} (ht : P.underlying t = some (.int k)) (h : DataW.trod enc P w base spare held n t [v] = some y) : ∃ z, v = .int k z ∧ (Lit.int k z).wf = true := by
  obtain ⟨z, h1, _, h3⟩ := DataW.trod_int ht h
  exact ⟨z, by simpa using h1, h3⟩
end

section
variable {H : Type} {enc : TypeId × Value → H} {w : World} {held : Bool}
theorem kind_bd {z : Int} (h : (Lit.int .u8 z).wf = true) : 0 ≤ z ∧ z ≤ 255 := by simpa [Lit.wf, IntKind.min, IntKind.max, IntKind.signed, IntKind.bits] using h
theorem dec_post {fs : Array Field} (hfs : fs.toList.map (·.type) = [3, 3, 5, 3, 3, 3, 3, 3]) (c : Nat → Value)
    (h : ∀ (j : Nat) (f : Field), fs[j]? = some f → ∃ (n : Nat) (y : DataW H × List MemPlace), DataW.trod enc Tryz.prog w 0 (fun _ => true) held n f.type [c j] = some y) :
    ∃ x : Post, (0 ≤ x.kind ∧ x.kind ≤ 255) ∧ ∀ (j : Nat) (u : Value), (pcells x)[j]? = some u → c j = u := by
  have hf : ∀ (j : Nat) (t : TypeId), ([3, 3, 5, 3, 3, 3, 3, 3] : List TypeId)[j]? = some t → ∃ (n : Nat) (y : DataW H × List MemPlace), DataW.trod enc Tryz.prog w 0 (fun _ => true) held n t [c j] = some y := fun j t ht => by
    rw [← hfs, List.getElem?_map] at ht
    cases hq : fs.toList[j]? with
    | none => rw [hq] at ht; cases ht
    | some f => rw [hq] at ht; cases ht; exact h j f (by simpa using hq)
  obtain ⟨n0, y0, g0⟩ := hf 0 _ rfl
  obtain ⟨n1, y1, g1⟩ := hf 1 _ rfl
  obtain ⟨n2, y2, g2⟩ := hf 2 _ rfl
  obtain ⟨n3, y3, g3⟩ := hf 3 _ rfl
  obtain ⟨n4, y4, g4⟩ := hf 4 _ rfl
  obtain ⟨n5, y5, g5⟩ := hf 5 _ rfl
  obtain ⟨n6, y6, g6⟩ := hf 6 _ rfl
  obtain ⟨n7, y7, g7⟩ := hf 7 _ rfl
  obtain ⟨z0, e0, _⟩ := field_int Tryz.underlying3 g0
  obtain ⟨z1, e1, _⟩ := field_int Tryz.underlying3 g1
  obtain ⟨z2, e2, w2⟩ := field_int Tryz.underlying5 g2
  obtain ⟨z3, e3, _⟩ := field_int Tryz.underlying3 g3
  obtain ⟨z4, e4, _⟩ := field_int Tryz.underlying3 g4
  obtain ⟨z5, e5, _⟩ := field_int Tryz.underlying3 g5
  obtain ⟨z6, e6, _⟩ := field_int Tryz.underlying3 g6
  obtain ⟨z7, e7, _⟩ := field_int Tryz.underlying3 g7
  refine ⟨⟨z0, z1, z2, z3, z4, z5, z6, z7⟩, kind_bd w2, fun j u hu => ?_⟩
  match j, hu with
  | 0, hu => cases hu; exact e0
  | 1, hu => cases hu; exact e1
  | 2, hu => cases hu; exact e2
  | 3, hu => cases hu; exact e3
  | 4, hu => cases hu; exact e4
  | 5, hu => cases hu; exact e5
  | 6, hu => cases hu; exact e6
  | 7, hu => cases hu; exact e7
  | j + 8, hu => simp [pcells] at hu
theorem fsPost : ∃ fs, Tryz.prog.underlying 36 = some (.struct fs) ∧ oneCellFields Tryz.prog fs = true ∧ Tryz.prog.cellsOf 36 = fs.size ∧ fs.size = 8 ∧ fs.toList.map (·.type) = [3, 3, 5, 3, 3, 3, 3, 3] :=
  ⟨_, Tryz.underlying36, by kernel_rfl, by kernel_rfl, rfl, rfl⟩
set_option maxRecDepth 100000 in
/-- a list of postings, read -/
theorem open_posts {b0 : Nat} {v : Value} {d : DataW H} {p : List MemPlace} (hv : Value.okWide Tryz.prog w .any b0 22 v) (h : DataW.Trod enc Tryz.prog w 0 (fun _ => true) held 22 v d p) :
    ∃ (ao : Option Addr) (n cap : Nat) (l : List Post), v = .slice ao n cap ∧ n = l.length ∧ (n ≤ 100000 → LIn l n cap ao w.heap.size w) := by
  obtain ⟨fs, h1, h2, h3, h4, h5⟩ := fsPost
  obtain ⟨ao, n, cap, l, rfl, hn, hcap, hs, hQ, had⟩ := open_rows (P := Tryz.prog) 8 pcells (fun x => 0 ≤ x.kind ∧ x.kind ≤ 255) Tryz.underlying22 h1 h2 h3 h4 (dec_post h5) (fun _ => rfl) hv h
  exact ⟨ao, n, cap, l, rfl, hn, fun hm => ⟨hn, hm, hcap, hs, Nat.le_refl _, hQ, had⟩⟩
set_option maxRecDepth 100000 in
/-- a posting by value, read -/
theorem open_post {b0 : Nat} {v : Value} {d : DataW H} {p : List MemPlace} (hv : Value.okWide Tryz.prog w .any b0 36 v) (h : DataW.Trod enc Tryz.prog w 0 (fun _ => true) held 36 v d p) :
    ∃ x : Post, v = pval x ∧ 0 ≤ x.kind ∧ x.kind ≤ 255 := by
  obtain ⟨fs, h1, h2, h3, h4, h5⟩ := fsPost
  obtain ⟨cs, rfl, hsz⟩ := okWide_struct h1 hv
  obtain ⟨fuel, hf⟩ := h
  obtain ⟨xs, n, _, _, hcl, hxl, hg⟩ := DataW.trod_struct h1 hf
  have hsz8 : cs.toList.length = 8 := by rw [Array.length_toList, hsz, h3, h4]
  obtain ⟨x, hQ, hx⟩ := dec_post (enc := enc) (w := w) (held := held) h5 (fun j => cs.toList[j]?.getD undef) (fun j f hj => by
    obtain ⟨ho, hk⟩ := hone_of h2 j f hj
    have hjl : j < fs.size := (Array.getElem?_eq_some_iff.1 hj).1
    have h6 := hg j f hj
    rw [ho, hk] at h6
    have hjc : j < cs.toList.length := by omega
    have hone' : ((Value.cells (.agg cs)).toList.drop j).take 1 = [cs.toList[j]] := by
      show (cs.toList.drop j).take 1 = _
      rw [List.drop_eq_getElem_cons hjc]; rfl
    rw [hone'] at h6
    refine ⟨n, xs[j]'(by omega), ?_⟩
    rw [List.getElem?_eq_getElem hjc]
    exact h6.trans (List.getElem?_eq_getElem (by omega)))
  refine ⟨x, ?_, hQ⟩
  have : cs.toList = pcells x := by
    apply List.ext_getElem?
    intro j
    by_cases hj : j < 8
    · have e1 := List.getElem?_eq_getElem (l := pcells x) (i := j) hj
      have e2 := hx j _ e1
      rw [List.getElem?_eq_getElem (show j < cs.toList.length by omega)] at e2 ⊢
      rw [e1]; exact congrArg some e2
    · rw [List.getElem?_eq_none (by omega), List.getElem?_eq_none (by simp [pcells]; omega)]
  rw [show cs = (pcells x).toArray by rw [← this]]
  rfl
end
end Go.Proofs.YtoijlikmigejbaaGreat
