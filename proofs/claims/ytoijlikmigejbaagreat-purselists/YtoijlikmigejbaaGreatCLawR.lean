/- A law's answer; what Append gives. -/
import Derived.Test.YtoijlikmigejbaaGreatG15
namespace Go.Proofs.YtoijlikmigejbaaGreat
open Go.RowKit Go.Proofs.YtoijlikmigejbaaGreat.Pu

/-- what Append returns -/
def appQ (l : List Post) (p : Post) : List Post := if appCode l p = 0 then l ++ [p] else []
theorem AppRes.form {l : List Post} {p : Post} {w w' : World} {e : Ending} (h : AppRes l p w e w') : ∃ ao n cap, e = .returned (.tuple #[.slice ao n cap, .int .i64 (appCode l p)]) ∧ n = (appQ l p).length ∧ n ≤ cap ∧
    SlAt 8 pcells w'.heap.size w' ao (appQ l p) ∧ Below w.heap.size w w' ∧ (∀ ad, ao = some ad → ∃ b o, ad = ⟨b, o, none⟩) := by
  obtain ⟨hB, ⟨h0, rfl⟩ | ⟨h0, b, cap, rfl, hown⟩⟩ := h
  · exact ⟨none, 0, 0, rfl, by unfold appQ; rw [if_neg h0]; rfl, Nat.le_refl _, .inl (by unfold appQ; rw [if_neg h0]), hB, fun ad h => by cases h⟩
  · refine ⟨_, _, cap, by rw [h0], by unfold appQ; rw [if_pos h0]; simp, ?_, by unfold appQ; rw [if_pos h0]; exact Own.slAt pcells_len (by omega) hown, hB, fun ad h => by cases h; exact ⟨_, _, rfl⟩⟩
    obtain ⟨_, hr | ⟨g, cap', cur, e1, e2, e3, e4, _⟩⟩ := hown
    · omega
    · cases e1; exact e4
/-- a law's answer -/
def LawRes (w : World) (e : Ending) (w' : World) : Prop := e = .returned (.bool true) ∧ Below w.heap.size w w'
theorem P8B {M b : Nat} {W w1 w2 : World} {p : Post} (hM : b < M) (hW : M ≤ W.heap.size) (h : Below M W w1 ∧ PBox w1 b p) (hb : Below w1.heap.size w1 w2) : Below M W w2 ∧ PBox w2 b p :=
  ⟨h.1.trans (hb.mono (Nat.le_trans hW h.1.size)), h.2.below hb (Nat.lt_of_lt_of_le hM (Nat.le_trans hW h.1.size))⟩
/-- the cells of a box, behind W -/
abbrev KP (W : World) (b : Nat) (p : Post) (w' : World) : Prop := Below W.heap.size W w' ∧ w'.cell? ⟨b, 0, none⟩ = some (.int .i64 p.id) ∧ w'.cell? ⟨b, 1, none⟩ = some (.int .i64 p.hour) ∧ w'.cell? ⟨b, 2, none⟩ = some (.int .u8 p.kind) ∧
  w'.cell? ⟨b, 3, none⟩ = some (.int .i64 p.party) ∧ w'.cell? ⟨b, 4, none⟩ = some (.int .i64 p.parcel) ∧ w'.cell? ⟨b, 5, none⟩ = some (.int .i64 p.amount) ∧ w'.cell? ⟨b, 6, none⟩ = some (.int .i64 p.reason) ∧ w'.cell? ⟨b, 7, none⟩ = some (.int .i64 p.known)
theorem KP.of {W w' : World} {b : Nat} {p : Post} (hB : Below W.heap.size W w') (h : PBox W b p) : KP W b p w' := ⟨hB, P8 (h.below hB h.lt)⟩

theorem KP.box {W w' : World} {b : Nat} {p : Post} (h : KP W b p w') (hb : b < W.heap.size) : PBox w' b p := ⟨Nat.lt_of_lt_of_le hb h.1.size, h.2.1, h.2.2.1, h.2.2.2.1, h.2.2.2.2.1, h.2.2.2.2.2.1, h.2.2.2.2.2.2.1, h.2.2.2.2.2.2.2.1, h.2.2.2.2.2.2.2.2⟩
theorem KP.next {W w1 w2 : World} {b : Nat} {p : Post} (h : KP W b p w1) (hb : b < W.heap.size) (hB : Below w1.heap.size w1 w2) : KP W b p w2 :=
  ⟨h.1.trans (hB.mono h.1.size), P8 ((h.box hb).below hB (Nat.lt_of_lt_of_le hb h.1.size))⟩

end Go.Proofs.YtoijlikmigejbaaGreat
