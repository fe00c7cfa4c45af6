/- Plain: the first that is wanted; what is left when the wanted are struck. -/
import Derived.Test.YtoijlikmigejbaaGreatG12
namespace Go.Proofs.YtoijlikmigejbaaGreat
open Go.RowKit Go.Shelf Go.Proofs.YtoijlikmigejbaaGreat.Pu

section
variable {α : Type} {P : α → Bool} {d : List α} {j : Nat} {a : α}
/-- the place of the first that is wanted; -1: there is none -/
def idxG (P : α → Bool) (d : List α) : Int := match d.findIdx? P with
  | some i => (i : Int)
  | none => -1
theorem idxG_hit (ha : d[j]? = some a) (hP : P a = true) (hb : ∀ i x, i < j → d[i]? = some x → P x = false) : idxG P d = (j : Int) := by
  obtain ⟨hj, rfl⟩ := List.getElem?_eq_some_iff.1 ha
  have : d.findIdx? P = some j := by
    rw [List.findIdx?_eq_some_iff_getElem]
    exact ⟨hj, hP, fun i hi => by rw [hb i _ hi (List.getElem?_eq_getElem (by omega))]; simp⟩
  unfold idxG; rw [this]
theorem idxG_miss (hb : ∀ i x, i < d.length → d[i]? = some x → P x = false) : idxG P d = -1 := by
  have : d.findIdx? P = none := by
    rw [List.findIdx?_eq_none_iff]
    intro x hx
    obtain ⟨i, hi, rfl⟩ := List.getElem_of_mem hx
    exact hb i _ hi (List.getElem?_eq_getElem hi)
  unfold idxG; rw [this]
theorem filter_takeG (hb : ∀ i x, i < j → d[i]? = some x → P x = false) : (d.take j).filter (fun a => !P a) = d.take j := by
  rw [List.filter_eq_self]
  intro a ha
  obtain ⟨i, hi, rfl⟩ := List.getElem_of_mem ha
  have hij : i < j := by simp at hi; omega
  rw [List.getElem_take, hb i _ hij (List.getElem?_eq_getElem (by simp at hi; omega))]; rfl
theorem filter_stepG (h : d[j]? = some a) : (d.take (j + 1)).filter (fun a => !P a) = (d.take j).filter (fun a => !P a) ++ (if P a then [] else [a]) := by
  rw [take_snoc h, List.filter_append]
  cases hP : P a <;> simp [hP]
end
end Go.Proofs.YtoijlikmigejbaaGreat
