/- The purse's book in plain Lean: postings, what a party has, what is held, why a posting is refused; no program in sight. How the purse's lists lie in memory; small laws on worlds. Maps that are only filled: entries in the order of their first store. What lookup, update and the iterator do. The steps of a walk through a region that draws its order, with the operation read off the region's list. -/
import Derived.Test.YtoijlikmigejbaaGreatProg
import Derived.WalkKit
import Derived.WalkSpells
import Derived.WalkLawsBesides
import Derived.BigQuiet
import Derived.Deep.QuietTactic
import Derived.Lib.Hide
import Derived.Deep.RegionHeld3
namespace Go.Proofs.YtoijlikmigejbaaGreat.Pu

structure Post where
  id : Int
  hour : Int
  kind : Int
  party : Int
  parcel : Int
  amount : Int
  reason : Int
  known : Int
  deriving DecidableEq, Inhabited

structure Due where
  party : Int
  parcel : Int
  amount : Int
  deriving DecidableEq, Inhabited

structure Cause where
  parcel : Int
  reason : Int
  known : Int
  deriving DecidableEq, Inhabited

structure Bal where
  party : Int
  paid : Int
  back : Int
  deriving DecidableEq, Inhabited

def inB (n a b : Int) : Bool := decide (a ≤ n) && decide (n ≤ b)

def okP (p : Post) : Bool :=
  inB p.id 1 1000000 && inB p.reason 1 1000000 && inB p.hour 0 1000000 && inB p.known 0 p.hour && inB p.parcel 10 10000007 && inB p.amount 1 1000000000
    && inB p.kind 1 3 && inB p.party 0 40 && !(p.kind == 1 && !(p.party == 0))

def okE (p : Post) : Int := if okP p then 0 else 1

def sumI : List Int → Int
  | [] => 0
  | x :: r => x + sumI r

theorem sumI_append (a b : List Int) : sumI (a ++ b) = sumI a + sumI b := by
  induction a with
  | nil => simp [sumI]
  | cons x r ih => simp only [List.cons_append, sumI, ih]; omega

def hasOf (who what : Int) (p : Post) : Int :=
  if p.party = who ∧ p.parcel = what then (if p.kind = 2 then p.amount else if p.kind = 3 then - p.amount else 0) else 0
def soldOf (what : Int) (p : Post) : Int := if p.kind = 1 ∧ p.parcel = what then p.amount else 0

def has (l : List Post) (who what : Int) : Int := sumI (l.map (hasOf who what))
def sold (l : List Post) (what : Int) : Int := sumI (l.map (soldOf what))
/-- what the first k parties have for a parcel -/
def hasUpto (l : List Post) (what : Int) : Nat → Int
  | 0 => 0
  | k + 1 => hasUpto l what k + has l k what
def held (l : List Post) (what : Int) : Int := sold l what - hasUpto l what 41
def isPay (who what : Int) (p : Post) : Bool := p.kind == 2 && p.party == who && p.parcel == what
def last : List Post → Int → Int → Option Post
  | [], _, _ => none
  | p :: r, who, what => match last r who what with
    | some q => some q
    | none => if isPay who what p then some p else none
def zeroP : Post := ⟨0, 0, 0, 0, 0, 0, 0, 0⟩
def lastHour (l : List Post) : Int := match l.getLast? with | some p => p.hour | none => 0

def refused (l : List Post) (p : Post) : Int :=
  if 400 ≤ l.length then 2
  else if !okP p then 1
  else if l.any (fun q => q.id == p.id) then 6
  else if 0 < l.length ∧ p.hour < lastHour l then 7
  else if p.kind = 1 then (if 0 < sold l p.parcel then 6 else 0)
  else if sold l p.parcel = 0 then 5
  else if p.kind = 2 then (if held l p.parcel < p.amount then 70 else 0)
  else if has l p.party p.parcel < p.amount then 70
  else if p.known ≤ ((last l p.party p.parcel).getD zeroP).known then 71
  else 0

/-- why a well-formed posting with a new id, in time, is refused -/
def refusedTail (l : List Post) (p : Post) : Int :=
  if p.kind = 1 then (if 0 < sold l p.parcel then 6 else 0)
  else if sold l p.parcel = 0 then 5
  else if p.kind = 2 then (if held l p.parcel < p.amount then 70 else 0)
  else if has l p.party p.parcel < p.amount then 70
  else if p.known ≤ ((last l p.party p.parcel).getD zeroP).known then 71
  else 0
theorem refused_tail {l : List Post} {p : Post} (h1 : ¬ 400 ≤ l.length) (h2 : okP p = true) (h3 : l.any (fun q => q.id == p.id) = false) (h4 : ¬ (0 < l.length ∧ p.hour < lastHour l)) : refused l p = refusedTail l p := by
  unfold refused refusedTail
  rw [if_neg h1, if_neg (by rw [h2]; simp), if_neg (by rw [h3]; simp), if_neg h4]

/-- from a prefix on: the index of the first posting that is refused, and its error -/
def checkFrom (pre : List Post) : List Post → Int × Int
  | [] => (0, 0)
  | p :: r => if refused pre p = 0 then checkFrom (pre ++ [p]) r else ((pre.length : Int), refused pre p)
def check (l : List Post) : Int × Int := checkFrom [] l
def Book (l : List Post) : Prop := ∀ k p, l[k]? = some p → refused (l.take k) p = 0

/-- the first j postings are a book -/
def BookTo (l : List Post) (j : Nat) : Prop := ∀ k p, k < j → l[k]? = some p → refused (l.take k) p = 0
theorem bookTo_all {l : List Post} (h : BookTo l l.length) : Book l := fun k p hk => h k p (List.getElem?_eq_some_iff.1 hk).1 hk
theorem bookTo_succ {l : List Post} {j : Nat} {p : Post} (h : BookTo l j) (hp : l[j]? = some p) (hr : refused (l.take j) p = 0) : BookTo l (j + 1) := by
  intro k q hk hq
  by_cases e : k = j
  · subst e; rw [hp] at hq; cases hq; exact hr
  · exact h k q (by omega) hq
theorem checkFrom_book : ∀ (r pre : List Post), (∀ k p, r[k]? = some p → refused (pre ++ r.take k) p = 0) → checkFrom pre r = (0, 0)
  | [], _, _ => rfl
  | p :: r, pre, h => by
    have h0 := h 0 p rfl
    simp only [List.take_zero, List.append_nil] at h0
    rw [checkFrom, if_pos h0]
    refine checkFrom_book r (pre ++ [p]) fun k q hk => ?_
    have := h (k + 1) q (by simpa using hk)
    simpa using this
theorem check_book {l : List Post} (h : Book l) : check l = (0, 0) := checkFrom_book l [] fun k p hk => by simpa using h k p hk
theorem checkFrom_bad : ∀ (r pre : List Post) (j : Nat) (p : Post), r[j]? = some p → (∀ k q, k < j → r[k]? = some q → refused (pre ++ r.take k) q = 0) → refused (pre ++ r.take j) p ≠ 0 →
    checkFrom pre r = (((pre.length + j : Nat) : Int), refused (pre ++ r.take j) p)
  | [], _, _, _, h, _, _ => by simp at h
  | p0 :: r, pre, 0, p, h, _, hne => by
    simp only [List.getElem?_cons_zero, Option.some.injEq] at h
    subst h
    simp only [List.take_zero, List.append_nil] at hne ⊢
    rw [checkFrom, if_neg hne]
    rfl
  | p0 :: r, pre, j + 1, p, h, hall, hne => by
    have h0 := hall 0 p0 (by omega) rfl
    simp only [List.take_zero, List.append_nil] at h0
    rw [checkFrom, if_pos h0]
    have e : pre ++ (p0 :: r).take (j + 1) = (pre ++ [p0]) ++ r.take j := by simp
    rw [e] at hne ⊢
    rw [checkFrom_bad r (pre ++ [p0]) j p (by simpa using h) (fun k q hk hq => by
      have := hall (k + 1) q (by omega) (by simpa using hq)
      simpa using this) hne]
    simp; omega
theorem check_bad {l : List Post} {j : Nat} {p : Post} (h : BookTo l j) (hp : l[j]? = some p) (hr : refused (l.take j) p ≠ 0) : check l = ((j : Int), refused (l.take j) p) := by
  have := checkFrom_bad l [] j p hp (fun k q hk hq => by simpa using h k q hk hq) (by simpa using hr)
  simpa [check] using this
theorem okP_amount {p : Post} (h : okP p = true) : 1 ≤ p.amount ∧ p.amount ≤ 1000000000 := by
  simp only [okP, inB, Bool.and_eq_true, decide_eq_true_eq] at h
  exact h.1.1.1.2
theorem refused_ok {l : List Post} {p : Post} (h : refused l p = 0) : okP p = true ∧ l.length < 400 := by
  unfold refused at h
  split at h
  · omega
  · split at h
    · omega
    · rename_i h1 h2; simp only [Bool.not_eq_true', Bool.not_eq_false] at h2; exact ⟨h2, by omega⟩

def AmtOk (l : List Post) : Prop := ∀ p ∈ l, 0 ≤ p.amount ∧ p.amount ≤ 1000000000

theorem take_snoc {α : Type} {l : List α} {j : Nat} {p : α} (h : l[j]? = some p) : l.take (j + 1) = l.take j ++ [p] := by
  obtain ⟨hj, rfl⟩ := List.getElem?_eq_some_iff.1 h
  rw [List.take_succ_eq_append_getElem hj]

theorem has_snoc {l : List Post} {j : Nat} {p : Post} (h : l[j]? = some p) (who what : Int) : has (l.take (j + 1)) who what = has (l.take j) who what + hasOf who what p := by
  rw [take_snoc h]; simp [has, sumI_append, sumI]
theorem sold_snoc {l : List Post} {j : Nat} {p : Post} (h : l[j]? = some p) (what : Int) : sold (l.take (j + 1)) what = sold (l.take j) what + soldOf what p := by
  rw [take_snoc h]; simp [sold, sumI_append, sumI]

theorem last_append (a b : List Post) (who what : Int) : last (a ++ b) who what = (last b who what).or (last a who what) := by
  induction a with
  | nil => cases h : last b who what <;> simp [last, h]
  | cons p r ih =>
    rw [List.cons_append, last, ih, last]
    cases last b who what <;> simp
theorem last_none_drop {l : List Post} {i : Nat} {p : Post} (h : l[i]? = some p) {who what : Int} (hp : isPay who what p = false) (hl : last (l.drop (i + 1)) who what = none) : last (l.drop i) who what = none := by
  obtain ⟨hi, rfl⟩ := List.getElem?_eq_some_iff.1 h
  rw [List.drop_eq_getElem_cons hi, last, hl]
  simp [hp]
theorem last_some_drop {l : List Post} {i : Nat} {p : Post} (h : l[i]? = some p) {who what : Int} (hp : isPay who what p = true) (hl : last (l.drop (i + 1)) who what = none) : last l who what = some p := by
  obtain ⟨hi, rfl⟩ := List.getElem?_eq_some_iff.1 h
  have e : last (l.take i ++ l.drop i) who what = some l[i] := by
    rw [last_append, List.drop_eq_getElem_cons hi, last, hl]
    simp [hp]
  rwa [List.take_append_drop] at e

theorem AmtOk.get {l : List Post} (h : AmtOk l) {j : Nat} {p : Post} (hj : l[j]? = some p) : 0 ≤ p.amount ∧ p.amount ≤ 1000000000 := h p (List.mem_of_getElem? hj)
theorem AmtOk.take {l : List Post} (h : AmtOk l) (j : Nat) : AmtOk (l.take j) := fun p hp => h p (List.mem_of_mem_take hp)

theorem BookTo.amtOk {l : List Post} {j : Nat} (h : BookTo l j) : AmtOk (l.take j) := by
  intro p hp
  obtain ⟨k, hk, hkp⟩ := List.getElem_of_mem hp
  have hkj : k < j := by simp at hk; omega
  have hq : l[k]? = some p := by
    rw [← hkp, List.getElem_take]; exact List.getElem?_eq_getElem _
  have := okP_amount (refused_ok (h k p hkj hq)).1
  omega

theorem has_bd (who what : Int) : ∀ {l : List Post}, AmtOk l → -(l.length * 1000000000 : Int) ≤ has l who what ∧ has l who what ≤ l.length * 1000000000
  | [], _ => by simp [has, sumI]
  | p :: r, h => by
    have h1 := has_bd who what (l := r) fun q hq => h q (List.mem_cons_of_mem _ hq)
    have h2 := h p (List.mem_cons_self ..)
    have h3 : -1000000000 ≤ hasOf who what p ∧ hasOf who what p ≤ 1000000000 := by unfold hasOf; (repeat' split) <;> omega
    have h4 : has (p :: r) who what = hasOf who what p + has r who what := rfl
    rw [h4, List.length_cons]; omega
theorem sold_bd (what : Int) : ∀ {l : List Post}, AmtOk l → 0 ≤ sold l what ∧ sold l what ≤ l.length * 1000000000
  | [], _ => by simp [sold, sumI]
  | p :: r, h => by
    have h1 := sold_bd what (l := r) fun q hq => h q (List.mem_cons_of_mem _ hq)
    have h2 := h p (List.mem_cons_self ..)
    have h3 : 0 ≤ soldOf what p ∧ soldOf what p ≤ 1000000000 := by unfold soldOf; (repeat' split) <;> omega
    have h4 : sold (p :: r) what = soldOf what p + sold r what := rfl
    rw [h4, List.length_cons]; omega
theorem hasUpto_bd (what : Int) {l : List Post} (h : AmtOk l) : ∀ k : Nat, -(k * (l.length * 1000000000) : Int) ≤ hasUpto l what k ∧ hasUpto l what k ≤ k * (l.length * 1000000000)
  | 0 => by simp [hasUpto]
  | k + 1 => by
    have h1 := hasUpto_bd what h k
    have h2 := has_bd k what h
    have h4 : hasUpto l what (k + 1) = hasUpto l what k + has l k what := rfl
    have h5 : ((k + 1 : Nat) : Int) * (l.length * 1000000000) = k * (l.length * 1000000000) + l.length * 1000000000 := by
      rw [Int.natCast_add, Int.add_mul]; simp
    rw [h4, h5]; omega
end Go.Proofs.YtoijlikmigejbaaGreat.Pu

namespace Go.Proofs.YtoijlikmigejbaaGreat
open Go.RowKit Go.Proofs.YtoijlikmigejbaaGreat.Pu

abbrev vi (n : Int) : Value := .int .i64 n
def pcells (p : Post) : List Value := [.int .i64 p.id, .int .i64 p.hour, .int .u8 p.kind, .int .i64 p.party, .int .i64 p.parcel, .int .i64 p.amount, .int .i64 p.reason, .int .i64 p.known]
abbrev pval (p : Post) : Value := .agg #[.int .i64 p.id, .int .i64 p.hour, .int .u8 p.kind, .int .i64 p.party, .int .i64 p.parcel, .int .i64 p.amount, .int .i64 p.reason, .int .i64 p.known]
def dcells (d : Due) : List Value := [.int .i64 d.party, .int .i64 d.parcel, .int .i64 d.amount]
abbrev dval (d : Due) : Value := .agg #[.int .i64 d.party, .int .i64 d.parcel, .int .i64 d.amount]
def ccells (c : Cause) : List Value := [.int .i64 c.parcel, .int .i64 c.reason, .int .i64 c.known]
abbrev cval (c : Cause) : Value := .agg #[.int .i64 c.parcel, .int .i64 c.reason, .int .i64 c.known]

/-- a slice of elements of k cells each, below block B -/
def SlAt {α : Type} (k : Nat) (enc : α → List Value) (B : Nat) (w : World) (ao : Option Addr) (l : List α) : Prop :=
  l = [] ∨ ∃ b o, ao = some ⟨b, o, none⟩ ∧ b < B ∧ ∀ (i : Nat) (x : α), l[i]? = some x → ∀ (j : Nat) (u : Value), (enc x)[j]? = some u → w.cell? ⟨b, o + i * k + j, none⟩ = some u

theorem SlAt.below {α : Type} {k : Nat} {enc : α → List Value} {B : Nat} {w w' : World} {ao : Option Addr} {l : List α} (h : SlAt k enc B w ao l) (hb : Below B w w') : SlAt k enc B w' ao l := by
  rcases h with h | ⟨b, o, h1, h2, h3⟩
  · exact .inl h
  · refine .inr ⟨b, o, h1, h2, fun i x hx j u hu => ?_⟩
    rw [hb.cell (p := ⟨b, _, none⟩) h2]; exact h3 i x hx j u hu
theorem SlAt.mono {α : Type} {k : Nat} {enc : α → List Value} {B B' : Nat} {w : World} {ao : Option Addr} {l : List α} (h : SlAt k enc B w ao l) (hb : B ≤ B') : SlAt k enc B' w ao l := by
  rcases h with h | ⟨b, o, h1, h2, h3⟩
  · exact .inl h
  · exact .inr ⟨b, o, h1, Nat.lt_of_lt_of_le h2 hb, h3⟩
theorem SlAt.take {α : Type} {k : Nat} {enc : α → List Value} {B : Nat} {w : World} {ao : Option Addr} {l : List α} (h : SlAt k enc B w ao l) (m : Nat) : SlAt k enc B w ao (l.take m) := by
  rcases h with h | ⟨b, o, h1, h2, h3⟩
  · exact .inl (by rw [h]; simp)
  · refine .inr ⟨b, o, h1, h2, fun i x hx j u hu => h3 i x ?_ j u hu⟩
    rw [List.getElem?_take] at hx
    split at hx
    · exact hx
    · cases hx

theorem SlAt.post {B : Nat} {w : World} {ao : Option Addr} {l : List Post} {i : Nat} {p : Post} (h : SlAt 8 pcells B w ao l) (hi : l[i]? = some p) :
    ∃ b o, ao = some ⟨b, o, none⟩ ∧ b < B ∧ w.cell? ⟨b, o + i * 8, none⟩ = some (.int .i64 p.id) ∧ w.cell? ⟨b, o + i * 8 + 1, none⟩ = some (.int .i64 p.hour) ∧
      w.cell? ⟨b, o + i * 8 + 2, none⟩ = some (.int .u8 p.kind) ∧ w.cell? ⟨b, o + i * 8 + 3, none⟩ = some (.int .i64 p.party) ∧ w.cell? ⟨b, o + i * 8 + 4, none⟩ = some (.int .i64 p.parcel) ∧
      w.cell? ⟨b, o + i * 8 + 5, none⟩ = some (.int .i64 p.amount) ∧ w.cell? ⟨b, o + i * 8 + 6, none⟩ = some (.int .i64 p.reason) ∧ w.cell? ⟨b, o + i * 8 + 7, none⟩ = some (.int .i64 p.known) := by
  rcases h with h | ⟨b, o, h1, h2, h3⟩
  · subst h; simp at hi
  · have c := h3 i p hi
    exact ⟨b, o, h1, h2, c 0 _ rfl, c 1 _ rfl, c 2 _ rfl, c 3 _ rfl, c 4 _ rfl, c 5 _ rfl, c 6 _ rfl, c 7 _ rfl⟩
theorem SlAt.due {B : Nat} {w : World} {ao : Option Addr} {l : List Due} {i : Nat} {p : Due} (h : SlAt 3 dcells B w ao l) (hi : l[i]? = some p) :
    ∃ b o, ao = some ⟨b, o, none⟩ ∧ b < B ∧ w.cell? ⟨b, o + i * 3, none⟩ = some (.int .i64 p.party) ∧ w.cell? ⟨b, o + i * 3 + 1, none⟩ = some (.int .i64 p.parcel) ∧
      w.cell? ⟨b, o + i * 3 + 2, none⟩ = some (.int .i64 p.amount) := by
  rcases h with h | ⟨b, o, h1, h2, h3⟩
  · subst h; simp at hi
  · have c := h3 i p hi
    exact ⟨b, o, h1, h2, c 0 _ rfl, c 1 _ rfl, c 2 _ rfl⟩
theorem SlAt.cause {B : Nat} {w : World} {ao : Option Addr} {l : List Cause} {i : Nat} {p : Cause} (h : SlAt 3 ccells B w ao l) (hi : l[i]? = some p) :
    ∃ b o, ao = some ⟨b, o, none⟩ ∧ b < B ∧ w.cell? ⟨b, o + i * 3, none⟩ = some (.int .i64 p.parcel) ∧ w.cell? ⟨b, o + i * 3 + 1, none⟩ = some (.int .i64 p.reason) ∧
      w.cell? ⟨b, o + i * 3 + 2, none⟩ = some (.int .i64 p.known) := by
  rcases h with h | ⟨b, o, h1, h2, h3⟩
  · subst h; simp at hi
  · have c := h3 i p hi
    exact ⟨b, o, h1, h2, c 0 _ rfl, c 1 _ rfl, c 2 _ rfl⟩

theorem bcell {W w1 : World} {B : Nat} (hb : Below B W w1) : (∀ b o, b < B → w1.cell? ⟨b, o, none⟩ = W.cell? ⟨b, o, none⟩) ∧ (∀ b o, b < B → w1.frozen? ⟨b, o, none⟩ = W.frozen? ⟨b, o, none⟩) :=
  ⟨fun b o h => hb.cell (p := ⟨b, o, none⟩) h, fun b o h => hb.frozen (p := ⟨b, o, none⟩) h⟩

/-- a posting in a block of its own -/
structure PBox (w : World) (b : Nat) (p : Post) : Prop where
  lt : b < w.heap.size
  c0 : w.cell? ⟨b, 0, none⟩ = some (.int .i64 p.id)
  c1 : w.cell? ⟨b, 1, none⟩ = some (.int .i64 p.hour)
  c2 : w.cell? ⟨b, 2, none⟩ = some (.int .u8 p.kind)
  c3 : w.cell? ⟨b, 3, none⟩ = some (.int .i64 p.party)
  c4 : w.cell? ⟨b, 4, none⟩ = some (.int .i64 p.parcel)
  c5 : w.cell? ⟨b, 5, none⟩ = some (.int .i64 p.amount)
  c6 : w.cell? ⟨b, 6, none⟩ = some (.int .i64 p.reason)
  c7 : w.cell? ⟨b, 7, none⟩ = some (.int .i64 p.known)
theorem PBox.new (w : World) (p : Post) (t : TypeId) : PBox (w.alloc (.cells #[.int .i64 p.id, .int .i64 p.hour, .int .u8 p.kind, .int .i64 p.party, .int .i64 p.parcel, .int .i64 p.amount, .int .i64 p.reason, .int .i64 p.known] t)) w.heap.size p :=
  ⟨by simp, by simp, by simp, by simp, by simp, by simp, by simp, by simp, by simp⟩
theorem PBox.below {w w' : World} {b B : Nat} {p : Post} (h : PBox w b p) (hb : Below B w w') (hB : b < B) : PBox w' b p :=
  ⟨Nat.lt_of_lt_of_le h.lt hb.size, (hb.cell (p := ⟨b, _, none⟩) hB).trans h.c0, (hb.cell (p := ⟨b, _, none⟩) hB).trans h.c1, (hb.cell (p := ⟨b, _, none⟩) hB).trans h.c2, (hb.cell (p := ⟨b, _, none⟩) hB).trans h.c3,
    (hb.cell (p := ⟨b, _, none⟩) hB).trans h.c4, (hb.cell (p := ⟨b, _, none⟩) hB).trans h.c5, (hb.cell (p := ⟨b, _, none⟩) hB).trans h.c6, (hb.cell (p := ⟨b, _, none⟩) hB).trans h.c7⟩

theorem quietS {P : Program} {f : FuncId} {args : Array Value} {w : World} {n : Nat} {v : Value}
    (h : Calls P f args (w.drewN n) fun e w' => e = .returned v ∧ w.drewN n = w') : Calls P f args (w.drewN n) fun e w'' => e = .returned v ∧ ∃ m, w'' = w.drewN m :=
  h.mono fun _ _ ⟨he, hm⟩ => ⟨he, n, hm.symm⟩

theorem quietA {P : Program} {f : FuncId} {args : Array Value} {w : World} {a n : Nat} {v : Value}
    (h : Calls P f args (w.drewN (a + n)) fun e w' => e = .returned v ∧ w.drewN (a + n) = w') :
    Calls P f args (w.drewN (a + n)) fun e w'' => e = .returned v ∧ ∃ m, w'' = w.drewN (a + m) :=
  h.mono fun _ _ ⟨he, hm⟩ => ⟨he, n, hm.symm⟩
theorem drewN_alloc (w : World) (n : Nat) (o : Obj) : (w.drewN n).alloc o = (w.alloc o).drewN n := rfl
theorem drewN_setCell (w : World) (n : Nat) (a : Addr) (v : Value) : (w.drewN n).setCell a v = (w.setCell a v).drewN n := rfl
theorem drewN_drew (w : World) (n : Nat) : (w.drewN n).drew = w.drewN (n + 1) := rfl
attribute [go_sem] drewN_alloc drewN_setCell

theorem getq {α : Type} {l : List α} {j : Nat} (h : j < l.length) : ∃ x, l[j]? = some x := ⟨l[j], List.getElem?_eq_getElem h⟩
theorem ret_int {k : IntKind} {a b : Int} (h : a = b) : Ending.returned (.int k a) = .returned (.int k b) := by rw [h]
theorem ret_hid {c c' : Int} (h : Hid (c' = c)) : Ending.returned (.int .i64 c) = .returned (.int .i64 c') := by rw [h.out]
theorem ret_bool {a b : Bool} (h : a = b) : Ending.returned (.bool a) = .returned (.bool b) := by rw [h]
end Go.Proofs.YtoijlikmigejbaaGreat

namespace Go.Proofs.YtoijlikmigejbaaGreat
open Go.RowKit

def putO (w : World) (b : Nat) (o : Obj) : World := { w with heap := w.heap.setIfInBounds b o }
section obj
variable (w : World) (b : Nat) (o : Obj)
theorem putO_size : (putO w b o).heap.size = w.heap.size := by simp [putO]
theorem putO_putO (o' : Obj) : putO (putO w b o) b o' = putO w b o' := by simp [putO, Array.setIfInBounds_setIfInBounds]
theorem putO_same (h : b < w.heap.size) : (putO w b o).heap[b]? = some o := by simp [putO, h]
theorem putO_other {k : Nat} (h : k ≠ b) : (putO w b o).heap[k]? = w.heap[k]? := by simp only [putO]; rw [Array.getElem?_setIfInBounds_ne (Ne.symm h)]
theorem putO_cell {a : Addr} (h : a.block ≠ b) : (putO w b o).cell? a = w.cell? a := World.cell?_of_block (putO_other w b o h)
theorem putO_frozen {a : Addr} (h : a.block ≠ b) : (putO w b o).frozen? a = w.frozen? a := World.frozen?_of_block (putO_other w b o h)
end obj

section
variable {K V : Type}
def ents (eK : K → Value) (eV : V → Value) : List (K × V) → Nat → List MapEntry
  | [], _ => []
  | (k, v) :: r, i => ⟨eK k, eV v, i⟩ :: ents eK eV r (i + 1)
def mapObj (eK : K → Value) (eV : V → Value) (m : List (K × V)) : Obj := .map (ents eK eV m 0).toArray m.length
theorem ents_length (eK : K → Value) (eV : V → Value) : ∀ (m : List (K × V)) (i : Nat), (ents eK eV m i).length = m.length
  | [], _ => rfl
  | (_, _) :: r, i => by simp [ents, ents_length eK eV r]
theorem ents_get (eK : K → Value) (eV : V → Value) : ∀ (m : List (K × V)) (i j : Nat), (ents eK eV m i)[j]? = (m[j]?).map fun kv => ⟨eK kv.1, eV kv.2, i + j⟩
  | [], _, _ => by simp [ents]
  | (k, v) :: r, i, 0 => by simp [ents]
  | (k, v) :: r, i, j + 1 => by
    have h : i + 1 + j = i + (j + 1) := by omega
    simp [ents, ents_get eK eV r, h]
theorem ents_append (eK : K → Value) (eV : V → Value) (m : List (K × V)) (x : K) (y : V) : ∀ i, ents eK eV (m ++ [(x, y)]) i = ents eK eV m i ++ [⟨eK x, eV y, i + m.length⟩] := by
  induction m with
  | nil => intro i; simp [ents]
  | cons kv r ih =>
    obtain ⟨k, v⟩ := kv
    intro i
    have : i + 1 + r.length = i + (r.length + 1) := by omega
    simp [ents, ih, this]

variable [DecidableEq K]
def findM (x : K) : List (K × V) → Nat → Option (Nat × V)
  | [], _ => none
  | (k, v) :: r, i => if x = k then some (i, v) else findM x r (i + 1)
def getM (m : List (K × V)) (x : K) : Option V := (findM x m 0).map (·.2)
def putM : List (K × V) → K → V → List (K × V)
  | [], x, y => [(x, y)]
  | (k, v) :: r, x, y => if x = k then (k, y) :: r else (k, v) :: putM r x y

theorem findM_shift (x : K) : ∀ (m : List (K × V)) (i : Nat), findM x m i = (findM x m 0).map fun jv => (jv.1 + i, jv.2)
  | [], _ => rfl
  | (k, v) :: r, i => by
    by_cases h : x = k
    · simp [findM, h]
    · simp only [findM, if_neg h]
      rw [findM_shift x r (i + 1), findM_shift x r (0 + 1)]
      cases findM x r 0 <;> simp; omega
theorem findM_spec (x : K) : ∀ (m : List (K × V)) (i j : Nat) (v : V), findM x m i = some (j, v) → i ≤ j ∧ m[j - i]? = some (x, v)
  | [], _, _, _, h => by simp [findM] at h
  | (k, u) :: r, i, j, v, h => by
    by_cases hk : x = k
    · simp only [findM, if_pos hk, Option.some.injEq, Prod.mk.injEq] at h
      obtain ⟨rfl, rfl⟩ := h
      subst hk
      simp
    · simp only [findM, if_neg hk] at h
      obtain ⟨h1, h2⟩ := findM_spec x r (i + 1) j v h
      refine ⟨by omega, ?_⟩
      have : j - i = (j - (i + 1)) + 1 := by omega
      rw [this]; simpa using h2
theorem getM_nil (x : K) : getM ([] : List (K × V)) x = none := rfl
theorem getM_cons (k : K) (v : V) (r : List (K × V)) (x : K) : getM ((k, v) :: r) x = if x = k then some v else getM r x := by
  unfold getM
  by_cases h : x = k
  · simp [findM, h]
  · simp only [findM, if_neg h]
    rw [findM_shift x r (0 + 1)]
    cases findM x r 0 <;> simp
theorem getM_putM (m : List (K × V)) (x : K) (y : V) (z : K) : getM (putM m x y) z = if z = x then some y else getM m z := by
  induction m with
  | nil => simp [putM, getM_cons]
  | cons kv r ih =>
    obtain ⟨k, v⟩ := kv
    by_cases h : x = k
    · subst h
      simp only [putM, if_true, getM_cons]
      by_cases hz : z = x <;> simp [hz]
    · simp only [putM, if_neg h, getM_cons, ih]
      by_cases hz : z = k
      · subst hz
        rw [if_pos rfl, if_neg (Ne.symm h), if_pos rfl]
      · rw [if_neg hz, if_neg hz]
theorem putM_new {m : List (K × V)} {x : K} (y : V) (h : getM m x = none) : putM m x y = m ++ [(x, y)] := by
  induction m with
  | nil => rfl
  | cons kv r ih =>
    obtain ⟨k, v⟩ := kv
    rw [getM_cons] at h
    by_cases hk : x = k
    · rw [if_pos hk] at h; cases h
    · rw [if_neg hk] at h
      simp [putM, hk, ih h]
theorem findM_none {m : List (K × V)} {x : K} (h : getM m x = none) (i : Nat) : findM x m i = none := by
  rw [findM_shift]
  unfold getM at h
  cases hf : findM x m 0 with
  | none => rfl
  | some jv => rw [hf] at h; simp at h
theorem findM_some {m : List (K × V)} {x : K} {v : V} (h : getM m x = some v) : ∃ j, findM x m 0 = some (j, v) := by
  unfold getM at h
  cases hf : findM x m 0 with
  | none => rw [hf] at h; simp at h
  | some jv => rw [hf] at h; simp at h; exact ⟨jv.1, by rw [← h]⟩
theorem putM_modify (eK : K → Value) (eV : V → Value) (x : K) (y : V) : ∀ (m : List (K × V)) (i j : Nat) (v : V), findM x m i = some (j, v) →
    (ents eK eV (putM m x y) i) = (ents eK eV m i).modify (j - i) (fun e => { e with key := eK x, val := eV y })
  | [], _, _, _, h => by simp [findM] at h
  | (k, u) :: r, i, j, v, h => by
    by_cases hk : x = k
    · simp only [findM, if_pos hk, Option.some.injEq, Prod.mk.injEq] at h
      obtain ⟨rfl, rfl⟩ := h
      subst hk
      simp [putM, ents]
    · simp only [findM, if_neg hk] at h
      have h1 := (findM_spec x r (i + 1) j v h).1
      have h2 := putM_modify eK eV x y r (i + 1) j v h
      have e : j - i = (j - (i + 1)) + 1 := by omega
      simp only [putM, if_neg hk, ents]
      rw [e, List.modify_succ_cons, h2]
theorem putM_length {m : List (K × V)} {x : K} {v : V} (y : V) (h : getM m x = some v) : (putM m x y).length = m.length := by
  induction m with
  | nil => simp [getM_nil] at h
  | cons kv r ih =>
    obtain ⟨k, u⟩ := kv
    rw [getM_cons] at h
    by_cases hk : x = k
    · simp [putM, hk]
    · rw [if_neg hk] at h
      simp [putM, hk, ih h]
/-- what the model asks of a key's type -/
structure KeyTy (P : Program) (t : TypeId) (eK : K → Value) : Prop where
  check : ∀ (e : Bool) (x : K) (w : World), (Instr.checkKey e 10000 t (eK x)).run P w = .ok () w
  find : ∀ {V : Type} (eV : V → Value) (x : K) (m : List (K × V)) (w : World), (Instr.findKey t (eK x) (ents eK eV m 0)).run P w = .ok ((findM x m 0).map fun jv => (jv.1, eV jv.2)) w
  stays : ∀ (x : K) (w : World), (Instr.keyThatStays (eK x) (eK x)).run P w = .ok (eK x) w

variable {P : Program} {T t e : TypeId} {eK : K → Value} {eV : V → Value} {m : List (K × V)} {b : Nat} {w : World}

theorem run_lookupM (H : KeyTy P t eK) (hT : P.underlying T = some (.map t e)) {z : Value} (hz : ∀ w, (zeroValue e).run P w = .ok z w) (hb : w.heap[b]? = some (mapObj eK eV m)) (x : K) (c : Bool) :
    (Instr.lookup T (.map (some b)) (eK x) c).run P w =
      .ok (if c then .tuple #[((getM m x).map eV).getD z, .bool (getM m x).isSome] else ((getM m x).map eV).getD z) w := by
  unfold mapObj at hb
  unfold getM
  cases hf : findM x m 0 with
  | none => cases c <;> simp [Instr.lookup, run_underlying hT, Result.andThen, MapKept.run_getObj_map hb, H.check, H.find, hf, hz]
  | some jv => cases c <;> simp [Instr.lookup, run_underlying hT, Result.andThen, MapKept.run_getObj_map hb, H.check, H.find, hf]

theorem run_updateM (H : KeyTy P t eK) (hT : P.underlying T = some (.map t e)) (hb : w.heap[b]? = some (mapObj eK eV m)) (x : K) (y : V) :
    (Instr.mapUpdate T (.map (some b)) (eK x) (eV y)).run P w = .ok () (putO w b (mapObj eK eV (putM m x y))) := by
  have hb0 := hb
  unfold mapObj at hb
  simp only [Instr.mapUpdate, Sem.run_bind, run_underlying hT, Result.andThen, MapKept.run_getObj_map hb, H.check, H.find]
  cases hf : findM x m 0 with
  | none =>
    have hg : getM m x = none := by unfold getM; rw [hf]; rfl
    simp only [Option.map_none, MapKept.run_setObj_map _ hb]
    rw [putM_new y hg]
    simp [putO, mapObj, ents_append]
  | some jv =>
    obtain ⟨j, v⟩ := jv
    have hg : getM m x = some v := by unfold getM; rw [hf]; rfl
    have hj := (findM_spec x m 0 j v hf).2
    simp only [Nat.sub_zero] at hj
    have hk : ((((ents eK eV m 0).toArray[j]?).map (·.key)).getD (eK x)) = eK x := by simp [ents_get, hj]
    simp only [Option.map_some, Sem.run_bind, hk, H.stays, Result.andThen, MapKept.run_setObj_map _ hb]
    have := putM_modify eK eV x y m 0 j v hf
    simp only [Nat.sub_zero] at this
    simp [putO, mapObj, this, putM_length y hg]

/-- behind mapEntry: the key is there -/
def entM (m : List (K × V)) (x : K) (z : V) : List (K × V) := match getM m x with | some _ => m | none => m ++ [(x, z)]
def idxM (m : List (K × V)) (x : K) : Nat := match findM x m 0 with | some jv => jv.1 | none => m.length
theorem getM_of_find {jv : Nat × V} {x : K} (h : findM x m 0 = some jv) : getM m x = some jv.2 := by unfold getM; rw [h]; rfl
theorem getM_of_none {x : K} (h : findM x m 0 = none) : getM m x = none := by unfold getM; rw [h]; rfl

theorem run_entryM (H : KeyTy P t eK) (hT : P.underlying T = some (.map t e)) {z : V} (hz : ∀ w, (zeroValue e).run P w = .ok (eV z) w) (hb : w.heap[b]? = some (mapObj eK eV m)) (x : K) :
    (Instr.mapEntry T (.map (some b)) (eK x)).run P w = .ok (.tuple #[eV ((getM m x).getD z), .int .i64 (idxM m x : Nat)]) (putO w b (mapObj eK eV (entM m x z))) := by
  unfold mapObj at hb
  simp only [Instr.mapEntry, Sem.run_bind, run_underlying hT, Result.andThen, MapKept.run_getObj_map hb, H.check, H.find]
  cases hf : findM x m 0 with
  | none =>
    have hg := getM_of_none hf
    have hi : idxM m x = m.length := by unfold idxM; rw [hf]
    have he : entM m x z = m ++ [(x, z)] := by unfold entM; rw [hg]
    rw [hi, he, hg]
    simp [hz, Result.andThen, MapKept.run_setObj_map _ hb, putO, mapObj, ents_append, goInt]
  | some jv =>
    obtain ⟨j, v⟩ := jv
    have hg := getM_of_find hf
    have hi : idxM m x = j := by unfold idxM; rw [hf]
    have he : entM m x z = m := by unfold entM; rw [hg]
    have hj := (findM_spec x m 0 j v hf).2
    simp only [Nat.sub_zero] at hj
    have hk : ((((ents eK eV m 0).toArray[j]?).map (·.key)).getD (eK x)) = eK x := by simp [ents_get, hj]
    have hborn : ((((ents eK eV m 0).toArray[j]?).map (fun e => (e.born : Int))).getD 0) = (j : Int) := by simp [ents_get, hj]
    have hmod : (ents eK eV m 0).toArray.modify j (fun e => { e with key := eK x }) = (ents eK eV m 0).toArray := by
      apply Array.ext'
      simp only [Array.toList_modify]
      apply List.ext_getElem?
      intro i
      rw [List.getElem?_modify]
      by_cases hij : j = i
      · subst hij; simp [ents_get, hj]
      · simp [hij]
    rw [hi, he, hg]
    simp only [Option.map_some, Sem.run_bind, hk, H.stays, Result.andThen, MapKept.run_setObj_map _ hb, hborn, hmod]
    rfl

theorem run_storeM {x : K} {z y : V} (hb : w.heap[b]? = some (mapObj eK eV (entM m x z))) :
    (Instr.entryStore T (.map (some b)) (.int .i64 (idxM m x : Nat)) (eV y)).run P w = .ok () (putO w b (mapObj eK eV (putM m x y))) := by
  unfold mapObj at hb
  have hfind : ∀ (l : List (K × V)) (s i : Nat), i < l.length → ((ents eK eV l s).findIdx? fun e => (e.born : Int) == ((s + i : Nat) : Int)) = some i := by
    intro l
    induction l with
    | nil => intro s i hi; simp at hi
    | cons kv r ih =>
      obtain ⟨k, v⟩ := kv
      intro s i hi
      cases i with
      | zero => simp [ents, List.findIdx?_cons]
      | succ i =>
        have h1 : ((s : Int) == ((s + (i + 1) : Nat) : Int)) = false := by simp; omega
        have h2 := ih (s + 1) i (by simpa using hi)
        have h3 : s + 1 + i = s + (i + 1) := by omega
        rw [h3] at h2
        simp only [ents, List.findIdx?_cons, h1, Bool.false_eq_true, if_false, h2]
        rfl
  have hlen : idxM m x < (entM m x z).length := by
    cases hf : findM x m 0 with
    | none =>
      have hg := getM_of_none hf
      unfold idxM entM; rw [hf, hg]; simp
    | some jv =>
      have hg := getM_of_find hf
      unfold idxM entM; rw [hf, hg]
      have := (findM_spec x m 0 jv.1 jv.2 hf).2
      simp only [Nat.sub_zero] at this
      exact (List.getElem?_eq_some_iff.1 this).1
  have hidx : ((ents eK eV (entM m x z) 0).toArray.findIdx? fun e => (e.born : Int) == ((idxM m x : Nat) : Int)) = some (idxM m x) := by
    have := hfind (entM m x z) 0 (idxM m x) hlen
    simp only [Nat.zero_add] at this
    simpa using this
  have hres : ((ents eK eV (entM m x z) 0).toArray.modify (idxM m x) fun e => { e with val := eV y }) = (ents eK eV (putM m x y) 0).toArray ∧ (entM m x z).length = (putM m x y).length := by
    cases hf : findM x m 0 with
    | none =>
      have hg := getM_of_none hf
      have hi : idxM m x = m.length := by unfold idxM; rw [hf]
      have he : entM m x z = m ++ [(x, z)] := by unfold entM; rw [hg]
      rw [hi, he, putM_new y hg]
      refine ⟨?_, by simp⟩
      apply Array.ext'
      simp only [Array.toList_modify]
      rw [ents_append, ents_append]
      apply List.ext_getElem?
      intro i
      rw [List.getElem?_modify]
      simp only [List.getElem?_append, ents_length]
      by_cases h1 : i < m.length
      · have : ¬ m.length = i := by omega
        simp [h1, this]
      · by_cases h2 : m.length = i
        · subst h2; simp
        · have : i - m.length ≠ 0 := by omega
          obtain ⟨q, hq⟩ : ∃ q, i - m.length = q + 1 := ⟨i - m.length - 1, by omega⟩
          simp [h1, h2, hq]
    | some jv =>
      obtain ⟨j, v⟩ := jv
      have hg := getM_of_find hf
      have hi : idxM m x = j := by unfold idxM; rw [hf]
      have he : entM m x z = m := by unfold entM; rw [hg]
      have hj := (findM_spec x m 0 j v hf).2
      simp only [Nat.sub_zero] at hj
      rw [hi, he]
      refine ⟨?_, (putM_length y hg).symm⟩
      apply Array.ext'
      simp only [Array.toList_modify]
      have hp := putM_modify eK eV x y m 0 j v hf
      simp only [Nat.sub_zero] at hp
      rw [hp]
      apply List.ext_getElem?
      intro i
      rw [List.getElem?_modify, List.getElem?_modify]
      by_cases hij : j = i
      · subst hij; simp [ents_get, hj]
      · simp [hij]
  have hasInt : (asInt (.int .i64 ((idxM m x : Nat) : Int))).run P w = .ok ((idxM m x : Nat) : Int) w := rfl
  simp only [Instr.entryStore, Sem.run_bind, MapKept.run_getObj_map hb, Result.andThen, hasInt, hidx, MapKept.run_setObj_map _ hb, hres.1, hres.2]
  rfl
end

/-- keys that are ints -/
theorem intKeyTy {P : Program} {t : TypeId} (ht : P.underlying t = some (.int .i64)) : KeyTy P t (fun n : Int => .int .i64 n) where
  check := fun e x _ => MapKept.run_checkKey (d := .int .i64) (k := .int .i64 x) ht (by simp [MapKept.IsKey]) e 9999
  find := fun eV x m w => by
    have key : ∀ {V : Type} (eV : V → Value) (m : List (Int × V)) (i : Nat), Instr.findNow (.int .i64) (.int .i64 x) (ents (fun n : Int => .int .i64 n) eV m i) i = some ((findM x m i).map fun jv => (jv.1, eV jv.2)) := by
      intro V eV m
      induction m with
      | nil => intro i; rfl
      | cons kv r ih =>
        obtain ⟨k, v⟩ := kv
        intro i
        by_cases h : x = k
        · subst h; simp [ents, Instr.findNow, Instr.sameNow, findM]
        · have hb : (x == k) = false := by simp [h]
          simp [ents, Instr.findNow, Instr.sameNow, findM, h, hb, ih]
    simp [Instr.findKey, run_underlying ht, Result.andThen, key]
  stays := fun x _ => MapKept.run_keyThatStays (d := .int .i64) (k := .int .i64 x) (by simp [MapKept.IsKey])

/-- keys that are structs, compared through '==' -/
theorem structKeyTy {K : Type} [DecidableEq K] {P : Program} {t : TypeId} {eK : K → Value} (ht : ∃ d, P.underlying t = some d ∧ ∀ a b, Instr.sameNow d (eK a) (eK b) = none)
    (heq : ∀ (a b : K) (w : World), (Op.equal t (eK a) (eK b)).run P w = .ok (decide (a = b)) w)
    (hcheck : ∀ (e : Bool) (x : K) (w : World), (Instr.checkKey e 10000 t (eK x)).run P w = .ok () w)
    (hstays : ∀ x, Instr.sameBits 10000 (eK x) (eK x) = true) : KeyTy P t eK where
  check := hcheck
  find := fun eV x m w => by
    obtain ⟨d, hd, hnow⟩ := ht
    have key : ∀ {V : Type} (eV : V → Value) (m : List (K × V)) (i : Nat), (Instr.findAsking t (eK x) (ents eK eV m i) i).run P w = .ok ((findM x m i).map fun jv => (jv.1, eV jv.2)) w := by
      intro V eV m
      induction m with
      | nil => intro i; rfl
      | cons kv r ih =>
        obtain ⟨k, v⟩ := kv
        intro i
        by_cases h : x = k
        · subst h; simp [ents, Instr.findAsking, heq, findM, Result.andThen]
        · simp [ents, Instr.findAsking, heq, findM, h, ih, Result.andThen]
    cases m with
    | nil => simp [Instr.findKey, run_underlying hd, Result.andThen, ents, Instr.findNow, findM]
    | cons kv r =>
      have h1 : Instr.findNow d (eK x) (ents eK eV (kv :: r) 0) 0 = none := by
        obtain ⟨k, v⟩ := kv
        simp [ents, Instr.findNow, hnow]
      simp only [Instr.findKey, Sem.run_bind, run_underlying hd, Result.andThen, h1, key]
  stays := fun x w => by simp [Instr.keyThatStays, hstays]
end Go.Proofs.YtoijlikmigejbaaGreat

namespace Go.Proofs.YtoijlikmigejbaaGreat
section
variable {P : Program} {ops : Array Oper} {Q : Exit → Act → World → Prop} {md : Region.Mode} {S : World → Prop}
theorem op_at {o : Oper} {r : List Oper} (i : Nat) (hd : ops.toList.drop i = o :: r) : ops[i]? = some o := by
  have h : (ops.toList.drop i)[0]? = some o := by rw [hd]; rfl
  rw [List.getElem?_drop] at h
  simpa using h
/-- an operation that yields v in every world that meets S is taken first -/
theorem xtake {r : List Oper} {oi : Oper} {v : Value} {fuel : Nat} {listed : Array Bool} {a : Act} {w : World} (i : Nat) (hi : ops.toList.drop i = oi :: r)
    (hs : Region.noSelect ops = true) (hf : Region.free md ops listed i = true) (hr : (Region.ready md ops listed).contains i = true)
    (hw : Region.wanted oi (yielded ops a.tmps) = true) (hy : ∀ w, S w → (execOp a.eval oi).run P w = .ok (.value v) w) (hQ : ∀ c a w, Q (.panic c) (a.put oi.dst v) w → Q (.panic c) a w) (hS : S w)
    (h : wpAnyH P md ops Q S fuel (listed.setIfInBounds i true) (a.put oi.dst v) w) : wpAnyH P md ops Q S (fuel + 1) listed a w :=
  wpAnyH_take (op_at i hi) hs hf hr hQ (.inl ⟨hw, hy⟩) hS h
/-- a guarded operation that is not wanted -/
theorem xskip {r : List Oper} {oi : Oper} {fuel : Nat} {listed : Array Bool} {a : Act} {w : World} (i : Nat) (hi : ops.toList.drop i = oi :: r)
    (hs : Region.noSelect ops = true) (hf : Region.free md ops listed i = true) (hr : (Region.ready md ops listed).contains i = true)
    (hQ : ∀ c a w, Q (.panic c) (a.put oi.dst undef) w → Q (.panic c) a w) (hw : Region.wanted oi (yielded ops a.tmps) = false) (hS : S w)
    (h : wpAnyH P md ops Q S fuel (listed.setIfInBounds i true) (a.put oi.dst undef) w) : wpAnyH P md ops Q S (fuel + 1) listed a w :=
  wpAnyH_take (op_at i hi) hs hf hr hQ (.inr ⟨hw, rfl⟩) hS h
theorem xcons {r : List Oper} {fuel : Nat} {listed : Array Bool} {a : Act} {w : World} (i : Nat) {o : Oper} {rs : List Nat} (ho : ops.toList.drop i = o :: r)
    (h : ∀ K' : Act → World → Prop, Shut (∀ a w, S w → (S w → wpAnyH P md ops Q S fuel (listed.setIfInBounds i true) a w) → K' a w) → if Region.wanted o (yielded ops a.tmps) = true then Oper.wp P o a w K' Q else K' (a.put o.dst undef) w)
    (hs : AllReadyH P md ops Q S fuel listed a w rs) : AllReadyH P md ops Q S fuel listed a w (i :: rs) := AllReadyH.cons (op_at i ho) h hs
end
/-- what leaves hangs on the results alone -/
theorem leaves_congr {P : Program} {fn : Func} {t t' : Array Value} {R : Ending → World → Prop} (h : results fn t = results fn t') : ∀ (ds : List Deferred) (u : FrameMode) (w : World), Leaves P fn t R ds u w → Leaves P fn t' R ds u w
  | [], .returning, w, H => by
    unfold Leaves at H ⊢; rw [← h]; exact H
  | [], .panicking _, _, H => H
  | [], .run, _, H => H
  | d :: ds, u, w, H => by
    obtain ⟨hu, fv, cap, f, args, h1, h2, h3⟩ := H
    refine ⟨hu, fv, cap, f, args, h1, h2, h3.mono fun e u' w' k => ?_⟩
    cases e with
    | returned v => exact leaves_congr h ds _ w' k
    | panicked c => exact leaves_congr h ds _ w' k
    | outgrown => exact k
end Go.Proofs.YtoijlikmigejbaaGreat
