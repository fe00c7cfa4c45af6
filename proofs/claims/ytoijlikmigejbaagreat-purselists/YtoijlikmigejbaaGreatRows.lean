/-
  No cell of these rows narrows 'for every input' (looked for: loops, veiled, ifaces, maps, wideKeys, modest, calm, conditions, laid).
  DERIVED. THE GIVEN ROWS OF THIS SEAT. 7 by the template 'for every input the law returns true; each argument reads behind the call as it read before'; 0 by the template 'total and deterministic' (their statements: YtoijlikmigejbaaGreatTotals.lean).
  GIVEN WITH THE SEED: the statements are not yours to turn. If you find one false, say at which input.
  Laid BY PROGRAM, IN A SANDBOX (cutbox-rows.mjs): the forced cells as the released guide's own fill.sh prints them over the translation 2298ce0a053e133f… (all of the seat's roots in one cut). By AI agents, Wed Nov 11 2026. No macro, syntax, notation, axiom, sorry.
-/
import Derived.Test.YtoijlikmigejbaaGreatChecked
import GoSem.Claim
import GoSem.ClaimJoined
import GoSem.ClaimMapViews
import Derived.JoinedTies
import Derived.KernelRfl
namespace Go.Proofs.YtoijlikmigejbaaGreat
/- THE CELL 'sum', in the pinned program and in every row, IS THE sha256 OF THE DUMP (.gsa) THAT YtoijlikmigejbaaGreatProg.lean LOADS. Nothing in Lean hashes anything: it is a label: what it is worth is what the hold of that sum in a sandbox is worth. -/
noncomputable def Tryz.pinned : Pinned := { name := "ytoijlikmigejbaagreat", sum := "2298ce0a053e133f94f49c7eeea2682678ab5740eb324bd1c95525f13d4cad7e", checked := Tryz.checked }
namespace Rows
def none {H : Type} : Left H := { results := [], args := [] }

/-- 'laganlaw07.PurseSettles': WHATEVER THE INPUT: true; the input reads as it did. -/
def purseSettlesSpec : ChangeSpec := { name := "purseSettles", fn := fun _ => fun
  | [d1, d2, d3, d4] => { results := [.lit (.bool true)], args := [d1, d2, d3, d4] }
  | _ => none }
def purseSettlesRow : OpenClaim := { program := "ytoijlikmigejbaagreat", sum := "2298ce0a053e133f94f49c7eeea2682678ab5740eb324bd1c95525f13d4cad7e", func := "lagan/laganlaw07.PurseSettles", spec := "purseSettles", inPlace := ["maps.clone"], unfollowed := true, recurses := true, plainKeys := false, apart := false }
def PurseSettlesSaid : Prop := purseSettlesRow.holds Tryz.pinned (OpenSpec.ofChange purseSettlesSpec)

/-- ITS FALSE NEIGHBOUR: 'it returns false'. Refute it at one input. -/
def purseSettlesWrong : ChangeSpec := { name := "purseSettles", fn := fun _ => fun
  | [d1, d2, d3, d4] => { results := [.lit (.bool false)], args := [d1, d2, d3, d4] }
  | _ => none }
def PurseSettlesWrongFalsely : Prop := purseSettlesRow.holds Tryz.pinned (OpenSpec.ofChange purseSettlesWrong)

/-- 'laganlaw07.PurseLists': WHATEVER THE INPUT: true; the input reads as it did. -/
def purseListsSpec : ChangeSpec := { name := "purseLists", fn := fun _ => fun
  | [d1, d2, d3] => { results := [.lit (.bool true)], args := [d1, d2, d3] }
  | _ => none }
def purseListsRow : OpenClaim := { program := "ytoijlikmigejbaagreat", sum := "2298ce0a053e133f94f49c7eeea2682678ab5740eb324bd1c95525f13d4cad7e", func := "lagan/laganlaw07.PurseLists", spec := "purseLists", inPlace := ["maps.clone"], unfollowed := true, recurses := true, plainKeys := false, apart := false }
def PurseListsSaid : Prop := purseListsRow.holds Tryz.pinned (OpenSpec.ofChange purseListsSpec)

/-- ITS FALSE NEIGHBOUR: 'it returns false'. Refute it at one input. -/
def purseListsWrong : ChangeSpec := { name := "purseLists", fn := fun _ => fun
  | [d1, d2, d3] => { results := [.lit (.bool false)], args := [d1, d2, d3] }
  | _ => none }
def PurseListsWrongFalsely : Prop := purseListsRow.holds Tryz.pinned (OpenSpec.ofChange purseListsWrong)

/-- 'laganlaw07.PurseParts': WHATEVER THE INPUT: true; the input reads as it did. -/
def pursePartsSpec : ChangeSpec := { name := "purseParts", fn := fun _ => fun
  | [d1, d2, d3, d4] => { results := [.lit (.bool true)], args := [d1, d2, d3, d4] }
  | _ => none }
def pursePartsRow : OpenClaim := { program := "ytoijlikmigejbaagreat", sum := "2298ce0a053e133f94f49c7eeea2682678ab5740eb324bd1c95525f13d4cad7e", func := "lagan/laganlaw07.PurseParts", spec := "purseParts", inPlace := ["maps.clone"], unfollowed := true, recurses := true, plainKeys := false, apart := false }
def PursePartsSaid : Prop := pursePartsRow.holds Tryz.pinned (OpenSpec.ofChange pursePartsSpec)

/-- ITS FALSE NEIGHBOUR: 'it returns false'. Refute it at one input. -/
def pursePartsWrong : ChangeSpec := { name := "purseParts", fn := fun _ => fun
  | [d1, d2, d3, d4] => { results := [.lit (.bool false)], args := [d1, d2, d3, d4] }
  | _ => none }
def PursePartsWrongFalsely : Prop := pursePartsRow.holds Tryz.pinned (OpenSpec.ofChange pursePartsWrong)

/-- 'laganlaw07.PurseSums': WHATEVER THE INPUT: true; the input reads as it did. -/
def purseSumsSpec : ChangeSpec := { name := "purseSums", fn := fun _ => fun
  | [d1, d2] => { results := [.lit (.bool true)], args := [d1, d2] }
  | _ => none }
def purseSumsRow : OpenClaim := { program := "ytoijlikmigejbaagreat", sum := "2298ce0a053e133f94f49c7eeea2682678ab5740eb324bd1c95525f13d4cad7e", func := "lagan/laganlaw07.PurseSums", spec := "purseSums", inPlace := ["maps.clone"], unfollowed := true, recurses := true, plainKeys := false, apart := false }
def PurseSumsSaid : Prop := purseSumsRow.holds Tryz.pinned (OpenSpec.ofChange purseSumsSpec)

/-- ITS FALSE NEIGHBOUR: 'it returns false'. Refute it at one input. -/
def purseSumsWrong : ChangeSpec := { name := "purseSums", fn := fun _ => fun
  | [d1, d2] => { results := [.lit (.bool false)], args := [d1, d2] }
  | _ => none }
def PurseSumsWrongFalsely : Prop := purseSumsRow.holds Tryz.pinned (OpenSpec.ofChange purseSumsWrong)

/-- 'laganlaw07.PurseDues': WHATEVER THE INPUT: true; the input reads as it did. -/
def purseDuesSpec : ChangeSpec := { name := "purseDues", fn := fun _ => fun
  | [d1, d2, d3] => { results := [.lit (.bool true)], args := [d1, d2, d3] }
  | _ => none }
def purseDuesRow : OpenClaim := { program := "ytoijlikmigejbaagreat", sum := "2298ce0a053e133f94f49c7eeea2682678ab5740eb324bd1c95525f13d4cad7e", func := "lagan/laganlaw07.PurseDues", spec := "purseDues", inPlace := ["maps.clone"], unfollowed := true, recurses := true, plainKeys := false, apart := false }
def PurseDuesSaid : Prop := purseDuesRow.holds Tryz.pinned (OpenSpec.ofChange purseDuesSpec)

/-- ITS FALSE NEIGHBOUR: 'it returns false'. Refute it at one input. -/
def purseDuesWrong : ChangeSpec := { name := "purseDues", fn := fun _ => fun
  | [d1, d2, d3] => { results := [.lit (.bool false)], args := [d1, d2, d3] }
  | _ => none }
def PurseDuesWrongFalsely : Prop := purseDuesRow.holds Tryz.pinned (OpenSpec.ofChange purseDuesWrong)

/-- 'laganlaw07.PurseSettled': WHATEVER THE INPUT: true; the input reads as it did. -/
def purseSettledSpec : ChangeSpec := { name := "purseSettled", fn := fun _ => fun
  | [d1, d2, d3, d4] => { results := [.lit (.bool true)], args := [d1, d2, d3, d4] }
  | _ => none }
def purseSettledRow : OpenClaim := { program := "ytoijlikmigejbaagreat", sum := "2298ce0a053e133f94f49c7eeea2682678ab5740eb324bd1c95525f13d4cad7e", func := "lagan/laganlaw07.PurseSettled", spec := "purseSettled", inPlace := ["maps.clone"], unfollowed := true, recurses := true, plainKeys := false, apart := false }
def PurseSettledSaid : Prop := purseSettledRow.holds Tryz.pinned (OpenSpec.ofChange purseSettledSpec)

/-- ITS FALSE NEIGHBOUR: 'it returns false'. Refute it at one input. -/
def purseSettledWrong : ChangeSpec := { name := "purseSettled", fn := fun _ => fun
  | [d1, d2, d3, d4] => { results := [.lit (.bool false)], args := [d1, d2, d3, d4] }
  | _ => none }
def PurseSettledWrongFalsely : Prop := purseSettledRow.holds Tryz.pinned (OpenSpec.ofChange purseSettledWrong)

/-- 'laganlaw07.PurseBooks': WHATEVER THE INPUT: true; the input reads as it did. -/
def purseBooksSpec : ChangeSpec := { name := "purseBooks", fn := fun _ => fun
  | [d1, d2] => { results := [.lit (.bool true)], args := [d1, d2] }
  | _ => none }
def purseBooksRow : OpenClaim := { program := "ytoijlikmigejbaagreat", sum := "2298ce0a053e133f94f49c7eeea2682678ab5740eb324bd1c95525f13d4cad7e", func := "lagan/laganlaw07.PurseBooks", spec := "purseBooks", inPlace := ["maps.clone"], unfollowed := true, recurses := true, plainKeys := false, apart := false }
def PurseBooksSaid : Prop := purseBooksRow.holds Tryz.pinned (OpenSpec.ofChange purseBooksSpec)

/-- ITS FALSE NEIGHBOUR: 'it returns false'. Refute it at one input. -/
def purseBooksWrong : ChangeSpec := { name := "purseBooks", fn := fun _ => fun
  | [d1, d2] => { results := [.lit (.bool false)], args := [d1, d2] }
  | _ => none }
def PurseBooksWrongFalsely : Prop := purseBooksRow.holds Tryz.pinned (OpenSpec.ofChange purseBooksWrong)

/- THE SECOND FORM. 'bulk': how many values and letters a reading holds, each counted each time it is reached (what is shared counts as often as it is met; a slice's spare places count too). A statement '..UptoSaid' is the law's where the arguments, and the package variables that the reading takes, are together of bulk at most 1048576: NARROWER than '..Said'. Prove '..Said' where nothing that the law and all that it calls make is longer than what came in: it says more and counts as full. Else prove '..UptoSaid'. A law counts once. -/
mutual
def uptoBulk {H : Type} : DataW H → Nat
  | .lit (.string bytes) => bytes.length + 1
  | .lit _ => 1
  | .nil => 1
  | .ptr d => uptoBulk d + 1
  | .slice elems spare => uptoBulkAll elems + uptoBulkAll spare + 1
  | .agg parts => uptoBulkAll parts + 1
  | .iface _ d => uptoBulk d + 1
  | .map entries => uptoBulkEntries entries + 1
  | .held _ => 1
def uptoBulkAll {H : Type} : List (DataW H) → Nat
  | [] => 0
  | d :: r => uptoBulk d + uptoBulkAll r
def uptoBulkEntries {H : Type} : List (Lit × DataW H) → Nat
  | [] => 0
  | x :: r => uptoBulkEntry x + uptoBulkEntries r
def uptoBulkEntry {H : Type} : Lit × DataW H → Nat
  | (.string bytes, d) => bytes.length + uptoBulk d + 1
  | (_, d) => uptoBulk d + 1
 end
def uptoSmall : (H : Type) → List (DataW H) → Bool := fun _ ds => decide (uptoBulkAll ds ≤ 1048576)
def OpenSpec.upto (s : _root_.Go.ChangeSpec) : _root_.Go.OpenSpec := { _root_.Go.OpenSpec.ofChange s with cond := some uptoSmall }

/-- 'laganlaw07.PurseSettles', WHERE WHAT IT READS IS OF BULK AT MOST 1048576: true; the input reads as it did. -/
def purseSettlesUptoRow : OpenClaim := { program := "ytoijlikmigejbaagreat", sum := "2298ce0a053e133f94f49c7eeea2682678ab5740eb324bd1c95525f13d4cad7e", func := "lagan/laganlaw07.PurseSettles", spec := "purseSettles", inPlace := ["maps.clone"], unfollowed := true, recurses := true, plainKeys := false, apart := false, narrowed := true }
def PurseSettlesUptoSaid : Prop := purseSettlesUptoRow.holds Tryz.pinned (OpenSpec.upto purseSettlesSpec)

/-- 'laganlaw07.PurseLists', WHERE WHAT IT READS IS OF BULK AT MOST 1048576: true; the input reads as it did. -/
def purseListsUptoRow : OpenClaim := { program := "ytoijlikmigejbaagreat", sum := "2298ce0a053e133f94f49c7eeea2682678ab5740eb324bd1c95525f13d4cad7e", func := "lagan/laganlaw07.PurseLists", spec := "purseLists", inPlace := ["maps.clone"], unfollowed := true, recurses := true, plainKeys := false, apart := false, narrowed := true }
def PurseListsUptoSaid : Prop := purseListsUptoRow.holds Tryz.pinned (OpenSpec.upto purseListsSpec)

/-- 'laganlaw07.PurseParts', WHERE WHAT IT READS IS OF BULK AT MOST 1048576: true; the input reads as it did. -/
def pursePartsUptoRow : OpenClaim := { program := "ytoijlikmigejbaagreat", sum := "2298ce0a053e133f94f49c7eeea2682678ab5740eb324bd1c95525f13d4cad7e", func := "lagan/laganlaw07.PurseParts", spec := "purseParts", inPlace := ["maps.clone"], unfollowed := true, recurses := true, plainKeys := false, apart := false, narrowed := true }
def PursePartsUptoSaid : Prop := pursePartsUptoRow.holds Tryz.pinned (OpenSpec.upto pursePartsSpec)

/-- 'laganlaw07.PurseSums', WHERE WHAT IT READS IS OF BULK AT MOST 1048576: true; the input reads as it did. -/
def purseSumsUptoRow : OpenClaim := { program := "ytoijlikmigejbaagreat", sum := "2298ce0a053e133f94f49c7eeea2682678ab5740eb324bd1c95525f13d4cad7e", func := "lagan/laganlaw07.PurseSums", spec := "purseSums", inPlace := ["maps.clone"], unfollowed := true, recurses := true, plainKeys := false, apart := false, narrowed := true }
def PurseSumsUptoSaid : Prop := purseSumsUptoRow.holds Tryz.pinned (OpenSpec.upto purseSumsSpec)

/-- 'laganlaw07.PurseDues', WHERE WHAT IT READS IS OF BULK AT MOST 1048576: true; the input reads as it did. -/
def purseDuesUptoRow : OpenClaim := { program := "ytoijlikmigejbaagreat", sum := "2298ce0a053e133f94f49c7eeea2682678ab5740eb324bd1c95525f13d4cad7e", func := "lagan/laganlaw07.PurseDues", spec := "purseDues", inPlace := ["maps.clone"], unfollowed := true, recurses := true, plainKeys := false, apart := false, narrowed := true }
def PurseDuesUptoSaid : Prop := purseDuesUptoRow.holds Tryz.pinned (OpenSpec.upto purseDuesSpec)

/-- 'laganlaw07.PurseSettled', WHERE WHAT IT READS IS OF BULK AT MOST 1048576: true; the input reads as it did. -/
def purseSettledUptoRow : OpenClaim := { program := "ytoijlikmigejbaagreat", sum := "2298ce0a053e133f94f49c7eeea2682678ab5740eb324bd1c95525f13d4cad7e", func := "lagan/laganlaw07.PurseSettled", spec := "purseSettled", inPlace := ["maps.clone"], unfollowed := true, recurses := true, plainKeys := false, apart := false, narrowed := true }
def PurseSettledUptoSaid : Prop := purseSettledUptoRow.holds Tryz.pinned (OpenSpec.upto purseSettledSpec)

/-- 'laganlaw07.PurseBooks', WHERE WHAT IT READS IS OF BULK AT MOST 1048576: true; the input reads as it did. -/
def purseBooksUptoRow : OpenClaim := { program := "ytoijlikmigejbaagreat", sum := "2298ce0a053e133f94f49c7eeea2682678ab5740eb324bd1c95525f13d4cad7e", func := "lagan/laganlaw07.PurseBooks", spec := "purseBooks", inPlace := ["maps.clone"], unfollowed := true, recurses := true, plainKeys := false, apart := false, narrowed := true }
def PurseBooksUptoSaid : Prop := purseBooksUptoRow.holds Tryz.pinned (OpenSpec.upto purseBooksSpec)

end Rows
end Go.Proofs.YtoijlikmigejbaaGreat
