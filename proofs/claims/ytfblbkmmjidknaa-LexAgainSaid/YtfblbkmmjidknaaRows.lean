/-
  No cell of these rows narrows 'for every input' (looked for: loops, veiled, ifaces, maps, wideKeys, modest, calm, conditions, laid).
  DERIVED. THE GIVEN ROWS OF THIS SEAT. 7 by the template 'for every input the law returns true; each argument reads behind the call as it read before'; 0 by the template 'total and deterministic' (their statements: YtfblbkmmjidknaaTotals.lean).
  GIVEN WITH THE SEED: the statements are not yours to turn. If you find one false, say at which input.
  Laid BY PROGRAM, IN A SANDBOX (cutbox-rows.mjs): the forced cells as the released guide's own fill.sh prints them over the translation 0a9b52f82e318c3c… (all of the seat's roots in one cut). By AI agents, Wed Nov 11 2026. No macro, syntax, notation, axiom, sorry.
-/
import Derived.Test.YtfblbkmmjidknaaChecked
import GoSem.Claim
import GoSem.ClaimJoined
import GoSem.ClaimMapViews
import Derived.JoinedTies
import Derived.KernelRfl
namespace Go.Proofs.Ytfblbkmmjidknaa
/- THE CELL 'sum', in the pinned program and in every row, IS THE sha256 OF THE DUMP (.gsa) THAT YtfblbkmmjidknaaProg.lean LOADS. Nothing in Lean hashes anything: it is a label: what it is worth is what the hold of that sum in a sandbox is worth. -/
noncomputable def Try.pinned : Pinned := { name := "ytfblbkmmjidknaa", sum := "0a9b52f82e318c3c2f74f7ce98ad81901af3cc782ad967cb43373be0a0911c29", checked := Try.checked }
namespace Rows
def none {H : Type} : Left H := { results := [], args := [] }

/-- 'semvcslaw01.LexScans': WHATEVER THE INPUT: true; the input reads as it did. -/
def lexScansSpec : ChangeSpec := { name := "lexScans", fn := fun _ => fun
  | [d] => { results := [.lit (.bool true)], args := [d] }
  | _ => none }
def lexScansRow : OpenClaim := { program := "ytfblbkmmjidknaa", sum := "0a9b52f82e318c3c2f74f7ce98ad81901af3cc782ad967cb43373be0a0911c29", func := "semvcs/semvcslaw01.LexScans", spec := "lexScans", inPlace := ["internal/bytealg.IndexByteString"], apart := false }
def LexScansSaid : Prop := lexScansRow.holds Try.pinned (OpenSpec.ofChange lexScansSpec)

/-- ITS FALSE NEIGHBOUR: 'it returns false'. Refute it at one input. -/
def lexScansWrong : ChangeSpec := { name := "lexScans", fn := fun _ => fun
  | [d] => { results := [.lit (.bool false)], args := [d] }
  | _ => none }
def LexScansWrongFalsely : Prop := lexScansRow.holds Try.pinned (OpenSpec.ofChange lexScansWrong)

/-- 'semvcslaw01.LexClasses': WHATEVER THE INPUT: true; the input reads as it did. -/
def lexClassesSpec : ChangeSpec := { name := "lexClasses", fn := fun _ => fun
  | [d] => { results := [.lit (.bool true)], args := [d] }
  | _ => none }
def lexClassesRow : OpenClaim := { program := "ytfblbkmmjidknaa", sum := "0a9b52f82e318c3c2f74f7ce98ad81901af3cc782ad967cb43373be0a0911c29", func := "semvcs/semvcslaw01.LexClasses", spec := "lexClasses", inPlace := ["internal/bytealg.IndexByteString"], apart := false }
def LexClassesSaid : Prop := lexClassesRow.holds Try.pinned (OpenSpec.ofChange lexClassesSpec)

/-- ITS FALSE NEIGHBOUR: 'it returns false'. Refute it at one input. -/
def lexClassesWrong : ChangeSpec := { name := "lexClasses", fn := fun _ => fun
  | [d] => { results := [.lit (.bool false)], args := [d] }
  | _ => none }
def LexClassesWrongFalsely : Prop := lexClassesRow.holds Try.pinned (OpenSpec.ofChange lexClassesWrong)

/-- 'semvcslaw01.LexLimits': WHATEVER THE INPUT: true; the input reads as it did. -/
def lexLimitsSpec : ChangeSpec := { name := "lexLimits", fn := fun _ => fun
  | [d1, d2] => { results := [.lit (.bool true)], args := [d1, d2] }
  | _ => none }
def lexLimitsRow : OpenClaim := { program := "ytfblbkmmjidknaa", sum := "0a9b52f82e318c3c2f74f7ce98ad81901af3cc782ad967cb43373be0a0911c29", func := "semvcs/semvcslaw01.LexLimits", spec := "lexLimits", inPlace := ["internal/bytealg.IndexByteString"], apart := false }
def LexLimitsSaid : Prop := lexLimitsRow.holds Try.pinned (OpenSpec.ofChange lexLimitsSpec)

/-- ITS FALSE NEIGHBOUR: 'it returns false'. Refute it at one input. -/
def lexLimitsWrong : ChangeSpec := { name := "lexLimits", fn := fun _ => fun
  | [d1, d2] => { results := [.lit (.bool false)], args := [d1, d2] }
  | _ => none }
def LexLimitsWrongFalsely : Prop := lexLimitsRow.holds Try.pinned (OpenSpec.ofChange lexLimitsWrong)

/-- 'semvcslaw01.LexTrivia': WHATEVER THE INPUT: true; the input reads as it did. -/
def lexTriviaSpec : ChangeSpec := { name := "lexTrivia", fn := fun _ => fun
  | [d1, d2] => { results := [.lit (.bool true)], args := [d1, d2] }
  | _ => none }
def lexTriviaRow : OpenClaim := { program := "ytfblbkmmjidknaa", sum := "0a9b52f82e318c3c2f74f7ce98ad81901af3cc782ad967cb43373be0a0911c29", func := "semvcs/semvcslaw01.LexTrivia", spec := "lexTrivia", inPlace := ["internal/bytealg.IndexByteString"], apart := false }
def LexTriviaSaid : Prop := lexTriviaRow.holds Try.pinned (OpenSpec.ofChange lexTriviaSpec)

/-- ITS FALSE NEIGHBOUR: 'it returns false'. Refute it at one input. -/
def lexTriviaWrong : ChangeSpec := { name := "lexTrivia", fn := fun _ => fun
  | [d1, d2] => { results := [.lit (.bool false)], args := [d1, d2] }
  | _ => none }
def LexTriviaWrongFalsely : Prop := lexTriviaRow.holds Try.pinned (OpenSpec.ofChange lexTriviaWrong)

/-- 'semvcslaw01.LexJoins': WHATEVER THE INPUT: true; the input reads as it did. -/
def lexJoinsSpec : ChangeSpec := { name := "lexJoins", fn := fun _ => fun
  | [d1, d2] => { results := [.lit (.bool true)], args := [d1, d2] }
  | _ => none }
def lexJoinsRow : OpenClaim := { program := "ytfblbkmmjidknaa", sum := "0a9b52f82e318c3c2f74f7ce98ad81901af3cc782ad967cb43373be0a0911c29", func := "semvcs/semvcslaw01.LexJoins", spec := "lexJoins", inPlace := ["internal/bytealg.IndexByteString", "internal/abi.NoEscape"], apart := false }
def LexJoinsSaid : Prop := lexJoinsRow.holds Try.pinned (OpenSpec.ofChange lexJoinsSpec)

/-- ITS FALSE NEIGHBOUR: 'it returns false'. Refute it at one input. -/
def lexJoinsWrong : ChangeSpec := { name := "lexJoins", fn := fun _ => fun
  | [d1, d2] => { results := [.lit (.bool false)], args := [d1, d2] }
  | _ => none }
def LexJoinsWrongFalsely : Prop := lexJoinsRow.holds Try.pinned (OpenSpec.ofChange lexJoinsWrong)

/-- 'semvcslaw01.LexKeeps': WHATEVER THE INPUT: true; the input reads as it did. -/
def lexKeepsSpec : ChangeSpec := { name := "lexKeeps", fn := fun _ => fun
  | [d] => { results := [.lit (.bool true)], args := [d] }
  | _ => none }
def lexKeepsRow : OpenClaim := { program := "ytfblbkmmjidknaa", sum := "0a9b52f82e318c3c2f74f7ce98ad81901af3cc782ad967cb43373be0a0911c29", func := "semvcs/semvcslaw01.LexKeeps", spec := "lexKeeps", inPlace := ["internal/bytealg.IndexByteString", "internal/abi.NoEscape"], apart := false }
def LexKeepsSaid : Prop := lexKeepsRow.holds Try.pinned (OpenSpec.ofChange lexKeepsSpec)

/-- ITS FALSE NEIGHBOUR: 'it returns false'. Refute it at one input. -/
def lexKeepsWrong : ChangeSpec := { name := "lexKeeps", fn := fun _ => fun
  | [d] => { results := [.lit (.bool false)], args := [d] }
  | _ => none }
def LexKeepsWrongFalsely : Prop := lexKeepsRow.holds Try.pinned (OpenSpec.ofChange lexKeepsWrong)

/-- 'semvcslaw01.LexAgain': WHATEVER THE INPUT: true; the input reads as it did. -/
def lexAgainSpec : ChangeSpec := { name := "lexAgain", fn := fun _ => fun
  | [d1, d2] => { results := [.lit (.bool true)], args := [d1, d2] }
  | _ => none }
def lexAgainRow : OpenClaim := { program := "ytfblbkmmjidknaa", sum := "0a9b52f82e318c3c2f74f7ce98ad81901af3cc782ad967cb43373be0a0911c29", func := "semvcs/semvcslaw01.LexAgain", spec := "lexAgain", inPlace := ["internal/bytealg.IndexByteString", "internal/abi.NoEscape"], apart := false }
def LexAgainSaid : Prop := lexAgainRow.holds Try.pinned (OpenSpec.ofChange lexAgainSpec)

/-- ITS FALSE NEIGHBOUR: 'it returns false'. Refute it at one input. -/
def lexAgainWrong : ChangeSpec := { name := "lexAgain", fn := fun _ => fun
  | [d1, d2] => { results := [.lit (.bool false)], args := [d1, d2] }
  | _ => none }
def LexAgainWrongFalsely : Prop := lexAgainRow.holds Try.pinned (OpenSpec.ofChange lexAgainWrong)

/- THE SECOND FORM. 'bulk': how many values and letters a reading holds, each counted each time it is reached (what is shared counts as often as it is met; a slice's spare places count too). A statement '..UptoSaid' is the law's where the arguments, and the package variables that the reading takes, are together of bulk at most 1048576: NARROWER than '..Said'. Prove '..Said' where nothing that the law and all that it calls make is longer than what came in: it says more and counts as full. Else prove '..UptoSaid'. A law counts once. -/
mutual
def uptoBulk {H : Type} : DataW H → Nat
  | .lit (.string bytes) => bytes.length + 1
  | .lit _ => 1
  | .nil => 1
  | .ptr d => uptoBulk d + 1
  | .slice elems spare => uptoBulkAll elems + uptoBulkAll spare + 1
  | .agg parts => uptoBulkAll parts + 1
  | .iface _ d => uptoBulk d + 1
  | .map entries => uptoBulkEntries entries + 1
  | .held _ => 1
def uptoBulkAll {H : Type} : List (DataW H) → Nat
  | [] => 0
  | d :: r => uptoBulk d + uptoBulkAll r
def uptoBulkEntries {H : Type} : List (Lit × DataW H) → Nat
  | [] => 0
  | x :: r => uptoBulkEntry x + uptoBulkEntries r
def uptoBulkEntry {H : Type} : Lit × DataW H → Nat
  | (.string bytes, d) => bytes.length + uptoBulk d + 1
  | (_, d) => uptoBulk d + 1
 end
def uptoSmall : (H : Type) → List (DataW H) → Bool := fun _ ds => decide (uptoBulkAll ds ≤ 1048576)
def OpenSpec.upto (s : _root_.Go.ChangeSpec) : _root_.Go.OpenSpec := { _root_.Go.OpenSpec.ofChange s with cond := some uptoSmall }

/-- 'semvcslaw01.LexScans', WHERE WHAT IT READS IS OF BULK AT MOST 1048576: true; the input reads as it did. -/
def lexScansUptoRow : OpenClaim := { program := "ytfblbkmmjidknaa", sum := "0a9b52f82e318c3c2f74f7ce98ad81901af3cc782ad967cb43373be0a0911c29", func := "semvcs/semvcslaw01.LexScans", spec := "lexScans", inPlace := ["internal/bytealg.IndexByteString"], apart := false, narrowed := true }
def LexScansUptoSaid : Prop := lexScansUptoRow.holds Try.pinned (OpenSpec.upto lexScansSpec)

/-- 'semvcslaw01.LexClasses', WHERE WHAT IT READS IS OF BULK AT MOST 1048576: true; the input reads as it did. -/
def lexClassesUptoRow : OpenClaim := { program := "ytfblbkmmjidknaa", sum := "0a9b52f82e318c3c2f74f7ce98ad81901af3cc782ad967cb43373be0a0911c29", func := "semvcs/semvcslaw01.LexClasses", spec := "lexClasses", inPlace := ["internal/bytealg.IndexByteString"], apart := false, narrowed := true }
def LexClassesUptoSaid : Prop := lexClassesUptoRow.holds Try.pinned (OpenSpec.upto lexClassesSpec)

/-- 'semvcslaw01.LexLimits', WHERE WHAT IT READS IS OF BULK AT MOST 1048576: true; the input reads as it did. -/
def lexLimitsUptoRow : OpenClaim := { program := "ytfblbkmmjidknaa", sum := "0a9b52f82e318c3c2f74f7ce98ad81901af3cc782ad967cb43373be0a0911c29", func := "semvcs/semvcslaw01.LexLimits", spec := "lexLimits", inPlace := ["internal/bytealg.IndexByteString"], apart := false, narrowed := true }
def LexLimitsUptoSaid : Prop := lexLimitsUptoRow.holds Try.pinned (OpenSpec.upto lexLimitsSpec)

/-- 'semvcslaw01.LexTrivia', WHERE WHAT IT READS IS OF BULK AT MOST 1048576: true; the input reads as it did. -/
def lexTriviaUptoRow : OpenClaim := { program := "ytfblbkmmjidknaa", sum := "0a9b52f82e318c3c2f74f7ce98ad81901af3cc782ad967cb43373be0a0911c29", func := "semvcs/semvcslaw01.LexTrivia", spec := "lexTrivia", inPlace := ["internal/bytealg.IndexByteString"], apart := false, narrowed := true }
def LexTriviaUptoSaid : Prop := lexTriviaUptoRow.holds Try.pinned (OpenSpec.upto lexTriviaSpec)

/-- 'semvcslaw01.LexJoins', WHERE WHAT IT READS IS OF BULK AT MOST 1048576: true; the input reads as it did. -/
def lexJoinsUptoRow : OpenClaim := { program := "ytfblbkmmjidknaa", sum := "0a9b52f82e318c3c2f74f7ce98ad81901af3cc782ad967cb43373be0a0911c29", func := "semvcs/semvcslaw01.LexJoins", spec := "lexJoins", inPlace := ["internal/bytealg.IndexByteString", "internal/abi.NoEscape"], apart := false, narrowed := true }
def LexJoinsUptoSaid : Prop := lexJoinsUptoRow.holds Try.pinned (OpenSpec.upto lexJoinsSpec)

/-- 'semvcslaw01.LexKeeps', WHERE WHAT IT READS IS OF BULK AT MOST 1048576: true; the input reads as it did. -/
def lexKeepsUptoRow : OpenClaim := { program := "ytfblbkmmjidknaa", sum := "0a9b52f82e318c3c2f74f7ce98ad81901af3cc782ad967cb43373be0a0911c29", func := "semvcs/semvcslaw01.LexKeeps", spec := "lexKeeps", inPlace := ["internal/bytealg.IndexByteString", "internal/abi.NoEscape"], apart := false, narrowed := true }
def LexKeepsUptoSaid : Prop := lexKeepsUptoRow.holds Try.pinned (OpenSpec.upto lexKeepsSpec)

/-- 'semvcslaw01.LexAgain', WHERE WHAT IT READS IS OF BULK AT MOST 1048576: true; the input reads as it did. -/
def lexAgainUptoRow : OpenClaim := { program := "ytfblbkmmjidknaa", sum := "0a9b52f82e318c3c2f74f7ce98ad81901af3cc782ad967cb43373be0a0911c29", func := "semvcs/semvcslaw01.LexAgain", spec := "lexAgain", inPlace := ["internal/bytealg.IndexByteString", "internal/abi.NoEscape"], apart := false, narrowed := true }
def LexAgainUptoSaid : Prop := lexAgainUptoRow.holds Try.pinned (OpenSpec.upto lexAgainSpec)

end Rows
end Go.Proofs.Ytfblbkmmjidknaa
