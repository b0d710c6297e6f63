/-
  NARROWER THAN 'FOR EVERY INPUT', by the rows' own cells (each row's printed sentence says how): TermTells: loops · UnifyTells: loops · UnifyMost: loops · HeapBuilds: loops · SolveSolves: loops · SolveMore: loops · HeapHangs: loops · MachineChecks: loops.
  DERIVED. THE GIVEN ROWS OF THIS SEAT. 10 by the template 'for every input the law returns true; each argument reads behind the call as it read before'; 0 by the template 'total and deterministic' (their statements: YtikmgiapjigghaaTotals.lean).
  GIVEN WITH THE SEED: the statements are not yours to turn. If you find one false, say at which input.
  Laid BY PROGRAM, IN A SANDBOX (cutbox-rows.mjs): the forced cells as the released guide's own fill.sh prints them over the translation 24d6061adbeb24c9… (all of the seat's roots in one cut). By AI agents, Wed Nov 11 2026. No macro, syntax, notation, axiom, sorry.
-/
import Derived.Test.YtikmgiapjigghaaChecked
import GoSem.Claim
import GoSem.ClaimJoined
import GoSem.ClaimMapViews
import Derived.JoinedTies
import Derived.KernelRfl
namespace Go.Proofs.Ytikmgiapjigghaa
/- THE CELL 'sum', in the pinned program and in every row, IS THE sha256 OF THE DUMP (.gsa) THAT YtikmgiapjigghaaProg.lean LOADS. Nothing in Lean hashes anything: it is a label: what it is worth is what the hold of that sum in a sandbox is worth. -/
noncomputable def Try.pinned : Pinned := { name := "ytikmgiapjigghaa", sum := "24d6061adbeb24c95f1cbce0c4eea6f68642055ecf3d98c686e83e6011a0c631", checked := Try.checked }
namespace Rows
def none {H : Type} : Left H := { results := [], args := [] }

/-- 'palisadelaw.TermTells': WHATEVER THE INPUT: true; the input reads as it did. -/
def termTellsSpec : ChangeSpec := { name := "termTells", fn := fun _ => fun
  | [d1, d2, d3] => { results := [.lit (.bool true)], args := [d1, d2, d3] }
  | _ => none }
def termTellsRow : OpenClaim := { program := "ytikmgiapjigghaa", sum := "24d6061adbeb24c95f1cbce0c4eea6f68642055ecf3d98c686e83e6011a0c631", func := "palisade/palisadelaw.TermTells", spec := "termTells", unfollowed := true, recurses := true, loops := true, apart := false }
def TermTellsSaid : Prop := termTellsRow.holds Try.pinned (OpenSpec.ofChange termTellsSpec)

/-- ITS FALSE NEIGHBOUR: 'it returns false'. Refute it at one input. -/
def termTellsWrong : ChangeSpec := { name := "termTells", fn := fun _ => fun
  | [d1, d2, d3] => { results := [.lit (.bool false)], args := [d1, d2, d3] }
  | _ => none }
def TermTellsWrongFalsely : Prop := termTellsRow.holds Try.pinned (OpenSpec.ofChange termTellsWrong)

/-- 'palisadelaw.UnifyTells': WHATEVER THE INPUT: true; the input reads as it did. -/
def unifyTellsSpec : ChangeSpec := { name := "unifyTells", fn := fun _ => fun
  | [d1, d2] => { results := [.lit (.bool true)], args := [d1, d2] }
  | _ => none }
def unifyTellsRow : OpenClaim := { program := "ytikmgiapjigghaa", sum := "24d6061adbeb24c95f1cbce0c4eea6f68642055ecf3d98c686e83e6011a0c631", func := "palisade/palisadelaw.UnifyTells", spec := "unifyTells", unfollowed := true, recurses := true, loops := true, apart := false }
def UnifyTellsSaid : Prop := unifyTellsRow.holds Try.pinned (OpenSpec.ofChange unifyTellsSpec)

/-- ITS FALSE NEIGHBOUR: 'it returns false'. Refute it at one input. -/
def unifyTellsWrong : ChangeSpec := { name := "unifyTells", fn := fun _ => fun
  | [d1, d2] => { results := [.lit (.bool false)], args := [d1, d2] }
  | _ => none }
def UnifyTellsWrongFalsely : Prop := unifyTellsRow.holds Try.pinned (OpenSpec.ofChange unifyTellsWrong)

/-- 'palisadelaw.UnifyMost': WHATEVER THE INPUT: true; the input reads as it did. -/
def unifyMostSpec : ChangeSpec := { name := "unifyMost", fn := fun _ => fun
  | [d1, d2, d3] => { results := [.lit (.bool true)], args := [d1, d2, d3] }
  | _ => none }
def unifyMostRow : OpenClaim := { program := "ytikmgiapjigghaa", sum := "24d6061adbeb24c95f1cbce0c4eea6f68642055ecf3d98c686e83e6011a0c631", func := "palisade/palisadelaw.UnifyMost", spec := "unifyMost", unfollowed := true, recurses := true, loops := true, apart := false }
def UnifyMostSaid : Prop := unifyMostRow.holds Try.pinned (OpenSpec.ofChange unifyMostSpec)

/-- ITS FALSE NEIGHBOUR: 'it returns false'. Refute it at one input. -/
def unifyMostWrong : ChangeSpec := { name := "unifyMost", fn := fun _ => fun
  | [d1, d2, d3] => { results := [.lit (.bool false)], args := [d1, d2, d3] }
  | _ => none }
def UnifyMostWrongFalsely : Prop := unifyMostRow.holds Try.pinned (OpenSpec.ofChange unifyMostWrong)

/-- 'palisadelaw.HeapReads': WHATEVER THE INPUT: true; the input reads as it did. -/
def heapReadsSpec : ChangeSpec := { name := "heapReads", fn := fun _ => fun
  | [d1, d2] => { results := [.lit (.bool true)], args := [d1, d2] }
  | _ => none }
def heapReadsRow : OpenClaim := { program := "ytikmgiapjigghaa", sum := "24d6061adbeb24c95f1cbce0c4eea6f68642055ecf3d98c686e83e6011a0c631", func := "palisade/palisadelaw.HeapReads", spec := "heapReads", unfollowed := true, recurses := true, apart := false }
def HeapReadsSaid : Prop := heapReadsRow.holds Try.pinned (OpenSpec.ofChange heapReadsSpec)

/-- ITS FALSE NEIGHBOUR: 'it returns false'. Refute it at one input. -/
def heapReadsWrong : ChangeSpec := { name := "heapReads", fn := fun _ => fun
  | [d1, d2] => { results := [.lit (.bool false)], args := [d1, d2] }
  | _ => none }
def HeapReadsWrongFalsely : Prop := heapReadsRow.holds Try.pinned (OpenSpec.ofChange heapReadsWrong)

/-- 'palisadelaw.HeapBuilds': WHATEVER THE INPUT: true; the input reads as it did. -/
def heapBuildsSpec : ChangeSpec := { name := "heapBuilds", fn := fun _ => fun
  | [d1, d2] => { results := [.lit (.bool true)], args := [d1, d2] }
  | _ => none }
def heapBuildsRow : OpenClaim := { program := "ytikmgiapjigghaa", sum := "24d6061adbeb24c95f1cbce0c4eea6f68642055ecf3d98c686e83e6011a0c631", func := "palisade/palisadelaw.HeapBuilds", spec := "heapBuilds", unfollowed := true, recurses := true, loops := true, apart := false }
def HeapBuildsSaid : Prop := heapBuildsRow.holds Try.pinned (OpenSpec.ofChange heapBuildsSpec)

/-- ITS FALSE NEIGHBOUR: 'it returns false'. Refute it at one input. -/
def heapBuildsWrong : ChangeSpec := { name := "heapBuilds", fn := fun _ => fun
  | [d1, d2] => { results := [.lit (.bool false)], args := [d1, d2] }
  | _ => none }
def HeapBuildsWrongFalsely : Prop := heapBuildsRow.holds Try.pinned (OpenSpec.ofChange heapBuildsWrong)

/-- 'palisadelaw.HeapUnifies': WHATEVER THE INPUT: true; the input reads as it did. -/
def heapUnifiesSpec : ChangeSpec := { name := "heapUnifies", fn := fun _ => fun
  | [d1, d2, d3] => { results := [.lit (.bool true)], args := [d1, d2, d3] }
  | _ => none }
def heapUnifiesRow : OpenClaim := { program := "ytikmgiapjigghaa", sum := "24d6061adbeb24c95f1cbce0c4eea6f68642055ecf3d98c686e83e6011a0c631", func := "palisade/palisadelaw.HeapUnifies", spec := "heapUnifies", unfollowed := true, recurses := true, apart := false }
def HeapUnifiesSaid : Prop := heapUnifiesRow.holds Try.pinned (OpenSpec.ofChange heapUnifiesSpec)

/-- ITS FALSE NEIGHBOUR: 'it returns false'. Refute it at one input. -/
def heapUnifiesWrong : ChangeSpec := { name := "heapUnifies", fn := fun _ => fun
  | [d1, d2, d3] => { results := [.lit (.bool false)], args := [d1, d2, d3] }
  | _ => none }
def HeapUnifiesWrongFalsely : Prop := heapUnifiesRow.holds Try.pinned (OpenSpec.ofChange heapUnifiesWrong)

/-- 'palisadelaw.SolveSolves': WHATEVER THE INPUT: true; the input reads as it did. -/
def solveSolvesSpec : ChangeSpec := { name := "solveSolves", fn := fun _ => fun
  | [d1, d2, d3] => { results := [.lit (.bool true)], args := [d1, d2, d3] }
  | _ => none }
def solveSolvesRow : OpenClaim := { program := "ytikmgiapjigghaa", sum := "24d6061adbeb24c95f1cbce0c4eea6f68642055ecf3d98c686e83e6011a0c631", func := "palisade/palisadelaw.SolveSolves", spec := "solveSolves", unfollowed := true, recurses := true, loops := true, apart := false }
def SolveSolvesSaid : Prop := solveSolvesRow.holds Try.pinned (OpenSpec.ofChange solveSolvesSpec)

/-- ITS FALSE NEIGHBOUR: 'it returns false'. Refute it at one input. -/
def solveSolvesWrong : ChangeSpec := { name := "solveSolves", fn := fun _ => fun
  | [d1, d2, d3] => { results := [.lit (.bool false)], args := [d1, d2, d3] }
  | _ => none }
def SolveSolvesWrongFalsely : Prop := solveSolvesRow.holds Try.pinned (OpenSpec.ofChange solveSolvesWrong)

/-- 'palisadelaw.SolveMore': WHATEVER THE INPUT: true; the input reads as it did. -/
def solveMoreSpec : ChangeSpec := { name := "solveMore", fn := fun _ => fun
  | [d1, d2, d3, d4] => { results := [.lit (.bool true)], args := [d1, d2, d3, d4] }
  | _ => none }
def solveMoreRow : OpenClaim := { program := "ytikmgiapjigghaa", sum := "24d6061adbeb24c95f1cbce0c4eea6f68642055ecf3d98c686e83e6011a0c631", func := "palisade/palisadelaw.SolveMore", spec := "solveMore", unfollowed := true, recurses := true, loops := true, apart := false }
def SolveMoreSaid : Prop := solveMoreRow.holds Try.pinned (OpenSpec.ofChange solveMoreSpec)

/-- ITS FALSE NEIGHBOUR: 'it returns false'. Refute it at one input. -/
def solveMoreWrong : ChangeSpec := { name := "solveMore", fn := fun _ => fun
  | [d1, d2, d3, d4] => { results := [.lit (.bool false)], args := [d1, d2, d3, d4] }
  | _ => none }
def SolveMoreWrongFalsely : Prop := solveMoreRow.holds Try.pinned (OpenSpec.ofChange solveMoreWrong)

/-- 'palisadelaw.HeapHangs': WHATEVER THE INPUT: true; the input reads as it did. -/
def heapHangsSpec : ChangeSpec := { name := "heapHangs", fn := fun _ => fun
  | [d1, d2] => { results := [.lit (.bool true)], args := [d1, d2] }
  | _ => none }
def heapHangsRow : OpenClaim := { program := "ytikmgiapjigghaa", sum := "24d6061adbeb24c95f1cbce0c4eea6f68642055ecf3d98c686e83e6011a0c631", func := "palisade/palisadelaw.HeapHangs", spec := "heapHangs", unfollowed := true, recurses := true, loops := true, apart := false }
def HeapHangsSaid : Prop := heapHangsRow.holds Try.pinned (OpenSpec.ofChange heapHangsSpec)

/-- ITS FALSE NEIGHBOUR: 'it returns false'. Refute it at one input. -/
def heapHangsWrong : ChangeSpec := { name := "heapHangs", fn := fun _ => fun
  | [d1, d2] => { results := [.lit (.bool false)], args := [d1, d2] }
  | _ => none }
def HeapHangsWrongFalsely : Prop := heapHangsRow.holds Try.pinned (OpenSpec.ofChange heapHangsWrong)

/-- 'palisadelaw.MachineChecks': WHATEVER THE INPUT: true; the input reads as it did. -/
def machineChecksSpec : ChangeSpec := { name := "machineChecks", fn := fun _ => fun
  | [d1, d2, d3] => { results := [.lit (.bool true)], args := [d1, d2, d3] }
  | _ => none }
def machineChecksRow : OpenClaim := { program := "ytikmgiapjigghaa", sum := "24d6061adbeb24c95f1cbce0c4eea6f68642055ecf3d98c686e83e6011a0c631", func := "palisade/palisadelaw.MachineChecks", spec := "machineChecks", unfollowed := true, recurses := true, loops := true, apart := false }
def MachineChecksSaid : Prop := machineChecksRow.holds Try.pinned (OpenSpec.ofChange machineChecksSpec)

/-- ITS FALSE NEIGHBOUR: 'it returns false'. Refute it at one input. -/
def machineChecksWrong : ChangeSpec := { name := "machineChecks", fn := fun _ => fun
  | [d1, d2, d3] => { results := [.lit (.bool false)], args := [d1, d2, d3] }
  | _ => none }
def MachineChecksWrongFalsely : Prop := machineChecksRow.holds Try.pinned (OpenSpec.ofChange machineChecksWrong)

/- THE SECOND FORM. 'bulk': how many values and letters a reading holds, each counted each time it is reached (what is shared counts as often as it is met; a slice's spare places count too). A statement '..UptoSaid' is the law's where the arguments, and the package variables that the reading takes, are together of bulk at most 1048576: NARROWER than '..Said'. Prove '..Said' where nothing that the law and all that it calls make is longer than what came in: it says more and counts as full. Else prove '..UptoSaid'. A law counts once. -/
mutual
def uptoBulk {H : Type} : DataW H → Nat
  | .lit (.string bytes) => bytes.length + 1
  | .lit _ => 1
  | .nil => 1
  | .ptr d => uptoBulk d + 1
  | .slice elems spare => uptoBulkAll elems + uptoBulkAll spare + 1
  | .agg parts => uptoBulkAll parts + 1
  | .iface _ d => uptoBulk d + 1
  | .map entries => uptoBulkEntries entries + 1
  | .held _ => 1
def uptoBulkAll {H : Type} : List (DataW H) → Nat
  | [] => 0
  | d :: r => uptoBulk d + uptoBulkAll r
def uptoBulkEntries {H : Type} : List (Lit × DataW H) → Nat
  | [] => 0
  | x :: r => uptoBulkEntry x + uptoBulkEntries r
def uptoBulkEntry {H : Type} : Lit × DataW H → Nat
  | (.string bytes, d) => bytes.length + uptoBulk d + 1
  | (_, d) => uptoBulk d + 1
 end
def uptoSmall : (H : Type) → List (DataW H) → Bool := fun _ ds => decide (uptoBulkAll ds ≤ 1048576)
def OpenSpec.upto (s : _root_.Go.ChangeSpec) : _root_.Go.OpenSpec := { _root_.Go.OpenSpec.ofChange s with cond := some uptoSmall }

/-- 'palisadelaw.TermTells', WHERE WHAT IT READS IS OF BULK AT MOST 1048576: true; the input reads as it did. -/
def termTellsUptoRow : OpenClaim := { program := "ytikmgiapjigghaa", sum := "24d6061adbeb24c95f1cbce0c4eea6f68642055ecf3d98c686e83e6011a0c631", func := "palisade/palisadelaw.TermTells", spec := "termTells", unfollowed := true, recurses := true, loops := true, apart := false, narrowed := true }
def TermTellsUptoSaid : Prop := termTellsUptoRow.holds Try.pinned (OpenSpec.upto termTellsSpec)

/-- 'palisadelaw.UnifyTells', WHERE WHAT IT READS IS OF BULK AT MOST 1048576: true; the input reads as it did. -/
def unifyTellsUptoRow : OpenClaim := { program := "ytikmgiapjigghaa", sum := "24d6061adbeb24c95f1cbce0c4eea6f68642055ecf3d98c686e83e6011a0c631", func := "palisade/palisadelaw.UnifyTells", spec := "unifyTells", unfollowed := true, recurses := true, loops := true, apart := false, narrowed := true }
def UnifyTellsUptoSaid : Prop := unifyTellsUptoRow.holds Try.pinned (OpenSpec.upto unifyTellsSpec)

/-- 'palisadelaw.UnifyMost', WHERE WHAT IT READS IS OF BULK AT MOST 1048576: true; the input reads as it did. -/
def unifyMostUptoRow : OpenClaim := { program := "ytikmgiapjigghaa", sum := "24d6061adbeb24c95f1cbce0c4eea6f68642055ecf3d98c686e83e6011a0c631", func := "palisade/palisadelaw.UnifyMost", spec := "unifyMost", unfollowed := true, recurses := true, loops := true, apart := false, narrowed := true }
def UnifyMostUptoSaid : Prop := unifyMostUptoRow.holds Try.pinned (OpenSpec.upto unifyMostSpec)

/-- 'palisadelaw.HeapReads', WHERE WHAT IT READS IS OF BULK AT MOST 1048576: true; the input reads as it did. -/
def heapReadsUptoRow : OpenClaim := { program := "ytikmgiapjigghaa", sum := "24d6061adbeb24c95f1cbce0c4eea6f68642055ecf3d98c686e83e6011a0c631", func := "palisade/palisadelaw.HeapReads", spec := "heapReads", unfollowed := true, recurses := true, apart := false, narrowed := true }
def HeapReadsUptoSaid : Prop := heapReadsUptoRow.holds Try.pinned (OpenSpec.upto heapReadsSpec)

/-- 'palisadelaw.HeapBuilds', WHERE WHAT IT READS IS OF BULK AT MOST 1048576: true; the input reads as it did. -/
def heapBuildsUptoRow : OpenClaim := { program := "ytikmgiapjigghaa", sum := "24d6061adbeb24c95f1cbce0c4eea6f68642055ecf3d98c686e83e6011a0c631", func := "palisade/palisadelaw.HeapBuilds", spec := "heapBuilds", unfollowed := true, recurses := true, loops := true, apart := false, narrowed := true }
def HeapBuildsUptoSaid : Prop := heapBuildsUptoRow.holds Try.pinned (OpenSpec.upto heapBuildsSpec)

/-- 'palisadelaw.HeapUnifies', WHERE WHAT IT READS IS OF BULK AT MOST 1048576: true; the input reads as it did. -/
def heapUnifiesUptoRow : OpenClaim := { program := "ytikmgiapjigghaa", sum := "24d6061adbeb24c95f1cbce0c4eea6f68642055ecf3d98c686e83e6011a0c631", func := "palisade/palisadelaw.HeapUnifies", spec := "heapUnifies", unfollowed := true, recurses := true, apart := false, narrowed := true }
def HeapUnifiesUptoSaid : Prop := heapUnifiesUptoRow.holds Try.pinned (OpenSpec.upto heapUnifiesSpec)

/-- 'palisadelaw.SolveSolves', WHERE WHAT IT READS IS OF BULK AT MOST 1048576: true; the input reads as it did. -/
def solveSolvesUptoRow : OpenClaim := { program := "ytikmgiapjigghaa", sum := "24d6061adbeb24c95f1cbce0c4eea6f68642055ecf3d98c686e83e6011a0c631", func := "palisade/palisadelaw.SolveSolves", spec := "solveSolves", unfollowed := true, recurses := true, loops := true, apart := false, narrowed := true }
def SolveSolvesUptoSaid : Prop := solveSolvesUptoRow.holds Try.pinned (OpenSpec.upto solveSolvesSpec)

/-- 'palisadelaw.SolveMore', WHERE WHAT IT READS IS OF BULK AT MOST 1048576: true; the input reads as it did. -/
def solveMoreUptoRow : OpenClaim := { program := "ytikmgiapjigghaa", sum := "24d6061adbeb24c95f1cbce0c4eea6f68642055ecf3d98c686e83e6011a0c631", func := "palisade/palisadelaw.SolveMore", spec := "solveMore", unfollowed := true, recurses := true, loops := true, apart := false, narrowed := true }
def SolveMoreUptoSaid : Prop := solveMoreUptoRow.holds Try.pinned (OpenSpec.upto solveMoreSpec)

/-- 'palisadelaw.HeapHangs', WHERE WHAT IT READS IS OF BULK AT MOST 1048576: true; the input reads as it did. -/
def heapHangsUptoRow : OpenClaim := { program := "ytikmgiapjigghaa", sum := "24d6061adbeb24c95f1cbce0c4eea6f68642055ecf3d98c686e83e6011a0c631", func := "palisade/palisadelaw.HeapHangs", spec := "heapHangs", unfollowed := true, recurses := true, loops := true, apart := false, narrowed := true }
def HeapHangsUptoSaid : Prop := heapHangsUptoRow.holds Try.pinned (OpenSpec.upto heapHangsSpec)

/-- 'palisadelaw.MachineChecks', WHERE WHAT IT READS IS OF BULK AT MOST 1048576: true; the input reads as it did. -/
def machineChecksUptoRow : OpenClaim := { program := "ytikmgiapjigghaa", sum := "24d6061adbeb24c95f1cbce0c4eea6f68642055ecf3d98c686e83e6011a0c631", func := "palisade/palisadelaw.MachineChecks", spec := "machineChecks", unfollowed := true, recurses := true, loops := true, apart := false, narrowed := true }
def MachineChecksUptoSaid : Prop := machineChecksUptoRow.holds Try.pinned (OpenSpec.upto machineChecksSpec)

end Rows
end Go.Proofs.Ytikmgiapjigghaa
