/-
  NARROWER THAN 'FOR EVERY INPUT', by the rows' own cells (each row's printed sentence says how): MachineSteps: loops · CollectTells: loops · CollectSame: loops · MachineRuns: loops.
  DERIVED. THE GIVEN ROWS OF THIS SEAT. 4 by the template 'for every input the law returns true; each argument reads behind the call as it read before'; 0 by the template 'total and deterministic' (their statements: YtikmgiapjigghabTotals.lean).
  GIVEN WITH THE SEED: the statements are not yours to turn. If you find one false, say at which input.
  Laid BY PROGRAM, IN A SANDBOX (cutbox-rows.mjs): the forced cells as the released guide's own fill.sh prints them over the translation bbd52b349b6764fd… (all of the seat's roots in one cut). By AI agents, Wed Nov 11 2026. No macro, syntax, notation, axiom, sorry.
-/
import Derived.Test.YtikmgiapjigghabChecked
import GoSem.Claim
import GoSem.ClaimJoined
import GoSem.ClaimMapViews
import Derived.JoinedTies
import Derived.KernelRfl
namespace Go.Proofs.Ytikmgiapjigghab
/- THE CELL 'sum', in the pinned program and in every row, IS THE sha256 OF THE DUMP (.gsa) THAT YtikmgiapjigghabProg.lean LOADS. Nothing in Lean hashes anything: it is a label: what it is worth is what the hold of that sum in a sandbox is worth. -/
noncomputable def Try.pinned : Pinned := { name := "ytikmgiapjigghab", sum := "bbd52b349b6764fdd4b61dbeabf362eab80955915e91aaa45dcabd086abf0ced", checked := Try.checked }
namespace Rows
def none {H : Type} : Left H := { results := [], args := [] }

/-- 'palisadelaw.MachineSteps': WHATEVER THE INPUT: true; the input reads as it did. -/
def machineStepsSpec : ChangeSpec := { name := "machineSteps", fn := fun _ => fun
  | [d1, d2] => { results := [.lit (.bool true)], args := [d1, d2] }
  | _ => none }
def machineStepsRow : OpenClaim := { program := "ytikmgiapjigghab", sum := "bbd52b349b6764fdd4b61dbeabf362eab80955915e91aaa45dcabd086abf0ced", func := "palisade/palisadelaw.MachineSteps", spec := "machineSteps", unfollowed := true, recurses := true, loops := true, apart := false }
def MachineStepsSaid : Prop := machineStepsRow.holds Try.pinned (OpenSpec.ofChange machineStepsSpec)

/-- ITS FALSE NEIGHBOUR: 'it returns false'. Refute it at one input. -/
def machineStepsWrong : ChangeSpec := { name := "machineSteps", fn := fun _ => fun
  | [d1, d2] => { results := [.lit (.bool false)], args := [d1, d2] }
  | _ => none }
def MachineStepsWrongFalsely : Prop := machineStepsRow.holds Try.pinned (OpenSpec.ofChange machineStepsWrong)

/-- 'palisadelaw.CollectTells': WHATEVER THE INPUT: true; the input reads as it did. -/
def collectTellsSpec : ChangeSpec := { name := "collectTells", fn := fun _ => fun
  | [d1, d2] => { results := [.lit (.bool true)], args := [d1, d2] }
  | _ => none }
def collectTellsRow : OpenClaim := { program := "ytikmgiapjigghab", sum := "bbd52b349b6764fdd4b61dbeabf362eab80955915e91aaa45dcabd086abf0ced", func := "palisade/palisadelaw.CollectTells", spec := "collectTells", unfollowed := true, recurses := true, loops := true, apart := false }
def CollectTellsSaid : Prop := collectTellsRow.holds Try.pinned (OpenSpec.ofChange collectTellsSpec)

/-- ITS FALSE NEIGHBOUR: 'it returns false'. Refute it at one input. -/
def collectTellsWrong : ChangeSpec := { name := "collectTells", fn := fun _ => fun
  | [d1, d2] => { results := [.lit (.bool false)], args := [d1, d2] }
  | _ => none }
def CollectTellsWrongFalsely : Prop := collectTellsRow.holds Try.pinned (OpenSpec.ofChange collectTellsWrong)

/-- 'palisadelaw.CollectSame': WHATEVER THE INPUT: true; the input reads as it did. -/
def collectSameSpec : ChangeSpec := { name := "collectSame", fn := fun _ => fun
  | [d1, d2, d3] => { results := [.lit (.bool true)], args := [d1, d2, d3] }
  | _ => none }
def collectSameRow : OpenClaim := { program := "ytikmgiapjigghab", sum := "bbd52b349b6764fdd4b61dbeabf362eab80955915e91aaa45dcabd086abf0ced", func := "palisade/palisadelaw.CollectSame", spec := "collectSame", unfollowed := true, recurses := true, loops := true, apart := false }
def CollectSameSaid : Prop := collectSameRow.holds Try.pinned (OpenSpec.ofChange collectSameSpec)

/-- ITS FALSE NEIGHBOUR: 'it returns false'. Refute it at one input. -/
def collectSameWrong : ChangeSpec := { name := "collectSame", fn := fun _ => fun
  | [d1, d2, d3] => { results := [.lit (.bool false)], args := [d1, d2, d3] }
  | _ => none }
def CollectSameWrongFalsely : Prop := collectSameRow.holds Try.pinned (OpenSpec.ofChange collectSameWrong)

/-- 'palisadelaw.MachineRuns': WHATEVER THE INPUT: true; the input reads as it did. -/
def machineRunsSpec : ChangeSpec := { name := "machineRuns", fn := fun _ => fun
  | [d1, d2, d3] => { results := [.lit (.bool true)], args := [d1, d2, d3] }
  | _ => none }
def machineRunsRow : OpenClaim := { program := "ytikmgiapjigghab", sum := "bbd52b349b6764fdd4b61dbeabf362eab80955915e91aaa45dcabd086abf0ced", func := "palisade/palisadelaw.MachineRuns", spec := "machineRuns", unfollowed := true, recurses := true, loops := true, apart := false }
def MachineRunsSaid : Prop := machineRunsRow.holds Try.pinned (OpenSpec.ofChange machineRunsSpec)

/-- ITS FALSE NEIGHBOUR: 'it returns false'. Refute it at one input. -/
def machineRunsWrong : ChangeSpec := { name := "machineRuns", fn := fun _ => fun
  | [d1, d2, d3] => { results := [.lit (.bool false)], args := [d1, d2, d3] }
  | _ => none }
def MachineRunsWrongFalsely : Prop := machineRunsRow.holds Try.pinned (OpenSpec.ofChange machineRunsWrong)

/- THE SECOND FORM. 'bulk': how many values and letters a reading holds, each counted each time it is reached (what is shared counts as often as it is met; a slice's spare places count too). A statement '..UptoSaid' is the law's where the arguments, and the package variables that the reading takes, are together of bulk at most 1048576: NARROWER than '..Said'. Prove '..Said' where nothing that the law and all that it calls make is longer than what came in: it says more and counts as full. Else prove '..UptoSaid'. A law counts once. -/
mutual
def uptoBulk {H : Type} : DataW H → Nat
  | .lit (.string bytes) => bytes.length + 1
  | .lit _ => 1
  | .nil => 1
  | .ptr d => uptoBulk d + 1
  | .slice elems spare => uptoBulkAll elems + uptoBulkAll spare + 1
  | .agg parts => uptoBulkAll parts + 1
  | .iface _ d => uptoBulk d + 1
  | .map entries => uptoBulkEntries entries + 1
  | .held _ => 1
def uptoBulkAll {H : Type} : List (DataW H) → Nat
  | [] => 0
  | d :: r => uptoBulk d + uptoBulkAll r
def uptoBulkEntries {H : Type} : List (Lit × DataW H) → Nat
  | [] => 0
  | x :: r => uptoBulkEntry x + uptoBulkEntries r
def uptoBulkEntry {H : Type} : Lit × DataW H → Nat
  | (.string bytes, d) => bytes.length + uptoBulk d + 1
  | (_, d) => uptoBulk d + 1
 end
def uptoSmall : (H : Type) → List (DataW H) → Bool := fun _ ds => decide (uptoBulkAll ds ≤ 1048576)
def OpenSpec.upto (s : _root_.Go.ChangeSpec) : _root_.Go.OpenSpec := { _root_.Go.OpenSpec.ofChange s with cond := some uptoSmall }

/-- 'palisadelaw.MachineSteps', WHERE WHAT IT READS IS OF BULK AT MOST 1048576: true; the input reads as it did. -/
def machineStepsUptoRow : OpenClaim := { program := "ytikmgiapjigghab", sum := "bbd52b349b6764fdd4b61dbeabf362eab80955915e91aaa45dcabd086abf0ced", func := "palisade/palisadelaw.MachineSteps", spec := "machineSteps", unfollowed := true, recurses := true, loops := true, apart := false, narrowed := true }
def MachineStepsUptoSaid : Prop := machineStepsUptoRow.holds Try.pinned (OpenSpec.upto machineStepsSpec)

/-- 'palisadelaw.CollectTells', WHERE WHAT IT READS IS OF BULK AT MOST 1048576: true; the input reads as it did. -/
def collectTellsUptoRow : OpenClaim := { program := "ytikmgiapjigghab", sum := "bbd52b349b6764fdd4b61dbeabf362eab80955915e91aaa45dcabd086abf0ced", func := "palisade/palisadelaw.CollectTells", spec := "collectTells", unfollowed := true, recurses := true, loops := true, apart := false, narrowed := true }
def CollectTellsUptoSaid : Prop := collectTellsUptoRow.holds Try.pinned (OpenSpec.upto collectTellsSpec)

/-- 'palisadelaw.CollectSame', WHERE WHAT IT READS IS OF BULK AT MOST 1048576: true; the input reads as it did. -/
def collectSameUptoRow : OpenClaim := { program := "ytikmgiapjigghab", sum := "bbd52b349b6764fdd4b61dbeabf362eab80955915e91aaa45dcabd086abf0ced", func := "palisade/palisadelaw.CollectSame", spec := "collectSame", unfollowed := true, recurses := true, loops := true, apart := false, narrowed := true }
def CollectSameUptoSaid : Prop := collectSameUptoRow.holds Try.pinned (OpenSpec.upto collectSameSpec)

/-- 'palisadelaw.MachineRuns', WHERE WHAT IT READS IS OF BULK AT MOST 1048576: true; the input reads as it did. -/
def machineRunsUptoRow : OpenClaim := { program := "ytikmgiapjigghab", sum := "bbd52b349b6764fdd4b61dbeabf362eab80955915e91aaa45dcabd086abf0ced", func := "palisade/palisadelaw.MachineRuns", spec := "machineRuns", unfollowed := true, recurses := true, loops := true, apart := false, narrowed := true }
def MachineRunsUptoSaid : Prop := machineRunsUptoRow.holds Try.pinned (OpenSpec.upto machineRunsSpec)

end Rows
end Go.Proofs.Ytikmgiapjigghab
