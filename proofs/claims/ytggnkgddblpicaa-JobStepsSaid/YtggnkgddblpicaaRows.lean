/-
  No cell of these rows narrows 'for every input' (looked for: loops, veiled, ifaces, maps, wideKeys, modest, calm, conditions, laid).
  DERIVED. THE GIVEN ROWS OF THIS SEAT. 6 by the template 'for every input the law returns true; each argument reads behind the call as it read before'; 0 by the template 'total and deterministic' (their statements: YtggnkgddblpicaaTotals.lean).
  GIVEN WITH THE SEED: the statements are not yours to turn. If you find one false, say at which input.
  Laid BY PROGRAM, IN A SANDBOX (cutbox-rows.mjs): the forced cells as the released guide's own fill.sh prints them over the translation fc7812a351515e9a… (all of the seat's roots in one cut). By AI agents, Wed Nov 11 2026. No macro, syntax, notation, axiom, sorry.
-/
import Derived.Test.YtggnkgddblpicaaChecked
import GoSem.Claim
import GoSem.ClaimJoined
import GoSem.ClaimMapViews
import Derived.JoinedTies
import Derived.KernelRfl
namespace Go.Proofs.Ytggnkgddblpicaa
/- THE CELL 'sum', in the pinned program and in every row, IS THE sha256 OF THE DUMP (.gsa) THAT YtggnkgddblpicaaProg.lean LOADS. Nothing in Lean hashes anything: it is a label: what it is worth is what the hold of that sum in a sandbox is worth. -/
noncomputable def Try.pinned : Pinned := { name := "ytggnkgddblpicaa", sum := "fc7812a351515e9a6ea15da529a0b05187131ab5e7d2d7debb234645593f190b", checked := Try.checked }
namespace Rows
def none {H : Type} : Left H := { results := [], args := [] }

/-- 'pigeonholelaw15.JobOne': WHATEVER THE INPUT: true; the input reads as it did. -/
def jobOneSpec : ChangeSpec := { name := "jobOne", fn := fun _ => fun
  | [d1, d2, d3] => { results := [.lit (.bool true)], args := [d1, d2, d3] }
  | _ => none }
def jobOneRow : OpenClaim := { program := "ytggnkgddblpicaa", sum := "fc7812a351515e9a6ea15da529a0b05187131ab5e7d2d7debb234645593f190b", func := "pigeonhole/pigeonholelaw15.JobOne", spec := "jobOne", unfollowed := true, recurses := true, apart := false }
def JobOneSaid : Prop := jobOneRow.holds Try.pinned (OpenSpec.ofChange jobOneSpec)

/-- ITS FALSE NEIGHBOUR: 'it returns false'. Refute it at one input. -/
def jobOneWrong : ChangeSpec := { name := "jobOne", fn := fun _ => fun
  | [d1, d2, d3] => { results := [.lit (.bool false)], args := [d1, d2, d3] }
  | _ => none }
def JobOneWrongFalsely : Prop := jobOneRow.holds Try.pinned (OpenSpec.ofChange jobOneWrong)

/-- 'pigeonholelaw15.JobOf': WHATEVER THE INPUT: true; the input reads as it did. -/
def jobOfSpec : ChangeSpec := { name := "jobOf", fn := fun _ => fun
  | [d1, d2] => { results := [.lit (.bool true)], args := [d1, d2] }
  | _ => none }
def jobOfRow : OpenClaim := { program := "ytggnkgddblpicaa", sum := "fc7812a351515e9a6ea15da529a0b05187131ab5e7d2d7debb234645593f190b", func := "pigeonhole/pigeonholelaw15.JobOf", spec := "jobOf", unfollowed := true, recurses := true, apart := false }
def JobOfSaid : Prop := jobOfRow.holds Try.pinned (OpenSpec.ofChange jobOfSpec)

/-- ITS FALSE NEIGHBOUR: 'it returns false'. Refute it at one input. -/
def jobOfWrong : ChangeSpec := { name := "jobOf", fn := fun _ => fun
  | [d1, d2] => { results := [.lit (.bool false)], args := [d1, d2] }
  | _ => none }
def JobOfWrongFalsely : Prop := jobOfRow.holds Try.pinned (OpenSpec.ofChange jobOfWrong)

/-- 'pigeonholelaw15.JobParts': WHATEVER THE INPUT: true; the input reads as it did. -/
def jobPartsSpec : ChangeSpec := { name := "jobParts", fn := fun _ => fun
  | [d1, d2] => { results := [.lit (.bool true)], args := [d1, d2] }
  | _ => none }
def jobPartsRow : OpenClaim := { program := "ytggnkgddblpicaa", sum := "fc7812a351515e9a6ea15da529a0b05187131ab5e7d2d7debb234645593f190b", func := "pigeonhole/pigeonholelaw15.JobParts", spec := "jobParts", unfollowed := true, recurses := true, apart := false }
def JobPartsSaid : Prop := jobPartsRow.holds Try.pinned (OpenSpec.ofChange jobPartsSpec)

/-- ITS FALSE NEIGHBOUR: 'it returns false'. Refute it at one input. -/
def jobPartsWrong : ChangeSpec := { name := "jobParts", fn := fun _ => fun
  | [d1, d2] => { results := [.lit (.bool false)], args := [d1, d2] }
  | _ => none }
def JobPartsWrongFalsely : Prop := jobPartsRow.holds Try.pinned (OpenSpec.ofChange jobPartsWrong)

/-- 'pigeonholelaw15.JobSteps': WHATEVER THE INPUT: true; the input reads as it did. -/
def jobStepsSpec : ChangeSpec := { name := "jobSteps", fn := fun _ => fun
  | [d1, d2, d3] => { results := [.lit (.bool true)], args := [d1, d2, d3] }
  | _ => none }
def jobStepsRow : OpenClaim := { program := "ytggnkgddblpicaa", sum := "fc7812a351515e9a6ea15da529a0b05187131ab5e7d2d7debb234645593f190b", func := "pigeonhole/pigeonholelaw15.JobSteps", spec := "jobSteps", unfollowed := true, recurses := true, apart := false }
def JobStepsSaid : Prop := jobStepsRow.holds Try.pinned (OpenSpec.ofChange jobStepsSpec)

/-- ITS FALSE NEIGHBOUR: 'it returns false'. Refute it at one input. -/
def jobStepsWrong : ChangeSpec := { name := "jobSteps", fn := fun _ => fun
  | [d1, d2, d3] => { results := [.lit (.bool false)], args := [d1, d2, d3] }
  | _ => none }
def JobStepsWrongFalsely : Prop := jobStepsRow.holds Try.pinned (OpenSpec.ofChange jobStepsWrong)

/-- 'pigeonholelaw15.JobLeft': WHATEVER THE INPUT: true; the input reads as it did. -/
def jobLeftSpec : ChangeSpec := { name := "jobLeft", fn := fun _ => fun
  | [d1, d2] => { results := [.lit (.bool true)], args := [d1, d2] }
  | _ => none }
def jobLeftRow : OpenClaim := { program := "ytggnkgddblpicaa", sum := "fc7812a351515e9a6ea15da529a0b05187131ab5e7d2d7debb234645593f190b", func := "pigeonhole/pigeonholelaw15.JobLeft", spec := "jobLeft", unfollowed := true, recurses := true, apart := false }
def JobLeftSaid : Prop := jobLeftRow.holds Try.pinned (OpenSpec.ofChange jobLeftSpec)

/-- ITS FALSE NEIGHBOUR: 'it returns false'. Refute it at one input. -/
def jobLeftWrong : ChangeSpec := { name := "jobLeft", fn := fun _ => fun
  | [d1, d2] => { results := [.lit (.bool false)], args := [d1, d2] }
  | _ => none }
def JobLeftWrongFalsely : Prop := jobLeftRow.holds Try.pinned (OpenSpec.ofChange jobLeftWrong)

/-- 'pigeonholelaw15.JobCopies': WHATEVER THE INPUT: true; the input reads as it did. -/
def jobCopiesSpec : ChangeSpec := { name := "jobCopies", fn := fun _ => fun
  | [d1, d2, d3] => { results := [.lit (.bool true)], args := [d1, d2, d3] }
  | _ => none }
def jobCopiesRow : OpenClaim := { program := "ytggnkgddblpicaa", sum := "fc7812a351515e9a6ea15da529a0b05187131ab5e7d2d7debb234645593f190b", func := "pigeonhole/pigeonholelaw15.JobCopies", spec := "jobCopies", unfollowed := true, recurses := true, apart := false }
def JobCopiesSaid : Prop := jobCopiesRow.holds Try.pinned (OpenSpec.ofChange jobCopiesSpec)

/-- ITS FALSE NEIGHBOUR: 'it returns false'. Refute it at one input. -/
def jobCopiesWrong : ChangeSpec := { name := "jobCopies", fn := fun _ => fun
  | [d1, d2, d3] => { results := [.lit (.bool false)], args := [d1, d2, d3] }
  | _ => none }
def JobCopiesWrongFalsely : Prop := jobCopiesRow.holds Try.pinned (OpenSpec.ofChange jobCopiesWrong)

/- THE SECOND FORM. 'bulk': how many values and letters a reading holds, each counted each time it is reached (what is shared counts as often as it is met; a slice's spare places count too). A statement '..UptoSaid' is the law's where the arguments, and the package variables that the reading takes, are together of bulk at most 1048576: NARROWER than '..Said'. Prove '..Said' where nothing that the law and all that it calls make is longer than what came in: it says more and counts as full. Else prove '..UptoSaid'. A law counts once. -/
mutual
def uptoBulk {H : Type} : DataW H → Nat
  | .lit (.string bytes) => bytes.length + 1
  | .lit _ => 1
  | .nil => 1
  | .ptr d => uptoBulk d + 1
  | .slice elems spare => uptoBulkAll elems + uptoBulkAll spare + 1
  | .agg parts => uptoBulkAll parts + 1
  | .iface _ d => uptoBulk d + 1
  | .map entries => uptoBulkEntries entries + 1
  | .held _ => 1
def uptoBulkAll {H : Type} : List (DataW H) → Nat
  | [] => 0
  | d :: r => uptoBulk d + uptoBulkAll r
def uptoBulkEntries {H : Type} : List (Lit × DataW H) → Nat
  | [] => 0
  | x :: r => uptoBulkEntry x + uptoBulkEntries r
def uptoBulkEntry {H : Type} : Lit × DataW H → Nat
  | (.string bytes, d) => bytes.length + uptoBulk d + 1
  | (_, d) => uptoBulk d + 1
 end
def uptoSmall : (H : Type) → List (DataW H) → Bool := fun _ ds => decide (uptoBulkAll ds ≤ 1048576)
def OpenSpec.upto (s : _root_.Go.ChangeSpec) : _root_.Go.OpenSpec := { _root_.Go.OpenSpec.ofChange s with cond := some uptoSmall }

/-- 'pigeonholelaw15.JobOne', WHERE WHAT IT READS IS OF BULK AT MOST 1048576: true; the input reads as it did. -/
def jobOneUptoRow : OpenClaim := { program := "ytggnkgddblpicaa", sum := "fc7812a351515e9a6ea15da529a0b05187131ab5e7d2d7debb234645593f190b", func := "pigeonhole/pigeonholelaw15.JobOne", spec := "jobOne", unfollowed := true, recurses := true, apart := false, narrowed := true }
def JobOneUptoSaid : Prop := jobOneUptoRow.holds Try.pinned (OpenSpec.upto jobOneSpec)

/-- 'pigeonholelaw15.JobOf', WHERE WHAT IT READS IS OF BULK AT MOST 1048576: true; the input reads as it did. -/
def jobOfUptoRow : OpenClaim := { program := "ytggnkgddblpicaa", sum := "fc7812a351515e9a6ea15da529a0b05187131ab5e7d2d7debb234645593f190b", func := "pigeonhole/pigeonholelaw15.JobOf", spec := "jobOf", unfollowed := true, recurses := true, apart := false, narrowed := true }
def JobOfUptoSaid : Prop := jobOfUptoRow.holds Try.pinned (OpenSpec.upto jobOfSpec)

/-- 'pigeonholelaw15.JobParts', WHERE WHAT IT READS IS OF BULK AT MOST 1048576: true; the input reads as it did. -/
def jobPartsUptoRow : OpenClaim := { program := "ytggnkgddblpicaa", sum := "fc7812a351515e9a6ea15da529a0b05187131ab5e7d2d7debb234645593f190b", func := "pigeonhole/pigeonholelaw15.JobParts", spec := "jobParts", unfollowed := true, recurses := true, apart := false, narrowed := true }
def JobPartsUptoSaid : Prop := jobPartsUptoRow.holds Try.pinned (OpenSpec.upto jobPartsSpec)

/-- 'pigeonholelaw15.JobSteps', WHERE WHAT IT READS IS OF BULK AT MOST 1048576: true; the input reads as it did. -/
def jobStepsUptoRow : OpenClaim := { program := "ytggnkgddblpicaa", sum := "fc7812a351515e9a6ea15da529a0b05187131ab5e7d2d7debb234645593f190b", func := "pigeonhole/pigeonholelaw15.JobSteps", spec := "jobSteps", unfollowed := true, recurses := true, apart := false, narrowed := true }
def JobStepsUptoSaid : Prop := jobStepsUptoRow.holds Try.pinned (OpenSpec.upto jobStepsSpec)

/-- 'pigeonholelaw15.JobLeft', WHERE WHAT IT READS IS OF BULK AT MOST 1048576: true; the input reads as it did. -/
def jobLeftUptoRow : OpenClaim := { program := "ytggnkgddblpicaa", sum := "fc7812a351515e9a6ea15da529a0b05187131ab5e7d2d7debb234645593f190b", func := "pigeonhole/pigeonholelaw15.JobLeft", spec := "jobLeft", unfollowed := true, recurses := true, apart := false, narrowed := true }
def JobLeftUptoSaid : Prop := jobLeftUptoRow.holds Try.pinned (OpenSpec.upto jobLeftSpec)

/-- 'pigeonholelaw15.JobCopies', WHERE WHAT IT READS IS OF BULK AT MOST 1048576: true; the input reads as it did. -/
def jobCopiesUptoRow : OpenClaim := { program := "ytggnkgddblpicaa", sum := "fc7812a351515e9a6ea15da529a0b05187131ab5e7d2d7debb234645593f190b", func := "pigeonhole/pigeonholelaw15.JobCopies", spec := "jobCopies", unfollowed := true, recurses := true, apart := false, narrowed := true }
def JobCopiesUptoSaid : Prop := jobCopiesUptoRow.holds Try.pinned (OpenSpec.upto jobCopiesSpec)

end Rows
end Go.Proofs.Ytggnkgddblpicaa
