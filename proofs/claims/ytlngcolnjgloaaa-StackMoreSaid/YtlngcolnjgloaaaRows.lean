/-
  No cell of these rows narrows 'for every input' (looked for: loops, veiled, ifaces, maps, wideKeys, modest, calm, conditions, laid).
  DERIVED. THE GIVEN ROWS OF THIS SEAT. 6 by the template 'for every input the law returns true; each argument reads behind the call as it read before'; 0 by the template 'total and deterministic' (their statements: YtlngcolnjgloaaaTotals.lean).
  GIVEN WITH THE SEED: the statements are not yours to turn. If you find one false, say at which input.
  Laid BY PROGRAM, IN A SANDBOX (cutbox-rows.mjs): the forced cells as the released guide's own fill.sh prints them over the translation 2fff0ccab03de3bd… (all of the seat's roots in one cut). By AI agents, Wed Nov 11 2026. No macro, syntax, notation, axiom, sorry.
-/
import Derived.Test.YtlngcolnjgloaaaChecked
import GoSem.Claim
import GoSem.ClaimJoined
import GoSem.ClaimMapViews
import Derived.JoinedTies
import Derived.KernelRfl
namespace Go.Proofs.Ytlngcolnjgloaaa
/- THE CELL 'sum', in the pinned program and in every row, IS THE sha256 OF THE DUMP (.gsa) THAT YtlngcolnjgloaaaProg.lean LOADS. Nothing in Lean hashes anything: it is a label: what it is worth is what the hold of that sum in a sandbox is worth. -/
noncomputable def Try.pinned : Pinned := { name := "ytlngcolnjgloaaa", sum := "2fff0ccab03de3bdb9347733d9db1e22849c9b33255e8bf8a7d70543628598b9", checked := Try.checked }
namespace Rows
def none {H : Type} : Left H := { results := [], args := [] }

/-- 'seedcornlaw20.StackOps': WHATEVER THE INPUT: true; the input reads as it did. -/
def stackOpsSpec : ChangeSpec := { name := "stackOps", fn := fun _ => fun
  | [d1, d2, d3] => { results := [.lit (.bool true)], args := [d1, d2, d3] }
  | _ => none }
def stackOpsRow : OpenClaim := { program := "ytlngcolnjgloaaa", sum := "2fff0ccab03de3bdb9347733d9db1e22849c9b33255e8bf8a7d70543628598b9", func := "seedcorn/seedcornlaw20.StackOps", spec := "stackOps", apart := false }
def StackOpsSaid : Prop := stackOpsRow.holds Try.pinned (OpenSpec.ofChange stackOpsSpec)

/-- ITS FALSE NEIGHBOUR: 'it returns false'. Refute it at one input. -/
def stackOpsWrong : ChangeSpec := { name := "stackOps", fn := fun _ => fun
  | [d1, d2, d3] => { results := [.lit (.bool false)], args := [d1, d2, d3] }
  | _ => none }
def StackOpsWrongFalsely : Prop := stackOpsRow.holds Try.pinned (OpenSpec.ofChange stackOpsWrong)

/-- 'seedcornlaw20.StackRuns': WHATEVER THE INPUT: true; the input reads as it did. -/
def stackRunsSpec : ChangeSpec := { name := "stackRuns", fn := fun _ => fun
  | [d1, d2, d3] => { results := [.lit (.bool true)], args := [d1, d2, d3] }
  | _ => none }
def stackRunsRow : OpenClaim := { program := "ytlngcolnjgloaaa", sum := "2fff0ccab03de3bdb9347733d9db1e22849c9b33255e8bf8a7d70543628598b9", func := "seedcorn/seedcornlaw20.StackRuns", spec := "stackRuns", apart := false }
def StackRunsSaid : Prop := stackRunsRow.holds Try.pinned (OpenSpec.ofChange stackRunsSpec)

/-- ITS FALSE NEIGHBOUR: 'it returns false'. Refute it at one input. -/
def stackRunsWrong : ChangeSpec := { name := "stackRuns", fn := fun _ => fun
  | [d1, d2, d3] => { results := [.lit (.bool false)], args := [d1, d2, d3] }
  | _ => none }
def StackRunsWrongFalsely : Prop := stackRunsRow.holds Try.pinned (OpenSpec.ofChange stackRunsWrong)

/-- 'seedcornlaw20.StackMore': WHATEVER THE INPUT: true; the input reads as it did. -/
def stackMoreSpec : ChangeSpec := { name := "stackMore", fn := fun _ => fun
  | [d1, d2, d3] => { results := [.lit (.bool true)], args := [d1, d2, d3] }
  | _ => none }
def stackMoreRow : OpenClaim := { program := "ytlngcolnjgloaaa", sum := "2fff0ccab03de3bdb9347733d9db1e22849c9b33255e8bf8a7d70543628598b9", func := "seedcorn/seedcornlaw20.StackMore", spec := "stackMore", apart := false }
def StackMoreSaid : Prop := stackMoreRow.holds Try.pinned (OpenSpec.ofChange stackMoreSpec)

/-- ITS FALSE NEIGHBOUR: 'it returns false'. Refute it at one input. -/
def stackMoreWrong : ChangeSpec := { name := "stackMore", fn := fun _ => fun
  | [d1, d2, d3] => { results := [.lit (.bool false)], args := [d1, d2, d3] }
  | _ => none }
def StackMoreWrongFalsely : Prop := stackMoreRow.holds Try.pinned (OpenSpec.ofChange stackMoreWrong)

/-- 'seedcornlaw20.StackCalls': WHATEVER THE INPUT: true; the input reads as it did. -/
def stackCallsSpec : ChangeSpec := { name := "stackCalls", fn := fun _ => fun
  | [d1, d2, d3] => { results := [.lit (.bool true)], args := [d1, d2, d3] }
  | _ => none }
def stackCallsRow : OpenClaim := { program := "ytlngcolnjgloaaa", sum := "2fff0ccab03de3bdb9347733d9db1e22849c9b33255e8bf8a7d70543628598b9", func := "seedcorn/seedcornlaw20.StackCalls", spec := "stackCalls", apart := false }
def StackCallsSaid : Prop := stackCallsRow.holds Try.pinned (OpenSpec.ofChange stackCallsSpec)

/-- ITS FALSE NEIGHBOUR: 'it returns false'. Refute it at one input. -/
def stackCallsWrong : ChangeSpec := { name := "stackCalls", fn := fun _ => fun
  | [d1, d2, d3] => { results := [.lit (.bool false)], args := [d1, d2, d3] }
  | _ => none }
def StackCallsWrongFalsely : Prop := stackCallsRow.holds Try.pinned (OpenSpec.ofChange stackCallsWrong)

/-- 'seedcornlaw20.StackPlaces': WHATEVER THE INPUT: true; the input reads as it did. -/
def stackPlacesSpec : ChangeSpec := { name := "stackPlaces", fn := fun _ => fun
  | [d1, d2, d3] => { results := [.lit (.bool true)], args := [d1, d2, d3] }
  | _ => none }
def stackPlacesRow : OpenClaim := { program := "ytlngcolnjgloaaa", sum := "2fff0ccab03de3bdb9347733d9db1e22849c9b33255e8bf8a7d70543628598b9", func := "seedcorn/seedcornlaw20.StackPlaces", spec := "stackPlaces", apart := false }
def StackPlacesSaid : Prop := stackPlacesRow.holds Try.pinned (OpenSpec.ofChange stackPlacesSpec)

/-- ITS FALSE NEIGHBOUR: 'it returns false'. Refute it at one input. -/
def stackPlacesWrong : ChangeSpec := { name := "stackPlaces", fn := fun _ => fun
  | [d1, d2, d3] => { results := [.lit (.bool false)], args := [d1, d2, d3] }
  | _ => none }
def StackPlacesWrongFalsely : Prop := stackPlacesRow.holds Try.pinned (OpenSpec.ofChange stackPlacesWrong)

/-- 'seedcornlaw20.StackEcho': WHATEVER THE INPUT: true; the input reads as it did. -/
def stackEchoSpec : ChangeSpec := { name := "stackEcho", fn := fun _ => fun
  | [d] => { results := [.lit (.bool true)], args := [d] }
  | _ => none }
def stackEchoRow : OpenClaim := { program := "ytlngcolnjgloaaa", sum := "2fff0ccab03de3bdb9347733d9db1e22849c9b33255e8bf8a7d70543628598b9", func := "seedcorn/seedcornlaw20.StackEcho", spec := "stackEcho", apart := false }
def StackEchoSaid : Prop := stackEchoRow.holds Try.pinned (OpenSpec.ofChange stackEchoSpec)

/-- ITS FALSE NEIGHBOUR: 'it returns false'. Refute it at one input. -/
def stackEchoWrong : ChangeSpec := { name := "stackEcho", fn := fun _ => fun
  | [d] => { results := [.lit (.bool false)], args := [d] }
  | _ => none }
def StackEchoWrongFalsely : Prop := stackEchoRow.holds Try.pinned (OpenSpec.ofChange stackEchoWrong)

/- THE SECOND FORM. 'bulk': how many values and letters a reading holds, each counted each time it is reached (what is shared counts as often as it is met; a slice's spare places count too). A statement '..UptoSaid' is the law's where the arguments, and the package variables that the reading takes, are together of bulk at most 1048576: NARROWER than '..Said'. Prove '..Said' where nothing that the law and all that it calls make is longer than what came in: it says more and counts as full. Else prove '..UptoSaid'. A law counts once. -/
mutual
def uptoBulk {H : Type} : DataW H → Nat
  | .lit (.string bytes) => bytes.length + 1
  | .lit _ => 1
  | .nil => 1
  | .ptr d => uptoBulk d + 1
  | .slice elems spare => uptoBulkAll elems + uptoBulkAll spare + 1
  | .agg parts => uptoBulkAll parts + 1
  | .iface _ d => uptoBulk d + 1
  | .map entries => uptoBulkEntries entries + 1
  | .held _ => 1
def uptoBulkAll {H : Type} : List (DataW H) → Nat
  | [] => 0
  | d :: r => uptoBulk d + uptoBulkAll r
def uptoBulkEntries {H : Type} : List (Lit × DataW H) → Nat
  | [] => 0
  | x :: r => uptoBulkEntry x + uptoBulkEntries r
def uptoBulkEntry {H : Type} : Lit × DataW H → Nat
  | (.string bytes, d) => bytes.length + uptoBulk d + 1
  | (_, d) => uptoBulk d + 1
 end
def uptoSmall : (H : Type) → List (DataW H) → Bool := fun _ ds => decide (uptoBulkAll ds ≤ 1048576)
def OpenSpec.upto (s : _root_.Go.ChangeSpec) : _root_.Go.OpenSpec := { _root_.Go.OpenSpec.ofChange s with cond := some uptoSmall }

/-- 'seedcornlaw20.StackOps', WHERE WHAT IT READS IS OF BULK AT MOST 1048576: true; the input reads as it did. -/
def stackOpsUptoRow : OpenClaim := { program := "ytlngcolnjgloaaa", sum := "2fff0ccab03de3bdb9347733d9db1e22849c9b33255e8bf8a7d70543628598b9", func := "seedcorn/seedcornlaw20.StackOps", spec := "stackOps", apart := false, narrowed := true }
def StackOpsUptoSaid : Prop := stackOpsUptoRow.holds Try.pinned (OpenSpec.upto stackOpsSpec)

/-- 'seedcornlaw20.StackRuns', WHERE WHAT IT READS IS OF BULK AT MOST 1048576: true; the input reads as it did. -/
def stackRunsUptoRow : OpenClaim := { program := "ytlngcolnjgloaaa", sum := "2fff0ccab03de3bdb9347733d9db1e22849c9b33255e8bf8a7d70543628598b9", func := "seedcorn/seedcornlaw20.StackRuns", spec := "stackRuns", apart := false, narrowed := true }
def StackRunsUptoSaid : Prop := stackRunsUptoRow.holds Try.pinned (OpenSpec.upto stackRunsSpec)

/-- 'seedcornlaw20.StackMore', WHERE WHAT IT READS IS OF BULK AT MOST 1048576: true; the input reads as it did. -/
def stackMoreUptoRow : OpenClaim := { program := "ytlngcolnjgloaaa", sum := "2fff0ccab03de3bdb9347733d9db1e22849c9b33255e8bf8a7d70543628598b9", func := "seedcorn/seedcornlaw20.StackMore", spec := "stackMore", apart := false, narrowed := true }
def StackMoreUptoSaid : Prop := stackMoreUptoRow.holds Try.pinned (OpenSpec.upto stackMoreSpec)

/-- 'seedcornlaw20.StackCalls', WHERE WHAT IT READS IS OF BULK AT MOST 1048576: true; the input reads as it did. -/
def stackCallsUptoRow : OpenClaim := { program := "ytlngcolnjgloaaa", sum := "2fff0ccab03de3bdb9347733d9db1e22849c9b33255e8bf8a7d70543628598b9", func := "seedcorn/seedcornlaw20.StackCalls", spec := "stackCalls", apart := false, narrowed := true }
def StackCallsUptoSaid : Prop := stackCallsUptoRow.holds Try.pinned (OpenSpec.upto stackCallsSpec)

/-- 'seedcornlaw20.StackPlaces', WHERE WHAT IT READS IS OF BULK AT MOST 1048576: true; the input reads as it did. -/
def stackPlacesUptoRow : OpenClaim := { program := "ytlngcolnjgloaaa", sum := "2fff0ccab03de3bdb9347733d9db1e22849c9b33255e8bf8a7d70543628598b9", func := "seedcorn/seedcornlaw20.StackPlaces", spec := "stackPlaces", apart := false, narrowed := true }
def StackPlacesUptoSaid : Prop := stackPlacesUptoRow.holds Try.pinned (OpenSpec.upto stackPlacesSpec)

/-- 'seedcornlaw20.StackEcho', WHERE WHAT IT READS IS OF BULK AT MOST 1048576: true; the input reads as it did. -/
def stackEchoUptoRow : OpenClaim := { program := "ytlngcolnjgloaaa", sum := "2fff0ccab03de3bdb9347733d9db1e22849c9b33255e8bf8a7d70543628598b9", func := "seedcorn/seedcornlaw20.StackEcho", spec := "stackEcho", apart := false, narrowed := true }
def StackEchoUptoSaid : Prop := stackEchoUptoRow.holds Try.pinned (OpenSpec.upto stackEchoSpec)

end Rows
end Go.Proofs.Ytlngcolnjgloaaa
