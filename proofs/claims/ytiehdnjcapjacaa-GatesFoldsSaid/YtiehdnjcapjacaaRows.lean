/-
  No cell of these rows narrows 'for every input' (looked for: loops, veiled, ifaces, maps, wideKeys, modest, calm, conditions, laid).
  DERIVED. THE GIVEN ROWS OF THIS SEAT. 7 by the template 'for every input the law returns true; each argument reads behind the call as it read before'; 0 by the template 'total and deterministic' (their statements: YtiehdnjcapjacaaTotals.lean).
  GIVEN WITH THE SEED: the statements are not yours to turn. If you find one false, say at which input.
  Laid BY PROGRAM, IN A SANDBOX (cutbox-rows.mjs): the forced cells as the released guide's own fill.sh prints them over the translation 58dd7731f903d7c0… (all of the seat's roots in one cut). By AI agents, Wed Nov 11 2026. No macro, syntax, notation, axiom, sorry.
-/
import Derived.Test.YtiehdnjcapjacaaChecked
import GoSem.Claim
import GoSem.ClaimJoined
import GoSem.ClaimMapViews
import Derived.JoinedTies
import Derived.KernelRfl
namespace Go.Proofs.Ytiehdnjcapjacaa
/- THE CELL 'sum', in the pinned program and in every row, IS THE sha256 OF THE DUMP (.gsa) THAT YtiehdnjcapjacaaProg.lean LOADS. Nothing in Lean hashes anything: it is a label: what it is worth is what the hold of that sum in a sandbox is worth. -/
noncomputable def Try.pinned : Pinned := { name := "ytiehdnjcapjacaa", sum := "58dd7731f903d7c0a76eaa4d735d403935ef97b821225b4ab7e0dc3f2bd9ba98", checked := Try.checked }
namespace Rows
def none {H : Type} : Left H := { results := [], args := [] }

/-- 'jacquardlaw46.GatesChecks': WHATEVER THE INPUT: true; the input reads as it did. -/
def gatesChecksSpec : ChangeSpec := { name := "gatesChecks", fn := fun _ => fun
  | [d] => { results := [.lit (.bool true)], args := [d] }
  | _ => none }
def gatesChecksRow : OpenClaim := { program := "ytiehdnjcapjacaa", sum := "58dd7731f903d7c0a76eaa4d735d403935ef97b821225b4ab7e0dc3f2bd9ba98", func := "jacquard/jacquardlaw46.GatesChecks", spec := "gatesChecks", plainKeys := false, apart := false }
def GatesChecksSaid : Prop := gatesChecksRow.holds Try.pinned (OpenSpec.ofChange gatesChecksSpec)

/-- ITS FALSE NEIGHBOUR: 'it returns false'. Refute it at one input. -/
def gatesChecksWrong : ChangeSpec := { name := "gatesChecks", fn := fun _ => fun
  | [d] => { results := [.lit (.bool false)], args := [d] }
  | _ => none }
def GatesChecksWrongFalsely : Prop := gatesChecksRow.holds Try.pinned (OpenSpec.ofChange gatesChecksWrong)

/-- 'jacquardlaw46.GatesEval': WHATEVER THE INPUT: true; the input reads as it did. -/
def gatesEvalSpec : ChangeSpec := { name := "gatesEval", fn := fun _ => fun
  | [d1, d2] => { results := [.lit (.bool true)], args := [d1, d2] }
  | _ => none }
def gatesEvalRow : OpenClaim := { program := "ytiehdnjcapjacaa", sum := "58dd7731f903d7c0a76eaa4d735d403935ef97b821225b4ab7e0dc3f2bd9ba98", func := "jacquard/jacquardlaw46.GatesEval", spec := "gatesEval", plainKeys := false, apart := false }
def GatesEvalSaid : Prop := gatesEvalRow.holds Try.pinned (OpenSpec.ofChange gatesEvalSpec)

/-- ITS FALSE NEIGHBOUR: 'it returns false'. Refute it at one input. -/
def gatesEvalWrong : ChangeSpec := { name := "gatesEval", fn := fun _ => fun
  | [d1, d2] => { results := [.lit (.bool false)], args := [d1, d2] }
  | _ => none }
def GatesEvalWrongFalsely : Prop := gatesEvalRow.holds Try.pinned (OpenSpec.ofChange gatesEvalWrong)

/-- 'jacquardlaw46.GatesCounts': WHATEVER THE INPUT: true; the input reads as it did. -/
def gatesCountsSpec : ChangeSpec := { name := "gatesCounts", fn := fun _ => fun
  | [d] => { results := [.lit (.bool true)], args := [d] }
  | _ => none }
def gatesCountsRow : OpenClaim := { program := "ytiehdnjcapjacaa", sum := "58dd7731f903d7c0a76eaa4d735d403935ef97b821225b4ab7e0dc3f2bd9ba98", func := "jacquard/jacquardlaw46.GatesCounts", spec := "gatesCounts", plainKeys := false, apart := false }
def GatesCountsSaid : Prop := gatesCountsRow.holds Try.pinned (OpenSpec.ofChange gatesCountsSpec)

/-- ITS FALSE NEIGHBOUR: 'it returns false'. Refute it at one input. -/
def gatesCountsWrong : ChangeSpec := { name := "gatesCounts", fn := fun _ => fun
  | [d] => { results := [.lit (.bool false)], args := [d] }
  | _ => none }
def GatesCountsWrongFalsely : Prop := gatesCountsRow.holds Try.pinned (OpenSpec.ofChange gatesCountsWrong)

/-- 'jacquardlaw46.GatesLocal': WHATEVER THE INPUT: true; the input reads as it did. -/
def gatesLocalSpec : ChangeSpec := { name := "gatesLocal", fn := fun _ => fun
  | [d1, d2, d3] => { results := [.lit (.bool true)], args := [d1, d2, d3] }
  | _ => none }
def gatesLocalRow : OpenClaim := { program := "ytiehdnjcapjacaa", sum := "58dd7731f903d7c0a76eaa4d735d403935ef97b821225b4ab7e0dc3f2bd9ba98", func := "jacquard/jacquardlaw46.GatesLocal", spec := "gatesLocal", plainKeys := false, apart := false }
def GatesLocalSaid : Prop := gatesLocalRow.holds Try.pinned (OpenSpec.ofChange gatesLocalSpec)

/-- ITS FALSE NEIGHBOUR: 'it returns false'. Refute it at one input. -/
def gatesLocalWrong : ChangeSpec := { name := "gatesLocal", fn := fun _ => fun
  | [d1, d2, d3] => { results := [.lit (.bool false)], args := [d1, d2, d3] }
  | _ => none }
def GatesLocalWrongFalsely : Prop := gatesLocalRow.holds Try.pinned (OpenSpec.ofChange gatesLocalWrong)

/-- 'jacquardlaw46.GatesDepths': WHATEVER THE INPUT: true; the input reads as it did. -/
def gatesDepthsSpec : ChangeSpec := { name := "gatesDepths", fn := fun _ => fun
  | [d1, d2] => { results := [.lit (.bool true)], args := [d1, d2] }
  | _ => none }
def gatesDepthsRow : OpenClaim := { program := "ytiehdnjcapjacaa", sum := "58dd7731f903d7c0a76eaa4d735d403935ef97b821225b4ab7e0dc3f2bd9ba98", func := "jacquard/jacquardlaw46.GatesDepths", spec := "gatesDepths", plainKeys := false, apart := false }
def GatesDepthsSaid : Prop := gatesDepthsRow.holds Try.pinned (OpenSpec.ofChange gatesDepthsSpec)

/-- ITS FALSE NEIGHBOUR: 'it returns false'. Refute it at one input. -/
def gatesDepthsWrong : ChangeSpec := { name := "gatesDepths", fn := fun _ => fun
  | [d1, d2] => { results := [.lit (.bool false)], args := [d1, d2] }
  | _ => none }
def GatesDepthsWrongFalsely : Prop := gatesDepthsRow.holds Try.pinned (OpenSpec.ofChange gatesDepthsWrong)

/-- 'jacquardlaw46.GatesFolds': WHATEVER THE INPUT: true; the input reads as it did. -/
def gatesFoldsSpec : ChangeSpec := { name := "gatesFolds", fn := fun _ => fun
  | [d1, d2, d3] => { results := [.lit (.bool true)], args := [d1, d2, d3] }
  | _ => none }
def gatesFoldsRow : OpenClaim := { program := "ytiehdnjcapjacaa", sum := "58dd7731f903d7c0a76eaa4d735d403935ef97b821225b4ab7e0dc3f2bd9ba98", func := "jacquard/jacquardlaw46.GatesFolds", spec := "gatesFolds", plainKeys := false, apart := false }
def GatesFoldsSaid : Prop := gatesFoldsRow.holds Try.pinned (OpenSpec.ofChange gatesFoldsSpec)

/-- ITS FALSE NEIGHBOUR: 'it returns false'. Refute it at one input. -/
def gatesFoldsWrong : ChangeSpec := { name := "gatesFolds", fn := fun _ => fun
  | [d1, d2, d3] => { results := [.lit (.bool false)], args := [d1, d2, d3] }
  | _ => none }
def GatesFoldsWrongFalsely : Prop := gatesFoldsRow.holds Try.pinned (OpenSpec.ofChange gatesFoldsWrong)

/-- 'jacquardlaw46.GatesFoldTwice': WHATEVER THE INPUT: true; the input reads as it did. -/
def gatesFoldTwiceSpec : ChangeSpec := { name := "gatesFoldTwice", fn := fun _ => fun
  | [d1, d2] => { results := [.lit (.bool true)], args := [d1, d2] }
  | _ => none }
def gatesFoldTwiceRow : OpenClaim := { program := "ytiehdnjcapjacaa", sum := "58dd7731f903d7c0a76eaa4d735d403935ef97b821225b4ab7e0dc3f2bd9ba98", func := "jacquard/jacquardlaw46.GatesFoldTwice", spec := "gatesFoldTwice", plainKeys := false, apart := false }
def GatesFoldTwiceSaid : Prop := gatesFoldTwiceRow.holds Try.pinned (OpenSpec.ofChange gatesFoldTwiceSpec)

/-- ITS FALSE NEIGHBOUR: 'it returns false'. Refute it at one input. -/
def gatesFoldTwiceWrong : ChangeSpec := { name := "gatesFoldTwice", fn := fun _ => fun
  | [d1, d2] => { results := [.lit (.bool false)], args := [d1, d2] }
  | _ => none }
def GatesFoldTwiceWrongFalsely : Prop := gatesFoldTwiceRow.holds Try.pinned (OpenSpec.ofChange gatesFoldTwiceWrong)

/- THE SECOND FORM. 'bulk': how many values and letters a reading holds, each counted each time it is reached (what is shared counts as often as it is met; a slice's spare places count too). A statement '..UptoSaid' is the law's where the arguments, and the package variables that the reading takes, are together of bulk at most 1048576: NARROWER than '..Said'. Prove '..Said' where nothing that the law and all that it calls make is longer than what came in: it says more and counts as full. Else prove '..UptoSaid'. A law counts once. -/
mutual
def uptoBulk {H : Type} : DataW H → Nat
  | .lit (.string bytes) => bytes.length + 1
  | .lit _ => 1
  | .nil => 1
  | .ptr d => uptoBulk d + 1
  | .slice elems spare => uptoBulkAll elems + uptoBulkAll spare + 1
  | .agg parts => uptoBulkAll parts + 1
  | .iface _ d => uptoBulk d + 1
  | .map entries => uptoBulkEntries entries + 1
  | .held _ => 1
def uptoBulkAll {H : Type} : List (DataW H) → Nat
  | [] => 0
  | d :: r => uptoBulk d + uptoBulkAll r
def uptoBulkEntries {H : Type} : List (Lit × DataW H) → Nat
  | [] => 0
  | x :: r => uptoBulkEntry x + uptoBulkEntries r
def uptoBulkEntry {H : Type} : Lit × DataW H → Nat
  | (.string bytes, d) => bytes.length + uptoBulk d + 1
  | (_, d) => uptoBulk d + 1
 end
def uptoSmall : (H : Type) → List (DataW H) → Bool := fun _ ds => decide (uptoBulkAll ds ≤ 1048576)
def OpenSpec.upto (s : _root_.Go.ChangeSpec) : _root_.Go.OpenSpec := { _root_.Go.OpenSpec.ofChange s with cond := some uptoSmall }

/-- 'jacquardlaw46.GatesChecks', WHERE WHAT IT READS IS OF BULK AT MOST 1048576: true; the input reads as it did. -/
def gatesChecksUptoRow : OpenClaim := { program := "ytiehdnjcapjacaa", sum := "58dd7731f903d7c0a76eaa4d735d403935ef97b821225b4ab7e0dc3f2bd9ba98", func := "jacquard/jacquardlaw46.GatesChecks", spec := "gatesChecks", plainKeys := false, apart := false, narrowed := true }
def GatesChecksUptoSaid : Prop := gatesChecksUptoRow.holds Try.pinned (OpenSpec.upto gatesChecksSpec)

/-- 'jacquardlaw46.GatesEval', WHERE WHAT IT READS IS OF BULK AT MOST 1048576: true; the input reads as it did. -/
def gatesEvalUptoRow : OpenClaim := { program := "ytiehdnjcapjacaa", sum := "58dd7731f903d7c0a76eaa4d735d403935ef97b821225b4ab7e0dc3f2bd9ba98", func := "jacquard/jacquardlaw46.GatesEval", spec := "gatesEval", plainKeys := false, apart := false, narrowed := true }
def GatesEvalUptoSaid : Prop := gatesEvalUptoRow.holds Try.pinned (OpenSpec.upto gatesEvalSpec)

/-- 'jacquardlaw46.GatesCounts', WHERE WHAT IT READS IS OF BULK AT MOST 1048576: true; the input reads as it did. -/
def gatesCountsUptoRow : OpenClaim := { program := "ytiehdnjcapjacaa", sum := "58dd7731f903d7c0a76eaa4d735d403935ef97b821225b4ab7e0dc3f2bd9ba98", func := "jacquard/jacquardlaw46.GatesCounts", spec := "gatesCounts", plainKeys := false, apart := false, narrowed := true }
def GatesCountsUptoSaid : Prop := gatesCountsUptoRow.holds Try.pinned (OpenSpec.upto gatesCountsSpec)

/-- 'jacquardlaw46.GatesLocal', WHERE WHAT IT READS IS OF BULK AT MOST 1048576: true; the input reads as it did. -/
def gatesLocalUptoRow : OpenClaim := { program := "ytiehdnjcapjacaa", sum := "58dd7731f903d7c0a76eaa4d735d403935ef97b821225b4ab7e0dc3f2bd9ba98", func := "jacquard/jacquardlaw46.GatesLocal", spec := "gatesLocal", plainKeys := false, apart := false, narrowed := true }
def GatesLocalUptoSaid : Prop := gatesLocalUptoRow.holds Try.pinned (OpenSpec.upto gatesLocalSpec)

/-- 'jacquardlaw46.GatesDepths', WHERE WHAT IT READS IS OF BULK AT MOST 1048576: true; the input reads as it did. -/
def gatesDepthsUptoRow : OpenClaim := { program := "ytiehdnjcapjacaa", sum := "58dd7731f903d7c0a76eaa4d735d403935ef97b821225b4ab7e0dc3f2bd9ba98", func := "jacquard/jacquardlaw46.GatesDepths", spec := "gatesDepths", plainKeys := false, apart := false, narrowed := true }
def GatesDepthsUptoSaid : Prop := gatesDepthsUptoRow.holds Try.pinned (OpenSpec.upto gatesDepthsSpec)

/-- 'jacquardlaw46.GatesFolds', WHERE WHAT IT READS IS OF BULK AT MOST 1048576: true; the input reads as it did. -/
def gatesFoldsUptoRow : OpenClaim := { program := "ytiehdnjcapjacaa", sum := "58dd7731f903d7c0a76eaa4d735d403935ef97b821225b4ab7e0dc3f2bd9ba98", func := "jacquard/jacquardlaw46.GatesFolds", spec := "gatesFolds", plainKeys := false, apart := false, narrowed := true }
def GatesFoldsUptoSaid : Prop := gatesFoldsUptoRow.holds Try.pinned (OpenSpec.upto gatesFoldsSpec)

/-- 'jacquardlaw46.GatesFoldTwice', WHERE WHAT IT READS IS OF BULK AT MOST 1048576: true; the input reads as it did. -/
def gatesFoldTwiceUptoRow : OpenClaim := { program := "ytiehdnjcapjacaa", sum := "58dd7731f903d7c0a76eaa4d735d403935ef97b821225b4ab7e0dc3f2bd9ba98", func := "jacquard/jacquardlaw46.GatesFoldTwice", spec := "gatesFoldTwice", plainKeys := false, apart := false, narrowed := true }
def GatesFoldTwiceUptoSaid : Prop := gatesFoldTwiceUptoRow.holds Try.pinned (OpenSpec.upto gatesFoldTwiceSpec)

end Rows
end Go.Proofs.Ytiehdnjcapjacaa
