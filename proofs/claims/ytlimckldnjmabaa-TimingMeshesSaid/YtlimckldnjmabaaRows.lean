/-
  No cell of these rows narrows 'for every input' (looked for: loops, veiled, ifaces, maps, wideKeys, modest, calm, conditions, laid).
  DERIVED. THE GIVEN ROWS OF THIS SEAT. 10 by the template 'for every input the law returns true; each argument reads behind the call as it read before'; 0 by the template 'total and deterministic' (their statements: YtlimckldnjmabaaTotals.lean).
  GIVEN WITH THE SEED: the statements are not yours to turn. If you find one false, say at which input.
  Laid BY PROGRAM, IN A SANDBOX (cutbox-rows.mjs): the forced cells as the released guide's own fill.sh prints them over the translation 8eab0b5efd183f5e… (all of the seat's roots in one cut). By AI agents, Wed Nov 11 2026. No macro, syntax, notation, axiom, sorry.
-/
import Derived.Test.YtlimckldnjmabaaChecked
import GoSem.Claim
import GoSem.ClaimJoined
import GoSem.ClaimMapViews
import Derived.JoinedTies
import Derived.KernelRfl
namespace Go.Proofs.Ytlimckldnjmabaa
/- THE CELL 'sum', in the pinned program and in every row, IS THE sha256 OF THE DUMP (.gsa) THAT YtlimckldnjmabaaProg.lean LOADS. Nothing in Lean hashes anything: it is a label: what it is worth is what the hold of that sum in a sandbox is worth. -/
noncomputable def Try.pinned : Pinned := { name := "ytlimckldnjmabaa", sum := "8eab0b5efd183f5ee8f33368e0b7eb0ab83dce6dcd97e19b6a816f6a1638dc23", checked := Try.checked }
namespace Rows
def none {H : Type} : Left H := { results := [], args := [] }

/-- 'jacquardlaw42.SimRefuses': WHATEVER THE INPUT: true; the input reads as it did. -/
def simRefusesSpec : ChangeSpec := { name := "simRefuses", fn := fun _ => fun
  | [d1, d2] => { results := [.lit (.bool true)], args := [d1, d2] }
  | _ => none }
def simRefusesRow : OpenClaim := { program := "ytlimckldnjmabaa", sum := "8eab0b5efd183f5ee8f33368e0b7eb0ab83dce6dcd97e19b6a816f6a1638dc23", func := "jacquard/jacquardlaw42.SimRefuses", spec := "simRefuses", unfollowed := true, recurses := true, apart := false }
def SimRefusesSaid : Prop := simRefusesRow.holds Try.pinned (OpenSpec.ofChange simRefusesSpec)

/-- ITS FALSE NEIGHBOUR: 'it returns false'. Refute it at one input. -/
def simRefusesWrong : ChangeSpec := { name := "simRefuses", fn := fun _ => fun
  | [d1, d2] => { results := [.lit (.bool false)], args := [d1, d2] }
  | _ => none }
def SimRefusesWrongFalsely : Prop := simRefusesRow.holds Try.pinned (OpenSpec.ofChange simRefusesWrong)

/-- 'jacquardlaw42.SimStalls': WHATEVER THE INPUT: true; the input reads as it did. -/
def simStallsSpec : ChangeSpec := { name := "simStalls", fn := fun _ => fun
  | [d1, d2] => { results := [.lit (.bool true)], args := [d1, d2] }
  | _ => none }
def simStallsRow : OpenClaim := { program := "ytlimckldnjmabaa", sum := "8eab0b5efd183f5ee8f33368e0b7eb0ab83dce6dcd97e19b6a816f6a1638dc23", func := "jacquard/jacquardlaw42.SimStalls", spec := "simStalls", unfollowed := true, recurses := true, apart := false }
def SimStallsSaid : Prop := simStallsRow.holds Try.pinned (OpenSpec.ofChange simStallsSpec)

/-- ITS FALSE NEIGHBOUR: 'it returns false'. Refute it at one input. -/
def simStallsWrong : ChangeSpec := { name := "simStalls", fn := fun _ => fun
  | [d1, d2] => { results := [.lit (.bool false)], args := [d1, d2] }
  | _ => none }
def SimStallsWrongFalsely : Prop := simStallsRow.holds Try.pinned (OpenSpec.ofChange simStallsWrong)

/-- 'jacquardlaw42.SimScalars': WHATEVER THE INPUT: true; the input reads as it did. -/
def simScalarsSpec : ChangeSpec := { name := "simScalars", fn := fun _ => fun
  | [d1, d2, d3] => { results := [.lit (.bool true)], args := [d1, d2, d3] }
  | _ => none }
def simScalarsRow : OpenClaim := { program := "ytlimckldnjmabaa", sum := "8eab0b5efd183f5ee8f33368e0b7eb0ab83dce6dcd97e19b6a816f6a1638dc23", func := "jacquard/jacquardlaw42.SimScalars", spec := "simScalars", unfollowed := true, recurses := true, apart := false }
def SimScalarsSaid : Prop := simScalarsRow.holds Try.pinned (OpenSpec.ofChange simScalarsSpec)

/-- ITS FALSE NEIGHBOUR: 'it returns false'. Refute it at one input. -/
def simScalarsWrong : ChangeSpec := { name := "simScalars", fn := fun _ => fun
  | [d1, d2, d3] => { results := [.lit (.bool false)], args := [d1, d2, d3] }
  | _ => none }
def SimScalarsWrongFalsely : Prop := simScalarsRow.holds Try.pinned (OpenSpec.ofChange simScalarsWrong)

/-- 'jacquardlaw42.SimClones': WHATEVER THE INPUT: true; the input reads as it did. -/
def simClonesSpec : ChangeSpec := { name := "simClones", fn := fun _ => fun
  | [d1, d2] => { results := [.lit (.bool true)], args := [d1, d2] }
  | _ => none }
def simClonesRow : OpenClaim := { program := "ytlimckldnjmabaa", sum := "8eab0b5efd183f5ee8f33368e0b7eb0ab83dce6dcd97e19b6a816f6a1638dc23", func := "jacquard/jacquardlaw42.SimClones", spec := "simClones", unfollowed := true, recurses := true, apart := false }
def SimClonesSaid : Prop := simClonesRow.holds Try.pinned (OpenSpec.ofChange simClonesSpec)

/-- ITS FALSE NEIGHBOUR: 'it returns false'. Refute it at one input. -/
def simClonesWrong : ChangeSpec := { name := "simClones", fn := fun _ => fun
  | [d1, d2] => { results := [.lit (.bool false)], args := [d1, d2] }
  | _ => none }
def SimClonesWrongFalsely : Prop := simClonesRow.holds Try.pinned (OpenSpec.ofChange simClonesWrong)

/-- 'jacquardlaw47.SynthOperators': WHATEVER THE INPUT: true; the input reads as it did. -/
def synthOperatorsSpec : ChangeSpec := { name := "synthOperators", fn := fun _ => fun
  | [d1, d2, d3] => { results := [.lit (.bool true)], args := [d1, d2, d3] }
  | _ => none }
def synthOperatorsRow : OpenClaim := { program := "ytlimckldnjmabaa", sum := "8eab0b5efd183f5ee8f33368e0b7eb0ab83dce6dcd97e19b6a816f6a1638dc23", func := "jacquard/jacquardlaw47.SynthOperators", spec := "synthOperators", unfollowed := true, recurses := true, apart := false }
def SynthOperatorsSaid : Prop := synthOperatorsRow.holds Try.pinned (OpenSpec.ofChange synthOperatorsSpec)

/-- ITS FALSE NEIGHBOUR: 'it returns false'. Refute it at one input. -/
def synthOperatorsWrong : ChangeSpec := { name := "synthOperators", fn := fun _ => fun
  | [d1, d2, d3] => { results := [.lit (.bool false)], args := [d1, d2, d3] }
  | _ => none }
def SynthOperatorsWrongFalsely : Prop := synthOperatorsRow.holds Try.pinned (OpenSpec.ofChange synthOperatorsWrong)

/-- 'jacquardlaw47.SynthDelays': WHATEVER THE INPUT: true; the input reads as it did. -/
def synthDelaysSpec : ChangeSpec := { name := "synthDelays", fn := fun _ => fun
  | [d1, d2] => { results := [.lit (.bool true)], args := [d1, d2] }
  | _ => none }
def synthDelaysRow : OpenClaim := { program := "ytlimckldnjmabaa", sum := "8eab0b5efd183f5ee8f33368e0b7eb0ab83dce6dcd97e19b6a816f6a1638dc23", func := "jacquard/jacquardlaw47.SynthDelays", spec := "synthDelays", unfollowed := true, recurses := true, apart := false }
def SynthDelaysSaid : Prop := synthDelaysRow.holds Try.pinned (OpenSpec.ofChange synthDelaysSpec)

/-- ITS FALSE NEIGHBOUR: 'it returns false'. Refute it at one input. -/
def synthDelaysWrong : ChangeSpec := { name := "synthDelays", fn := fun _ => fun
  | [d1, d2] => { results := [.lit (.bool false)], args := [d1, d2] }
  | _ => none }
def SynthDelaysWrongFalsely : Prop := synthDelaysRow.holds Try.pinned (OpenSpec.ofChange synthDelaysWrong)

/-- 'jacquardlaw47.SynthRefuses': WHATEVER THE INPUT: true; the input reads as it did. -/
def synthRefusesSpec : ChangeSpec := { name := "synthRefuses", fn := fun _ => fun
  | [d1, d2, d3] => { results := [.lit (.bool true)], args := [d1, d2, d3] }
  | _ => none }
def synthRefusesRow : OpenClaim := { program := "ytlimckldnjmabaa", sum := "8eab0b5efd183f5ee8f33368e0b7eb0ab83dce6dcd97e19b6a816f6a1638dc23", func := "jacquard/jacquardlaw47.SynthRefuses", spec := "synthRefuses", unfollowed := true, recurses := true, apart := false }
def SynthRefusesSaid : Prop := synthRefusesRow.holds Try.pinned (OpenSpec.ofChange synthRefusesSpec)

/-- ITS FALSE NEIGHBOUR: 'it returns false'. Refute it at one input. -/
def synthRefusesWrong : ChangeSpec := { name := "synthRefuses", fn := fun _ => fun
  | [d1, d2, d3] => { results := [.lit (.bool false)], args := [d1, d2, d3] }
  | _ => none }
def SynthRefusesWrongFalsely : Prop := synthRefusesRow.holds Try.pinned (OpenSpec.ofChange synthRefusesWrong)

/-- 'jacquardlaw47.SynthTimes': WHATEVER THE INPUT: true; the input reads as it did. -/
def synthTimesSpec : ChangeSpec := { name := "synthTimes", fn := fun _ => fun
  | [d] => { results := [.lit (.bool true)], args := [d] }
  | _ => none }
def synthTimesRow : OpenClaim := { program := "ytlimckldnjmabaa", sum := "8eab0b5efd183f5ee8f33368e0b7eb0ab83dce6dcd97e19b6a816f6a1638dc23", func := "jacquard/jacquardlaw47.SynthTimes", spec := "synthTimes", unfollowed := true, recurses := true, apart := false }
def SynthTimesSaid : Prop := synthTimesRow.holds Try.pinned (OpenSpec.ofChange synthTimesSpec)

/-- ITS FALSE NEIGHBOUR: 'it returns false'. Refute it at one input. -/
def synthTimesWrong : ChangeSpec := { name := "synthTimes", fn := fun _ => fun
  | [d] => { results := [.lit (.bool false)], args := [d] }
  | _ => none }
def SynthTimesWrongFalsely : Prop := synthTimesRow.holds Try.pinned (OpenSpec.ofChange synthTimesWrong)

/-- 'jacquardlaw47.SynthInvalid': WHATEVER THE INPUT: true; the input reads as it did. -/
def synthInvalidSpec : ChangeSpec := { name := "synthInvalid", fn := fun _ => fun
  | [d1, d2, d3] => { results := [.lit (.bool true)], args := [d1, d2, d3] }
  | _ => none }
def synthInvalidRow : OpenClaim := { program := "ytlimckldnjmabaa", sum := "8eab0b5efd183f5ee8f33368e0b7eb0ab83dce6dcd97e19b6a816f6a1638dc23", func := "jacquard/jacquardlaw47.SynthInvalid", spec := "synthInvalid", unfollowed := true, recurses := true, apart := false }
def SynthInvalidSaid : Prop := synthInvalidRow.holds Try.pinned (OpenSpec.ofChange synthInvalidSpec)

/-- ITS FALSE NEIGHBOUR: 'it returns false'. Refute it at one input. -/
def synthInvalidWrong : ChangeSpec := { name := "synthInvalid", fn := fun _ => fun
  | [d1, d2, d3] => { results := [.lit (.bool false)], args := [d1, d2, d3] }
  | _ => none }
def SynthInvalidWrongFalsely : Prop := synthInvalidRow.holds Try.pinned (OpenSpec.ofChange synthInvalidWrong)

/-- 'jacquardlaw48.TimingMeshes': WHATEVER THE INPUT: true; the input reads as it did. -/
def timingMeshesSpec : ChangeSpec := { name := "timingMeshes", fn := fun _ => fun
  | [d1, d2] => { results := [.lit (.bool true)], args := [d1, d2] }
  | _ => none }
def timingMeshesRow : OpenClaim := { program := "ytlimckldnjmabaa", sum := "8eab0b5efd183f5ee8f33368e0b7eb0ab83dce6dcd97e19b6a816f6a1638dc23", func := "jacquard/jacquardlaw48.TimingMeshes", spec := "timingMeshes", unfollowed := true, recurses := true, apart := false }
def TimingMeshesSaid : Prop := timingMeshesRow.holds Try.pinned (OpenSpec.ofChange timingMeshesSpec)

/-- ITS FALSE NEIGHBOUR: 'it returns false'. Refute it at one input. -/
def timingMeshesWrong : ChangeSpec := { name := "timingMeshes", fn := fun _ => fun
  | [d1, d2] => { results := [.lit (.bool false)], args := [d1, d2] }
  | _ => none }
def TimingMeshesWrongFalsely : Prop := timingMeshesRow.holds Try.pinned (OpenSpec.ofChange timingMeshesWrong)

/- THE SECOND FORM. 'bulk': how many values and letters a reading holds, each counted each time it is reached (what is shared counts as often as it is met; a slice's spare places count too). A statement '..UptoSaid' is the law's where the arguments, and the package variables that the reading takes, are together of bulk at most 1048576: NARROWER than '..Said'. Prove '..Said' where nothing that the law and all that it calls make is longer than what came in: it says more and counts as full. Else prove '..UptoSaid'. A law counts once. -/
mutual
def uptoBulk {H : Type} : DataW H → Nat
  | .lit (.string bytes) => bytes.length + 1
  | .lit _ => 1
  | .nil => 1
  | .ptr d => uptoBulk d + 1
  | .slice elems spare => uptoBulkAll elems + uptoBulkAll spare + 1
  | .agg parts => uptoBulkAll parts + 1
  | .iface _ d => uptoBulk d + 1
  | .map entries => uptoBulkEntries entries + 1
  | .held _ => 1
def uptoBulkAll {H : Type} : List (DataW H) → Nat
  | [] => 0
  | d :: r => uptoBulk d + uptoBulkAll r
def uptoBulkEntries {H : Type} : List (Lit × DataW H) → Nat
  | [] => 0
  | x :: r => uptoBulkEntry x + uptoBulkEntries r
def uptoBulkEntry {H : Type} : Lit × DataW H → Nat
  | (.string bytes, d) => bytes.length + uptoBulk d + 1
  | (_, d) => uptoBulk d + 1
 end
def uptoSmall : (H : Type) → List (DataW H) → Bool := fun _ ds => decide (uptoBulkAll ds ≤ 1048576)
def OpenSpec.upto (s : _root_.Go.ChangeSpec) : _root_.Go.OpenSpec := { _root_.Go.OpenSpec.ofChange s with cond := some uptoSmall }

/-- 'jacquardlaw42.SimRefuses', WHERE WHAT IT READS IS OF BULK AT MOST 1048576: true; the input reads as it did. -/
def simRefusesUptoRow : OpenClaim := { program := "ytlimckldnjmabaa", sum := "8eab0b5efd183f5ee8f33368e0b7eb0ab83dce6dcd97e19b6a816f6a1638dc23", func := "jacquard/jacquardlaw42.SimRefuses", spec := "simRefuses", unfollowed := true, recurses := true, apart := false, narrowed := true }
def SimRefusesUptoSaid : Prop := simRefusesUptoRow.holds Try.pinned (OpenSpec.upto simRefusesSpec)

/-- 'jacquardlaw42.SimStalls', WHERE WHAT IT READS IS OF BULK AT MOST 1048576: true; the input reads as it did. -/
def simStallsUptoRow : OpenClaim := { program := "ytlimckldnjmabaa", sum := "8eab0b5efd183f5ee8f33368e0b7eb0ab83dce6dcd97e19b6a816f6a1638dc23", func := "jacquard/jacquardlaw42.SimStalls", spec := "simStalls", unfollowed := true, recurses := true, apart := false, narrowed := true }
def SimStallsUptoSaid : Prop := simStallsUptoRow.holds Try.pinned (OpenSpec.upto simStallsSpec)

/-- 'jacquardlaw42.SimScalars', WHERE WHAT IT READS IS OF BULK AT MOST 1048576: true; the input reads as it did. -/
def simScalarsUptoRow : OpenClaim := { program := "ytlimckldnjmabaa", sum := "8eab0b5efd183f5ee8f33368e0b7eb0ab83dce6dcd97e19b6a816f6a1638dc23", func := "jacquard/jacquardlaw42.SimScalars", spec := "simScalars", unfollowed := true, recurses := true, apart := false, narrowed := true }
def SimScalarsUptoSaid : Prop := simScalarsUptoRow.holds Try.pinned (OpenSpec.upto simScalarsSpec)

/-- 'jacquardlaw42.SimClones', WHERE WHAT IT READS IS OF BULK AT MOST 1048576: true; the input reads as it did. -/
def simClonesUptoRow : OpenClaim := { program := "ytlimckldnjmabaa", sum := "8eab0b5efd183f5ee8f33368e0b7eb0ab83dce6dcd97e19b6a816f6a1638dc23", func := "jacquard/jacquardlaw42.SimClones", spec := "simClones", unfollowed := true, recurses := true, apart := false, narrowed := true }
def SimClonesUptoSaid : Prop := simClonesUptoRow.holds Try.pinned (OpenSpec.upto simClonesSpec)

/-- 'jacquardlaw47.SynthOperators', WHERE WHAT IT READS IS OF BULK AT MOST 1048576: true; the input reads as it did. -/
def synthOperatorsUptoRow : OpenClaim := { program := "ytlimckldnjmabaa", sum := "8eab0b5efd183f5ee8f33368e0b7eb0ab83dce6dcd97e19b6a816f6a1638dc23", func := "jacquard/jacquardlaw47.SynthOperators", spec := "synthOperators", unfollowed := true, recurses := true, apart := false, narrowed := true }
def SynthOperatorsUptoSaid : Prop := synthOperatorsUptoRow.holds Try.pinned (OpenSpec.upto synthOperatorsSpec)

/-- 'jacquardlaw47.SynthDelays', WHERE WHAT IT READS IS OF BULK AT MOST 1048576: true; the input reads as it did. -/
def synthDelaysUptoRow : OpenClaim := { program := "ytlimckldnjmabaa", sum := "8eab0b5efd183f5ee8f33368e0b7eb0ab83dce6dcd97e19b6a816f6a1638dc23", func := "jacquard/jacquardlaw47.SynthDelays", spec := "synthDelays", unfollowed := true, recurses := true, apart := false, narrowed := true }
def SynthDelaysUptoSaid : Prop := synthDelaysUptoRow.holds Try.pinned (OpenSpec.upto synthDelaysSpec)

/-- 'jacquardlaw47.SynthRefuses', WHERE WHAT IT READS IS OF BULK AT MOST 1048576: true; the input reads as it did. -/
def synthRefusesUptoRow : OpenClaim := { program := "ytlimckldnjmabaa", sum := "8eab0b5efd183f5ee8f33368e0b7eb0ab83dce6dcd97e19b6a816f6a1638dc23", func := "jacquard/jacquardlaw47.SynthRefuses", spec := "synthRefuses", unfollowed := true, recurses := true, apart := false, narrowed := true }
def SynthRefusesUptoSaid : Prop := synthRefusesUptoRow.holds Try.pinned (OpenSpec.upto synthRefusesSpec)

/-- 'jacquardlaw47.SynthTimes', WHERE WHAT IT READS IS OF BULK AT MOST 1048576: true; the input reads as it did. -/
def synthTimesUptoRow : OpenClaim := { program := "ytlimckldnjmabaa", sum := "8eab0b5efd183f5ee8f33368e0b7eb0ab83dce6dcd97e19b6a816f6a1638dc23", func := "jacquard/jacquardlaw47.SynthTimes", spec := "synthTimes", unfollowed := true, recurses := true, apart := false, narrowed := true }
def SynthTimesUptoSaid : Prop := synthTimesUptoRow.holds Try.pinned (OpenSpec.upto synthTimesSpec)

/-- 'jacquardlaw47.SynthInvalid', WHERE WHAT IT READS IS OF BULK AT MOST 1048576: true; the input reads as it did. -/
def synthInvalidUptoRow : OpenClaim := { program := "ytlimckldnjmabaa", sum := "8eab0b5efd183f5ee8f33368e0b7eb0ab83dce6dcd97e19b6a816f6a1638dc23", func := "jacquard/jacquardlaw47.SynthInvalid", spec := "synthInvalid", unfollowed := true, recurses := true, apart := false, narrowed := true }
def SynthInvalidUptoSaid : Prop := synthInvalidUptoRow.holds Try.pinned (OpenSpec.upto synthInvalidSpec)

/-- 'jacquardlaw48.TimingMeshes', WHERE WHAT IT READS IS OF BULK AT MOST 1048576: true; the input reads as it did. -/
def timingMeshesUptoRow : OpenClaim := { program := "ytlimckldnjmabaa", sum := "8eab0b5efd183f5ee8f33368e0b7eb0ab83dce6dcd97e19b6a816f6a1638dc23", func := "jacquard/jacquardlaw48.TimingMeshes", spec := "timingMeshes", unfollowed := true, recurses := true, apart := false, narrowed := true }
def TimingMeshesUptoSaid : Prop := timingMeshesUptoRow.holds Try.pinned (OpenSpec.upto timingMeshesSpec)

end Rows
end Go.Proofs.Ytlimckldnjmabaa
