/-
  No cell of these rows narrows 'for every input' (looked for: loops, veiled, ifaces, maps, wideKeys, modest, calm, conditions, laid).
  DERIVED. THE GIVEN ROWS OF THIS SEAT. 12 by the template 'for every input the law returns true; each argument reads behind the call as it read before'; 0 by the template 'total and deterministic' (their statements: YtligpghohcfpnaaTotals.lean).
  GIVEN WITH THE SEED: the statements are not yours to turn. If you find one false, say at which input.
  Laid BY PROGRAM, IN A SANDBOX (cutbox-rows.mjs): the forced cells as the released guide's own fill.sh prints them over the translation 4a4b8ef891be2a8a… (all of the seat's roots in one cut). By AI agents, Wed Nov 11 2026. No macro, syntax, notation, axiom, sorry.
-/
import Derived.Test.YtligpghohcfpnaaChecked
import GoSem.Claim
import GoSem.ClaimJoined
import GoSem.ClaimMapViews
import Derived.JoinedTies
import Derived.KernelRfl
namespace Go.Proofs.Ytligpghohcfpnaa
/- THE CELL 'sum', in the pinned program and in every row, IS THE sha256 OF THE DUMP (.gsa) THAT YtligpghohcfpnaaProg.lean LOADS. Nothing in Lean hashes anything: it is a label: what it is worth is what the hold of that sum in a sandbox is worth. -/
noncomputable def Try.pinned : Pinned := { name := "ytligpghohcfpnaa", sum := "4a4b8ef891be2a8a6740158de3aac0043ebea76d6bbef1a0ed2d62ec5357ac27", checked := Try.checked }
namespace Rows
def none {H : Type} : Left H := { results := [], args := [] }

/-- 'jacquardlaw40.NetlistChecks': WHATEVER THE INPUT: true; the input reads as it did. -/
def netlistChecksSpec : ChangeSpec := { name := "netlistChecks", fn := fun _ => fun
  | [d] => { results := [.lit (.bool true)], args := [d] }
  | _ => none }
def netlistChecksRow : OpenClaim := { program := "ytligpghohcfpnaa", sum := "4a4b8ef891be2a8a6740158de3aac0043ebea76d6bbef1a0ed2d62ec5357ac27", func := "jacquard/jacquardlaw40.NetlistChecks", spec := "netlistChecks", unfollowed := true, recurses := true, apart := false }
def NetlistChecksSaid : Prop := netlistChecksRow.holds Try.pinned (OpenSpec.ofChange netlistChecksSpec)

/-- ITS FALSE NEIGHBOUR: 'it returns false'. Refute it at one input. -/
def netlistChecksWrong : ChangeSpec := { name := "netlistChecks", fn := fun _ => fun
  | [d] => { results := [.lit (.bool false)], args := [d] }
  | _ => none }
def NetlistChecksWrongFalsely : Prop := netlistChecksRow.holds Try.pinned (OpenSpec.ofChange netlistChecksWrong)

/-- 'jacquardlaw40.NetlistMade': WHATEVER THE INPUT: true; the input reads as it did. -/
def netlistMadeSpec : ChangeSpec := { name := "netlistMade", fn := fun _ => fun
  | [d1, d2, d3] => { results := [.lit (.bool true)], args := [d1, d2, d3] }
  | _ => none }
def netlistMadeRow : OpenClaim := { program := "ytligpghohcfpnaa", sum := "4a4b8ef891be2a8a6740158de3aac0043ebea76d6bbef1a0ed2d62ec5357ac27", func := "jacquard/jacquardlaw40.NetlistMade", spec := "netlistMade", unfollowed := true, recurses := true, apart := false }
def NetlistMadeSaid : Prop := netlistMadeRow.holds Try.pinned (OpenSpec.ofChange netlistMadeSpec)

/-- ITS FALSE NEIGHBOUR: 'it returns false'. Refute it at one input. -/
def netlistMadeWrong : ChangeSpec := { name := "netlistMade", fn := fun _ => fun
  | [d1, d2, d3] => { results := [.lit (.bool false)], args := [d1, d2, d3] }
  | _ => none }
def NetlistMadeWrongFalsely : Prop := netlistMadeRow.holds Try.pinned (OpenSpec.ofChange netlistMadeWrong)

/-- 'jacquardlaw40.NetlistOrders': WHATEVER THE INPUT: true; the input reads as it did. -/
def netlistOrdersSpec : ChangeSpec := { name := "netlistOrders", fn := fun _ => fun
  | [d] => { results := [.lit (.bool true)], args := [d] }
  | _ => none }
def netlistOrdersRow : OpenClaim := { program := "ytligpghohcfpnaa", sum := "4a4b8ef891be2a8a6740158de3aac0043ebea76d6bbef1a0ed2d62ec5357ac27", func := "jacquard/jacquardlaw40.NetlistOrders", spec := "netlistOrders", unfollowed := true, recurses := true, apart := false }
def NetlistOrdersSaid : Prop := netlistOrdersRow.holds Try.pinned (OpenSpec.ofChange netlistOrdersSpec)

/-- ITS FALSE NEIGHBOUR: 'it returns false'. Refute it at one input. -/
def netlistOrdersWrong : ChangeSpec := { name := "netlistOrders", fn := fun _ => fun
  | [d] => { results := [.lit (.bool false)], args := [d] }
  | _ => none }
def NetlistOrdersWrongFalsely : Prop := netlistOrdersRow.holds Try.pinned (OpenSpec.ofChange netlistOrdersWrong)

/-- 'jacquardlaw40.NetlistSame': WHATEVER THE INPUT: true; the input reads as it did. -/
def netlistSameSpec : ChangeSpec := { name := "netlistSame", fn := fun _ => fun
  | [d1, d2] => { results := [.lit (.bool true)], args := [d1, d2] }
  | _ => none }
def netlistSameRow : OpenClaim := { program := "ytligpghohcfpnaa", sum := "4a4b8ef891be2a8a6740158de3aac0043ebea76d6bbef1a0ed2d62ec5357ac27", func := "jacquard/jacquardlaw40.NetlistSame", spec := "netlistSame", unfollowed := true, recurses := true, apart := false }
def NetlistSameSaid : Prop := netlistSameRow.holds Try.pinned (OpenSpec.ofChange netlistSameSpec)

/-- ITS FALSE NEIGHBOUR: 'it returns false'. Refute it at one input. -/
def netlistSameWrong : ChangeSpec := { name := "netlistSame", fn := fun _ => fun
  | [d1, d2] => { results := [.lit (.bool false)], args := [d1, d2] }
  | _ => none }
def NetlistSameWrongFalsely : Prop := netlistSameRow.holds Try.pinned (OpenSpec.ofChange netlistSameWrong)

/-- 'jacquardlaw40.NetlistBuilds': WHATEVER THE INPUT: true; the input reads as it did. -/
def netlistBuildsSpec : ChangeSpec := { name := "netlistBuilds", fn := fun _ => fun
  | [d1, d2] => { results := [.lit (.bool true)], args := [d1, d2] }
  | _ => none }
def netlistBuildsRow : OpenClaim := { program := "ytligpghohcfpnaa", sum := "4a4b8ef891be2a8a6740158de3aac0043ebea76d6bbef1a0ed2d62ec5357ac27", func := "jacquard/jacquardlaw40.NetlistBuilds", spec := "netlistBuilds", unfollowed := true, recurses := true, apart := false }
def NetlistBuildsSaid : Prop := netlistBuildsRow.holds Try.pinned (OpenSpec.ofChange netlistBuildsSpec)

/-- ITS FALSE NEIGHBOUR: 'it returns false'. Refute it at one input. -/
def netlistBuildsWrong : ChangeSpec := { name := "netlistBuilds", fn := fun _ => fun
  | [d1, d2] => { results := [.lit (.bool false)], args := [d1, d2] }
  | _ => none }
def NetlistBuildsWrongFalsely : Prop := netlistBuildsRow.holds Try.pinned (OpenSpec.ofChange netlistBuildsWrong)

/-- 'jacquardlaw40.NetlistCones': WHATEVER THE INPUT: true; the input reads as it did. -/
def netlistConesSpec : ChangeSpec := { name := "netlistCones", fn := fun _ => fun
  | [d] => { results := [.lit (.bool true)], args := [d] }
  | _ => none }
def netlistConesRow : OpenClaim := { program := "ytligpghohcfpnaa", sum := "4a4b8ef891be2a8a6740158de3aac0043ebea76d6bbef1a0ed2d62ec5357ac27", func := "jacquard/jacquardlaw40.NetlistCones", spec := "netlistCones", unfollowed := true, recurses := true, apart := false }
def NetlistConesSaid : Prop := netlistConesRow.holds Try.pinned (OpenSpec.ofChange netlistConesSpec)

/-- ITS FALSE NEIGHBOUR: 'it returns false'. Refute it at one input. -/
def netlistConesWrong : ChangeSpec := { name := "netlistCones", fn := fun _ => fun
  | [d] => { results := [.lit (.bool false)], args := [d] }
  | _ => none }
def NetlistConesWrongFalsely : Prop := netlistConesRow.holds Try.pinned (OpenSpec.ofChange netlistConesWrong)

/-- 'jacquardlaw40.NetlistPrunes': WHATEVER THE INPUT: true; the input reads as it did. -/
def netlistPrunesSpec : ChangeSpec := { name := "netlistPrunes", fn := fun _ => fun
  | [d] => { results := [.lit (.bool true)], args := [d] }
  | _ => none }
def netlistPrunesRow : OpenClaim := { program := "ytligpghohcfpnaa", sum := "4a4b8ef891be2a8a6740158de3aac0043ebea76d6bbef1a0ed2d62ec5357ac27", func := "jacquard/jacquardlaw40.NetlistPrunes", spec := "netlistPrunes", unfollowed := true, recurses := true, apart := false }
def NetlistPrunesSaid : Prop := netlistPrunesRow.holds Try.pinned (OpenSpec.ofChange netlistPrunesSpec)

/-- ITS FALSE NEIGHBOUR: 'it returns false'. Refute it at one input. -/
def netlistPrunesWrong : ChangeSpec := { name := "netlistPrunes", fn := fun _ => fun
  | [d] => { results := [.lit (.bool false)], args := [d] }
  | _ => none }
def NetlistPrunesWrongFalsely : Prop := netlistPrunesRow.holds Try.pinned (OpenSpec.ofChange netlistPrunesWrong)

/-- 'jacquardlaw48.TimingCells': WHATEVER THE INPUT: true; the input reads as it did. -/
def timingCellsSpec : ChangeSpec := { name := "timingCells", fn := fun _ => fun
  | [d] => { results := [.lit (.bool true)], args := [d] }
  | _ => none }
def timingCellsRow : OpenClaim := { program := "ytligpghohcfpnaa", sum := "4a4b8ef891be2a8a6740158de3aac0043ebea76d6bbef1a0ed2d62ec5357ac27", func := "jacquard/jacquardlaw48.TimingCells", spec := "timingCells", unfollowed := true, recurses := true, apart := false }
def TimingCellsSaid : Prop := timingCellsRow.holds Try.pinned (OpenSpec.ofChange timingCellsSpec)

/-- ITS FALSE NEIGHBOUR: 'it returns false'. Refute it at one input. -/
def timingCellsWrong : ChangeSpec := { name := "timingCells", fn := fun _ => fun
  | [d] => { results := [.lit (.bool false)], args := [d] }
  | _ => none }
def TimingCellsWrongFalsely : Prop := timingCellsRow.holds Try.pinned (OpenSpec.ofChange timingCellsWrong)

/-- 'jacquardlaw48.TimingWords': WHATEVER THE INPUT: true; the input reads as it did. -/
def timingWordsSpec : ChangeSpec := { name := "timingWords", fn := fun _ => fun
  | [d] => { results := [.lit (.bool true)], args := [d] }
  | _ => none }
def timingWordsRow : OpenClaim := { program := "ytligpghohcfpnaa", sum := "4a4b8ef891be2a8a6740158de3aac0043ebea76d6bbef1a0ed2d62ec5357ac27", func := "jacquard/jacquardlaw48.TimingWords", spec := "timingWords", unfollowed := true, recurses := true, apart := false }
def TimingWordsSaid : Prop := timingWordsRow.holds Try.pinned (OpenSpec.ofChange timingWordsSpec)

/-- ITS FALSE NEIGHBOUR: 'it returns false'. Refute it at one input. -/
def timingWordsWrong : ChangeSpec := { name := "timingWords", fn := fun _ => fun
  | [d] => { results := [.lit (.bool false)], args := [d] }
  | _ => none }
def TimingWordsWrongFalsely : Prop := timingWordsRow.holds Try.pinned (OpenSpec.ofChange timingWordsWrong)

/-- 'jacquardlaw48.TimingLocal': WHATEVER THE INPUT: true; the input reads as it did. -/
def timingLocalSpec : ChangeSpec := { name := "timingLocal", fn := fun _ => fun
  | [d1, d2] => { results := [.lit (.bool true)], args := [d1, d2] }
  | _ => none }
def timingLocalRow : OpenClaim := { program := "ytligpghohcfpnaa", sum := "4a4b8ef891be2a8a6740158de3aac0043ebea76d6bbef1a0ed2d62ec5357ac27", func := "jacquard/jacquardlaw48.TimingLocal", spec := "timingLocal", unfollowed := true, recurses := true, apart := false }
def TimingLocalSaid : Prop := timingLocalRow.holds Try.pinned (OpenSpec.ofChange timingLocalSpec)

/-- ITS FALSE NEIGHBOUR: 'it returns false'. Refute it at one input. -/
def timingLocalWrong : ChangeSpec := { name := "timingLocal", fn := fun _ => fun
  | [d1, d2] => { results := [.lit (.bool false)], args := [d1, d2] }
  | _ => none }
def TimingLocalWrongFalsely : Prop := timingLocalRow.holds Try.pinned (OpenSpec.ofChange timingLocalWrong)

/-- 'jacquardlaw48.TimingArrivals': WHATEVER THE INPUT: true; the input reads as it did. -/
def timingArrivalsSpec : ChangeSpec := { name := "timingArrivals", fn := fun _ => fun
  | [d1, d2, d3] => { results := [.lit (.bool true)], args := [d1, d2, d3] }
  | _ => none }
def timingArrivalsRow : OpenClaim := { program := "ytligpghohcfpnaa", sum := "4a4b8ef891be2a8a6740158de3aac0043ebea76d6bbef1a0ed2d62ec5357ac27", func := "jacquard/jacquardlaw48.TimingArrivals", spec := "timingArrivals", unfollowed := true, recurses := true, apart := false }
def TimingArrivalsSaid : Prop := timingArrivalsRow.holds Try.pinned (OpenSpec.ofChange timingArrivalsSpec)

/-- ITS FALSE NEIGHBOUR: 'it returns false'. Refute it at one input. -/
def timingArrivalsWrong : ChangeSpec := { name := "timingArrivals", fn := fun _ => fun
  | [d1, d2, d3] => { results := [.lit (.bool false)], args := [d1, d2, d3] }
  | _ => none }
def TimingArrivalsWrongFalsely : Prop := timingArrivalsRow.holds Try.pinned (OpenSpec.ofChange timingArrivalsWrong)

/-- 'jacquardlaw48.TimingSlack': WHATEVER THE INPUT: true; the input reads as it did. -/
def timingSlackSpec : ChangeSpec := { name := "timingSlack", fn := fun _ => fun
  | [d1, d2] => { results := [.lit (.bool true)], args := [d1, d2] }
  | _ => none }
def timingSlackRow : OpenClaim := { program := "ytligpghohcfpnaa", sum := "4a4b8ef891be2a8a6740158de3aac0043ebea76d6bbef1a0ed2d62ec5357ac27", func := "jacquard/jacquardlaw48.TimingSlack", spec := "timingSlack", unfollowed := true, recurses := true, apart := false }
def TimingSlackSaid : Prop := timingSlackRow.holds Try.pinned (OpenSpec.ofChange timingSlackSpec)

/-- ITS FALSE NEIGHBOUR: 'it returns false'. Refute it at one input. -/
def timingSlackWrong : ChangeSpec := { name := "timingSlack", fn := fun _ => fun
  | [d1, d2] => { results := [.lit (.bool false)], args := [d1, d2] }
  | _ => none }
def TimingSlackWrongFalsely : Prop := timingSlackRow.holds Try.pinned (OpenSpec.ofChange timingSlackWrong)

/- THE SECOND FORM. 'bulk': how many values and letters a reading holds, each counted each time it is reached (what is shared counts as often as it is met; a slice's spare places count too). A statement '..UptoSaid' is the law's where the arguments, and the package variables that the reading takes, are together of bulk at most 1048576: NARROWER than '..Said'. Prove '..Said' where nothing that the law and all that it calls make is longer than what came in: it says more and counts as full. Else prove '..UptoSaid'. A law counts once. -/
mutual
def uptoBulk {H : Type} : DataW H → Nat
  | .lit (.string bytes) => bytes.length + 1
  | .lit _ => 1
  | .nil => 1
  | .ptr d => uptoBulk d + 1
  | .slice elems spare => uptoBulkAll elems + uptoBulkAll spare + 1
  | .agg parts => uptoBulkAll parts + 1
  | .iface _ d => uptoBulk d + 1
  | .map entries => uptoBulkEntries entries + 1
  | .held _ => 1
def uptoBulkAll {H : Type} : List (DataW H) → Nat
  | [] => 0
  | d :: r => uptoBulk d + uptoBulkAll r
def uptoBulkEntries {H : Type} : List (Lit × DataW H) → Nat
  | [] => 0
  | x :: r => uptoBulkEntry x + uptoBulkEntries r
def uptoBulkEntry {H : Type} : Lit × DataW H → Nat
  | (.string bytes, d) => bytes.length + uptoBulk d + 1
  | (_, d) => uptoBulk d + 1
 end
def uptoSmall : (H : Type) → List (DataW H) → Bool := fun _ ds => decide (uptoBulkAll ds ≤ 1048576)
def OpenSpec.upto (s : _root_.Go.ChangeSpec) : _root_.Go.OpenSpec := { _root_.Go.OpenSpec.ofChange s with cond := some uptoSmall }

/-- 'jacquardlaw40.NetlistChecks', WHERE WHAT IT READS IS OF BULK AT MOST 1048576: true; the input reads as it did. -/
def netlistChecksUptoRow : OpenClaim := { program := "ytligpghohcfpnaa", sum := "4a4b8ef891be2a8a6740158de3aac0043ebea76d6bbef1a0ed2d62ec5357ac27", func := "jacquard/jacquardlaw40.NetlistChecks", spec := "netlistChecks", unfollowed := true, recurses := true, apart := false, narrowed := true }
def NetlistChecksUptoSaid : Prop := netlistChecksUptoRow.holds Try.pinned (OpenSpec.upto netlistChecksSpec)

/-- 'jacquardlaw40.NetlistMade', WHERE WHAT IT READS IS OF BULK AT MOST 1048576: true; the input reads as it did. -/
def netlistMadeUptoRow : OpenClaim := { program := "ytligpghohcfpnaa", sum := "4a4b8ef891be2a8a6740158de3aac0043ebea76d6bbef1a0ed2d62ec5357ac27", func := "jacquard/jacquardlaw40.NetlistMade", spec := "netlistMade", unfollowed := true, recurses := true, apart := false, narrowed := true }
def NetlistMadeUptoSaid : Prop := netlistMadeUptoRow.holds Try.pinned (OpenSpec.upto netlistMadeSpec)

/-- 'jacquardlaw40.NetlistOrders', WHERE WHAT IT READS IS OF BULK AT MOST 1048576: true; the input reads as it did. -/
def netlistOrdersUptoRow : OpenClaim := { program := "ytligpghohcfpnaa", sum := "4a4b8ef891be2a8a6740158de3aac0043ebea76d6bbef1a0ed2d62ec5357ac27", func := "jacquard/jacquardlaw40.NetlistOrders", spec := "netlistOrders", unfollowed := true, recurses := true, apart := false, narrowed := true }
def NetlistOrdersUptoSaid : Prop := netlistOrdersUptoRow.holds Try.pinned (OpenSpec.upto netlistOrdersSpec)

/-- 'jacquardlaw40.NetlistSame', WHERE WHAT IT READS IS OF BULK AT MOST 1048576: true; the input reads as it did. -/
def netlistSameUptoRow : OpenClaim := { program := "ytligpghohcfpnaa", sum := "4a4b8ef891be2a8a6740158de3aac0043ebea76d6bbef1a0ed2d62ec5357ac27", func := "jacquard/jacquardlaw40.NetlistSame", spec := "netlistSame", unfollowed := true, recurses := true, apart := false, narrowed := true }
def NetlistSameUptoSaid : Prop := netlistSameUptoRow.holds Try.pinned (OpenSpec.upto netlistSameSpec)

/-- 'jacquardlaw40.NetlistBuilds', WHERE WHAT IT READS IS OF BULK AT MOST 1048576: true; the input reads as it did. -/
def netlistBuildsUptoRow : OpenClaim := { program := "ytligpghohcfpnaa", sum := "4a4b8ef891be2a8a6740158de3aac0043ebea76d6bbef1a0ed2d62ec5357ac27", func := "jacquard/jacquardlaw40.NetlistBuilds", spec := "netlistBuilds", unfollowed := true, recurses := true, apart := false, narrowed := true }
def NetlistBuildsUptoSaid : Prop := netlistBuildsUptoRow.holds Try.pinned (OpenSpec.upto netlistBuildsSpec)

/-- 'jacquardlaw40.NetlistCones', WHERE WHAT IT READS IS OF BULK AT MOST 1048576: true; the input reads as it did. -/
def netlistConesUptoRow : OpenClaim := { program := "ytligpghohcfpnaa", sum := "4a4b8ef891be2a8a6740158de3aac0043ebea76d6bbef1a0ed2d62ec5357ac27", func := "jacquard/jacquardlaw40.NetlistCones", spec := "netlistCones", unfollowed := true, recurses := true, apart := false, narrowed := true }
def NetlistConesUptoSaid : Prop := netlistConesUptoRow.holds Try.pinned (OpenSpec.upto netlistConesSpec)

/-- 'jacquardlaw40.NetlistPrunes', WHERE WHAT IT READS IS OF BULK AT MOST 1048576: true; the input reads as it did. -/
def netlistPrunesUptoRow : OpenClaim := { program := "ytligpghohcfpnaa", sum := "4a4b8ef891be2a8a6740158de3aac0043ebea76d6bbef1a0ed2d62ec5357ac27", func := "jacquard/jacquardlaw40.NetlistPrunes", spec := "netlistPrunes", unfollowed := true, recurses := true, apart := false, narrowed := true }
def NetlistPrunesUptoSaid : Prop := netlistPrunesUptoRow.holds Try.pinned (OpenSpec.upto netlistPrunesSpec)

/-- 'jacquardlaw48.TimingCells', WHERE WHAT IT READS IS OF BULK AT MOST 1048576: true; the input reads as it did. -/
def timingCellsUptoRow : OpenClaim := { program := "ytligpghohcfpnaa", sum := "4a4b8ef891be2a8a6740158de3aac0043ebea76d6bbef1a0ed2d62ec5357ac27", func := "jacquard/jacquardlaw48.TimingCells", spec := "timingCells", unfollowed := true, recurses := true, apart := false, narrowed := true }
def TimingCellsUptoSaid : Prop := timingCellsUptoRow.holds Try.pinned (OpenSpec.upto timingCellsSpec)

/-- 'jacquardlaw48.TimingWords', WHERE WHAT IT READS IS OF BULK AT MOST 1048576: true; the input reads as it did. -/
def timingWordsUptoRow : OpenClaim := { program := "ytligpghohcfpnaa", sum := "4a4b8ef891be2a8a6740158de3aac0043ebea76d6bbef1a0ed2d62ec5357ac27", func := "jacquard/jacquardlaw48.TimingWords", spec := "timingWords", unfollowed := true, recurses := true, apart := false, narrowed := true }
def TimingWordsUptoSaid : Prop := timingWordsUptoRow.holds Try.pinned (OpenSpec.upto timingWordsSpec)

/-- 'jacquardlaw48.TimingLocal', WHERE WHAT IT READS IS OF BULK AT MOST 1048576: true; the input reads as it did. -/
def timingLocalUptoRow : OpenClaim := { program := "ytligpghohcfpnaa", sum := "4a4b8ef891be2a8a6740158de3aac0043ebea76d6bbef1a0ed2d62ec5357ac27", func := "jacquard/jacquardlaw48.TimingLocal", spec := "timingLocal", unfollowed := true, recurses := true, apart := false, narrowed := true }
def TimingLocalUptoSaid : Prop := timingLocalUptoRow.holds Try.pinned (OpenSpec.upto timingLocalSpec)

/-- 'jacquardlaw48.TimingArrivals', WHERE WHAT IT READS IS OF BULK AT MOST 1048576: true; the input reads as it did. -/
def timingArrivalsUptoRow : OpenClaim := { program := "ytligpghohcfpnaa", sum := "4a4b8ef891be2a8a6740158de3aac0043ebea76d6bbef1a0ed2d62ec5357ac27", func := "jacquard/jacquardlaw48.TimingArrivals", spec := "timingArrivals", unfollowed := true, recurses := true, apart := false, narrowed := true }
def TimingArrivalsUptoSaid : Prop := timingArrivalsUptoRow.holds Try.pinned (OpenSpec.upto timingArrivalsSpec)

/-- 'jacquardlaw48.TimingSlack', WHERE WHAT IT READS IS OF BULK AT MOST 1048576: true; the input reads as it did. -/
def timingSlackUptoRow : OpenClaim := { program := "ytligpghohcfpnaa", sum := "4a4b8ef891be2a8a6740158de3aac0043ebea76d6bbef1a0ed2d62ec5357ac27", func := "jacquard/jacquardlaw48.TimingSlack", spec := "timingSlack", unfollowed := true, recurses := true, apart := false, narrowed := true }
def TimingSlackUptoSaid : Prop := timingSlackUptoRow.holds Try.pinned (OpenSpec.upto timingSlackSpec)

end Rows
end Go.Proofs.Ytligpghohcfpnaa
