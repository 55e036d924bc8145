/- The walks through the gates' functions: the reference. -/
import Derived.Test.YtiehdnjcapjacaaGatesF0
namespace Go.Proofs.Ytiehdnjcapjacaa
open Go Go.AW Go.Proofs



set_option maxHeartbeats 1000000 in
theorem formed_spec {l : List Gate} (hl : l.length ≤ 4611686018427387904) : ACalls Try.prog 11 [.fz 3 (l.map Gate.row)] [] [] (fun r o => r = .v (.bool (formed l)) ∧ o = []) := by
  refine ACalls.of Try.func11 rfl rfl rfl (n := 71) (by decide) (Nat.le_of_ble_eq_true rfl) ?_
  refine AWp.seq ?_
  refine AWp.region ?_
  refine AOps.val (Y.assign rfl rfl) (by decide) ?_
  refine AOps.nil ?_
  refine AWp.seq ?_
  refine AWp.seq ?_
  refine AWp.region ?_
  refine AOps.val (Y.assign rfl rfl) (by decide) ?_
  refine AOps.nil ?_
  refine AWp.block ?_
  refine AWp.loop (fun (ix : Nat) => ⟨[(3, .v (.int .i64 ((ix : Int)))), (0, .fz 3 (l.map Gate.row))], []⟩) (fun ix => ix ≤ l.length ∧ ∀ j q, j < ix → l[j]? = some q → okGate j q) (fun ix => l.length - ix) (0) (⟨by omega, by intro j q h; omega⟩) (Le.mk (by repeat (first | exact SubL.nil | refine SubL.cons rfl ?_)) (by repeat (first | exact SubL.nil | refine SubL.cons rfl ?_))) (fun ix hI => ?_)
  refine AWp.seq ?_
  refine AWp.seq ?_
  refine AWp.region ?_
  first | refine AOps.val (Y.move rfl rfl) (by decide) ?_ | refine AOps.moveU rfl (by decide) ?_
  first | refine AOps.val (Y.move rfl rfl) (by decide) ?_ | refine AOps.moveU rfl (by decide) ?_
  refine AOps.val (Y.len sl22 rfl (n := l.length) (congrArg some (List.length_map ..))) (by decide) ?_
  refine AOps.val (Y.lss rfl rfl) (by decide) ?_
  refine AOps.nil ?_
  refine AWp.condD rfl (fun c8 => ?_) (fun c8 => ?_)
  · obtain ⟨q, hg⟩ : ∃ q, l[ix]? = some q := ⟨_, List.getElem?_eq_getElem (by omega)⟩
    refine AWp.skip ?_
    refine AWp.seq ?_
    refine AWp.block ?_
    refine AWp.seq ?_
    refine AWp.region ?_
    first | refine AOps.val (Y.move rfl rfl) (by decide) ?_ | refine AOps.moveU rfl (by decide) ?_
    first | refine AOps.val (Y.move rfl rfl) (by decide) ?_ | refine AOps.moveU rfl (by decide) ?_
    refine AOps.val (Y.indexF sl22 rfl rfl rfl (getElem?_map' hg)) (by decide) ?_
    refine AOps.val (Y.loadA sh38 rfl rfl (Nat.le_of_ble_eq_true rfl) rfl rfl) (by decide) ?_
    refine AOps.alloc 104 ze38 rfl rfl (by decide) ?_
    first | refine AOps.storeC si38 rfl rfl rfl rfl rfl rfl (Nat.le_of_ble_eq_true rfl) rfl ?_ | refine AOps.storeR si38 rfl rfl rfl rfl rfl rfl rfl (by first | assumption | exact getElem?_map' (by assumption)) (Nat.le_of_ble_eq_true rfl) ?_
    refine AOps.nil ?_
    refine AWp.seq ?_
    refine AWp.seq ?_
    refine AWp.region ?_
    refine AOps.val (Y.fieldAddr fl38_0 rfl rfl) (by decide) ?_
    refine AOps.val (Y.load sh3 rfl rfl rfl rfl) (by decide) ?_
    refine AOps.val (Y.lss rfl rfl) (by decide) ?_
    first | refine AOps.val (Y.move rfl rfl) (by decide) ?_ | refine AOps.moveU rfl (by decide) ?_
    refine AOps.splitD (d := 18) rfl (fun c18 => ?_) (fun c18 => ?_)
    · refine AOps.guardSkipV (d := 18) rfl (by decide) (by decide) rfl rfl ?_
      refine AOps.guardSkipV (d := 18) rfl (by decide) (by decide) rfl rfl ?_
      refine AOps.guardSkipV (d := 18) rfl (by decide) (by decide) rfl rfl ?_
      refine AOps.val (Y.pick rfl rfl rfl) (by decide) ?_
      refine AOps.nil ?_
      refine AWp.condT rfl ?_
      refine AWp.seq ?_
      refine AWp.region ?_
      refine AOps.val (Y.assign rfl rfl) (by decide) ?_
      refine AOps.nil ?_
      refine AWp.ret ?_
      exact ⟨_, _, rfl, rfl, rform (formed_bad hg (by simp only [okGate, okArg, operands]; omega)), rfl⟩
    · refine AOps.guardRun (d := 18) rfl (by decide) rfl ?_
      refine AOps.val (Y.fieldAddr fl38_0 rfl rfl) (by decide) ?_
      refine AOps.guardRun (d := 18) rfl (by decide) rfl ?_
      refine AOps.val (Y.load sh3 rfl rfl rfl rfl) (by decide) ?_
      refine AOps.guardRun (d := 18) rfl (by decide) rfl ?_
      refine AOps.val (Y.gtr rfl rfl) (by decide) ?_
      refine AOps.val (Y.pick rfl rfl rfl) (by decide) ?_
      refine AOps.nil ?_
      refine AWp.condD rfl (fun c22 => ?_) (fun c22 => ?_)
      · refine AWp.seq ?_
        refine AWp.region ?_
        refine AOps.val (Y.assign rfl rfl) (by decide) ?_
        refine AOps.nil ?_
        refine AWp.ret ?_
        exact ⟨_, _, rfl, rfl, rform (formed_bad hg (by simp only [okGate, okArg, operands]; omega)), rfl⟩
      · refine AWp.skip ?_
        refine AWp.join (fun (_ : Unit) => ⟨[(3, .v (.int .i64 ((ix : Int)))), (0, .fz 3 (l.map Gate.row)), (4, .ptr 104 0 0 0)], [(104, .cells (Gate.row q))]⟩) (fun _ => ¬ (q.kind < 4 ∧ q.a ≠ 0) ∧ ¬ (q.kind < 5 ∧ q.b ≠ 0)) ?_ (fun u hJ => ?_)
        · refine AWp.seq ?_
          refine AWp.region ?_
          refine AOps.val (Y.fieldAddr fl38_0 rfl rfl) (by decide) ?_
          refine AOps.val (Y.load sh3 rfl rfl rfl rfl) (by decide) ?_
          refine AOps.val (Y.lss rfl rfl) (by decide) ?_
          first | refine AOps.val (Y.move rfl rfl) (by decide) ?_ | refine AOps.moveU rfl (by decide) ?_
          refine AOps.splitD (d := 26) rfl (fun c26 => ?_) (fun c26 => ?_)
          · refine AOps.guardRun (d := 26) rfl (by decide) rfl ?_
            refine AOps.val (Y.fieldAddr fl38_1 rfl rfl) (by decide) ?_
            refine AOps.guardRun (d := 26) rfl (by decide) rfl ?_
            refine AOps.val (Y.load sh3 rfl rfl rfl rfl) (by decide) ?_
            refine AOps.guardRun (d := 26) rfl (by decide) rfl ?_
            refine AOps.val (Y.neq rfl rfl) (by decide) ?_
            refine AOps.val (Y.pick rfl rfl rfl) (by decide) ?_
            first | refine AOps.val (Y.move rfl rfl) (by decide) ?_ | refine AOps.moveU rfl (by decide) ?_
            refine AOps.splitD (d := 31) rfl (fun c31 => ?_) (fun c31 => ?_)
            · refine AOps.guardSkipV (d := 31) rfl (by decide) (by decide) rfl rfl ?_
              refine AOps.guardSkipV (d := 31) rfl (by decide) (by decide) rfl rfl ?_
              refine AOps.guardSkipV (d := 31) rfl (by decide) (by decide) rfl rfl ?_
              refine AOps.guardSkipV (d := 31) rfl (by decide) (by decide) rfl rfl ?_
              refine AOps.guardSkipV (d := 35) rfl (by decide) (by decide) rfl rfl ?_
              refine AOps.guardSkipV (d := 35) rfl (by decide) (by decide) rfl rfl ?_
              refine AOps.guardSkipV (d := 35) rfl (by decide) (by decide) rfl rfl ?_
              refine AOps.guardSkipV (d := 31) rfl (by decide) (by decide) rfl rfl ?_
              refine AOps.val (Y.pick rfl rfl rfl) (by decide) ?_
              refine AOps.nil ?_
              refine AWp.condT rfl ?_
              refine AWp.seq ?_
              refine AWp.region ?_
              refine AOps.val (Y.assign rfl rfl) (by decide) ?_
              refine AOps.nil ?_
              refine AWp.ret ?_
              exact ⟨_, _, rfl, rfl, rform (formed_bad hg (by simp only [okGate, okArg, operands]; omega)), rfl⟩
            · refine AOps.guardRun (d := 31) rfl (by decide) rfl ?_
              refine AOps.val (Y.fieldAddr fl38_0 rfl rfl) (by decide) ?_
              refine AOps.guardRun (d := 31) rfl (by decide) rfl ?_
              refine AOps.val (Y.load sh3 rfl rfl rfl rfl) (by decide) ?_
              refine AOps.guardRun (d := 31) rfl (by decide) rfl ?_
              refine AOps.val (Y.lss rfl rfl) (by decide) ?_
              refine AOps.guardRun (d := 31) rfl (by decide) rfl ?_
              first | refine AOps.val (Y.move rfl rfl) (by decide) ?_ | refine AOps.moveU rfl (by decide) ?_
              refine AOps.splitD (d := 35) rfl (fun c35 => ?_) (fun c35 => ?_)
              · refine AOps.guardRun (d := 35) rfl (by decide) rfl ?_
                refine AOps.val (Y.fieldAddr fl38_2 rfl rfl) (by decide) ?_
                refine AOps.guardRun (d := 35) rfl (by decide) rfl ?_
                refine AOps.val (Y.load sh3 rfl rfl rfl rfl) (by decide) ?_
                refine AOps.guardRun (d := 35) rfl (by decide) rfl ?_
                refine AOps.val (Y.neq rfl rfl) (by decide) ?_
                refine AOps.guardRun (d := 31) rfl (by decide) rfl ?_
                refine AOps.val (Y.pick rfl rfl rfl) (by decide) ?_
                refine AOps.val (Y.pick rfl rfl rfl) (by decide) ?_
                refine AOps.nil ?_
                refine AWp.condD rfl (fun c40 => ?_) (fun c40 => ?_)
                · refine AWp.seq ?_
                  refine AWp.region ?_
                  refine AOps.val (Y.assign rfl rfl) (by decide) ?_
                  refine AOps.nil ?_
                  refine AWp.ret ?_
                  exact ⟨_, _, rfl, rfl, rform (formed_bad hg (by simp only [okGate, okArg, operands]; omega)), rfl⟩
                · refine AWp.skip ?_
                  exact ⟨(), by omega, Le.mk (by repeat (first | exact SubL.nil | refine SubL.cons rfl ?_)) (by repeat (first | exact SubL.nil | refine SubL.cons rfl ?_))⟩
              · refine AOps.guardSkipV (d := 35) rfl (by decide) (by decide) rfl rfl ?_
                refine AOps.guardSkipV (d := 35) rfl (by decide) (by decide) rfl rfl ?_
                refine AOps.guardSkipV (d := 35) rfl (by decide) (by decide) rfl rfl ?_
                refine AOps.guardRun (d := 31) rfl (by decide) rfl ?_
                refine AOps.val (Y.pick rfl rfl rfl) (by decide) ?_
                refine AOps.val (Y.pick rfl rfl rfl) (by decide) ?_
                refine AOps.nil ?_
                refine AWp.condF rfl ?_
                refine AWp.skip ?_
                exact ⟨(), by omega, Le.mk (by repeat (first | exact SubL.nil | refine SubL.cons rfl ?_)) (by repeat (first | exact SubL.nil | refine SubL.cons rfl ?_))⟩
          · refine AOps.guardSkipV (d := 26) rfl (by decide) (by decide) rfl rfl ?_
            refine AOps.guardSkipV (d := 26) rfl (by decide) (by decide) rfl rfl ?_
            refine AOps.guardSkipV (d := 26) rfl (by decide) (by decide) rfl rfl ?_
            refine AOps.val (Y.pick rfl rfl rfl) (by decide) ?_
            first | refine AOps.val (Y.move rfl rfl) (by decide) ?_ | refine AOps.moveU rfl (by decide) ?_
            refine AOps.guardRun (d := 31) rfl (by decide) rfl ?_
            refine AOps.val (Y.fieldAddr fl38_0 rfl rfl) (by decide) ?_
            refine AOps.guardRun (d := 31) rfl (by decide) rfl ?_
            refine AOps.val (Y.load sh3 rfl rfl rfl rfl) (by decide) ?_
            refine AOps.guardRun (d := 31) rfl (by decide) rfl ?_
            refine AOps.val (Y.lss rfl rfl) (by decide) ?_
            refine AOps.guardRun (d := 31) rfl (by decide) rfl ?_
            first | refine AOps.val (Y.move rfl rfl) (by decide) ?_ | refine AOps.moveU rfl (by decide) ?_
            refine AOps.splitD (d := 35) rfl (fun c35 => ?_) (fun c35 => ?_)
            · refine AOps.guardRun (d := 35) rfl (by decide) rfl ?_
              refine AOps.val (Y.fieldAddr fl38_2 rfl rfl) (by decide) ?_
              refine AOps.guardRun (d := 35) rfl (by decide) rfl ?_
              refine AOps.val (Y.load sh3 rfl rfl rfl rfl) (by decide) ?_
              refine AOps.guardRun (d := 35) rfl (by decide) rfl ?_
              refine AOps.val (Y.neq rfl rfl) (by decide) ?_
              refine AOps.guardRun (d := 31) rfl (by decide) rfl ?_
              refine AOps.val (Y.pick rfl rfl rfl) (by decide) ?_
              refine AOps.val (Y.pick rfl rfl rfl) (by decide) ?_
              refine AOps.nil ?_
              refine AWp.condD rfl (fun c40 => ?_) (fun c40 => ?_)
              · refine AWp.seq ?_
                refine AWp.region ?_
                refine AOps.val (Y.assign rfl rfl) (by decide) ?_
                refine AOps.nil ?_
                refine AWp.ret ?_
                exact ⟨_, _, rfl, rfl, rform (formed_bad hg (by simp only [okGate, okArg, operands]; omega)), rfl⟩
              · refine AWp.skip ?_
                exact ⟨(), by omega, Le.mk (by repeat (first | exact SubL.nil | refine SubL.cons rfl ?_)) (by repeat (first | exact SubL.nil | refine SubL.cons rfl ?_))⟩
            · refine AOps.guardSkipV (d := 35) rfl (by decide) (by decide) rfl rfl ?_
              refine AOps.guardSkipV (d := 35) rfl (by decide) (by decide) rfl rfl ?_
              refine AOps.guardSkipV (d := 35) rfl (by decide) (by decide) rfl rfl ?_
              refine AOps.guardRun (d := 31) rfl (by decide) rfl ?_
              refine AOps.val (Y.pick rfl rfl rfl) (by decide) ?_
              refine AOps.val (Y.pick rfl rfl rfl) (by decide) ?_
              refine AOps.nil ?_
              refine AWp.condF rfl ?_
              refine AWp.skip ?_
              exact ⟨(), by omega, Le.mk (by repeat (first | exact SubL.nil | refine SubL.cons rfl ?_)) (by repeat (first | exact SubL.nil | refine SubL.cons rfl ?_))⟩
        · refine AWp.seq ?_
          refine AWp.region ?_
          refine AOps.val (Y.fieldAddr fl38_0 rfl rfl) (by decide) ?_
          refine AOps.val (Y.load sh3 rfl rfl rfl rfl) (by decide) ?_
          refine AOps.val (Y.geq rfl rfl) (by decide) ?_
          first | refine AOps.val (Y.move rfl rfl) (by decide) ?_ | refine AOps.moveU rfl (by decide) ?_
          refine AOps.splitD (d := 44) rfl (fun c44 => ?_) (fun c44 => ?_)
          · refine AOps.guardRun (d := 44) rfl (by decide) rfl ?_
            refine AOps.val (Y.fieldAddr fl38_1 rfl rfl) (by decide) ?_
            refine AOps.guardRun (d := 44) rfl (by decide) rfl ?_
            refine AOps.val (Y.load sh3 rfl rfl rfl rfl) (by decide) ?_
            refine AOps.guardRun (d := 44) rfl (by decide) rfl ?_
            refine AOps.val (Y.lss rfl rfl) (by decide) ?_
            refine AOps.guardRun (d := 44) rfl (by decide) rfl ?_
            first | refine AOps.val (Y.move rfl rfl) (by decide) ?_ | refine AOps.moveU rfl (by decide) ?_
            refine AOps.splitD (d := 48) rfl (fun c48 => ?_) (fun c48 => ?_)
            · refine AOps.guardSkipV (d := 48) rfl (by decide) (by decide) rfl rfl ?_
              refine AOps.guardSkipV (d := 48) rfl (by decide) (by decide) rfl rfl ?_
              refine AOps.guardSkipV (d := 48) rfl (by decide) (by decide) rfl rfl ?_
              refine AOps.guardSkipV (d := 48) rfl (by decide) (by decide) rfl rfl ?_
              refine AOps.guardRun (d := 44) rfl (by decide) rfl ?_
              refine AOps.val (Y.pick rfl rfl rfl) (by decide) ?_
              refine AOps.val (Y.pick rfl rfl rfl) (by decide) ?_
              first | refine AOps.val (Y.move rfl rfl) (by decide) ?_ | refine AOps.moveU rfl (by decide) ?_
              refine AOps.guardSkipV (d := 55) rfl (by decide) (by decide) rfl rfl ?_
              refine AOps.guardSkipV (d := 55) rfl (by decide) (by decide) rfl rfl ?_
              refine AOps.guardSkipV (d := 55) rfl (by decide) (by decide) rfl rfl ?_
              refine AOps.guardSkipV (d := 55) rfl (by decide) (by decide) rfl rfl ?_
              refine AOps.guardSkipV (d := 59) rfl (by decide) (by decide) rfl rfl ?_
              refine AOps.guardSkipV (d := 59) rfl (by decide) (by decide) rfl rfl ?_
              refine AOps.guardSkipV (d := 59) rfl (by decide) (by decide) rfl rfl ?_
              refine AOps.guardSkipV (d := 59) rfl (by decide) (by decide) rfl rfl ?_
              refine AOps.guardSkipV (d := 63) rfl (by decide) (by decide) rfl rfl ?_
              refine AOps.guardSkipV (d := 63) rfl (by decide) (by decide) rfl rfl ?_
              refine AOps.guardSkipV (d := 63) rfl (by decide) (by decide) rfl rfl ?_
              refine AOps.guardSkipV (d := 63) rfl (by decide) (by decide) rfl rfl ?_
              refine AOps.guardSkipV (d := 59) rfl (by decide) (by decide) rfl rfl ?_
              refine AOps.guardSkipV (d := 55) rfl (by decide) (by decide) rfl rfl ?_
              refine AOps.val (Y.pick rfl rfl rfl) (by decide) ?_
              refine AOps.nil ?_
              refine AWp.condT rfl ?_
              refine AWp.seq ?_
              refine AWp.region ?_
              refine AOps.val (Y.assign rfl rfl) (by decide) ?_
              refine AOps.nil ?_
              refine AWp.ret ?_
              exact ⟨_, _, rfl, rfl, rform (formed_bad hg (by simp only [okGate, okArg, operands]; omega)), rfl⟩
            · refine AOps.guardRun (d := 48) rfl (by decide) rfl ?_
              refine AOps.val (Y.fieldAddr fl38_1 rfl rfl) (by decide) ?_
              refine AOps.guardRun (d := 48) rfl (by decide) rfl ?_
              refine AOps.val (Y.load sh3 rfl rfl rfl rfl) (by decide) ?_
              refine AOps.guardRun (d := 48) rfl (by decide) rfl ?_
              first | refine AOps.val (Y.move rfl rfl) (by decide) ?_ | refine AOps.moveU rfl (by decide) ?_
              refine AOps.guardRun (d := 48) rfl (by decide) rfl ?_
              refine AOps.val (Y.geq rfl rfl) (by decide) ?_
              refine AOps.guardRun (d := 44) rfl (by decide) rfl ?_
              refine AOps.val (Y.pick rfl rfl rfl) (by decide) ?_
              refine AOps.val (Y.pick rfl rfl rfl) (by decide) ?_
              first | refine AOps.val (Y.move rfl rfl) (by decide) ?_ | refine AOps.moveU rfl (by decide) ?_
              refine AOps.splitD (d := 55) rfl (fun c55 => ?_) (fun c55 => ?_)
              · refine AOps.guardSkipV (d := 55) rfl (by decide) (by decide) rfl rfl ?_
                refine AOps.guardSkipV (d := 55) rfl (by decide) (by decide) rfl rfl ?_
                refine AOps.guardSkipV (d := 55) rfl (by decide) (by decide) rfl rfl ?_
                refine AOps.guardSkipV (d := 55) rfl (by decide) (by decide) rfl rfl ?_
                refine AOps.guardSkipV (d := 59) rfl (by decide) (by decide) rfl rfl ?_
                refine AOps.guardSkipV (d := 59) rfl (by decide) (by decide) rfl rfl ?_
                refine AOps.guardSkipV (d := 59) rfl (by decide) (by decide) rfl rfl ?_
                refine AOps.guardSkipV (d := 59) rfl (by decide) (by decide) rfl rfl ?_
                refine AOps.guardSkipV (d := 63) rfl (by decide) (by decide) rfl rfl ?_
                refine AOps.guardSkipV (d := 63) rfl (by decide) (by decide) rfl rfl ?_
                refine AOps.guardSkipV (d := 63) rfl (by decide) (by decide) rfl rfl ?_
                refine AOps.guardSkipV (d := 63) rfl (by decide) (by decide) rfl rfl ?_
                refine AOps.guardSkipV (d := 59) rfl (by decide) (by decide) rfl rfl ?_
                refine AOps.guardSkipV (d := 55) rfl (by decide) (by decide) rfl rfl ?_
                refine AOps.val (Y.pick rfl rfl rfl) (by decide) ?_
                refine AOps.nil ?_
                refine AWp.condT rfl ?_
                refine AWp.seq ?_
                refine AWp.region ?_
                refine AOps.val (Y.assign rfl rfl) (by decide) ?_
                refine AOps.nil ?_
                refine AWp.ret ?_
                exact ⟨_, _, rfl, rfl, rform (formed_bad hg (by simp only [okGate, okArg, operands]; omega)), rfl⟩
              · refine AOps.guardRun (d := 55) rfl (by decide) rfl ?_
                refine AOps.val (Y.fieldAddr fl38_0 rfl rfl) (by decide) ?_
                refine AOps.guardRun (d := 55) rfl (by decide) rfl ?_
                refine AOps.val (Y.load sh3 rfl rfl rfl rfl) (by decide) ?_
                refine AOps.guardRun (d := 55) rfl (by decide) rfl ?_
                refine AOps.val (Y.geq rfl rfl) (by decide) ?_
                refine AOps.guardRun (d := 55) rfl (by decide) rfl ?_
                first | refine AOps.val (Y.move rfl rfl) (by decide) ?_ | refine AOps.moveU rfl (by decide) ?_
                refine AOps.splitD (d := 59) rfl (fun c59 => ?_) (fun c59 => ?_)
                · refine AOps.guardRun (d := 59) rfl (by decide) rfl ?_
                  refine AOps.val (Y.fieldAddr fl38_2 rfl rfl) (by decide) ?_
                  refine AOps.guardRun (d := 59) rfl (by decide) rfl ?_
                  refine AOps.val (Y.load sh3 rfl rfl rfl rfl) (by decide) ?_
                  refine AOps.guardRun (d := 59) rfl (by decide) rfl ?_
                  refine AOps.val (Y.lss rfl rfl) (by decide) ?_
                  refine AOps.guardRun (d := 59) rfl (by decide) rfl ?_
                  first | refine AOps.val (Y.move rfl rfl) (by decide) ?_ | refine AOps.moveU rfl (by decide) ?_
                  refine AOps.splitD (d := 63) rfl (fun c63 => ?_) (fun c63 => ?_)
                  · refine AOps.guardSkipV (d := 63) rfl (by decide) (by decide) rfl rfl ?_
                    refine AOps.guardSkipV (d := 63) rfl (by decide) (by decide) rfl rfl ?_
                    refine AOps.guardSkipV (d := 63) rfl (by decide) (by decide) rfl rfl ?_
                    refine AOps.guardSkipV (d := 63) rfl (by decide) (by decide) rfl rfl ?_
                    refine AOps.guardRun (d := 59) rfl (by decide) rfl ?_
                    refine AOps.val (Y.pick rfl rfl rfl) (by decide) ?_
                    refine AOps.guardRun (d := 55) rfl (by decide) rfl ?_
                    refine AOps.val (Y.pick rfl rfl rfl) (by decide) ?_
                    refine AOps.val (Y.pick rfl rfl rfl) (by decide) ?_
                    refine AOps.nil ?_
                    refine AWp.condT rfl ?_
                    refine AWp.seq ?_
                    refine AWp.region ?_
                    refine AOps.val (Y.assign rfl rfl) (by decide) ?_
                    refine AOps.nil ?_
                    refine AWp.ret ?_
                    exact ⟨_, _, rfl, rfl, rform (formed_bad hg (by simp only [okGate, okArg, operands]; omega)), rfl⟩
                  · refine AOps.guardRun (d := 63) rfl (by decide) rfl ?_
                    refine AOps.val (Y.fieldAddr fl38_2 rfl rfl) (by decide) ?_
                    refine AOps.guardRun (d := 63) rfl (by decide) rfl ?_
                    refine AOps.val (Y.load sh3 rfl rfl rfl rfl) (by decide) ?_
                    refine AOps.guardRun (d := 63) rfl (by decide) rfl ?_
                    first | refine AOps.val (Y.move rfl rfl) (by decide) ?_ | refine AOps.moveU rfl (by decide) ?_
                    refine AOps.guardRun (d := 63) rfl (by decide) rfl ?_
                    refine AOps.val (Y.geq rfl rfl) (by decide) ?_
                    refine AOps.guardRun (d := 59) rfl (by decide) rfl ?_
                    refine AOps.val (Y.pick rfl rfl rfl) (by decide) ?_
                    refine AOps.guardRun (d := 55) rfl (by decide) rfl ?_
                    refine AOps.val (Y.pick rfl rfl rfl) (by decide) ?_
                    refine AOps.val (Y.pick rfl rfl rfl) (by decide) ?_
                    refine AOps.nil ?_
                    refine AWp.condD rfl (fun c70 => ?_) (fun c70 => ?_)
                    · refine AWp.seq ?_
                      refine AWp.region ?_
                      refine AOps.val (Y.assign rfl rfl) (by decide) ?_
                      refine AOps.nil ?_
                      refine AWp.ret ?_
                      exact ⟨_, _, rfl, rfl, rform (formed_bad hg (by simp only [okGate, okArg, operands]; omega)), rfl⟩
                    · refine AWp.skip ?_
                      refine AWp.region ?_
                      first | refine AOps.val (Y.move rfl rfl) (by decide) ?_ | refine AOps.moveU rfl (by decide) ?_
                      first | refine AOps.val (Y.addI rfl rfl (by omega)) (by decide) ?_ | refine AOps.val (Y.add rfl rfl rfl) (by decide) ?_
                      first | refine AOps.val (Y.assign rfl rfl) (by decide) ?_ | refine AOps.assignU rfl (by decide) ?_
                      refine AOps.nil ?_
                      exact ⟨ix + 1, ⟨by omega, below hI.2 hg (by simp only [okGate, okArg, operands]; omega)⟩, by omega, Le.mk (by repeat (first | exact SubL.nil | refine SubL.cons rfl ?_)) (by repeat (first | exact SubL.nil | refine SubL.cons rfl ?_))⟩
                · refine AOps.guardSkipV (d := 59) rfl (by decide) (by decide) rfl rfl ?_
                  refine AOps.guardSkipV (d := 59) rfl (by decide) (by decide) rfl rfl ?_
                  refine AOps.guardSkipV (d := 59) rfl (by decide) (by decide) rfl rfl ?_
                  refine AOps.guardSkipV (d := 59) rfl (by decide) (by decide) rfl rfl ?_
                  refine AOps.guardSkipV (d := 63) rfl (by decide) (by decide) rfl rfl ?_
                  refine AOps.guardSkipV (d := 63) rfl (by decide) (by decide) rfl rfl ?_
                  refine AOps.guardSkipV (d := 63) rfl (by decide) (by decide) rfl rfl ?_
                  refine AOps.guardSkipV (d := 63) rfl (by decide) (by decide) rfl rfl ?_
                  refine AOps.guardSkipV (d := 59) rfl (by decide) (by decide) rfl rfl ?_
                  refine AOps.guardRun (d := 55) rfl (by decide) rfl ?_
                  refine AOps.val (Y.pick rfl rfl rfl) (by decide) ?_
                  refine AOps.val (Y.pick rfl rfl rfl) (by decide) ?_
                  refine AOps.nil ?_
                  refine AWp.condF rfl ?_
                  refine AWp.skip ?_
                  refine AWp.region ?_
                  first | refine AOps.val (Y.move rfl rfl) (by decide) ?_ | refine AOps.moveU rfl (by decide) ?_
                  first | refine AOps.val (Y.addI rfl rfl (by omega)) (by decide) ?_ | refine AOps.val (Y.add rfl rfl rfl) (by decide) ?_
                  first | refine AOps.val (Y.assign rfl rfl) (by decide) ?_ | refine AOps.assignU rfl (by decide) ?_
                  refine AOps.nil ?_
                  exact ⟨ix + 1, ⟨by omega, below hI.2 hg (by simp only [okGate, okArg, operands]; omega)⟩, by omega, Le.mk (by repeat (first | exact SubL.nil | refine SubL.cons rfl ?_)) (by repeat (first | exact SubL.nil | refine SubL.cons rfl ?_))⟩
          · refine AOps.guardSkipV (d := 44) rfl (by decide) (by decide) rfl rfl ?_
            refine AOps.guardSkipV (d := 44) rfl (by decide) (by decide) rfl rfl ?_
            refine AOps.guardSkipV (d := 44) rfl (by decide) (by decide) rfl rfl ?_
            refine AOps.guardSkipV (d := 44) rfl (by decide) (by decide) rfl rfl ?_
            refine AOps.guardSkipV (d := 48) rfl (by decide) (by decide) rfl rfl ?_
            refine AOps.guardSkipV (d := 48) rfl (by decide) (by decide) rfl rfl ?_
            refine AOps.guardSkipV (d := 48) rfl (by decide) (by decide) rfl rfl ?_
            refine AOps.guardSkipV (d := 48) rfl (by decide) (by decide) rfl rfl ?_
            refine AOps.guardSkipV (d := 44) rfl (by decide) (by decide) rfl rfl ?_
            refine AOps.val (Y.pick rfl rfl rfl) (by decide) ?_
            first | refine AOps.val (Y.move rfl rfl) (by decide) ?_ | refine AOps.moveU rfl (by decide) ?_
            refine AOps.guardRun (d := 55) rfl (by decide) rfl ?_
            refine AOps.val (Y.fieldAddr fl38_0 rfl rfl) (by decide) ?_
            refine AOps.guardRun (d := 55) rfl (by decide) rfl ?_
            refine AOps.val (Y.load sh3 rfl rfl rfl rfl) (by decide) ?_
            refine AOps.guardRun (d := 55) rfl (by decide) rfl ?_
            refine AOps.val (Y.geq rfl rfl) (by decide) ?_
            refine AOps.guardRun (d := 55) rfl (by decide) rfl ?_
            first | refine AOps.val (Y.move rfl rfl) (by decide) ?_ | refine AOps.moveU rfl (by decide) ?_
            refine AOps.splitD (d := 59) rfl (fun c59 => ?_) (fun c59 => ?_)
            · refine AOps.guardRun (d := 59) rfl (by decide) rfl ?_
              refine AOps.val (Y.fieldAddr fl38_2 rfl rfl) (by decide) ?_
              refine AOps.guardRun (d := 59) rfl (by decide) rfl ?_
              refine AOps.val (Y.load sh3 rfl rfl rfl rfl) (by decide) ?_
              refine AOps.guardRun (d := 59) rfl (by decide) rfl ?_
              refine AOps.val (Y.lss rfl rfl) (by decide) ?_
              refine AOps.guardRun (d := 59) rfl (by decide) rfl ?_
              first | refine AOps.val (Y.move rfl rfl) (by decide) ?_ | refine AOps.moveU rfl (by decide) ?_
              refine AOps.splitD (d := 63) rfl (fun c63 => ?_) (fun c63 => ?_)
              · refine AOps.guardSkipV (d := 63) rfl (by decide) (by decide) rfl rfl ?_
                refine AOps.guardSkipV (d := 63) rfl (by decide) (by decide) rfl rfl ?_
                refine AOps.guardSkipV (d := 63) rfl (by decide) (by decide) rfl rfl ?_
                refine AOps.guardSkipV (d := 63) rfl (by decide) (by decide) rfl rfl ?_
                refine AOps.guardRun (d := 59) rfl (by decide) rfl ?_
                refine AOps.val (Y.pick rfl rfl rfl) (by decide) ?_
                refine AOps.guardRun (d := 55) rfl (by decide) rfl ?_
                refine AOps.val (Y.pick rfl rfl rfl) (by decide) ?_
                refine AOps.val (Y.pick rfl rfl rfl) (by decide) ?_
                refine AOps.nil ?_
                refine AWp.condT rfl ?_
                refine AWp.seq ?_
                refine AWp.region ?_
                refine AOps.val (Y.assign rfl rfl) (by decide) ?_
                refine AOps.nil ?_
                refine AWp.ret ?_
                exact ⟨_, _, rfl, rfl, rform (formed_bad hg (by simp only [okGate, okArg, operands]; omega)), rfl⟩
              · refine AOps.guardRun (d := 63) rfl (by decide) rfl ?_
                refine AOps.val (Y.fieldAddr fl38_2 rfl rfl) (by decide) ?_
                refine AOps.guardRun (d := 63) rfl (by decide) rfl ?_
                refine AOps.val (Y.load sh3 rfl rfl rfl rfl) (by decide) ?_
                refine AOps.guardRun (d := 63) rfl (by decide) rfl ?_
                first | refine AOps.val (Y.move rfl rfl) (by decide) ?_ | refine AOps.moveU rfl (by decide) ?_
                refine AOps.guardRun (d := 63) rfl (by decide) rfl ?_
                refine AOps.val (Y.geq rfl rfl) (by decide) ?_
                refine AOps.guardRun (d := 59) rfl (by decide) rfl ?_
                refine AOps.val (Y.pick rfl rfl rfl) (by decide) ?_
                refine AOps.guardRun (d := 55) rfl (by decide) rfl ?_
                refine AOps.val (Y.pick rfl rfl rfl) (by decide) ?_
                refine AOps.val (Y.pick rfl rfl rfl) (by decide) ?_
                refine AOps.nil ?_
                refine AWp.condD rfl (fun c70 => ?_) (fun c70 => ?_)
                · refine AWp.seq ?_
                  refine AWp.region ?_
                  refine AOps.val (Y.assign rfl rfl) (by decide) ?_
                  refine AOps.nil ?_
                  refine AWp.ret ?_
                  exact ⟨_, _, rfl, rfl, rform (formed_bad hg (by simp only [okGate, okArg, operands]; omega)), rfl⟩
                · refine AWp.skip ?_
                  refine AWp.region ?_
                  first | refine AOps.val (Y.move rfl rfl) (by decide) ?_ | refine AOps.moveU rfl (by decide) ?_
                  first | refine AOps.val (Y.addI rfl rfl (by omega)) (by decide) ?_ | refine AOps.val (Y.add rfl rfl rfl) (by decide) ?_
                  first | refine AOps.val (Y.assign rfl rfl) (by decide) ?_ | refine AOps.assignU rfl (by decide) ?_
                  refine AOps.nil ?_
                  exact ⟨ix + 1, ⟨by omega, below hI.2 hg (by simp only [okGate, okArg, operands]; omega)⟩, by omega, Le.mk (by repeat (first | exact SubL.nil | refine SubL.cons rfl ?_)) (by repeat (first | exact SubL.nil | refine SubL.cons rfl ?_))⟩
            · refine AOps.guardSkipV (d := 59) rfl (by decide) (by decide) rfl rfl ?_
              refine AOps.guardSkipV (d := 59) rfl (by decide) (by decide) rfl rfl ?_
              refine AOps.guardSkipV (d := 59) rfl (by decide) (by decide) rfl rfl ?_
              refine AOps.guardSkipV (d := 59) rfl (by decide) (by decide) rfl rfl ?_
              refine AOps.guardSkipV (d := 63) rfl (by decide) (by decide) rfl rfl ?_
              refine AOps.guardSkipV (d := 63) rfl (by decide) (by decide) rfl rfl ?_
              refine AOps.guardSkipV (d := 63) rfl (by decide) (by decide) rfl rfl ?_
              refine AOps.guardSkipV (d := 63) rfl (by decide) (by decide) rfl rfl ?_
              refine AOps.guardSkipV (d := 59) rfl (by decide) (by decide) rfl rfl ?_
              refine AOps.guardRun (d := 55) rfl (by decide) rfl ?_
              refine AOps.val (Y.pick rfl rfl rfl) (by decide) ?_
              refine AOps.val (Y.pick rfl rfl rfl) (by decide) ?_
              refine AOps.nil ?_
              refine AWp.condF rfl ?_
              refine AWp.skip ?_
              refine AWp.region ?_
              first | refine AOps.val (Y.move rfl rfl) (by decide) ?_ | refine AOps.moveU rfl (by decide) ?_
              first | refine AOps.val (Y.addI rfl rfl (by omega)) (by decide) ?_ | refine AOps.val (Y.add rfl rfl rfl) (by decide) ?_
              first | refine AOps.val (Y.assign rfl rfl) (by decide) ?_ | refine AOps.assignU rfl (by decide) ?_
              refine AOps.nil ?_
              exact ⟨ix + 1, ⟨by omega, below hI.2 hg (by simp only [okGate, okArg, operands]; omega)⟩, by omega, Le.mk (by repeat (first | exact SubL.nil | refine SubL.cons rfl ?_)) (by repeat (first | exact SubL.nil | refine SubL.cons rfl ?_))⟩
  · refine AWp.exit ?_
    refine AWp.seq ?_
    refine AWp.region ?_
    refine AOps.val (Y.assign rfl rfl) (by decide) ?_
    refine AOps.nil ?_
    refine AWp.ret ?_
    exact ⟨_, _, rfl, rfl, rform (formed_good (fun j q hq => hI.2 j q (by have := (List.getElem?_eq_some_iff.1 hq).1; omega) hq)), rfl⟩

set_option maxHeartbeats 1000000 in
theorem refInputs_spec {l : List Gate} (hl : l.length ≤ 4611686018427387904) : ACalls Try.prog 14 [.fz 3 (l.map Gate.row)] [] [] (fun r o => r = .v (.int .i64 ((nin l : Nat))) ∧ o = []) := by
  refine ACalls.of Try.func14 rfl rfl rfl (n := 20) (by decide) (Nat.le_of_ble_eq_true rfl) ?_
  refine AWp.seq ?_
  refine AWp.region ?_
  refine AOps.val (Y.assign rfl rfl) (by decide) ?_
  refine AOps.nil ?_
  refine AWp.seq ?_
  refine AWp.region ?_
  refine AOps.val (Y.assign rfl rfl) (by decide) ?_
  refine AOps.nil ?_
  refine AWp.seq ?_
  refine AWp.seq ?_
  refine AWp.region ?_
  refine AOps.val (Y.assign rfl rfl) (by decide) ?_
  refine AOps.nil ?_
  refine AWp.block ?_
  refine AWp.loop (fun (ix : Nat) => ⟨[(4, .v (.int .i64 ((ix : Int)))), (3, .v (.int .i64 ((nin (l.take ix) : Nat)))), (0, .fz 3 (l.map Gate.row))], []⟩) (fun ix => ix ≤ l.length) (fun ix => l.length - ix) (0) (by omega) (Le.mk (by repeat (first | exact SubL.nil | refine SubL.cons (by first | rfl | (rw [nin_zero]; rfl)) ?_)) SubL.nil) (fun ix hI => ?_)
  refine AWp.seq ?_
  refine AWp.seq ?_
  refine AWp.region ?_
  first | refine AOps.val (Y.move rfl rfl) (by decide) ?_ | refine AOps.moveU rfl (by decide) ?_
  first | refine AOps.val (Y.move rfl rfl) (by decide) ?_ | refine AOps.moveU rfl (by decide) ?_
  refine AOps.val (Y.len sl22 rfl (n := l.length) (congrArg some (List.length_map ..))) (by decide) ?_
  refine AOps.val (Y.lss rfl rfl) (by decide) ?_
  refine AOps.nil ?_
  refine AWp.condD rfl (fun c8 => ?_) (fun c8 => ?_)
  · obtain ⟨q, hg⟩ : ∃ q, l[ix]? = some q := ⟨_, List.getElem?_eq_getElem (by omega)⟩
    have hnl := nin_take_le l ix
    have hnl2 := nin_le l
    refine AWp.skip ?_
    refine AWp.seq ?_
    refine AWp.block ?_
    refine AWp.seq ?_
    refine AWp.region ?_
    first | refine AOps.val (Y.move rfl rfl) (by decide) ?_ | refine AOps.moveU rfl (by decide) ?_
    first | refine AOps.val (Y.move rfl rfl) (by decide) ?_ | refine AOps.moveU rfl (by decide) ?_
    refine AOps.val (Y.indexF sl22 rfl rfl rfl (getElem?_map' hg)) (by decide) ?_
    refine AOps.val (Y.fieldAddr fl38_0 rfl rfl) (by decide) ?_
    refine AOps.val (Y.load sh3 rfl rfl rfl rfl) (by decide) ?_
    refine AOps.val (Y.eql rfl rfl) (by decide) ?_
    refine AOps.nil ?_
    refine AWp.condD rfl (fun c16 => ?_) (fun c16 => ?_)
    · refine AWp.region ?_
      first | refine AOps.val (Y.move rfl rfl) (by decide) ?_ | refine AOps.moveU rfl (by decide) ?_
      first | refine AOps.val (Y.addI rfl rfl (by omega)) (by decide) ?_ | refine AOps.val (Y.add rfl rfl rfl) (by decide) ?_
      first | refine AOps.val (Y.assign rfl rfl) (by decide) ?_ | refine AOps.assignU rfl (by decide) ?_
      refine AOps.nil ?_
      refine AWp.region ?_
      first | refine AOps.val (Y.move rfl rfl) (by decide) ?_ | refine AOps.moveU rfl (by decide) ?_
      first | refine AOps.val (Y.addI rfl rfl (by omega)) (by decide) ?_ | refine AOps.val (Y.add rfl rfl rfl) (by decide) ?_
      first | refine AOps.val (Y.assign rfl rfl) (by decide) ?_ | refine AOps.assignU rfl (by decide) ?_
      refine AOps.nil ?_
      exact ⟨ix + 1, by omega, by omega, Le.mk (by repeat (first | exact SubL.nil | refine SubL.cons (by first | rfl | (rw [nin_succ hg, if_neg (by omega)]; rfl) | (rw [nin_succ hg, if_pos (by omega)]; rfl)) ?_)) SubL.nil⟩
    · refine AWp.skip ?_
      refine AWp.region ?_
      first | refine AOps.val (Y.move rfl rfl) (by decide) ?_ | refine AOps.moveU rfl (by decide) ?_
      first | refine AOps.val (Y.addI rfl rfl (by omega)) (by decide) ?_ | refine AOps.val (Y.add rfl rfl rfl) (by decide) ?_
      first | refine AOps.val (Y.assign rfl rfl) (by decide) ?_ | refine AOps.assignU rfl (by decide) ?_
      refine AOps.nil ?_
      exact ⟨ix + 1, by omega, by omega, Le.mk (by repeat (first | exact SubL.nil | refine SubL.cons (by first | rfl | (rw [nin_succ hg, if_neg (by omega)]; rfl) | (rw [nin_succ hg, if_pos (by omega)]; rfl)) ?_)) SubL.nil⟩
  · refine AWp.exit ?_
    refine AWp.seq ?_
    refine AWp.region ?_
    first | refine AOps.val (Y.move rfl rfl) (by decide) ?_ | refine AOps.moveU rfl (by decide) ?_
    first | refine AOps.val (Y.assign rfl rfl) (by decide) ?_ | refine AOps.assignU rfl (by decide) ?_
    refine AOps.nil ?_
    refine AWp.ret ?_
    exact ⟨_, _, rfl, rfl, (by have h : ix = l.length := (by omega); subst h; rw [List.take_length]; rfl), rfl⟩

end Go.Proofs.Ytiehdnjcapjacaa
