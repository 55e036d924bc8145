/- The walks through the gates' functions. -/
import Derived.Test.YtiehdnjcapjacaaGatesF0
namespace Go.Proofs.Ytiehdnjcapjacaa
open Go Go.AW Go.Proofs



set_option maxHeartbeats 1000000 in
theorem operands_spec (k : Int) : ACalls Try.prog 23 [.v (.int .i64 k)] [] [] (fun r o => r = .v (.int .i64 (operands k)) ∧ o = []) := by
  refine ACalls.of Try.func23 rfl rfl rfl (n := 10) (by decide) (Nat.le_of_ble_eq_true rfl) ?_
  refine AWp.seq ?_
  refine AWp.region ?_
  refine AOps.val (Y.assign rfl rfl) (by decide) ?_
  refine AOps.nil ?_
  refine AWp.seq ?_
  refine AWp.seq ?_
  refine AWp.region ?_
  first | refine AOps.val (Y.move rfl rfl) (by decide) ?_ | refine AOps.moveU rfl (by decide) ?_
  refine AOps.nil ?_
  refine AWp.block ?_
  refine AWp.seq ?_
  refine AWp.region ?_
  refine AOps.val (Y.eql rfl rfl) (by decide) ?_
  first | refine AOps.val (Y.assign rfl rfl) (by decide) ?_ | refine AOps.assignU rfl (by decide) ?_
  refine AOps.nil ?_
  refine AWp.condD rfl (fun c4 => ?_) (fun c4 => ?_)
  · refine AWp.seq ?_
    refine AWp.region ?_
    refine AOps.val (Y.assign rfl rfl) (by decide) ?_
    refine AOps.nil ?_
    refine AWp.ret ?_
    exact ⟨_, _, rfl, rfl, by simp_all [operands, resX]⟩
  · refine AWp.seq ?_
    refine AWp.seq ?_
    refine AWp.region ?_
    refine AOps.val (Y.eql rfl rfl) (by decide) ?_
    first | refine AOps.val (Y.assign rfl rfl) (by decide) ?_ | refine AOps.assignU rfl (by decide) ?_
    refine AOps.nil ?_
    refine AWp.condKD rfl (fun c6 => ?_) (fun c6 => ?_)
    · refine AWp.skip ?_
      refine AWp.condT rfl ?_
      refine AWp.seq ?_
      refine AWp.region ?_
      refine AOps.val (Y.assign rfl rfl) (by decide) ?_
      refine AOps.nil ?_
      refine AWp.ret ?_
      exact ⟨_, _, rfl, rfl, by simp_all [operands, resX]⟩
    · refine AWp.seq ?_
      refine AWp.region ?_
      refine AOps.val (Y.eql rfl rfl) (by decide) ?_
      first | refine AOps.val (Y.assign rfl rfl) (by decide) ?_ | refine AOps.assignU rfl (by decide) ?_
      refine AOps.nil ?_
      refine AWp.condKD rfl (fun c6 => ?_) (fun c6 => ?_)
      · refine AWp.skip ?_
        refine AWp.condT rfl ?_
        refine AWp.seq ?_
        refine AWp.region ?_
        refine AOps.val (Y.assign rfl rfl) (by decide) ?_
        refine AOps.nil ?_
        refine AWp.ret ?_
        exact ⟨_, _, rfl, rfl, by simp_all [operands, resX]⟩
      · refine AWp.region ?_
        refine AOps.val (Y.eql rfl rfl) (by decide) ?_
        first | refine AOps.val (Y.assign rfl rfl) (by decide) ?_ | refine AOps.assignU rfl (by decide) ?_
        refine AOps.nil ?_
        refine AWp.condKD rfl (fun c6 => ?_) (fun c6 => ?_)
        · refine AWp.seq ?_
          refine AWp.region ?_
          refine AOps.val (Y.assign rfl rfl) (by decide) ?_
          refine AOps.nil ?_
          refine AWp.ret ?_
          exact ⟨_, _, rfl, rfl, by simp_all [operands, resX]⟩
        · refine AWp.skip ?_
          refine AWp.seq ?_
          refine AWp.region ?_
          refine AOps.val (Y.assign rfl rfl) (by decide) ?_
          refine AOps.nil ?_
          refine AWp.ret ?_
          exact ⟨_, _, rfl, rfl, by simp_all [operands, resX]⟩

set_option maxHeartbeats 1000000 in
theorem check_spec {l : List Gate} (hl : l.length ≤ 4611686018427387904) : ACalls Try.prog 12 [.fz 3 (l.map Gate.row)] [] [] (fun r o => r = .v (.int .i64 (check l)) ∧ o = []) := by
  refine ACalls.of Try.func12 rfl rfl rfl (n := 47) (by decide) (Nat.le_of_ble_eq_true rfl) ?_
  refine AWp.seq ?_
  refine AWp.region ?_
  refine AOps.val (Y.assign rfl rfl) (by decide) ?_
  refine AOps.nil ?_
  refine AWp.seq ?_
  refine AWp.seq ?_
  refine AWp.region ?_
  first | refine AOps.val (Y.move rfl rfl) (by decide) ?_ | refine AOps.moveU rfl (by decide) ?_
  refine AOps.val (Y.len sl22 rfl (n := l.length) (congrArg some (List.length_map ..))) (by decide) ?_
  refine AOps.val (Y.move rfl rfl) (by decide) ?_
  refine AOps.nil ?_
  refine AWp.block ?_
  refine AWp.loop (fun (ix : Nat) => ⟨[(9, .v (.int .i64 ((ix : Int)))), (7, .fz 3 (l.map Gate.row)), (8, .v (.int .i64 ((l.length : Int))))], []⟩) (fun ix => ix ≤ l.length ∧ ∀ j q, j < ix → l[j]? = some q → okGate j q) (fun ix => l.length - ix) (0) (⟨by omega, by intro j q h; omega⟩) (Le.mk (by repeat (first | exact SubL.nil | refine SubL.cons rfl ?_)) (by repeat (first | exact SubL.nil | refine SubL.cons rfl ?_))) (fun ix hI => ?_)
  refine AWp.seq ?_
  refine AWp.region ?_
  refine AOps.val (Y.lss rfl rfl) (by decide) ?_
  refine AOps.nil ?_
  refine AWp.seq ?_
  refine AWp.condD rfl (fun c10 => ?_) (fun c10 => ?_)
  · obtain ⟨q, hg⟩ : ∃ q, l[ix]? = some q := ⟨_, List.getElem?_eq_getElem (by omega)⟩
    refine AWp.skip ?_
    refine AWp.seq ?_
    refine AWp.block ?_
    refine AWp.seq ?_
    refine AWp.region ?_
    first | refine AOps.val (Y.move rfl rfl) (by decide) ?_ | refine AOps.moveU rfl (by decide) ?_
    refine AOps.val (Y.indexF sl22 rfl rfl rfl (getElem?_map' hg)) (by decide) ?_
    refine AOps.val (Y.loadA sh38 rfl rfl (Nat.le_of_ble_eq_true rfl) rfl rfl) (by decide) ?_
    refine AOps.alloc 104 ze38 rfl rfl (by decide) ?_
    first | refine AOps.val (Y.assign rfl rfl) (by decide) ?_ | refine AOps.assignU rfl (by decide) ?_
    first | refine AOps.storeC si38 rfl rfl rfl rfl rfl rfl (Nat.le_of_ble_eq_true rfl) rfl ?_ | refine AOps.storeR si38 rfl rfl rfl rfl rfl rfl rfl (by first | assumption | exact getElem?_map' (by assumption)) (Nat.le_of_ble_eq_true rfl) ?_
    refine AOps.nil ?_
    refine AWp.seq ?_
    refine AWp.seq ?_
    refine AWp.region ?_
    refine AOps.val (Y.fieldAddr fl38_0 rfl rfl) (by decide) ?_
    refine AOps.val (Y.load sh3 rfl rfl rfl rfl) (by decide) ?_
    refine AOps.val (Y.lss rfl rfl) (by decide) ?_
    first | refine AOps.val (Y.move rfl rfl) (by decide) ?_ | refine AOps.moveU rfl (by decide) ?_
    refine AOps.splitD (d := 17) rfl (fun c17 => ?_) (fun c17 => ?_)
    · refine AOps.guardSkipV (d := 17) rfl (by decide) (by decide) rfl rfl ?_
      refine AOps.guardSkipV (d := 17) rfl (by decide) (by decide) rfl rfl ?_
      refine AOps.guardSkipV (d := 17) rfl (by decide) (by decide) rfl rfl ?_
      refine AOps.val (Y.pick rfl rfl rfl) (by decide) ?_
      refine AOps.nil ?_
      refine AWp.condT rfl ?_
      refine AWp.seq ?_
      refine AWp.region ?_
      refine AOps.val (Y.assign rfl rfl) (by decide) ?_
      refine AOps.nil ?_
      refine AWp.ret ?_
      exact ⟨_, _, rfl, rfl, rcheck (check_bad hg (by simp only [okGate]; omega)), rfl⟩
    · refine AOps.guardRun (d := 17) rfl (by decide) rfl ?_
      refine AOps.val (Y.fieldAddr fl38_0 rfl rfl) (by decide) ?_
      refine AOps.guardRun (d := 17) rfl (by decide) rfl ?_
      refine AOps.val (Y.load sh3 rfl rfl rfl rfl) (by decide) ?_
      refine AOps.guardRun (d := 17) rfl (by decide) rfl ?_
      refine AOps.val (Y.gtr rfl rfl) (by decide) ?_
      refine AOps.val (Y.pick rfl rfl rfl) (by decide) ?_
      refine AOps.nil ?_
      refine AWp.condD rfl (fun c21 => ?_) (fun c21 => ?_)
      · refine AWp.seq ?_
        refine AWp.region ?_
        refine AOps.val (Y.assign rfl rfl) (by decide) ?_
        refine AOps.nil ?_
        refine AWp.ret ?_
        exact ⟨_, _, rfl, rfl, rcheck (check_bad hg (by simp only [okGate]; omega)), rfl⟩
      · refine AWp.skip ?_
        refine AWp.seq ?_
        refine AWp.region ?_
        refine AOps.val (Y.fieldAddr fl38_1 rfl rfl) (by decide) ?_
        refine AOps.val (Y.load sh3 rfl rfl rfl rfl) (by decide) ?_
        refine AOps.val (Y.fieldAddr fl38_2 rfl rfl) (by decide) ?_
        refine AOps.val (Y.load sh3 rfl rfl rfl rfl) (by decide) ?_
        refine AOps.val (Y.buildA ar54 ze54 rfl rfl rfl) (by decide) ?_
        refine AOps.val (Y.move rfl rfl) (by decide) ?_
        refine AOps.nil ?_
        refine AWp.block ?_
        refine AWp.loop (fun (k : Nat) => ⟨[(27, .v (.int .i64 ((k : Int)))), (26, .agg [.v (.int .i64 (q.a)), .v (.int .i64 (q.b))]), (3, .v (.int .i64 ((ix : Int)))), (4, .ptr 104 0 0 0), (9, .v (.int .i64 ((ix : Int)))), (7, .fz 3 (l.map Gate.row)), (8, .v (.int .i64 ((l.length : Int))))], [(104, .cells (Gate.row q))]⟩) (fun k => k ≤ 2 ∧ ∀ j : Nat, j < k → okArg ix (operands q.kind) j (if j = 0 then q.a else q.b)) (fun k => 2 - k) (0) (⟨by omega, by intro j h; omega⟩) (Le.mk (by repeat (first | exact SubL.nil | refine SubL.cons rfl ?_)) (by repeat (first | exact SubL.nil | refine SubL.cons rfl ?_))) (fun k hk => ?_)
        refine AWp.seq ?_
        refine AWp.region ?_
        refine AOps.val (Y.lss rfl rfl) (by decide) ?_
        refine AOps.nil ?_
        refine AWp.seq ?_
        refine AWp.condD rfl (fun c28 => ?_) (fun c28 => ?_)
        · refine AWp.skip ?_
          refine AWp.seq ?_
          refine AWp.block ?_
          refine AWp.seq ?_
          refine AWp.region ?_
          first | refine AOps.val (Y.move rfl rfl) (by decide) ?_ | refine AOps.moveU rfl (by decide) ?_
          refine AOps.val (Y.indexA (m := k) (y := .v (.int .i64 (if k = 0 then q.a else q.b))) ar54 sh3 rfl rfl rfl (by omega) (by rcases k with _ | _ | k <;> first | rfl | omega) rfl) (by decide) ?_
          first | refine AOps.val (Y.assign rfl rfl) (by decide) ?_ | refine AOps.assignU rfl (by decide) ?_
          first | refine AOps.val (Y.assign rfl rfl) (by decide) ?_ | refine AOps.assignU rfl (by decide) ?_
          refine AOps.nil ?_
          refine AWp.seq ?_
          refine AWp.region ?_
          first | refine AOps.val (Y.move rfl rfl) (by decide) ?_ | refine AOps.moveU rfl (by decide) ?_
          refine AOps.val (Y.fieldAddr fl38_0 rfl rfl) (by decide) ?_
          refine AOps.val (Y.load sh3 rfl rfl rfl rfl) (by decide) ?_
          refine AOps.callP ok23 (operands_spec _) rfl (.keep rfl rfl .nil) (by decide) rfl ?_
          refine AOps.val (Y.lss rfl rfl) (by decide) ?_
          refine AOps.nil ?_
          refine AWp.condD rfl (fun c35 => ?_) (fun c35 => ?_)
          · refine AWp.seq ?_
            refine AWp.region ?_
            first | refine AOps.val (Y.move rfl rfl) (by decide) ?_ | refine AOps.moveU rfl (by decide) ?_
            refine AOps.val (Y.lss rfl rfl) (by decide) ?_
            first | refine AOps.val (Y.move rfl rfl) (by decide) ?_ | refine AOps.moveU rfl (by decide) ?_
            refine AOps.splitD (d := 38) rfl (fun c38 => ?_) (fun c38 => ?_)
            · refine AOps.guardSkipV (d := 38) rfl (by decide) (by decide) rfl rfl ?_
              refine AOps.guardSkipV (d := 38) rfl (by decide) (by decide) rfl rfl ?_
              refine AOps.guardSkipV (d := 38) rfl (by decide) (by decide) rfl rfl ?_
              refine AOps.val (Y.pick rfl rfl rfl) (by decide) ?_
              refine AOps.nil ?_
              refine AWp.condT rfl ?_
              refine AWp.seq ?_
              refine AWp.region ?_
              refine AOps.val (Y.assign rfl rfl) (by decide) ?_
              refine AOps.nil ?_
              refine AWp.ret ?_
              exact ⟨_, _, rfl, rfl, rcheck (check_bad hg (bad_arg (k := k) (by omega) (by simp only [okArg]; omega))), rfl⟩
            · refine AOps.guardRun (d := 38) rfl (by decide) rfl ?_
              first | refine AOps.val (Y.move rfl rfl) (by decide) ?_ | refine AOps.moveU rfl (by decide) ?_
              refine AOps.guardRun (d := 38) rfl (by decide) rfl ?_
              first | refine AOps.val (Y.move rfl rfl) (by decide) ?_ | refine AOps.moveU rfl (by decide) ?_
              refine AOps.guardRun (d := 38) rfl (by decide) rfl ?_
              refine AOps.val (Y.geq rfl rfl) (by decide) ?_
              refine AOps.val (Y.pick rfl rfl rfl) (by decide) ?_
              refine AOps.nil ?_
              refine AWp.condD rfl (fun c42 => ?_) (fun c42 => ?_)
              · refine AWp.seq ?_
                refine AWp.region ?_
                refine AOps.val (Y.assign rfl rfl) (by decide) ?_
                refine AOps.nil ?_
                refine AWp.ret ?_
                exact ⟨_, _, rfl, rfl, rcheck (check_bad hg (bad_arg (k := k) (by omega) (by simp only [okArg]; omega))), rfl⟩
              · refine AWp.skip ?_
                refine AWp.region ?_
                first | refine AOps.val (Y.addI rfl rfl (by omega)) (by decide) ?_ | refine AOps.val (Y.add rfl rfl rfl) (by decide) ?_
                first | refine AOps.val (Y.move rfl rfl) (by decide) ?_ | refine AOps.moveU rfl (by decide) ?_
                refine AOps.nil ?_
                exact ⟨k + 1, ⟨by omega, upto hk.2 (by simp only [okArg]; omega)⟩, by omega, Le.mk (by repeat (first | exact SubL.nil | refine SubL.cons rfl ?_)) (by repeat (first | exact SubL.nil | refine SubL.cons rfl ?_))⟩
          · refine AWp.seq ?_
            refine AWp.region ?_
            first | refine AOps.val (Y.move rfl rfl) (by decide) ?_ | refine AOps.moveU rfl (by decide) ?_
            refine AOps.val (Y.neq rfl rfl) (by decide) ?_
            refine AOps.nil ?_
            refine AWp.condD rfl (fun c44 => ?_) (fun c44 => ?_)
            · refine AWp.seq ?_
              refine AWp.region ?_
              refine AOps.val (Y.assign rfl rfl) (by decide) ?_
              refine AOps.nil ?_
              refine AWp.ret ?_
              exact ⟨_, _, rfl, rfl, rcheck (check_bad hg (bad_arg (k := k) (by omega) (by simp only [okArg]; omega))), rfl⟩
            · refine AWp.skip ?_
              refine AWp.region ?_
              first | refine AOps.val (Y.addI rfl rfl (by omega)) (by decide) ?_ | refine AOps.val (Y.add rfl rfl rfl) (by decide) ?_
              first | refine AOps.val (Y.move rfl rfl) (by decide) ?_ | refine AOps.moveU rfl (by decide) ?_
              refine AOps.nil ?_
              exact ⟨k + 1, ⟨by omega, upto hk.2 (by simp only [okArg]; omega)⟩, by omega, Le.mk (by repeat (first | exact SubL.nil | refine SubL.cons rfl ?_)) (by repeat (first | exact SubL.nil | refine SubL.cons rfl ?_))⟩
        · refine AWp.exit ?_
          refine AWp.region ?_
          first | refine AOps.val (Y.addI rfl rfl (by omega)) (by decide) ?_ | refine AOps.val (Y.add rfl rfl rfl) (by decide) ?_
          first | refine AOps.val (Y.move rfl rfl) (by decide) ?_ | refine AOps.moveU rfl (by decide) ?_
          refine AOps.nil ?_
          exact ⟨ix + 1, ⟨by omega, below hI.2 hg ⟨⟨by omega, by omega⟩, by simpa using hk.2 0 (by omega), by simpa using hk.2 1 (by omega)⟩⟩, by omega, Le.mk (by repeat (first | exact SubL.nil | refine SubL.cons rfl ?_)) (by repeat (first | exact SubL.nil | refine SubL.cons rfl ?_))⟩
  · refine AWp.exit ?_
    refine AWp.seq ?_
    refine AWp.region ?_
    refine AOps.val (Y.assign rfl rfl) (by decide) ?_
    refine AOps.nil ?_
    refine AWp.ret ?_
    exact ⟨_, _, rfl, rfl, rcheck (check_good (fun j q hq => hI.2 j q (by have := (List.getElem?_eq_some_iff.1 hq).1; omega) hq)), rfl⟩

set_option maxHeartbeats 1000000 in
theorem count_spec {l : List Gate} (hl : l.length ≤ 4611686018427387904) : ACalls Try.prog 17 [.fz 3 (l.map Gate.row)] [] [] (fun r o => r = .agg ((List.range 8).map (cntX l l.length)) ∧ o = []) := by
  refine ACalls.of Try.func17 rfl rfl rfl (n := 28) (by decide) (Nat.le_of_ble_eq_true rfl) ?_
  have hl2 : l.length ≤ 4611686018427387904 := hl
  refine AWp.seq ?_
  refine AWp.region ?_
  refine AOps.alloc 102 ze35 rfl rfl (by decide) ?_
  refine AOps.nil ?_
  refine AWp.seq ?_
  refine AWp.region ?_
  refine AOps.alloc 103 ze35 rfl rfl (by decide) ?_
  refine AOps.nil ?_
  refine AWp.seq ?_
  refine AWp.seq ?_
  refine AWp.region ?_
  first | refine AOps.val (Y.move rfl rfl) (by decide) ?_ | refine AOps.moveU rfl (by decide) ?_
  refine AOps.val (Y.len sl22 rfl (n := l.length) (congrArg some (List.length_map ..))) (by decide) ?_
  refine AOps.val (Y.move rfl rfl) (by decide) ?_
  refine AOps.nil ?_
  refine AWp.block ?_
  refine AWp.loop (fun (ix : Nat) => ⟨[(8, .v (.int .i64 ((ix : Int)))), (6, .fz 3 (l.map Gate.row)), (7, .v (.int .i64 ((l.length : Int)))), (3, .ptr 103 0 0 0), (2, .ptr 102 0 0 0)], [(102, .cells (List.replicate 8 (.v (.int .i64 0)))), (103, .cells ((List.range 8).map (cntX l ix)))]⟩) (fun ix => ix ≤ l.length) (fun ix => l.length - ix) (0) (by omega) (Le.mk (by repeat (first | exact SubL.nil | refine SubL.cons rfl ?_)) (SubL.cons rfl (SubL.cons (by rw [cntX_zero]; rfl) SubL.nil))) (fun ix hI => ?_)
  refine AWp.seq ?_
  refine AWp.region ?_
  refine AOps.val (Y.lss rfl rfl) (by decide) ?_
  refine AOps.nil ?_
  refine AWp.seq ?_
  refine AWp.condD rfl (fun c9 => ?_) (fun c9 => ?_)
  · obtain ⟨q, hg⟩ : ∃ q, l[ix]? = some q := ⟨_, List.getElem?_eq_getElem (by omega)⟩
    have hcl := cnt_le l q.kind.toNat ix
    refine AWp.skip ?_
    refine AWp.seq ?_
    refine AWp.block ?_
    refine AWp.seq ?_
    refine AWp.region ?_
    refine AOps.val (Y.indexF sl22 rfl rfl rfl (getElem?_map' hg)) (by decide) ?_
    refine AOps.val (Y.loadA sh38 rfl rfl (Nat.le_of_ble_eq_true rfl) rfl rfl) (by decide) ?_
    refine AOps.alloc 105 ze38 rfl rfl (by decide) ?_
    first | refine AOps.storeC si38 rfl rfl rfl rfl rfl rfl (Nat.le_of_ble_eq_true rfl) rfl ?_ | refine AOps.storeR si38 rfl rfl rfl rfl rfl rfl rfl (by first | assumption | exact getElem?_map' (by assumption)) (Nat.le_of_ble_eq_true rfl) ?_
    refine AOps.nil ?_
    refine AWp.seq ?_
    refine AWp.region ?_
    refine AOps.val (Y.fieldAddr fl38_0 rfl rfl) (by decide) ?_
    refine AOps.val (Y.load sh3 rfl rfl rfl rfl) (by decide) ?_
    refine AOps.val (Y.geq rfl rfl) (by decide) ?_
    first | refine AOps.val (Y.move rfl rfl) (by decide) ?_ | refine AOps.moveU rfl (by decide) ?_
    refine AOps.splitD (d := 15) rfl (fun c15 => ?_) (fun c15 => ?_)
    · refine AOps.guardRun (d := 15) rfl (by decide) rfl ?_
      refine AOps.val (Y.fieldAddr fl38_0 rfl rfl) (by decide) ?_
      refine AOps.guardRun (d := 15) rfl (by decide) rfl ?_
      refine AOps.val (Y.load sh3 rfl rfl rfl rfl) (by decide) ?_
      refine AOps.guardRun (d := 15) rfl (by decide) rfl ?_
      refine AOps.val (Y.leq rfl rfl) (by decide) ?_
      refine AOps.val (Y.pick rfl rfl rfl) (by decide) ?_
      refine AOps.nil ?_
      refine AWp.condD rfl (fun c19 => ?_) (fun c19 => ?_)
      · refine AWp.region ?_
        refine AOps.val (Y.fieldAddr fl38_0 rfl rfl) (by decide) ?_
        refine AOps.val (Y.load sh3 rfl rfl rfl rfl) (by decide) ?_
        refine AOps.val (Y.indexP ar35 rfl rfl (m := q.kind.toNat) (by omega) (by omega) rfl) (by decide) ?_
        refine AOps.val (Y.load sh3 rfl rfl (cntX_get (by omega)) rfl) (by decide) ?_
        first | refine AOps.val (Y.addI rfl rfl (by omega)) (by decide) ?_ | refine AOps.val (Y.add rfl rfl rfl) (by decide) ?_
        refine AOps.val (Y.indexP ar35 rfl rfl (m := q.kind.toNat) (by omega) (by omega) rfl) (by decide) ?_
        refine AOps.storeCE ((List.range 8).map (cntX l (ix + 1))) si3 rfl rfl rfl rfl rfl rfl (by simp only [List.length_map, List.length_range]; omega) (cntX_put hg (by omega) (by omega)) (frees_range (cntX_free l (ix + 1)) 8) ?_
        refine AOps.nil ?_
        refine AWp.region ?_
        first | refine AOps.val (Y.addI rfl rfl (by omega)) (by decide) ?_ | refine AOps.val (Y.add rfl rfl rfl) (by decide) ?_
        first | refine AOps.val (Y.move rfl rfl) (by decide) ?_ | refine AOps.moveU rfl (by decide) ?_
        refine AOps.nil ?_
        exact ⟨ix + 1, by omega, by omega, Le.mk (by repeat (first | exact SubL.nil | refine SubL.cons rfl ?_)) (SubL.cons rfl (SubL.cons (by first | rfl | (rw [← cntX_same hg (by omega)]; rfl)) SubL.nil))⟩
      · refine AWp.skip ?_
        refine AWp.region ?_
        first | refine AOps.val (Y.addI rfl rfl (by omega)) (by decide) ?_ | refine AOps.val (Y.add rfl rfl rfl) (by decide) ?_
        first | refine AOps.val (Y.move rfl rfl) (by decide) ?_ | refine AOps.moveU rfl (by decide) ?_
        refine AOps.nil ?_
        exact ⟨ix + 1, by omega, by omega, Le.mk (by repeat (first | exact SubL.nil | refine SubL.cons rfl ?_)) (SubL.cons rfl (SubL.cons (by first | rfl | (rw [← cntX_same hg (by omega)]; rfl)) SubL.nil))⟩
    · refine AOps.guardSkipV (d := 15) rfl (by decide) (by decide) rfl rfl ?_
      refine AOps.guardSkipV (d := 15) rfl (by decide) (by decide) rfl rfl ?_
      refine AOps.guardSkipV (d := 15) rfl (by decide) (by decide) rfl rfl ?_
      refine AOps.val (Y.pick rfl rfl rfl) (by decide) ?_
      refine AOps.nil ?_
      refine AWp.condF rfl ?_
      refine AWp.skip ?_
      refine AWp.region ?_
      first | refine AOps.val (Y.addI rfl rfl (by omega)) (by decide) ?_ | refine AOps.val (Y.add rfl rfl rfl) (by decide) ?_
      first | refine AOps.val (Y.move rfl rfl) (by decide) ?_ | refine AOps.moveU rfl (by decide) ?_
      refine AOps.nil ?_
      exact ⟨ix + 1, by omega, by omega, Le.mk (by repeat (first | exact SubL.nil | refine SubL.cons rfl ?_)) (SubL.cons rfl (SubL.cons (by first | rfl | (rw [← cntX_same hg (by omega)]; rfl)) SubL.nil))⟩
  · refine AWp.exit ?_
    refine AWp.seq ?_
    refine AWp.region ?_
    refine AOps.val (Y.loadA sh35 rfl rfl (Nat.le_of_ble_eq_true rfl) rfl rfl) (by decide) ?_
    first | refine AOps.storeC si35 rfl rfl rfl rfl rfl rfl (Nat.le_of_ble_eq_true rfl) rfl ?_ | refine AOps.storeR si35 rfl rfl rfl rfl rfl rfl rfl (by first | assumption | exact getElem?_map' (by assumption)) (Nat.le_of_ble_eq_true rfl) ?_
    refine AOps.nil ?_
    refine AWp.ret ?_
    exact ⟨_, _, rfl, rfl, (by have h : ix = l.length := (by omega); subst h; rfl), rfl⟩

set_option maxHeartbeats 1000000 in
theorem inputs_spec {l : List Gate} (hl : l.length ≤ 4611686018427387904) : ACalls Try.prog 24 [.fz 3 (l.map Gate.row)] [] [] (fun r o => r = .v (.int .i64 (nin l)) ∧ o = []) := by
  refine ACalls.of Try.func24 rfl rfl rfl (n := 6) (by decide) (Nat.le_of_ble_eq_true rfl) ?_
  refine AWp.seq ?_
  refine AWp.region ?_
  refine AOps.val (Y.assign rfl rfl) (by decide) ?_
  refine AOps.nil ?_
  refine AWp.seq ?_
  refine AWp.region ?_
  first | refine AOps.val (Y.move rfl rfl) (by decide) ?_ | refine AOps.moveU rfl (by decide) ?_
  refine AOps.callP ok17 (count_spec (by omega)) rfl (.keep rfl rfl .nil) (by decide) rfl ?_
  refine AOps.val (Y.indexA (m := 3) (y := .v (.int .i64 (nin l))) ar35 sh3 rfl rfl rfl (by omega) (by rw [← nin_cnt]; simp [cntX]) rfl) (by decide) ?_
  first | refine AOps.val (Y.assign rfl rfl) (by decide) ?_ | refine AOps.assignU rfl (by decide) ?_
  refine AOps.nil ?_
  refine AWp.ret ?_
  exact ⟨_, _, rfl, rfl, rfl, rfl⟩

set_option maxHeartbeats 1000000 in
theorem eval_spec {l : List Gate} {ins : List Bool} (hl : l.length ≤ 8796093022208) : ACalls Try.prog 13 [.fz 3 (l.map Gate.row), .fz 1 (ins.map brow)] [] [] (fun r o => r = retX 1 ((evalR l ins).1.map brow) (evalR l ins).2 ∧ o = []) := by
  refine ACalls.of Try.func13 rfl rfl rfl (n := 107) (by decide) (Nat.le_of_ble_eq_true rfl) ?_
  refine AWp.seq ?_
  refine AWp.region ?_
  refine AOps.val (Y.assign rfl rfl) (by decide) ?_
  refine AOps.val (Y.assign rfl rfl) (by decide) ?_
  refine AOps.nil ?_
  refine AWp.seq ?_
  refine AWp.seq ?_
  refine AWp.region ?_
  first | refine AOps.val (Y.move rfl rfl) (by decide) ?_ | refine AOps.moveU rfl (by decide) ?_
  refine AOps.callP ok12 (check_spec (by omega)) rfl (.keep rfl rfl .nil) (by decide) rfl ?_
  refine AOps.val (Y.neq rfl rfl) (by decide) ?_
  refine AOps.nil ?_
  refine AWp.condD rfl (fun c11 => ?_) (fun c11 => ?_)
  · have hb : ¬ Good l := fun h => c11 (check_good h)
    refine AWp.seq ?_
    refine AWp.region ?_
    refine AOps.val (Y.assign rfl rfl) (by decide) ?_
    refine AOps.sh (Sh.nilU (d := 4) 1 rfl) ?_
    refine AOps.val (Y.assign rfl rfl) (by decide) ?_
    refine AOps.nil ?_
    refine AWp.ret ?_
    exact ⟨_, _, rfl, rfl, by rw [evalR_form ins hb]; rfl, rfl⟩
  · have hb : Good l := by
      refine Classical.byContradiction fun h => c11 ?_
      simp [check, h] at c11
    refine AWp.skip ?_
    refine AWp.seq ?_
    refine AWp.seq ?_
    refine AWp.region ?_
    first | refine AOps.val (Y.move rfl rfl) (by decide) ?_ | refine AOps.moveU rfl (by decide) ?_
    refine AOps.val (Y.len sl27 rfl (n := ins.length) (congrArg some (List.length_map ..))) (by decide) ?_
    first | refine AOps.val (Y.move rfl rfl) (by decide) ?_ | refine AOps.moveU rfl (by decide) ?_
    refine AOps.callP ok24 (inputs_spec (by omega)) rfl (.keep rfl rfl .nil) (by decide) rfl ?_
    refine AOps.val (Y.neq rfl rfl) (by decide) ?_
    refine AOps.nil ?_
    refine AWp.condD rfl (fun c16 => ?_) (fun c16 => ?_)
    · refine AWp.seq ?_
      refine AWp.region ?_
      refine AOps.val (Y.assign rfl rfl) (by decide) ?_
      refine AOps.sh (Sh.nilU (d := 4) 1 rfl) ?_
      refine AOps.val (Y.assign rfl rfl) (by decide) ?_
      refine AOps.nil ?_
      refine AWp.ret ?_
      exact ⟨_, _, rfl, rfl, by rw [evalR_arg hb (by omega)]; rfl, rfl⟩
    · have hin : ins.length = nin l := by omega
      refine AWp.skip ?_
      refine AWp.seq ?_
      refine AWp.region ?_
      first | refine AOps.val (Y.move rfl rfl) (by decide) ?_ | refine AOps.moveU rfl (by decide) ?_
      refine AOps.val (Y.len sl22 rfl (n := l.length) (congrArg some (List.length_map ..))) (by decide) ?_
      refine AOps.makeSlice sl27 ze4 rfl rfl rfl rfl (by omega) (by omega) (by decide) ?_
      first | refine AOps.val (Y.assign rfl rfl) (by decide) ?_ | refine AOps.assignU rfl (by decide) ?_
      refine AOps.nil ?_
      refine AWp.seq ?_
      refine AWp.seq ?_
      refine AWp.region ?_
      refine AOps.sh (Sh.adoptN (d := 6) (n := l.length) 106 rfl (by simp) (by decide)) ?_
      first | refine AOps.val (Y.move rfl rfl) (by decide) ?_ | refine AOps.moveU rfl (by decide) ?_
      refine AOps.val (Y.len sl22 rfl (n := l.length) (congrArg some (List.length_map ..))) (by decide) ?_
      refine AOps.val (Y.move rfl rfl) (by decide) ?_
      refine AOps.nil ?_
      refine AWp.block ?_
      refine AWp.loop (fun (ix : Nat) => ⟨[(22, .v (.int .i64 ((ix : Int)))), (20, .fz 3 (l.map Gate.row)), (21, .v (.int .i64 ((l.length : Int)))), (6, .slc 106 1 0 l.length), (1, .fz 1 ((ins.drop (nin (l.take ix))).map brow))], [(106, .rows 1 (fill l.length (outs l ins ix)))]⟩) (fun ix => ix ≤ l.length) (fun ix => l.length - ix) (0) (by omega) (Le.mk (by repeat (first | exact SubL.nil | refine SubL.cons (by first | rfl | (rw [nin_zero]; rfl)) ?_)) (SubL.cons (by rw [outs, fill_nil]; rfl) SubL.nil)) (fun ix hI => ?_)
      refine AWp.seq ?_
      refine AWp.region ?_
      refine AOps.val (Y.lss rfl rfl) (by decide) ?_
      refine AOps.nil ?_
      refine AWp.seq ?_
      refine AWp.condD rfl (fun c23 => ?_) (fun c23 => ?_)
      · obtain ⟨q, hg⟩ : ∃ q, l[ix]? = some q := ⟨_, List.getElem?_eq_getElem (by omega)⟩
        have hol : (outs l ins ix).length = ix := outs_length (by omega)
        have hok := hb ix q hg
        simp only [okGate, okArg, operands] at hok
        refine AWp.skip ?_
        refine AWp.seq ?_
        refine AWp.block ?_
        refine AWp.seq ?_
        refine AWp.region ?_
        first | refine AOps.val (Y.move rfl rfl) (by decide) ?_ | refine AOps.moveU rfl (by decide) ?_
        refine AOps.val (Y.indexF sl22 rfl rfl rfl (getElem?_map' hg)) (by decide) ?_
        refine AOps.val (Y.loadA sh38 rfl rfl (Nat.le_of_ble_eq_true rfl) rfl rfl) (by decide) ?_
        refine AOps.alloc 108 ze38 rfl rfl (by decide) ?_
        first | refine AOps.val (Y.assign rfl rfl) (by decide) ?_ | refine AOps.assignU rfl (by decide) ?_
        first | refine AOps.storeC si38 rfl rfl rfl rfl rfl rfl (Nat.le_of_ble_eq_true rfl) rfl ?_ | refine AOps.storeR si38 rfl rfl rfl rfl rfl rfl rfl (by first | assumption | exact getElem?_map' (by assumption)) (Nat.le_of_ble_eq_true rfl) ?_
        refine AOps.nil ?_
        refine AWp.seq ?_
        refine AWp.region ?_
        refine AOps.val (Y.fieldAddr fl38_0 rfl rfl) (by decide) ?_
        refine AOps.val (Y.load sh3 rfl rfl rfl rfl) (by decide) ?_
        refine AOps.nil ?_
        refine AWp.block ?_
        refine AWp.seq ?_
        refine AWp.region ?_
        refine AOps.val (Y.eql rfl rfl) (by decide) ?_
        first | refine AOps.val (Y.assign rfl rfl) (by decide) ?_ | refine AOps.assignU rfl (by decide) ?_
        refine AOps.nil ?_
        refine AWp.condD rfl (fun c29 => ?_) (fun c29 => ?_)
        · refine AWp.region ?_
          first | refine AOps.val (Y.move rfl rfl) (by decide) ?_ | refine AOps.moveU rfl (by decide) ?_
          first | refine AOps.val (Y.move rfl rfl) (by decide) ?_ | refine AOps.moveU rfl (by decide) ?_
          refine AOps.val (Y.indexO (m := ix) sl27 rfl rfl (by omega) (by omega)) (by decide) ?_
          refine AOps.storeE (fill l.length (outs l ins (ix + 1))) si4 rfl rfl rfl rfl rfl rfl rfl (fill_row hol (by omega)) (Nat.le_of_ble_eq_true rfl) (by rw [outs_succ hg, show valOf (outs l ins ix) ins (nin (l.take ix)) q = true by simp [valOf, c29]]; exact fill_set _ hol (by omega)) ?_
          refine AOps.nil ?_
          refine AWp.region ?_
          first | refine AOps.val (Y.addI rfl rfl (by omega)) (by decide) ?_ | refine AOps.val (Y.add rfl rfl rfl) (by decide) ?_
          first | refine AOps.val (Y.move rfl rfl) (by decide) ?_ | refine AOps.moveU rfl (by decide) ?_
          refine AOps.nil ?_
          exact ⟨ix + 1, by omega, by omega, Le.mk (by repeat (first | exact SubL.nil | refine SubL.cons (by first | rfl | (rw [nin_succ hg, if_neg (by omega)]; rfl) | (rw [nin_succ hg, if_pos (by omega)]; rfl)) ?_)) (SubL.cons (by first | rfl | (rw [outs_succ hg, show valOf (outs l ins ix) ins (nin (l.take ix)) q = false by simp [valOf, *], ← fill_same (by omega)]; rfl)) SubL.nil)⟩
        · refine AWp.seq ?_
          refine AWp.region ?_
          refine AOps.val (Y.eql rfl rfl) (by decide) ?_
          first | refine AOps.val (Y.assign rfl rfl) (by decide) ?_ | refine AOps.assignU rfl (by decide) ?_
          refine AOps.nil ?_
          refine AWp.condD rfl (fun c34 => ?_) (fun c34 => ?_)
          · have hlt := nin_lt hg c34
            refine AWp.regionAny rfl ?_
            refine AAny.blind 0 rfl (by kernel_rfl) (Blind.move rfl rfl) (by decide) ?_
            refine AAny.blind 1 rfl (by kernel_rfl) (Blind.move rfl rfl) (by decide) ?_
            refine AAny.blind 2 rfl (by kernel_rfl) (Blind.move rfl rfl) (by decide) ?_
            refine AAny.blind 5 rfl (by kernel_rfl) (Blind.move rfl rfl) (by decide) ?_
            refine AAny.blind 6 rfl (by kernel_rfl) (Blind.sliceF sl27 rfl (.some rfl) (.none _) (by simp; omega) (Nat.le_refl _) (tail_drop brow _ _)) (by decide) ?_
            refine AAny.one 3 rfl (by kernel_rfl) ?_
            refine AOps.val (Y.indexF sl27 rfl rfl (m := 0) rfl (head_drop (f := brow) false (by omega))) (by decide) ?_
            refine AOps.nil ⟨rfl, ?_⟩
            refine AAny.one 4 rfl (by kernel_rfl) ?_
            refine AOps.val (Y.load sh4 rfl rfl rfl rfl) (by decide) ?_
            refine AOps.nil ⟨rfl, ?_⟩
            refine AAny.one 7 rfl (by kernel_rfl) ?_
            refine AOps.val (Y.indexO (m := ix) sl27 rfl rfl (by omega) (by omega)) (by decide) ?_
            refine AOps.nil ⟨rfl, ?_⟩
            refine AAny.one 8 rfl (by kernel_rfl) ?_
            refine AOps.storeE (fill l.length (outs l ins (ix + 1))) si4 rfl rfl rfl rfl rfl rfl rfl (fill_row hol (by omega)) (Nat.le_of_ble_eq_true rfl) (by rw [outs_succ hg, show valOf (outs l ins ix) ins (nin (l.take ix)) q = ins.getD (nin (l.take ix)) false by simp [valOf, c34]]; exact fill_set _ hol (by omega)) ?_
            refine AOps.nil ⟨rfl, ?_⟩
            refine AAny.one 9 rfl (by kernel_rfl) ?_
            first | refine AOps.val (Y.assign rfl rfl) (by decide) ?_ | refine AOps.assignU rfl (by decide) ?_
            refine AOps.nil ⟨rfl, ?_⟩
            refine AAny.done (by kernel_rfl) ?_
            refine AWp.region ?_
            first | refine AOps.val (Y.addI rfl rfl (by omega)) (by decide) ?_ | refine AOps.val (Y.add rfl rfl rfl) (by decide) ?_
            first | refine AOps.val (Y.move rfl rfl) (by decide) ?_ | refine AOps.moveU rfl (by decide) ?_
            refine AOps.nil ?_
            exact ⟨ix + 1, by omega, by omega, Le.mk (by repeat (first | exact SubL.nil | refine SubL.cons (by first | rfl | (rw [nin_succ hg, if_neg (by omega)]; rfl) | (rw [nin_succ hg, if_pos (by omega)]; rfl)) ?_)) (SubL.cons (by first | rfl | (rw [outs_succ hg, show valOf (outs l ins ix) ins (nin (l.take ix)) q = false by simp [valOf, *], ← fill_same (by omega)]; rfl)) SubL.nil)⟩
          · refine AWp.seq ?_
            refine AWp.region ?_
            refine AOps.val (Y.eql rfl rfl) (by decide) ?_
            first | refine AOps.val (Y.assign rfl rfl) (by decide) ?_ | refine AOps.assignU rfl (by decide) ?_
            refine AOps.nil ?_
            refine AWp.condD rfl (fun c44 => ?_) (fun c44 => ?_)
            · refine AWp.region ?_
              first | refine AOps.val (Y.move rfl rfl) (by decide) ?_ | refine AOps.moveU rfl (by decide) ?_
              first | refine AOps.val (Y.move rfl rfl) (by decide) ?_ | refine AOps.moveU rfl (by decide) ?_
              first | refine AOps.val (Y.move rfl rfl) (by decide) ?_ | refine AOps.moveU rfl (by decide) ?_
              refine AOps.val (Y.fieldAddr fl38_1 rfl rfl) (by decide) ?_
              refine AOps.val (Y.load sh3 rfl rfl rfl rfl) (by decide) ?_
              refine AOps.val (Y.indexO (m := q.a.toNat) sl27 rfl rfl (by omega) (by omega)) (by decide) ?_
              refine AOps.val (Y.load sh4 rfl (fill_get (n := l.length) (out := outs l ins ix) (i := q.a.toNat) (by omega)) rfl rfl) (by decide) ?_
              refine AOps.val (Y.not rfl) (by decide) ?_
              refine AOps.val (Y.indexO (m := ix) sl27 rfl rfl (by omega) (by omega)) (by decide) ?_
              refine AOps.storeE (fill l.length (outs l ins (ix + 1))) si4 rfl rfl rfl rfl rfl rfl rfl (fill_row hol (by omega)) (Nat.le_of_ble_eq_true rfl) (by rw [outs_succ hg, show valOf (outs l ins ix) ins (nin (l.take ix)) q = !(outs l ins ix).getD q.a.toNat false by simp [valOf, c44]]; exact fill_set _ hol (by omega)) ?_
              refine AOps.nil ?_
              refine AWp.region ?_
              first | refine AOps.val (Y.addI rfl rfl (by omega)) (by decide) ?_ | refine AOps.val (Y.add rfl rfl rfl) (by decide) ?_
              first | refine AOps.val (Y.move rfl rfl) (by decide) ?_ | refine AOps.moveU rfl (by decide) ?_
              refine AOps.nil ?_
              exact ⟨ix + 1, by omega, by omega, Le.mk (by repeat (first | exact SubL.nil | refine SubL.cons (by first | rfl | (rw [nin_succ hg, if_neg (by omega)]; rfl) | (rw [nin_succ hg, if_pos (by omega)]; rfl)) ?_)) (SubL.cons (by first | rfl | (rw [outs_succ hg, show valOf (outs l ins ix) ins (nin (l.take ix)) q = false by simp [valOf, *], ← fill_same (by omega)]; rfl)) SubL.nil)⟩
            · refine AWp.seq ?_
              refine AWp.region ?_
              refine AOps.val (Y.eql rfl rfl) (by decide) ?_
              first | refine AOps.val (Y.assign rfl rfl) (by decide) ?_ | refine AOps.assignU rfl (by decide) ?_
              refine AOps.nil ?_
              refine AWp.condD rfl (fun c55 => ?_) (fun c55 => ?_)
              · refine AWp.region ?_
                first | refine AOps.val (Y.move rfl rfl) (by decide) ?_ | refine AOps.moveU rfl (by decide) ?_
                first | refine AOps.val (Y.move rfl rfl) (by decide) ?_ | refine AOps.moveU rfl (by decide) ?_
                first | refine AOps.val (Y.move rfl rfl) (by decide) ?_ | refine AOps.moveU rfl (by decide) ?_
                refine AOps.val (Y.fieldAddr fl38_1 rfl rfl) (by decide) ?_
                refine AOps.val (Y.load sh3 rfl rfl rfl rfl) (by decide) ?_
                refine AOps.val (Y.indexO (m := q.a.toNat) sl27 rfl rfl (by omega) (by omega)) (by decide) ?_
                refine AOps.val (Y.load sh4 rfl (fill_get (n := l.length) (out := outs l ins ix) (i := q.a.toNat) (by omega)) rfl rfl) (by decide) ?_
                first | refine AOps.val (Y.move rfl rfl) (by decide) ?_ | refine AOps.moveU rfl (by decide) ?_
                refine AOps.split (d := 64) rfl (fun c64 => ?_) (fun c64 => ?_)
                · refine AOps.guardRun (d := 64) rfl (by decide) rfl ?_
                  first | refine AOps.val (Y.move rfl rfl) (by decide) ?_ | refine AOps.moveU rfl (by decide) ?_
                  refine AOps.guardRun (d := 64) rfl (by decide) rfl ?_
                  refine AOps.val (Y.fieldAddr fl38_2 rfl rfl) (by decide) ?_
                  refine AOps.guardRun (d := 64) rfl (by decide) rfl ?_
                  refine AOps.val (Y.load sh3 rfl rfl rfl rfl) (by decide) ?_
                  refine AOps.guardRun (d := 64) rfl (by decide) rfl ?_
                  refine AOps.val (Y.indexO (m := q.b.toNat) sl27 rfl rfl (by omega) (by omega)) (by decide) ?_
                  refine AOps.guardRun (d := 64) rfl (by decide) rfl ?_
                  refine AOps.val (Y.load sh4 rfl (fill_get (n := l.length) (out := outs l ins ix) (i := q.b.toNat) (by omega)) rfl rfl) (by decide) ?_
                  refine AOps.val (Y.pick rfl rfl rfl) (by decide) ?_
                  refine AOps.val (Y.indexO (m := ix) sl27 rfl rfl (by omega) (by omega)) (by decide) ?_
                  refine AOps.storeE (fill l.length (outs l ins (ix + 1))) si4 rfl rfl rfl rfl rfl rfl rfl (fill_row hol (by omega)) (Nat.le_of_ble_eq_true rfl) (by rw [outs_succ hg]; exact (fill_set (n := l.length) (out := outs l ins ix) (i := ix) _ hol (by omega)).trans (congrArg (fun b => fill l.length (outs l ins ix ++ [b])) (by rw [valOf_and c55, c64]; rfl))) ?_
                  refine AOps.nil ?_
                  refine AWp.region ?_
                  first | refine AOps.val (Y.addI rfl rfl (by omega)) (by decide) ?_ | refine AOps.val (Y.add rfl rfl rfl) (by decide) ?_
                  first | refine AOps.val (Y.move rfl rfl) (by decide) ?_ | refine AOps.moveU rfl (by decide) ?_
                  refine AOps.nil ?_
                  exact ⟨ix + 1, by omega, by omega, Le.mk (by repeat (first | exact SubL.nil | refine SubL.cons (by first | rfl | (rw [nin_succ hg, if_neg (by omega)]; rfl) | (rw [nin_succ hg, if_pos (by omega)]; rfl)) ?_)) (SubL.cons (by first | rfl | (rw [outs_succ hg, show valOf (outs l ins ix) ins (nin (l.take ix)) q = false by simp [valOf, *], ← fill_same (by omega)]; rfl)) SubL.nil)⟩
                · refine AOps.guardSkipV (d := 64) rfl (by decide) (by decide) rfl rfl ?_
                  refine AOps.guardSkipV (d := 64) rfl (by decide) (by decide) rfl rfl ?_
                  refine AOps.guardSkipV (d := 64) rfl (by decide) (by decide) rfl rfl ?_
                  refine AOps.guardSkipV (d := 64) rfl (by decide) (by decide) rfl rfl ?_
                  refine AOps.guardSkipV (d := 64) rfl (by decide) (by decide) rfl rfl ?_
                  refine AOps.val (Y.pick rfl rfl rfl) (by decide) ?_
                  refine AOps.val (Y.indexO (m := ix) sl27 rfl rfl (by omega) (by omega)) (by decide) ?_
                  refine AOps.storeE (fill l.length (outs l ins (ix + 1))) si4 rfl rfl rfl rfl rfl rfl rfl (fill_row hol (by omega)) (Nat.le_of_ble_eq_true rfl) (by rw [outs_succ hg]; exact (fill_set (n := l.length) (out := outs l ins ix) (i := ix) _ hol (by omega)).trans (congrArg (fun b => fill l.length (outs l ins ix ++ [b])) (by rw [valOf_and c55, c64]; rfl))) ?_
                  refine AOps.nil ?_
                  refine AWp.region ?_
                  first | refine AOps.val (Y.addI rfl rfl (by omega)) (by decide) ?_ | refine AOps.val (Y.add rfl rfl rfl) (by decide) ?_
                  first | refine AOps.val (Y.move rfl rfl) (by decide) ?_ | refine AOps.moveU rfl (by decide) ?_
                  refine AOps.nil ?_
                  exact ⟨ix + 1, by omega, by omega, Le.mk (by repeat (first | exact SubL.nil | refine SubL.cons (by first | rfl | (rw [nin_succ hg, if_neg (by omega)]; rfl) | (rw [nin_succ hg, if_pos (by omega)]; rfl)) ?_)) (SubL.cons (by first | rfl | (rw [outs_succ hg, show valOf (outs l ins ix) ins (nin (l.take ix)) q = false by simp [valOf, *], ← fill_same (by omega)]; rfl)) SubL.nil)⟩
              · refine AWp.seq ?_
                refine AWp.region ?_
                refine AOps.val (Y.eql rfl rfl) (by decide) ?_
                first | refine AOps.val (Y.assign rfl rfl) (by decide) ?_ | refine AOps.assignU rfl (by decide) ?_
                refine AOps.nil ?_
                refine AWp.condD rfl (fun c72 => ?_) (fun c72 => ?_)
                · refine AWp.region ?_
                  first | refine AOps.val (Y.move rfl rfl) (by decide) ?_ | refine AOps.moveU rfl (by decide) ?_
                  first | refine AOps.val (Y.move rfl rfl) (by decide) ?_ | refine AOps.moveU rfl (by decide) ?_
                  first | refine AOps.val (Y.move rfl rfl) (by decide) ?_ | refine AOps.moveU rfl (by decide) ?_
                  refine AOps.val (Y.fieldAddr fl38_1 rfl rfl) (by decide) ?_
                  refine AOps.val (Y.load sh3 rfl rfl rfl rfl) (by decide) ?_
                  refine AOps.val (Y.indexO (m := q.a.toNat) sl27 rfl rfl (by omega) (by omega)) (by decide) ?_
                  refine AOps.val (Y.load sh4 rfl (fill_get (n := l.length) (out := outs l ins ix) (i := q.a.toNat) (by omega)) rfl rfl) (by decide) ?_
                  first | refine AOps.val (Y.move rfl rfl) (by decide) ?_ | refine AOps.moveU rfl (by decide) ?_
                  refine AOps.split (d := 81) rfl (fun c81 => ?_) (fun c81 => ?_)
                  · refine AOps.guardSkipV (d := 81) rfl (by decide) (by decide) rfl rfl ?_
                    refine AOps.guardSkipV (d := 81) rfl (by decide) (by decide) rfl rfl ?_
                    refine AOps.guardSkipV (d := 81) rfl (by decide) (by decide) rfl rfl ?_
                    refine AOps.guardSkipV (d := 81) rfl (by decide) (by decide) rfl rfl ?_
                    refine AOps.guardSkipV (d := 81) rfl (by decide) (by decide) rfl rfl ?_
                    refine AOps.val (Y.pick rfl rfl rfl) (by decide) ?_
                    refine AOps.val (Y.indexO (m := ix) sl27 rfl rfl (by omega) (by omega)) (by decide) ?_
                    refine AOps.storeE (fill l.length (outs l ins (ix + 1))) si4 rfl rfl rfl rfl rfl rfl rfl (fill_row hol (by omega)) (Nat.le_of_ble_eq_true rfl) (by rw [outs_succ hg]; exact (fill_set (n := l.length) (out := outs l ins ix) (i := ix) _ hol (by omega)).trans (congrArg (fun b => fill l.length (outs l ins ix ++ [b])) (by rw [valOf_or c72, c81]; rfl))) ?_
                    refine AOps.nil ?_
                    refine AWp.region ?_
                    first | refine AOps.val (Y.addI rfl rfl (by omega)) (by decide) ?_ | refine AOps.val (Y.add rfl rfl rfl) (by decide) ?_
                    first | refine AOps.val (Y.move rfl rfl) (by decide) ?_ | refine AOps.moveU rfl (by decide) ?_
                    refine AOps.nil ?_
                    exact ⟨ix + 1, by omega, by omega, Le.mk (by repeat (first | exact SubL.nil | refine SubL.cons (by first | rfl | (rw [nin_succ hg, if_neg (by omega)]; rfl) | (rw [nin_succ hg, if_pos (by omega)]; rfl)) ?_)) (SubL.cons (by first | rfl | (rw [outs_succ hg, show valOf (outs l ins ix) ins (nin (l.take ix)) q = false by simp [valOf, *], ← fill_same (by omega)]; rfl)) SubL.nil)⟩
                  · refine AOps.guardRun (d := 81) rfl (by decide) rfl ?_
                    first | refine AOps.val (Y.move rfl rfl) (by decide) ?_ | refine AOps.moveU rfl (by decide) ?_
                    refine AOps.guardRun (d := 81) rfl (by decide) rfl ?_
                    refine AOps.val (Y.fieldAddr fl38_2 rfl rfl) (by decide) ?_
                    refine AOps.guardRun (d := 81) rfl (by decide) rfl ?_
                    refine AOps.val (Y.load sh3 rfl rfl rfl rfl) (by decide) ?_
                    refine AOps.guardRun (d := 81) rfl (by decide) rfl ?_
                    refine AOps.val (Y.indexO (m := q.b.toNat) sl27 rfl rfl (by omega) (by omega)) (by decide) ?_
                    refine AOps.guardRun (d := 81) rfl (by decide) rfl ?_
                    refine AOps.val (Y.load sh4 rfl (fill_get (n := l.length) (out := outs l ins ix) (i := q.b.toNat) (by omega)) rfl rfl) (by decide) ?_
                    refine AOps.val (Y.pick rfl rfl rfl) (by decide) ?_
                    refine AOps.val (Y.indexO (m := ix) sl27 rfl rfl (by omega) (by omega)) (by decide) ?_
                    refine AOps.storeE (fill l.length (outs l ins (ix + 1))) si4 rfl rfl rfl rfl rfl rfl rfl (fill_row hol (by omega)) (Nat.le_of_ble_eq_true rfl) (by rw [outs_succ hg]; exact (fill_set (n := l.length) (out := outs l ins ix) (i := ix) _ hol (by omega)).trans (congrArg (fun b => fill l.length (outs l ins ix ++ [b])) (by rw [valOf_or c72, c81]; rfl))) ?_
                    refine AOps.nil ?_
                    refine AWp.region ?_
                    first | refine AOps.val (Y.addI rfl rfl (by omega)) (by decide) ?_ | refine AOps.val (Y.add rfl rfl rfl) (by decide) ?_
                    first | refine AOps.val (Y.move rfl rfl) (by decide) ?_ | refine AOps.moveU rfl (by decide) ?_
                    refine AOps.nil ?_
                    exact ⟨ix + 1, by omega, by omega, Le.mk (by repeat (first | exact SubL.nil | refine SubL.cons (by first | rfl | (rw [nin_succ hg, if_neg (by omega)]; rfl) | (rw [nin_succ hg, if_pos (by omega)]; rfl)) ?_)) (SubL.cons (by first | rfl | (rw [outs_succ hg, show valOf (outs l ins ix) ins (nin (l.take ix)) q = false by simp [valOf, *], ← fill_same (by omega)]; rfl)) SubL.nil)⟩
                · refine AWp.seq ?_
                  refine AWp.region ?_
                  refine AOps.val (Y.eql rfl rfl) (by decide) ?_
                  first | refine AOps.val (Y.assign rfl rfl) (by decide) ?_ | refine AOps.assignU rfl (by decide) ?_
                  refine AOps.nil ?_
                  refine AWp.condD rfl (fun c89 => ?_) (fun c89 => ?_)
                  · refine AWp.regionT 14 rfl (by kernel_rfl) ?_
                    first | refine AHead.val (Y.move rfl rfl) (by decide) ?_ | refine AHead.moveU rfl (by decide) ?_
                    first | refine AHead.val (Y.move rfl rfl) (by decide) ?_ | refine AHead.moveU rfl (by decide) ?_
                    first | refine AHead.val (Y.move rfl rfl) (by decide) ?_ | refine AHead.moveU rfl (by decide) ?_
                    refine AHead.val (Y.fieldAddr fl38_1 rfl rfl) (by decide) ?_
                    refine AHead.val (Y.load sh3 rfl rfl rfl rfl) (by decide) ?_
                    refine AHead.val (Y.indexO (m := q.a.toNat) sl27 rfl rfl (by omega) (by omega)) (by decide) ?_
                    refine AHead.val (Y.load sh4 rfl (fill_get (n := l.length) (out := outs l ins ix) (i := q.a.toNat) (by omega)) rfl rfl) (by decide) ?_
                    first | refine AHead.val (Y.move rfl rfl) (by decide) ?_ | refine AHead.moveU rfl (by decide) ?_
                    refine AHead.val (Y.fieldAddr fl38_2 rfl rfl) (by decide) ?_
                    refine AHead.val (Y.load sh3 rfl rfl rfl rfl) (by decide) ?_
                    refine AHead.val (Y.indexO (m := q.b.toNat) sl27 rfl rfl (by omega) (by omega)) (by decide) ?_
                    refine AHead.val (Y.load sh4 rfl (fill_get (n := l.length) (out := outs l ins ix) (i := q.b.toNat) (by omega)) rfl rfl) (by decide) ?_
                    refine AHead.val (Y.neqB un4 rfl rfl) (by decide) ?_
                    refine AHead.val (Y.indexO (m := ix) sl27 rfl rfl (by omega) (by omega)) (by decide) ?_
                    refine AHead.nil ?_
                    refine AOps.storeE (fill l.length (outs l ins (ix + 1))) si4 rfl rfl rfl rfl rfl rfl rfl (fill_row hol (by omega)) (Nat.le_of_ble_eq_true rfl) (by rw [outs_succ hg, show valOf (outs l ins ix) ins (nin (l.take ix)) q = ((outs l ins ix).getD q.a.toNat false != (outs l ins ix).getD q.b.toNat false) by simp [valOf, c89]]; exact fill_set _ hol (by omega)) ?_
                    refine AOps.nil ?_
                    refine AWp.region ?_
                    first | refine AOps.val (Y.addI rfl rfl (by omega)) (by decide) ?_ | refine AOps.val (Y.add rfl rfl rfl) (by decide) ?_
                    first | refine AOps.val (Y.move rfl rfl) (by decide) ?_ | refine AOps.moveU rfl (by decide) ?_
                    refine AOps.nil ?_
                    exact ⟨ix + 1, by omega, by omega, Le.mk (by repeat (first | exact SubL.nil | refine SubL.cons (by first | rfl | (rw [nin_succ hg, if_neg (by omega)]; rfl) | (rw [nin_succ hg, if_pos (by omega)]; rfl)) ?_)) (SubL.cons (by first | rfl | (rw [outs_succ hg, show valOf (outs l ins ix) ins (nin (l.take ix)) q = false by simp [valOf, *], ← fill_same (by omega)]; rfl)) SubL.nil)⟩
                  · refine AWp.skip ?_
                    refine AWp.region ?_
                    first | refine AOps.val (Y.addI rfl rfl (by omega)) (by decide) ?_ | refine AOps.val (Y.add rfl rfl rfl) (by decide) ?_
                    first | refine AOps.val (Y.move rfl rfl) (by decide) ?_ | refine AOps.moveU rfl (by decide) ?_
                    refine AOps.nil ?_
                    exact ⟨ix + 1, by omega, by omega, Le.mk (by repeat (first | exact SubL.nil | refine SubL.cons (by first | rfl | (rw [nin_succ hg, if_neg (by omega)]; rfl) | (rw [nin_succ hg, if_pos (by omega)]; rfl)) ?_)) (SubL.cons (by first | rfl | (rw [outs_succ hg, show valOf (outs l ins ix) ins (nin (l.take ix)) q = false by simp [valOf, *], ← fill_same (by omega)]; rfl)) SubL.nil)⟩
      · refine AWp.exit ?_
        refine AWp.seq ?_
        refine AWp.region ?_
        first | refine AOps.val (Y.move rfl rfl) (by decide) ?_ | refine AOps.moveU rfl (by decide) ?_
        first | refine AOps.val (Y.assign rfl rfl) (by decide) ?_ | refine AOps.assignU rfl (by decide) ?_
        refine AOps.sh (Sh.detach (d := 4) (o := 106) rfl rfl (by rw [fill_length (by rw [outs_length hI]; omega)]) (by decide)) ?_
        refine AOps.val (Y.assign rfl rfl) (by decide) ?_
        refine AOps.nil ?_
        refine AWp.ret ?_
        exact ⟨_, _, rfl, rfl, by rw [evalR_ok hb hin, show l.length = ix by omega, fill_full (outs_length (by omega))]; rfl, rfl⟩

end Go.Proofs.Ytiehdnjcapjacaa
