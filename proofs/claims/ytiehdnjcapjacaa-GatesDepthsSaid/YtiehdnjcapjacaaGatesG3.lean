/- The example that every law begins with; the law on Check. -/
import Derived.Test.YtiehdnjcapjacaaGatesG1
import Derived.Test.YtiehdnjcapjacaaGatesG2
namespace Go.Proofs.Ytiehdnjcapjacaa
open Go Go.AW Go.Proofs



theorem awake_good : Good [⟨3, 0, 0⟩, ⟨4, 0, 0⟩] := by
  intro i g h
  rcases i with _ | _ | i
  · simp at h; subst h; simp [okGate, okArg, operands]
  · simp at h; subst h; simp [okGate, okArg, operands]
  · simp at h
theorem awake_evalR : evalR [⟨3, 0, 0⟩, ⟨4, 0, 0⟩] [false] = ([false, true], 0) := by
  rw [evalR_ok awake_good rfl]; rfl
theorem awake_eval : ACalls Try.prog 13 [.fz 3 (([⟨3, 0, 0⟩, ⟨4, 0, 0⟩] : List Gate).map Gate.row), .fz 1 ([false].map brow)] [] [] (fun r o => r = .tup [.uni 1 ([false, true].map brow), .v (.int .i64 0)] ∧ o = []) := by
  have h := eval_spec (l := [⟨3, 0, 0⟩, ⟨4, 0, 0⟩]) (ins := [false]) (by decide)
  rw [awake_evalR] at h
  exact h
theorem awake_check : ACalls Try.prog 12 [.fz 3 (([⟨99, 0, 0⟩] : List Gate).map Gate.row)] [] [] (fun r o => r = .v (.int .i64 3) ∧ o = []) := by
  have h := check_spec (l := [⟨99, 0, 0⟩]) (by decide)
  rw [check_bad (i := 0) (g := ⟨99, 0, 0⟩) rfl (by simp [okGate])] at h
  exact h
theorem formed_check {l : List Gate} : (formed l = true → check l = 0) ∧ (formed l = false → check l = 3) := by
  by_cases h : Good l
  · exact ⟨fun _ => check_good h, fun h' => by rw [formed_good h] at h'; cases h'⟩
  · exact ⟨fun h' => by simp [formed, h] at h', fun _ => by simp [check, h]⟩

set_option maxHeartbeats 1000000 in
theorem awake_spec : ACalls Try.prog 10 [] [] [] (fun r o => r = .v (.bool true) ∧ o = []) := by
  refine ACalls.of Try.func10 rfl rfl rfl (n := 31) (by decide) (Nat.zero_le _) ?_
  refine AWp.seq ?_
  refine AWp.region ?_
  refine AOps.val (Y.assign rfl rfl) (by decide) ?_
  refine AOps.nil ?_
  refine AWp.seq ?_
  refine AWp.region ?_
  refine AOps.val (Y.build pl38 ze38 rfl rfl rfl) (by decide) ?_
  refine AOps.val (Y.build pl38 ze38 rfl rfl rfl) (by decide) ?_
  refine AOps.buildSlice (([⟨3, 0, 0⟩, ⟨4, 0, 0⟩] : List Gate).map Gate.row) sl22 ze38 rfl rfl rfl rfl rfl (by intro r hr; simp at hr; (first | subst hr | (rcases hr with rfl | rfl)) <;> rfl) rfl rfl rfl (by decide) ?_
  first | refine AOps.val (Y.assign rfl rfl) (by decide) ?_ | refine AOps.assignU rfl (by decide) ?_
  refine AOps.nil ?_
  refine AWp.seq ?_
  refine AWp.region ?_
  first | refine AOps.val (Y.move rfl rfl) (by decide) ?_ | refine AOps.moveU rfl (by decide) ?_
  refine AOps.buildSlice ([false].map brow) sl27 ze4 rfl rfl rfl rfl rfl (by intro r hr; simp at hr; (first | subst hr | (rcases hr with rfl | rfl)) <;> rfl) rfl rfl rfl (by decide) ?_
  refine AOps.sh (Sh.freezeX (d := 8) (y := .fz 3 (([⟨3, 0, 0⟩, ⟨4, 0, 0⟩] : List Gate).map Gate.row)) rfl rfl) ?_
  refine AOps.sh (Sh.freezeX (d := 9) (y := .fz 1 ([false].map brow)) rfl rfl) ?_
  refine AOps.callP ok13 (awake_eval) rfl (.keep rfl rfl (.keep rfl rfl .nil)) (by decide) rfl ?_
  refine AOps.sh (Sh.freezeX (d := 10) (y := .tup [.fz 1 ([false, true].map brow), .v (.int .i64 0)]) rfl rfl) ?_
  first | refine AOps.val (Y.move rfl rfl) (by decide) ?_ | refine AOps.moveU rfl (by decide) ?_
  refine AOps.val (Y.extract rfl rfl rfl) (by decide) ?_
  refine AOps.val (Y.extract rfl rfl rfl) (by decide) ?_
  first | refine AOps.val (Y.assign rfl rfl) (by decide) ?_ | refine AOps.assignU rfl (by decide) ?_
  first | refine AOps.val (Y.assign rfl rfl) (by decide) ?_ | refine AOps.assignU rfl (by decide) ?_
  refine AOps.nil ?_
  refine AWp.seq ?_
  refine AWp.region ?_
  first | refine AOps.val (Y.move rfl rfl) (by decide) ?_ | refine AOps.moveU rfl (by decide) ?_
  refine AOps.val (Y.eql rfl rfl) (by decide) ?_
  first | refine AOps.val (Y.move rfl rfl) (by decide) ?_ | refine AOps.moveU rfl (by decide) ?_
  refine AOps.splitD (d := 15) rfl (fun c15 => ?_) (fun c15 => ?_)
  · refine AOps.guardRun (d := 15) rfl (by decide) rfl ?_
    first | refine AOps.val (Y.move rfl rfl) (by decide) ?_ | refine AOps.moveU rfl (by decide) ?_
    refine AOps.guardRun (d := 15) rfl (by decide) rfl ?_
    refine AOps.val (Y.len sl27 rfl (n := 2) rfl) (by decide) ?_
    refine AOps.guardRun (d := 15) rfl (by decide) rfl ?_
    refine AOps.val (Y.eql rfl rfl) (by decide) ?_
    refine AOps.val (Y.pick rfl rfl rfl) (by decide) ?_
    first | refine AOps.val (Y.move rfl rfl) (by decide) ?_ | refine AOps.moveU rfl (by decide) ?_
    refine AOps.splitD (d := 20) rfl (fun c20 => ?_) (fun c20 => ?_)
    · refine AOps.guardRun (d := 20) rfl (by decide) rfl ?_
      first | refine AOps.val (Y.move rfl rfl) (by decide) ?_ | refine AOps.moveU rfl (by decide) ?_
      refine AOps.guardRun (d := 20) rfl (by decide) rfl ?_
      refine AOps.val (Y.indexF sl27 rfl rfl (m := 1) rfl rfl) (by decide) ?_
      refine AOps.guardRun (d := 20) rfl (by decide) rfl ?_
      refine AOps.val (Y.load sh4 rfl rfl rfl rfl) (by decide) ?_
      refine AOps.val (Y.pick rfl rfl rfl) (by decide) ?_
      first | refine AOps.val (Y.move rfl rfl) (by decide) ?_ | refine AOps.moveU rfl (by decide) ?_
      refine AOps.split (d := 25) rfl (fun c25 => ?_) (fun c25 => ?_)
      · refine AOps.guardRun (d := 25) rfl (by decide) rfl ?_
        refine AOps.val (Y.build pl38 ze38 rfl rfl rfl) (by decide) ?_
        refine AOps.guardRun (d := 25) rfl (by decide) rfl ?_
        refine AOps.buildSlice (([⟨99, 0, 0⟩] : List Gate).map Gate.row) sl22 ze38 rfl rfl rfl rfl rfl (by intro r hr; simp at hr; (first | subst hr | (rcases hr with rfl | rfl)) <;> rfl) rfl rfl rfl (by decide) ?_
        refine AOps.sh (Sh.freezeX (d := 27) (y := .fz 3 (([⟨99, 0, 0⟩] : List Gate).map Gate.row)) rfl rfl) ?_
        refine AOps.guardRun (d := 25) rfl (by decide) rfl ?_
        refine AOps.callP ok12 (awake_check) rfl (.keep rfl rfl .nil) (by decide) rfl ?_
        refine AOps.guardRun (d := 25) rfl (by decide) rfl ?_
        refine AOps.val (Y.eql rfl rfl) (by decide) ?_
        refine AOps.val (Y.pick rfl rfl rfl) (by decide) ?_
        first | refine AOps.val (Y.assign rfl rfl) (by decide) ?_ | refine AOps.assignU rfl (by decide) ?_
        refine AOps.nil ?_
        refine AWp.ret ?_
        exact ⟨_, _, rfl, rfl, rfl, rfl⟩
      · exact absurd c25 (by decide)
    · exact absurd rfl c20
  · exact absurd rfl c15

set_option maxHeartbeats 1000000 in
theorem law3_spec {l : List Gate} (hl : l.length ≤ 4611686018427387904) : ACalls Try.prog 3 [.fz 3 (l.map Gate.row)] [] [] (fun r o => r = .v (.bool true) ∧ o = []) := by
  refine ACalls.of Try.func3 rfl rfl rfl (n := 12) (by decide) (Nat.le_of_ble_eq_true rfl) ?_
  refine AWp.seq ?_
  refine AWp.region ?_
  refine AOps.val (Y.assign rfl rfl) (by decide) ?_
  refine AOps.nil ?_
  refine AWp.seq ?_
  refine AWp.seq ?_
  refine AWp.region ?_
  refine AOps.callP ok10 (awake_spec) rfl .nil (by decide) rfl ?_
  refine AOps.val (Y.not rfl) (by decide) ?_
  refine AOps.nil ?_
  refine AWp.cond rfl (fun c5 => ?_) (fun c5 => ?_)
  · exact absurd c5 (by decide)
  · refine AWp.skip ?_
    refine AWp.seq ?_
    refine AWp.region ?_
    refine AOps.val (Y.assign rfl rfl) (by decide) ?_
    refine AOps.nil ?_
    refine AWp.seq ?_
    refine AWp.seq ?_
    refine AWp.region ?_
    first | refine AOps.val (Y.move rfl rfl) (by decide) ?_ | refine AOps.moveU rfl (by decide) ?_
    refine AOps.callP ok11 (formed_spec (by omega)) rfl (.keep rfl rfl .nil) (by decide) rfl ?_
    refine AOps.nil ?_
    refine AWp.cond rfl (fun c7 => ?_) (fun c7 => ?_)
    · refine AWp.region ?_
      refine AOps.val (Y.assign rfl rfl) (by decide) ?_
      refine AOps.nil ?_
      refine AWp.seq ?_
      refine AWp.region ?_
      first | refine AOps.val (Y.move rfl rfl) (by decide) ?_ | refine AOps.moveU rfl (by decide) ?_
      refine AOps.callP ok12 (check_spec (by omega)) rfl (.keep rfl rfl .nil) (by decide) rfl ?_
      first | refine AOps.val (Y.move rfl rfl) (by decide) ?_ | refine AOps.moveU rfl (by decide) ?_
      refine AOps.val (Y.eql rfl rfl) (by decide) ?_
      first | refine AOps.val (Y.assign rfl rfl) (by decide) ?_ | refine AOps.assignU rfl (by decide) ?_
      refine AOps.nil ?_
      refine AWp.ret ?_
      exact ⟨_, _, rfl, rfl, rform (by rw [formed_check.1 c7]; rfl), rfl⟩
    · refine AWp.skip ?_
      refine AWp.seq ?_
      refine AWp.region ?_
      first | refine AOps.val (Y.move rfl rfl) (by decide) ?_ | refine AOps.moveU rfl (by decide) ?_
      refine AOps.callP ok12 (check_spec (by omega)) rfl (.keep rfl rfl .nil) (by decide) rfl ?_
      first | refine AOps.val (Y.move rfl rfl) (by decide) ?_ | refine AOps.moveU rfl (by decide) ?_
      refine AOps.val (Y.eql rfl rfl) (by decide) ?_
      first | refine AOps.val (Y.assign rfl rfl) (by decide) ?_ | refine AOps.assignU rfl (by decide) ?_
      refine AOps.nil ?_
      refine AWp.ret ?_
      exact ⟨_, _, rfl, rfl, rform (by rw [formed_check.2 c7]; rfl), rfl⟩

end Go.Proofs.Ytiehdnjcapjacaa
