/- The law on the gates before a gate. -/
import Derived.Test.YtiehdnjcapjacaaGatesP1
import Derived.Test.YtiehdnjcapjacaaGatesP2
namespace Go.Proofs.Ytiehdnjcapjacaa
open Go Go.AW Go.Proofs



theorem evalOk_spec {l : List Gate} {ins : List Bool} (hl : l.length ≤ 8796093022208) (hb : Good l) (hin : ins.length = nin l) :
    ACalls Try.prog 13 [.fz 3 (l.map Gate.row), .fz 1 (ins.map brow)] [] [] (fun r o => r = retX 1 ((outs l ins l.length).map brow) 0 ∧ o = []) := by
  have h := eval_spec (l := l) (ins := ins) hl
  rw [evalR_ok hb hin] at h
  exact h
theorem outs_pre {l : List Gate} {ins : List Bool} {i : Nat} : ∀ {j : Nat}, i < j → j ≤ l.length → (outs l ins l.length)[i]? = (outs l ins j)[i]? := by
  have key : ∀ d j, j + d = l.length → i < j → (outs l ins l.length)[i]? = (outs l ins j)[i]? := by
    intro d
    induction d with
    | zero => intro j hj _; rw [show j = l.length by omega]
    | succ d ih =>
      intro j hj hi
      rw [ih (j + 1) (by omega) (by omega), outs_succ (List.getElem?_eq_getElem (show j < l.length by omega)), List.getElem?_append_left (by rw [outs_length (by omega)]; exact hi)]
  intro j hi hj
  exact key (l.length - j) j (by omega) hi

set_option maxHeartbeats 1000000 in
theorem law6_spec {ps : List Part} {xs : List Bool} {c : Int} (hl : ps.length ≤ 140737488355328) (hok : partsOk ps) (hc : 0 ≤ c ∧ c ≤ 255) : ACalls Try.prog 6 [.fz 3 (ps.map Part.row), .fz 1 (xs.map brow), .v (.int .u8 c)] [] [] (fun r o => r = .v (.bool true) ∧ o = []) := by
  refine ACalls.of Try.func6 rfl rfl rfl (n := 87) (by decide) (Nat.le_of_ble_eq_true rfl) ?_
  have hml : (made ps ps.length).length = ps.length + 1 := made_length (Nat.le_refl _)
  have hgood := made_good (ps := ps) (Nat.le_refl _)
  have hmc := mod_in (x := c) (n := (made ps ps.length).length) (by omega)
  have hni := nin_le (made ps ps.length)
  have hio : (opened xs (nin (made ps ps.length))).length = nin (made ps ps.length) := opened_length _ _
  obtain ⟨kk, hkk⟩ : ∃ kk : Nat, 1 + c % ((made ps ps.length).length : Int) = kk := ⟨(1 + c % ((made ps ps.length).length : Int)).toNat, by omega⟩
  have hnk := nin_take_le (made ps ps.length) kk
  have hol : (outs (made ps ps.length) (opened xs (nin (made ps ps.length))) (made ps ps.length).length).length = (made ps ps.length).length := outs_length (Nat.le_refl _)
  have hkl : ((made ps ps.length).take kk).length = kk := by rw [List.length_take]; omega
  have hil : ((opened xs (nin (made ps ps.length))).take (nin ((made ps ps.length).take kk))).length = nin ((made ps ps.length).take kk) := by rw [List.length_take]; omega
  have hol2 : (outs ((made ps ps.length).take kk) ((opened xs (nin (made ps ps.length))).take (nin ((made ps ps.length).take kk))) ((made ps ps.length).take kk).length).length = kk := by rw [outs_length (Nat.le_refl _)]; exact hkl
  refine AWp.seq ?_
  refine AWp.region ?_
  refine AOps.val (Y.assign rfl rfl) (by decide) ?_
  refine AOps.nil ?_
  refine AWp.seq ?_
  refine AWp.seq ?_
  refine AWp.region ?_
  refine AOps.callP ok10 (awake_spec) rfl .nil (by decide) rfl ?_
  refine AOps.val (Y.not rfl) (by decide) ?_
  first | refine AOps.val (Y.move rfl rfl) (by decide) ?_ | refine AOps.moveU rfl (by decide) ?_
  refine AOps.split (d := 17) rfl (fun c17 => ?_) (fun c17 => ?_)
  · exact absurd c17 (by decide)
  · refine AOps.guardRun (d := 17) rfl (by decide) rfl ?_
    first | refine AOps.val (Y.move rfl rfl) (by decide) ?_ | refine AOps.moveU rfl (by decide) ?_
    refine AOps.guardRun (d := 17) rfl (by decide) rfl ?_
    refine AOps.val (Y.len sl33 rfl (n := ps.length) (congrArg some (List.length_map ..))) (by decide) ?_
    refine AOps.guardRun (d := 17) rfl (by decide) rfl ?_
    refine AOps.val (Y.gtr rfl rfl) (by decide) ?_
    refine AOps.val (Y.pick rfl rfl rfl) (by decide) ?_
    refine AOps.nil ?_
    refine AWp.condD rfl (fun c21 => ?_) (fun c21 => ?_)
    · refine AWp.seq ?_
      refine AWp.region ?_
      refine AOps.callP ok10 (awake_spec) rfl .nil (by decide) rfl ?_
      first | refine AOps.val (Y.assign rfl rfl) (by decide) ?_ | refine AOps.assignU rfl (by decide) ?_
      refine AOps.nil ?_
      refine AWp.ret ?_
      exact ⟨_, _, rfl, rfl, rfl, rfl⟩
    · have hpl : ps.length ≤ 200 := by omega
      refine AWp.skip ?_
      refine AWp.seq ?_
      refine AWp.region ?_
      first | refine AOps.val (Y.move rfl rfl) (by decide) ?_ | refine AOps.moveU rfl (by decide) ?_
      refine AOps.callP ok16 (made_spec (by omega) hok) rfl (.keep rfl rfl .nil) (by decide) rfl ?_
      first | refine AOps.val (Y.assign rfl rfl) (by decide) ?_ | refine AOps.assignU rfl (by decide) ?_
      refine AOps.sh (Sh.freezeX (d := 7) (y := .fz 3 ((made ps ps.length).map Gate.row)) rfl (uni_ffz Gate.row_frees _ _)) ?_
      refine AOps.nil ?_
      refine AWp.seq ?_
      refine AWp.region ?_
      first | refine AOps.val (Y.move rfl rfl) (by decide) ?_ | refine AOps.moveU rfl (by decide) ?_
      first | refine AOps.val (Y.convI ii5 ii3 rfl (by omega)) (by decide) ?_ | refine AOps.val (Y.conv ii5 ii3 rfl rfl) (by decide) ?_
      first | refine AOps.val (Y.move rfl rfl) (by decide) ?_ | refine AOps.moveU rfl (by decide) ?_
      refine AOps.val (Y.len sl22 rfl (n := (made ps ps.length).length) (congrArg some (List.length_map ..))) (by decide) ?_
      first | refine AOps.val (Y.remI rfl rfl (by omega)) (by decide) ?_ | refine AOps.val (Y.rem rfl rfl (by omega) rfl) (by decide) ?_
      refine AOps.val (Y.addE rfl rfl hkk (by omega)) (by decide) ?_
      first | refine AOps.val (Y.assign rfl rfl) (by decide) ?_ | refine AOps.assignU rfl (by decide) ?_
      refine AOps.nil ?_
      refine AWp.seq ?_
      refine AWp.region ?_
      first | refine AOps.val (Y.move rfl rfl) (by decide) ?_ | refine AOps.moveU rfl (by decide) ?_
      first | refine AOps.val (Y.move rfl rfl) (by decide) ?_ | refine AOps.moveU rfl (by decide) ?_
      refine AOps.callP ok18 (open_spec (by omega)) rfl (.keep rfl rfl (.keep rfl rfl .nil)) (by decide) rfl ?_
      first | refine AOps.val (Y.assign rfl rfl) (by decide) ?_ | refine AOps.assignU rfl (by decide) ?_
      refine AOps.sh (Sh.freezeX (d := 9) (y := .fz 1 ((opened xs (nin (made ps ps.length))).map brow)) rfl (uni_ffz brow_frees _ _)) ?_
      refine AOps.nil ?_
      refine AWp.seq ?_
      refine AWp.region ?_
      first | refine AOps.val (Y.move rfl rfl) (by decide) ?_ | refine AOps.moveU rfl (by decide) ?_
      first | refine AOps.val (Y.move rfl rfl) (by decide) ?_ | refine AOps.moveU rfl (by decide) ?_
      refine AOps.callP ok13 (evalOk_spec (by omega) hgood hio) rfl (.keep rfl rfl (.keep rfl rfl .nil)) (by decide) rfl ?_
      refine AOps.sh (Sh.freezeX (d := 37) rfl (retX_ffz _ _)) ?_
      first | refine AOps.val (Y.move rfl rfl) (by decide) ?_ | refine AOps.moveU rfl (by decide) ?_
      refine AOps.val (Y.extract rfl rfl rfl) (by decide) ?_
      refine AOps.val (Y.extract rfl rfl rfl) (by decide) ?_
      first | refine AOps.val (Y.assign rfl rfl) (by decide) ?_ | refine AOps.assignU rfl (by decide) ?_
      first | refine AOps.val (Y.assign rfl rfl) (by decide) ?_ | refine AOps.assignU rfl (by decide) ?_
      refine AOps.nil ?_
      refine AWp.seq ?_
      refine AWp.regionAny rfl ?_
      refine AAny.blind 0 rfl (by kernel_rfl) (Blind.move rfl rfl) (by decide) ?_
      refine AAny.blind 1 rfl (by kernel_rfl) (Blind.move rfl rfl) (by decide) ?_
      refine AAny.blind 2 rfl (by kernel_rfl) (Blind.sliceF sl22 rfl (.none _) (.some rfl) (Nat.zero_le _) (by rw [List.length_map]; omega) (by rw [List.drop_zero, ← List.map_take])) (by decide) ?_
      refine AAny.blind 3 rfl (by kernel_rfl) (Blind.move rfl rfl) (by decide) ?_
      refine AAny.blind 4 rfl (by kernel_rfl) (Blind.move rfl rfl) (by decide) ?_
      refine AAny.blind 5 rfl (by kernel_rfl) (Blind.move rfl rfl) (by decide) ?_
      refine AAny.blind 6 rfl (by kernel_rfl) (Blind.sliceF sl22 rfl (.none _) (.some rfl) (Nat.zero_le _) (by rw [List.length_map]; omega) (by rw [List.drop_zero, ← List.map_take])) (by decide) ?_
      refine AAny.one 7 rfl (by kernel_rfl) ?_
      refine AOps.callP ok14 (refInputs_spec (by omega)) rfl (.keep rfl rfl .nil) (by decide) rfl ?_
      refine AOps.nil ⟨rfl, ?_⟩
      refine AAny.blind 8 rfl (by kernel_rfl) (Blind.sliceF sl27 rfl (.none _) (.some rfl) (Nat.zero_le _) (by rw [List.length_map]; omega) (by rw [List.drop_zero, ← List.map_take])) (by decide) ?_
      refine AAny.one 9 rfl (by kernel_rfl) ?_
      refine AOps.callP ok13 (evalOk_spec (by omega) (hgood.take kk) hil) rfl (.keep rfl rfl (.keep rfl rfl .nil)) (by decide) rfl ?_
      refine AOps.nil ⟨rfl, ?_⟩
      refine AAny.one 10 rfl (by kernel_rfl) ?_
      refine AOps.sh (Sh.freezeX (d := 50) rfl (retX_ffz _ _)) ?_
      first | refine AOps.val (Y.move rfl rfl) (by decide) ?_ | refine AOps.moveU rfl (by decide) ?_
      refine AOps.nil ⟨rfl, ?_⟩
      refine AAny.blind 11 rfl (by kernel_rfl) (Blind.extract rfl rfl rfl) (by decide) ?_
      refine AAny.blind 12 rfl (by kernel_rfl) (Blind.extract rfl rfl rfl) (by decide) ?_
      refine AAny.one 13 rfl (by kernel_rfl) ?_
      first | refine AOps.val (Y.assign rfl rfl) (by decide) ?_ | refine AOps.assignU rfl (by decide) ?_
      refine AOps.nil ⟨rfl, ?_⟩
      refine AAny.one 14 rfl (by kernel_rfl) ?_
      first | refine AOps.val (Y.assign rfl rfl) (by decide) ?_ | refine AOps.assignU rfl (by decide) ?_
      refine AOps.nil ⟨rfl, ?_⟩
      refine AAny.done (by kernel_rfl) ?_
      refine AWp.seq ?_
      refine AWp.seq ?_
      refine AWp.region ?_
      first | refine AOps.val (Y.move rfl rfl) (by decide) ?_ | refine AOps.moveU rfl (by decide) ?_
      refine AOps.val (Y.neq rfl rfl) (by decide) ?_
      first | refine AOps.val (Y.move rfl rfl) (by decide) ?_ | refine AOps.moveU rfl (by decide) ?_
      refine AOps.splitD (d := 55) rfl (fun c55 => ?_) (fun c55 => ?_)
      · exact absurd rfl c55
      · refine AOps.guardRun (d := 55) rfl (by decide) rfl ?_
        first | refine AOps.val (Y.move rfl rfl) (by decide) ?_ | refine AOps.moveU rfl (by decide) ?_
        refine AOps.guardRun (d := 55) rfl (by decide) rfl ?_
        refine AOps.val (Y.neq rfl rfl) (by decide) ?_
        refine AOps.val (Y.pick rfl rfl rfl) (by decide) ?_
        first | refine AOps.val (Y.move rfl rfl) (by decide) ?_ | refine AOps.moveU rfl (by decide) ?_
        refine AOps.splitD (d := 59) rfl (fun c59 => ?_) (fun c59 => ?_)
        · exact absurd rfl c59
        · refine AOps.guardRun (d := 59) rfl (by decide) rfl ?_
          first | refine AOps.val (Y.move rfl rfl) (by decide) ?_ | refine AOps.moveU rfl (by decide) ?_
          refine AOps.guardRun (d := 59) rfl (by decide) rfl ?_
          refine AOps.val (Y.len sl27 rfl (n := (outs (made ps ps.length) (opened xs (nin (made ps ps.length))) (made ps ps.length).length).length) (congrArg some (List.length_map ..))) (by decide) ?_
          refine AOps.guardRun (d := 59) rfl (by decide) rfl ?_
          first | refine AOps.val (Y.move rfl rfl) (by decide) ?_ | refine AOps.moveU rfl (by decide) ?_
          refine AOps.guardRun (d := 59) rfl (by decide) rfl ?_
          refine AOps.val (Y.len sl22 rfl (n := (made ps ps.length).length) (congrArg some (List.length_map ..))) (by decide) ?_
          refine AOps.guardRun (d := 59) rfl (by decide) rfl ?_
          refine AOps.val (Y.neq rfl rfl) (by decide) ?_
          refine AOps.val (Y.pick rfl rfl rfl) (by decide) ?_
          first | refine AOps.val (Y.move rfl rfl) (by decide) ?_ | refine AOps.moveU rfl (by decide) ?_
          refine AOps.splitD (d := 66) rfl (fun c66 => ?_) (fun c66 => ?_)
          · exact absurd (congrArg Nat.cast hol) c66
          · refine AOps.guardRun (d := 66) rfl (by decide) rfl ?_
            first | refine AOps.val (Y.move rfl rfl) (by decide) ?_ | refine AOps.moveU rfl (by decide) ?_
            refine AOps.guardRun (d := 66) rfl (by decide) rfl ?_
            refine AOps.val (Y.len sl27 rfl (n := (outs ((made ps ps.length).take kk) ((opened xs (nin (made ps ps.length))).take (nin ((made ps ps.length).take kk))) ((made ps ps.length).take kk).length).length) (congrArg some (List.length_map ..))) (by decide) ?_
            refine AOps.guardRun (d := 66) rfl (by decide) rfl ?_
            first | refine AOps.val (Y.move rfl rfl) (by decide) ?_ | refine AOps.moveU rfl (by decide) ?_
            refine AOps.guardRun (d := 66) rfl (by decide) rfl ?_
            refine AOps.val (Y.neq rfl rfl) (by decide) ?_
            refine AOps.val (Y.pick rfl rfl rfl) (by decide) ?_
            refine AOps.nil ?_
            refine AWp.condD rfl (fun c71 => ?_) (fun c71 => ?_)
            · exact absurd (congrArg Nat.cast hol2) c71
            · refine AWp.skip ?_
              refine AWp.seq ?_
              refine AWp.seq ?_
              refine AWp.region ?_
              first | refine AOps.val (Y.move rfl rfl) (by decide) ?_ | refine AOps.moveU rfl (by decide) ?_
              refine AOps.val (Y.len sl27 rfl (n := (outs ((made ps ps.length).take kk) ((opened xs (nin (made ps ps.length))).take (nin ((made ps ps.length).take kk))) ((made ps ps.length).take kk).length).length) (congrArg some (List.length_map ..))) (by decide) ?_
              refine AOps.val (Y.move rfl rfl) (by decide) ?_
              refine AOps.nil ?_
              refine AWp.block ?_
              refine AWp.loop (fun (ix : Nat) => ⟨[(74, .v (.int .i64 ((ix : Int)))), (73, .v (.int .i64 (((outs ((made ps ps.length).take kk) ((opened xs (nin (made ps ps.length))).take (nin ((made ps ps.length).take kk))) ((made ps ps.length).take kk).length).length : Nat)))), (10, .fz 1 ((outs (made ps ps.length) (opened xs (nin (made ps ps.length))) (made ps ps.length).length).map brow)), (12, .fz 1 ((outs ((made ps ps.length).take kk) ((opened xs (nin (made ps ps.length))).take (nin ((made ps ps.length).take kk))) ((made ps ps.length).take kk).length).map brow))], []⟩) (fun ix => ix ≤ kk) (fun ix => kk - ix) (0) (by omega) (Le.mk (by repeat (first | exact SubL.nil | refine SubL.cons rfl ?_)) (by repeat (first | exact SubL.nil | refine SubL.cons rfl ?_))) (fun ix hI => ?_)
              refine AWp.seq ?_
              refine AWp.region ?_
              refine AOps.val (Y.lss rfl rfl) (by decide) ?_
              refine AOps.nil ?_
              refine AWp.seq ?_
              refine AWp.condD rfl (fun c75 => ?_) (fun c75 => ?_)
              · refine AWp.skip ?_
                refine AWp.seq ?_
                refine AWp.block ?_
                refine AWp.seq ?_
                refine AWp.region ?_
                first | refine AOps.val (Y.move rfl rfl) (by decide) ?_ | refine AOps.moveU rfl (by decide) ?_
                first | refine AOps.val (Y.assign rfl rfl) (by decide) ?_ | refine AOps.assignU rfl (by decide) ?_
                refine AOps.nil ?_
                refine AWp.seq ?_
                refine AWp.regionS rfl (by kernel_rfl) ?_
                first | refine AHead.val (Y.move rfl rfl) (by decide) ?_ | refine AHead.moveU rfl (by decide) ?_
                first | refine AHead.val (Y.move rfl rfl) (by decide) ?_ | refine AHead.moveU rfl (by decide) ?_
                refine AHead.val (Y.indexF sl27 rfl rfl rfl (map_row (f := brow) false (by omega))) (by decide) ?_
                refine AHead.val (Y.load sh4 rfl rfl rfl rfl) (by decide) ?_
                first | refine AHead.val (Y.move rfl rfl) (by decide) ?_ | refine AHead.moveU rfl (by decide) ?_
                first | refine AHead.val (Y.move rfl rfl) (by decide) ?_ | refine AHead.moveU rfl (by decide) ?_
                refine AHead.val (Y.indexF sl27 rfl rfl rfl (map_row (f := brow) false (by omega))) (by decide) ?_
                refine AHead.val (Y.load sh4 rfl rfl rfl rfl) (by decide) ?_
                refine AHead.val (Y.neqB un4 rfl rfl) (by decide) ?_
                refine AHead.nil ?_
                refine AWp.cond rfl (fun c85 => ?_) (fun c85 => ?_)
                · exact absurd c85 (by rw [hkl, outs_take (by omega) (Nat.le_refl kk)]; simp [outs_pre (show ix < kk by omega) (show kk ≤ (made ps ps.length).length by omega)])
                · refine AWp.skip ?_
                  refine AWp.region ?_
                  first | refine AOps.val (Y.addI rfl rfl (by omega)) (by decide) ?_ | refine AOps.val (Y.add rfl rfl rfl) (by decide) ?_
                  first | refine AOps.val (Y.move rfl rfl) (by decide) ?_ | refine AOps.moveU rfl (by decide) ?_
                  refine AOps.nil ?_
                  exact ⟨ix + 1, by omega, by omega, Le.mk (by repeat (first | exact SubL.nil | refine SubL.cons rfl ?_)) (by repeat (first | exact SubL.nil | refine SubL.cons rfl ?_))⟩
              · refine AWp.exit ?_
                refine AWp.seq ?_
                refine AWp.region ?_
                refine AOps.val (Y.assign rfl rfl) (by decide) ?_
                refine AOps.nil ?_
                refine AWp.ret ?_
                exact ⟨_, _, rfl, rfl, rfl, rfl⟩

end Go.Proofs.Ytiehdnjcapjacaa
