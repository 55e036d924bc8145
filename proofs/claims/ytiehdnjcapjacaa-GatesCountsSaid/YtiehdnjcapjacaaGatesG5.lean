/- The law on Count. -/
import Derived.Test.YtiehdnjcapjacaaGatesP1
import Derived.Test.YtiehdnjcapjacaaGatesP2
namespace Go.Proofs.Ytiehdnjcapjacaa
open Go Go.AW Go.Proofs



set_option maxHeartbeats 1000000 in
theorem law5_spec {ps : List Part} (hl : ps.length ≤ 140737488355328) (hok : partsOk ps) : ACalls Try.prog 5 [.fz 3 (ps.map Part.row)] [] [] (fun r o => r = .v (.bool true) ∧ o = []) := by
  refine ACalls.of Try.func5 rfl rfl rfl (n := 65) (by decide) (Nat.le_of_ble_eq_true rfl) ?_
  have hml : (made ps ps.length).length = ps.length + 1 := made_length (Nat.le_refl _)
  have hmo := more_length (made ps ps.length)
  have hgood := made_good (ps := ps) (Nat.le_refl _)
  have hs5 : ∀ k, sumF (cnt ((more (made ps ps.length)).take (more (made ps ps.length)).length)) k ≤ k * (more (made ps ps.length)).length := sumF_le (fun k => by rw [List.take_length]; exact cnt_all _ _)
  refine AWp.seq ?_
  refine AWp.region ?_
  refine AOps.val (Y.assign rfl rfl) (by decide) ?_
  refine AOps.nil ?_
  refine AWp.seq ?_
  refine AWp.seq ?_
  refine AWp.region ?_
  refine AOps.callP ok10 (awake_spec) rfl .nil (by decide) rfl ?_
  refine AOps.val (Y.not rfl) (by decide) ?_
  first | refine AOps.val (Y.move rfl rfl) (by decide) ?_ | refine AOps.moveU rfl (by decide) ?_
  refine AOps.split (d := 11) rfl (fun c11 => ?_) (fun c11 => ?_)
  · exact absurd c11 (by decide)
  · refine AOps.guardRun (d := 11) rfl (by decide) rfl ?_
    first | refine AOps.val (Y.move rfl rfl) (by decide) ?_ | refine AOps.moveU rfl (by decide) ?_
    refine AOps.guardRun (d := 11) rfl (by decide) rfl ?_
    refine AOps.val (Y.len sl33 rfl (n := ps.length) (congrArg some (List.length_map ..))) (by decide) ?_
    refine AOps.guardRun (d := 11) rfl (by decide) rfl ?_
    refine AOps.val (Y.gtr rfl rfl) (by decide) ?_
    refine AOps.val (Y.pick rfl rfl rfl) (by decide) ?_
    refine AOps.nil ?_
    refine AWp.condD rfl (fun c15 => ?_) (fun c15 => ?_)
    · refine AWp.seq ?_
      refine AWp.region ?_
      refine AOps.callP ok10 (awake_spec) rfl .nil (by decide) rfl ?_
      first | refine AOps.val (Y.assign rfl rfl) (by decide) ?_ | refine AOps.assignU rfl (by decide) ?_
      refine AOps.nil ?_
      refine AWp.ret ?_
      exact ⟨_, _, rfl, rfl, rfl, rfl⟩
    · have hpl : ps.length ≤ 200 := by omega
      refine AWp.skip ?_
      refine AWp.seq ?_
      refine AWp.region ?_
      first | refine AOps.val (Y.move rfl rfl) (by decide) ?_ | refine AOps.moveU rfl (by decide) ?_
      refine AOps.callP ok16 (made_spec (by omega) hok) rfl (.keep rfl rfl .nil) (by decide) rfl ?_
      first | refine AOps.val (Y.assign rfl rfl) (by decide) ?_ | refine AOps.assignU rfl (by decide) ?_
      refine AOps.sh (Sh.freezeX (d := 3) (y := .fz 3 ((made ps ps.length).map Gate.row)) rfl (uni_ffz Gate.row_frees _ _)) ?_
      refine AOps.nil ?_
      refine AWp.seq ?_
      refine AWp.region ?_
      refine AOps.buildSlice [] sl22 ze38 rfl rfl rfl rfl rfl (fun _ h => by cases h) rfl rfl rfl (by decide) ?_
      refine AOps.sh (Sh.adoptN (d := 19) (n := 0) 119 rfl rfl (by decide)) ?_
      first | refine AOps.val (Y.move rfl rfl) (by decide) ?_ | refine AOps.moveU rfl (by decide) ?_
      refine AOps.appendFE ((made ps ps.length).map Gate.row) (made ps ps.length).length sl22 ze38 rfl rfl rfl rfl (Nat.le_refl _) rfl (by rw [List.length_map, Nat.zero_add]) (by omega) (by omega) (by decide) (by decide) ?_
      refine AOps.val (Y.build pl38 ze38 rfl rfl rfl) (by decide) ?_
      refine AOps.val (Y.build pl38 ze38 rfl rfl rfl) (by decide) ?_
      refine AOps.buildSlice (([⟨-3, 0, 0⟩, ⟨8, 0, 0⟩] : List Gate).map Gate.row) sl22 ze38 rfl rfl rfl rfl rfl (by intro r hr; simp at hr; (first | subst hr | (rcases hr with rfl | rfl)) <;> rfl) rfl rfl rfl (by decide) ?_
      refine AOps.appendE ((more (made ps ps.length)).map Gate.row) ((made ps ps.length).length + 2) sl22 ze38 rfl rfl rfl rfl (by rw [List.length_map]; omega) (by rw [List.drop_zero, List.take_of_length_le (by rw [List.length_map]; exact Nat.le_refl _), more, List.map_append]) rfl (by omega) (by omega) (by decide) (by decide) ?_
      refine AOps.sh (Sh.detach (d := 25) (o := 119) rfl rfl (by rw [List.length_map, hmo]) (by decide)) ?_
      refine AOps.sh (Sh.freezeX (d := 25) (y := .fz 3 ((more (made ps ps.length)).map Gate.row)) rfl (uni_ffz Gate.row_frees _ _)) ?_
      refine AOps.callP ok17 (count_spec (by omega)) rfl (.keep rfl rfl .nil) (by decide) rfl ?_
      refine AOps.alloc 104 ze35 rfl rfl (by decide) ?_
      refine AOps.storeCE ((List.range 8).map (cntX (more (made ps ps.length)) (more (made ps ps.length)).length)) si35 rfl rfl rfl rfl rfl rfl (Nat.le_of_ble_eq_true rfl) rfl rfl ?_
      refine AOps.nil ?_
      refine AWp.seq ?_
      refine AWp.region ?_
      refine AOps.val (Y.assign rfl rfl) (by decide) ?_
      refine AOps.nil ?_
      refine AWp.seq ?_
      refine AWp.seq ?_
      refine AWp.region ?_
      refine AOps.val (Y.move rfl rfl) (by decide) ?_
      refine AOps.nil ?_
      refine AWp.block ?_
      refine AWp.loop (fun (ix : Nat) => ⟨[(27, .v (.int .i64 ((ix : Int)))), (5, .v (.int .i64 ((sumF (cnt ((more (made ps ps.length)).take (more (made ps ps.length)).length)) ix : Nat)))), (3, .fz 3 ((made ps ps.length).map Gate.row)), (4, .ptr 104 0 0 0)], [(104, .cells ((List.range 8).map (cntX (more (made ps ps.length)) (more (made ps ps.length)).length)))]⟩) (fun ix => ix ≤ 8) (fun ix => 8 - ix) (0) (by omega) (Le.mk (by repeat (first | exact SubL.nil | refine SubL.cons rfl ?_)) (by repeat (first | exact SubL.nil | refine SubL.cons rfl ?_))) (fun jx hJ => ?_)
      refine AWp.seq ?_
      refine AWp.region ?_
      refine AOps.val (Y.lss rfl rfl) (by decide) ?_
      refine AOps.nil ?_
      refine AWp.seq ?_
      refine AWp.condD rfl (fun c28 => ?_) (fun c28 => ?_)
      · have hs6 : sumF (cnt ((more (made ps ps.length)).take (more (made ps ps.length)).length)) jx ≤ 8 * 300 := Nat.le_trans (hs5 jx) (Nat.mul_le_mul (by omega) (by omega))
        have hc6 := cnt_le (more (made ps ps.length)) jx (more (made ps ps.length)).length
        refine AWp.skip ?_
        refine AWp.seq ?_
        refine AWp.block ?_
        refine AWp.seq ?_
        refine AWp.region ?_
        first | refine AOps.val (Y.move rfl rfl) (by decide) ?_ | refine AOps.moveU rfl (by decide) ?_
        first | refine AOps.val (Y.assign rfl rfl) (by decide) ?_ | refine AOps.assignU rfl (by decide) ?_
        refine AOps.nil ?_
        refine AWp.region ?_
        first | refine AOps.val (Y.move rfl rfl) (by decide) ?_ | refine AOps.moveU rfl (by decide) ?_
        first | refine AOps.val (Y.move rfl rfl) (by decide) ?_ | refine AOps.moveU rfl (by decide) ?_
        refine AOps.val (Y.indexP ar35 rfl rfl (m := jx) rfl (by omega) rfl) (by decide) ?_
        refine AOps.val (Y.load sh3 rfl rfl (cntX_get (by omega)) rfl) (by decide) ?_
        first | refine AOps.val (Y.addI rfl rfl (by omega)) (by decide) ?_ | refine AOps.val (Y.add rfl rfl rfl) (by decide) ?_
        first | refine AOps.val (Y.assign rfl rfl) (by decide) ?_ | refine AOps.assignU rfl (by decide) ?_
        refine AOps.nil ?_
        refine AWp.region ?_
        first | refine AOps.val (Y.addI rfl rfl (by omega)) (by decide) ?_ | refine AOps.val (Y.add rfl rfl rfl) (by decide) ?_
        first | refine AOps.val (Y.move rfl rfl) (by decide) ?_ | refine AOps.moveU rfl (by decide) ?_
        refine AOps.nil ?_
        exact ⟨jx + 1, by omega, by omega, Le.mk (by repeat (first | exact SubL.nil | refine SubL.cons (by first | rfl | (rw [sumF]; rfl) | (rw [sumF, Int.natCast_add]; rfl)) ?_)) (by repeat (first | exact SubL.nil | refine SubL.cons rfl ?_))⟩
      · refine AWp.exit ?_
        refine AWp.seq ?_
        refine AWp.region ?_
        refine AOps.val (Y.assign rfl rfl) (by decide) ?_
        refine AOps.nil ?_
        refine AWp.seq ?_
        refine AWp.seq ?_
        refine AWp.region ?_
        first | refine AOps.val (Y.move rfl rfl) (by decide) ?_ | refine AOps.moveU rfl (by decide) ?_
        refine AOps.val (Y.len sl22 rfl (n := (made ps ps.length).length) (congrArg some (List.length_map ..))) (by decide) ?_
        refine AOps.val (Y.move rfl rfl) (by decide) ?_
        refine AOps.nil ?_
        refine AWp.block ?_
        refine AWp.loop (fun (ix : Nat) => ⟨[(38, .v (.int .i64 ((ix : Int)))), (37, .v (.int .i64 (((made ps ps.length).length : Nat)))), (7, .v (.int .i64 ((cnt ((made ps ps.length).take ix) 7 : Nat)))), (5, .v (.int .i64 ((sumF (cnt ((more (made ps ps.length)).take (more (made ps ps.length)).length)) jx : Nat)))), (3, .fz 3 ((made ps ps.length).map Gate.row)), (4, .ptr 104 0 0 0)], [(104, .cells ((List.range 8).map (cntX (more (made ps ps.length)) (more (made ps ps.length)).length)))]⟩) (fun ix => ix ≤ (made ps ps.length).length) (fun ix => (made ps ps.length).length - ix) (0) (by omega) (Le.mk (by repeat (first | exact SubL.nil | refine SubL.cons rfl ?_)) (by repeat (first | exact SubL.nil | refine SubL.cons rfl ?_))) (fun ix hI => ?_)
        refine AWp.seq ?_
        refine AWp.region ?_
        refine AOps.val (Y.lss rfl rfl) (by decide) ?_
        refine AOps.nil ?_
        refine AWp.seq ?_
        refine AWp.condD rfl (fun c39 => ?_) (fun c39 => ?_)
        · obtain ⟨q, hg⟩ : ∃ q, (made ps ps.length)[ix]? = some q := ⟨_, List.getElem?_eq_getElem (by omega)⟩
          have hcl := cnt_le (made ps ps.length) 7 ix
          refine AWp.skip ?_
          refine AWp.seq ?_
          refine AWp.block ?_
          refine AWp.seq ?_
          refine AWp.region ?_
          first | refine AOps.val (Y.move rfl rfl) (by decide) ?_ | refine AOps.moveU rfl (by decide) ?_
          first | refine AOps.val (Y.assign rfl rfl) (by decide) ?_ | refine AOps.assignU rfl (by decide) ?_
          refine AOps.nil ?_
          refine AWp.seq ?_
          refine AWp.region ?_
          first | refine AOps.val (Y.move rfl rfl) (by decide) ?_ | refine AOps.moveU rfl (by decide) ?_
          first | refine AOps.val (Y.move rfl rfl) (by decide) ?_ | refine AOps.moveU rfl (by decide) ?_
          refine AOps.val (Y.indexF sl22 rfl rfl rfl (getElem?_map' hg)) (by decide) ?_
          refine AOps.val (Y.fieldAddr fl38_0 rfl rfl) (by decide) ?_
          refine AOps.val (Y.load sh3 rfl rfl rfl rfl) (by decide) ?_
          refine AOps.val (Y.eql rfl rfl) (by decide) ?_
          refine AOps.nil ?_
          refine AWp.condD rfl (fun c46 => ?_) (fun c46 => ?_)
          · refine AWp.region ?_
            first | refine AOps.val (Y.move rfl rfl) (by decide) ?_ | refine AOps.moveU rfl (by decide) ?_
            first | refine AOps.val (Y.addI rfl rfl (by omega)) (by decide) ?_ | refine AOps.val (Y.add rfl rfl rfl) (by decide) ?_
            first | refine AOps.val (Y.assign rfl rfl) (by decide) ?_ | refine AOps.assignU rfl (by decide) ?_
            refine AOps.nil ?_
            refine AWp.region ?_
            first | refine AOps.val (Y.addI rfl rfl (by omega)) (by decide) ?_ | refine AOps.val (Y.add rfl rfl rfl) (by decide) ?_
            first | refine AOps.val (Y.move rfl rfl) (by decide) ?_ | refine AOps.moveU rfl (by decide) ?_
            refine AOps.nil ?_
            exact ⟨ix + 1, by omega, by omega, Le.mk (by repeat (first | exact SubL.nil | refine SubL.cons (by first | rfl | (rw [cnt_succ hg, if_neg (by omega)]; rfl) | (rw [cnt_succ hg, if_pos (by omega)]; rfl)) ?_)) (by repeat (first | exact SubL.nil | refine SubL.cons rfl ?_))⟩
          · refine AWp.skip ?_
            refine AWp.region ?_
            first | refine AOps.val (Y.addI rfl rfl (by omega)) (by decide) ?_ | refine AOps.val (Y.add rfl rfl rfl) (by decide) ?_
            first | refine AOps.val (Y.move rfl rfl) (by decide) ?_ | refine AOps.moveU rfl (by decide) ?_
            refine AOps.nil ?_
            exact ⟨ix + 1, by omega, by omega, Le.mk (by repeat (first | exact SubL.nil | refine SubL.cons (by first | rfl | (rw [cnt_succ hg, if_neg (by omega)]; rfl) | (rw [cnt_succ hg, if_pos (by omega)]; rfl)) ?_)) (by repeat (first | exact SubL.nil | refine SubL.cons rfl ?_))⟩
        · refine AWp.exit ?_
          refine AWp.seq ?_
          refine AWp.region ?_
          first | refine AOps.val (Y.move rfl rfl) (by decide) ?_ | refine AOps.moveU rfl (by decide) ?_
          first | refine AOps.val (Y.move rfl rfl) (by decide) ?_ | refine AOps.moveU rfl (by decide) ?_
          refine AOps.val (Y.len sl22 rfl (n := (made ps ps.length).length) (congrArg some (List.length_map ..))) (by decide) ?_
          refine AOps.val (Y.eql rfl rfl) (by decide) ?_
          first | refine AOps.val (Y.move rfl rfl) (by decide) ?_ | refine AOps.moveU rfl (by decide) ?_
          refine AOps.splitD (d := 54) rfl (fun c54 => ?_) (fun c54 => ?_)
          · refine AOps.guardRun (d := 54) rfl (by decide) rfl ?_
            refine AOps.val (Y.indexP ar35 rfl rfl (m := 7) rfl (by omega) rfl) (by decide) ?_
            refine AOps.guardRun (d := 54) rfl (by decide) rfl ?_
            refine AOps.val (Y.load sh3 rfl rfl (cntX_get (by omega)) rfl) (by decide) ?_
            refine AOps.guardRun (d := 54) rfl (by decide) rfl ?_
            first | refine AOps.val (Y.move rfl rfl) (by decide) ?_ | refine AOps.moveU rfl (by decide) ?_
            refine AOps.guardRun (d := 54) rfl (by decide) rfl ?_
            refine AOps.val (Y.eql rfl rfl) (by decide) ?_
            refine AOps.val (Y.pick rfl rfl rfl) (by decide) ?_
            first | refine AOps.val (Y.move rfl rfl) (by decide) ?_ | refine AOps.moveU rfl (by decide) ?_
            refine AOps.splitD (d := 60) rfl (fun c60 => ?_) (fun c60 => ?_)
            · refine AOps.guardRun (d := 60) rfl (by decide) rfl ?_
              refine AOps.val (Y.indexP ar35 rfl rfl (m := 0) rfl (by omega) rfl) (by decide) ?_
              refine AOps.guardRun (d := 60) rfl (by decide) rfl ?_
              refine AOps.val (Y.load sh3 rfl rfl (cntX_get (by omega)) rfl) (by decide) ?_
              refine AOps.guardRun (d := 60) rfl (by decide) rfl ?_
              refine AOps.val (Y.eql rfl rfl) (by decide) ?_
              refine AOps.val (Y.pick rfl rfl rfl) (by decide) ?_
              first | refine AOps.val (Y.assign rfl rfl) (by decide) ?_ | refine AOps.assignU rfl (by decide) ?_
              refine AOps.nil ?_
              refine AWp.ret ?_
              exact ⟨_, _, rfl, rfl, rtrue (by rw [List.take_length, more_none]; rfl), rfl⟩
            · exact absurd (by rw [show ix = (made ps ps.length).length by omega, List.take_length, List.take_length, more_seven]) c60
          · exact absurd (by rw [show jx = 8 by omega, List.take_length, more_sum hgood]) c54

end Go.Proofs.Ytiehdnjcapjacaa
