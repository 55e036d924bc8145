/- The law on Depths. -/
import Derived.Test.YtiehdnjcapjacaaGatesP1
import Derived.Test.YtiehdnjcapjacaaGatesP5
namespace Go.Proofs.Ytiehdnjcapjacaa
open Go Go.AW Go.Proofs



set_option maxHeartbeats 1000000 in
theorem law7_spec {ps : List Part} {xs : List Int} (hl : ps.length ≤ 140737488355328) (hok : partsOk ps) (hxs : Small 65535 xs) : ACalls Try.prog 7 [.fz 3 (ps.map Part.row), .fz 1 (xs.map u16row)] [] [] (fun r o => r = .v (.bool true) ∧ o = []) := by
  refine ACalls.of Try.func7 rfl rfl rfl (n := 106) (by decide) (Nat.le_of_ble_eq_true rfl) ?_
  have hml : (made ps ps.length).length = ps.length + 1 := made_length (Nat.le_refl _)
  have hgood := made_good (ps := ps) (Nat.le_refl _)
  have hni := nin_le (made ps ps.length)
  have hll := loop_length (made ps ps.length)
  have htl : (timed xs (nin (made ps ps.length))).length = nin (made ps ps.length) := timed_length _ _
  have hol : (touts (made ps ps.length) (timed xs (nin (made ps ps.length))) (made ps ps.length).length).length = (made ps ps.length).length := touts_length (Nat.le_refl _)
  refine AWp.seq ?_
  refine AWp.region ?_
  refine AOps.val (Y.assign rfl rfl) (by decide) ?_
  refine AOps.nil ?_
  refine AWp.seq ?_
  refine AWp.seq ?_
  refine AWp.region ?_
  refine AOps.callP ok10 (awake_spec) rfl .nil (by decide) rfl ?_
  refine AOps.val (Y.not rfl) (by decide) ?_
  first | refine AOps.val (Y.move rfl rfl) (by decide) ?_ | refine AOps.moveU rfl (by decide) ?_
  refine AOps.split (d := 19) rfl (fun c19 => ?_) (fun c19 => ?_)
  · exact absurd c19 (by decide)
  · refine AOps.guardRun (d := 19) rfl (by decide) rfl ?_
    first | refine AOps.val (Y.move rfl rfl) (by decide) ?_ | refine AOps.moveU rfl (by decide) ?_
    refine AOps.guardRun (d := 19) rfl (by decide) rfl ?_
    refine AOps.val (Y.len sl33 rfl (n := ps.length) (congrArg some (List.length_map ..))) (by decide) ?_
    refine AOps.guardRun (d := 19) rfl (by decide) rfl ?_
    refine AOps.val (Y.gtr rfl rfl) (by decide) ?_
    refine AOps.val (Y.pick rfl rfl rfl) (by decide) ?_
    refine AOps.nil ?_
    refine AWp.condD rfl (fun c23 => ?_) (fun c23 => ?_)
    · refine AWp.seq ?_
      refine AWp.region ?_
      refine AOps.callP ok10 (awake_spec) rfl .nil (by decide) rfl ?_
      first | refine AOps.val (Y.assign rfl rfl) (by decide) ?_ | refine AOps.assignU rfl (by decide) ?_
      refine AOps.nil ?_
      refine AWp.ret ?_
      exact ⟨_, _, rfl, rfl, rfl, rfl⟩
    · have hpl : ps.length ≤ 200 := by omega
      refine AWp.skip ?_
      refine AWp.seq ?_
      refine AWp.region ?_
      first | refine AOps.val (Y.move rfl rfl) (by decide) ?_ | refine AOps.moveU rfl (by decide) ?_
      refine AOps.callP ok16 (made_spec (by omega) hok) rfl (.keep rfl rfl .nil) (by decide) rfl ?_
      first | refine AOps.val (Y.assign rfl rfl) (by decide) ?_ | refine AOps.assignU rfl (by decide) ?_
      refine AOps.sh (Sh.adoptN (d := 5) (n := (made ps ps.length).length) 105 rfl (by rw [List.length_map]) (by decide)) ?_
      refine AOps.nil ?_
      refine AWp.seq ?_
      refine AWp.region ?_
      refine AOps.val (Y.assign rfl rfl) (by decide) ?_
      refine AOps.nil ?_
      refine AWp.seq ?_
      refine AWp.seq ?_
      refine AWp.sh (Sh.nil (d := 6) 106 1 rfl (by decide)) ?_
      refine AWp.region ?_
      refine AOps.val (Y.assign rfl rfl) (by decide) ?_
      refine AOps.nil ?_
      refine AWp.block ?_
      refine AWp.loop (fun (ix : Nat) => ⟨[(7, .v (.int .i64 ((ix : Int)))), (6, .slc 106 1 0 ix), (5, .slc 105 3 0 ((made ps ps.length).length)), (1, .fz 1 (xs.map u16row))], [(105, .rows 3 ((made ps ps.length).map Gate.row)), (106, .rows 1 ((timed xs ix).map irow))]⟩) (fun ix => ix ≤ nin (made ps ps.length)) (fun ix => nin (made ps ps.length) - ix) (0) (by omega) (Le.mk (by repeat (first | exact SubL.nil | refine SubL.cons rfl ?_)) (by repeat (first | exact SubL.nil | refine SubL.cons rfl ?_))) (fun ix hI => ?_)
      refine AWp.seq ?_
      refine AWp.seq ?_
      refine AWp.region ?_
      first | refine AOps.val (Y.move rfl rfl) (by decide) ?_ | refine AOps.moveU rfl (by decide) ?_
      first | refine AOps.val (Y.move rfl rfl) (by decide) ?_ | refine AOps.moveU rfl (by decide) ?_
      refine AOps.callLP [105] ok14 (refInputs_spec (l := made ps ps.length) (by omega)) rfl (.lend rfl rfl (by rw [List.length_map]; omega) (drop0_take (by rw [List.length_map])) .nil) (lend1 rfl (owns_map Gate.row_frees)) (by decide) rfl trivial ?_
      refine AOps.val (Y.lss rfl rfl) (by decide) ?_
      refine AOps.nil ?_
      refine AWp.condD rfl (fun c30 => ?_) (fun c30 => ?_)
      · refine AWp.skip ?_
        refine AWp.seq ?_
        refine AWp.block ?_
        refine AWp.seq ?_
        refine AWp.region ?_
        refine AOps.val (Y.assign rfl rfl) (by decide) ?_
        refine AOps.nil ?_
        refine AWp.join (fun (t : Int) => ⟨[(8, .v (.int .i64 t)), (7, .v (.int .i64 ((ix : Int)))), (6, .slc 106 1 0 ix), (5, .slc 105 3 0 ((made ps ps.length).length)), (1, .fz 1 (xs.map u16row))], [(105, .rows 3 ((made ps ps.length).map Gate.row)), (106, .rows 1 ((timed xs ix).map irow))]⟩) (fun t => t = timeAt xs ix) ?_ (fun t ht => ?_)
        · refine AWp.seq ?_
          refine AWp.region ?_
          first | refine AOps.val (Y.move rfl rfl) (by decide) ?_ | refine AOps.moveU rfl (by decide) ?_
          refine AOps.val (Y.len sl41 rfl (n := xs.length) (congrArg some (List.length_map ..))) (by decide) ?_
          refine AOps.val (Y.gtr rfl rfl) (by decide) ?_
          refine AOps.nil ?_
          refine AWp.condD rfl (fun c35 => ?_) (fun c35 => ?_)
          · have hmd := mod_in (x := (ix : Int)) (n := xs.length) (by omega)
            have hxb := hxs.get (by omega) (ix % xs.length)
            refine AWp.region ?_
            first | refine AOps.val (Y.move rfl rfl) (by decide) ?_ | refine AOps.moveU rfl (by decide) ?_
            first | refine AOps.val (Y.move rfl rfl) (by decide) ?_ | refine AOps.moveU rfl (by decide) ?_
            first | refine AOps.val (Y.move rfl rfl) (by decide) ?_ | refine AOps.moveU rfl (by decide) ?_
            refine AOps.val (Y.len sl41 rfl (n := xs.length) (congrArg some (List.length_map ..))) (by decide) ?_
            first | refine AOps.val (Y.remI rfl rfl (by omega)) (by decide) ?_ | refine AOps.val (Y.rem rfl rfl (by omega) rfl) (by decide) ?_
            refine AOps.val (Y.indexF sl41 rfl rfl (m := ix % xs.length) (Int.natCast_emod ix xs.length).symm (map_row (f := u16row) 0 (by omega))) (by decide) ?_
            refine AOps.val (Y.load sh43 rfl rfl rfl rfl) (by decide) ?_
            first | refine AOps.val (Y.convI ii43 ii3 rfl (by omega)) (by decide) ?_ | refine AOps.val (Y.conv ii43 ii3 rfl rfl) (by decide) ?_
            first | refine AOps.val (Y.assign rfl rfl) (by decide) ?_ | refine AOps.assignU rfl (by decide) ?_
            refine AOps.nil ?_
            refine ⟨_, ?_, Le.mk (SubL.cons rfl (SubL.cons rfl (SubL.cons rfl (SubL.cons rfl (SubL.cons rfl (SubL.nil)))))) (SubL.cons rfl (SubL.cons rfl (SubL.nil)))⟩
            unfold timeAt
            first | (rw [if_pos (by omega)]; done) | (rw [if_neg (by omega)]; done)
          · refine AWp.skip ?_
            refine ⟨_, ?_, Le.mk (SubL.cons rfl (SubL.cons rfl (SubL.cons rfl (SubL.cons rfl (SubL.cons rfl (SubL.nil)))))) (SubL.cons rfl (SubL.cons rfl (SubL.nil)))⟩
            unfold timeAt
            first | (rw [if_pos (by omega)]; done) | (rw [if_neg (by omega)]; done)
        · refine AWp.region ?_
          first | refine AOps.val (Y.move rfl rfl) (by decide) ?_ | refine AOps.moveU rfl (by decide) ?_
          first | refine AOps.val (Y.move rfl rfl) (by decide) ?_ | refine AOps.moveU rfl (by decide) ?_
          refine AOps.buildSlice ([[.v (.int .i64 t)]]) sl42 ze3 rfl rfl rfl rfl rfl (by intro r hr; simp at hr; (first | subst hr | (rcases hr with rfl | rfl)) <;> rfl) rfl rfl rfl (by decide) ?_
          refine AOps.appendE ((timed xs (ix + 1)).map irow) (ix + 1) sl42 ze3 rfl rfl rfl rfl (by rw [List.length_map, timed_length]; omega) (timed_app ht) rfl (by omega) (by omega) (by decide) (by decide) ?_
          first | refine AOps.val (Y.assign rfl rfl) (by decide) ?_ | refine AOps.assignU rfl (by decide) ?_
          refine AOps.nil ?_
          refine AWp.region ?_
          first | refine AOps.val (Y.move rfl rfl) (by decide) ?_ | refine AOps.moveU rfl (by decide) ?_
          first | refine AOps.val (Y.addI rfl rfl (by omega)) (by decide) ?_ | refine AOps.val (Y.add rfl rfl rfl) (by decide) ?_
          first | refine AOps.val (Y.assign rfl rfl) (by decide) ?_ | refine AOps.assignU rfl (by decide) ?_
          refine AOps.nil ?_
          exact ⟨ix + 1, by omega, by omega, Le.mk (by repeat (first | exact SubL.nil | refine SubL.cons rfl ?_)) (by repeat (first | exact SubL.nil | refine SubL.cons rfl ?_))⟩
      · have hix : ix = nin (made ps ps.length) := by omega
        subst hix
        refine AWp.exit ?_
        refine AWp.seq ?_
        refine AWp.region ?_
        first | refine AOps.val (Y.move rfl rfl) (by decide) ?_ | refine AOps.moveU rfl (by decide) ?_
        first | refine AOps.val (Y.move rfl rfl) (by decide) ?_ | refine AOps.moveU rfl (by decide) ?_
        refine AOps.callLP [105, 106] ok19 (depthOk_spec (l := made ps ps.length) (ins := timed xs (nin (made ps ps.length))) (by omega) (timed_small hxs _) hgood (timed_length _ _)) rfl (.lend rfl rfl (by rw [List.length_map]; omega) (drop0_take (by rw [List.length_map])) (.lend rfl rfl (by rw [List.length_map, timed_length]; omega) (drop0_take (by rw [List.length_map, timed_length])) .nil)) (lend2 rfl (owns_map Gate.row_frees) (lend1 rfl (owns_map irow_frees))) (by decide) rfl (retX_plain _ _) ?_
        refine AOps.sh (Sh.freezeX (d := 51) rfl (retXi_ffz _ _)) ?_
        first | refine AOps.val (Y.move rfl rfl) (by decide) ?_ | refine AOps.moveU rfl (by decide) ?_
        refine AOps.val (Y.extract rfl rfl rfl) (by decide) ?_
        refine AOps.val (Y.extract rfl rfl rfl) (by decide) ?_
        first | refine AOps.val (Y.assign rfl rfl) (by decide) ?_ | refine AOps.assignU rfl (by decide) ?_
        first | refine AOps.val (Y.assign rfl rfl) (by decide) ?_ | refine AOps.assignU rfl (by decide) ?_
        refine AOps.nil ?_
        refine AWp.seq ?_
        refine AWp.region ?_
        first | refine AOps.val (Y.move rfl rfl) (by decide) ?_ | refine AOps.moveU rfl (by decide) ?_
        first | refine AOps.val (Y.move rfl rfl) (by decide) ?_ | refine AOps.moveU rfl (by decide) ?_
        refine AOps.callLP [105, 106] ok20 (refDepths_spec (l := made ps ps.length) (ins := timed xs (nin (made ps ps.length))) (by omega) hgood (timed_length _ _) (timed_small hxs _)) rfl (.lend rfl rfl (by rw [List.length_map]; omega) (drop0_take (by rw [List.length_map])) (.lend rfl rfl (by rw [List.length_map, timed_length]; omega) (drop0_take (by rw [List.length_map, timed_length])) .nil)) (lend2 rfl (owns_map Gate.row_frees) (lend1 rfl (owns_map irow_frees))) (by decide) rfl (uni_plain _) ?_
        refine AOps.sh (Sh.freezeX (d := 56) rfl (uni_ffz irow_frees _ _)) ?_
        first | refine AOps.val (Y.assign rfl rfl) (by decide) ?_ | refine AOps.assignU rfl (by decide) ?_
        refine AOps.nil ?_
        refine AWp.seq ?_
        refine AWp.seq ?_
        refine AWp.region ?_
        first | refine AOps.val (Y.move rfl rfl) (by decide) ?_ | refine AOps.moveU rfl (by decide) ?_
        refine AOps.val (Y.neq rfl rfl) (by decide) ?_
        first | refine AOps.val (Y.move rfl rfl) (by decide) ?_ | refine AOps.moveU rfl (by decide) ?_
        refine AOps.splitD (d := 59) rfl (fun c59 => ?_) (fun c59 => ?_)
        · exact absurd rfl c59
        · refine AOps.guardRun (d := 59) rfl (by decide) rfl ?_
          first | refine AOps.val (Y.move rfl rfl) (by decide) ?_ | refine AOps.moveU rfl (by decide) ?_
          refine AOps.guardRun (d := 59) rfl (by decide) rfl ?_
          refine AOps.val (Y.len sl42 rfl (n := (touts (made ps ps.length) (timed xs (nin (made ps ps.length))) (made ps ps.length).length).length) (congrArg some (List.length_map ..))) (by decide) ?_
          refine AOps.guardRun (d := 59) rfl (by decide) rfl ?_
          first | refine AOps.val (Y.move rfl rfl) (by decide) ?_ | refine AOps.moveU rfl (by decide) ?_
          refine AOps.guardRun (d := 59) rfl (by decide) rfl ?_
          refine AOps.val (Y.len sl42 rfl (n := (touts (made ps ps.length) (timed xs (nin (made ps ps.length))) (made ps ps.length).length).length) (congrArg some (List.length_map ..))) (by decide) ?_
          refine AOps.guardRun (d := 59) rfl (by decide) rfl ?_
          refine AOps.val (Y.neq rfl rfl) (by decide) ?_
          refine AOps.val (Y.pick rfl rfl rfl) (by decide) ?_
          refine AOps.nil ?_
          refine AWp.condD rfl (fun c65 => ?_) (fun c65 => ?_)
          · exact absurd rfl c65
          · refine AWp.skip ?_
            refine AWp.seq ?_
            refine AWp.seq ?_
            refine AWp.region ?_
            first | refine AOps.val (Y.move rfl rfl) (by decide) ?_ | refine AOps.moveU rfl (by decide) ?_
            refine AOps.val (Y.len sl42 rfl (n := (touts (made ps ps.length) (timed xs (nin (made ps ps.length))) (made ps ps.length).length).length) (congrArg some (List.length_map ..))) (by decide) ?_
            refine AOps.val (Y.move rfl rfl) (by decide) ?_
            refine AOps.nil ?_
            refine AWp.block ?_
            refine AWp.loop (fun (ix : Nat) => ⟨[(68, .v (.int .i64 ((ix : Int)))), (67, .v (.int .i64 (((touts (made ps ps.length) (timed xs (nin (made ps ps.length))) (made ps ps.length).length).length : Nat)))), (9, .fz 1 ((touts (made ps ps.length) (timed xs (nin (made ps ps.length))) (made ps ps.length).length).map irow)), (11, .fz 1 ((touts (made ps ps.length) (timed xs (nin (made ps ps.length))) (made ps ps.length).length).map irow)), (6, .slc 106 1 0 (nin (made ps ps.length))), (5, .slc 105 3 0 ((made ps ps.length).length)), (1, .fz 1 (xs.map u16row))], [(105, .rows 3 ((made ps ps.length).map Gate.row)), (106, .rows 1 ((timed xs (nin (made ps ps.length))).map irow))]⟩) (fun ix => ix ≤ (touts (made ps ps.length) (timed xs (nin (made ps ps.length))) (made ps ps.length).length).length) (fun ix => (touts (made ps ps.length) (timed xs (nin (made ps ps.length))) (made ps ps.length).length).length - ix) (0) (by omega) (Le.mk (by repeat (first | exact SubL.nil | refine SubL.cons rfl ?_)) (by repeat (first | exact SubL.nil | refine SubL.cons rfl ?_))) (fun ix hI => ?_)
            refine AWp.seq ?_
            refine AWp.region ?_
            refine AOps.val (Y.lss rfl rfl) (by decide) ?_
            refine AOps.nil ?_
            refine AWp.seq ?_
            refine AWp.condD rfl (fun c69 => ?_) (fun c69 => ?_)
            · refine AWp.skip ?_
              refine AWp.seq ?_
              refine AWp.block ?_
              refine AWp.seq ?_
              refine AWp.region ?_
              first | refine AOps.val (Y.move rfl rfl) (by decide) ?_ | refine AOps.moveU rfl (by decide) ?_
              first | refine AOps.val (Y.assign rfl rfl) (by decide) ?_ | refine AOps.assignU rfl (by decide) ?_
              refine AOps.nil ?_
              refine AWp.seq ?_
              refine AWp.regionS rfl (by kernel_rfl) ?_
              first | refine AHead.val (Y.move rfl rfl) (by decide) ?_ | refine AHead.moveU rfl (by decide) ?_
              first | refine AHead.val (Y.move rfl rfl) (by decide) ?_ | refine AHead.moveU rfl (by decide) ?_
              refine AHead.val (Y.indexF sl42 rfl rfl rfl (map_row (f := irow) 0 (by omega))) (by decide) ?_
              refine AHead.val (Y.load sh3 rfl rfl rfl rfl) (by decide) ?_
              first | refine AHead.val (Y.move rfl rfl) (by decide) ?_ | refine AHead.moveU rfl (by decide) ?_
              first | refine AHead.val (Y.move rfl rfl) (by decide) ?_ | refine AHead.moveU rfl (by decide) ?_
              refine AHead.val (Y.indexF sl42 rfl rfl rfl (map_row (f := irow) 0 (by omega))) (by decide) ?_
              refine AHead.val (Y.load sh3 rfl rfl rfl rfl) (by decide) ?_
              refine AHead.val (Y.neq rfl rfl) (by decide) ?_
              refine AHead.nil ?_
              refine AWp.condD rfl (fun c79 => ?_) (fun c79 => ?_)
              · exact absurd rfl c79
              · refine AWp.skip ?_
                refine AWp.region ?_
                first | refine AOps.val (Y.addI rfl rfl (by omega)) (by decide) ?_ | refine AOps.val (Y.add rfl rfl rfl) (by decide) ?_
                first | refine AOps.val (Y.move rfl rfl) (by decide) ?_ | refine AOps.moveU rfl (by decide) ?_
                refine AOps.nil ?_
                exact ⟨ix + 1, by omega, by omega, Le.mk (by repeat (first | exact SubL.nil | refine SubL.cons rfl ?_)) (by repeat (first | exact SubL.nil | refine SubL.cons rfl ?_))⟩
            · refine AWp.exit ?_
              refine AWp.seq ?_
              refine AWp.region ?_
              first | refine AOps.val (Y.move rfl rfl) (by decide) ?_ | refine AOps.moveU rfl (by decide) ?_
              first | refine AOps.val (Y.move rfl rfl) (by decide) ?_ | refine AOps.moveU rfl (by decide) ?_
              refine AOps.buildSlice (([1] : List Int).map irow) sl42 ze3 rfl rfl rfl rfl rfl (by intro r hr; simp at hr; (first | subst hr | (rcases hr with rfl | rfl)) <;> rfl) rfl rfl rfl (by decide) ?_
              refine AOps.appendE ((timed xs (nin (made ps ps.length)) ++ [1]).map irow) (nin (made ps ps.length) + 1) sl42 ze3 rfl rfl rfl rfl (by rw [List.length_map, timed_length]; omega) (by rw [drop0_take (by rw [List.length_map, timed_length]), List.map_append]) rfl (by omega) (by omega) (by decide) (by decide) ?_
              refine AOps.callLP [105, 106] ok19 (depthArg_spec (l := made ps ps.length) (ins := timed xs (nin (made ps ps.length)) ++ [1]) (by omega) (timed_one hxs) hgood (by rw [List.length_append, timed_length]; simp)) rfl (.lend rfl rfl (by rw [List.length_map]; omega) (drop0_take (by rw [List.length_map])) (.lend rfl rfl (by rw [List.length_map, List.length_append, timed_length]; simp) (drop0_take (by rw [List.length_map, List.length_append, timed_length]; rfl)) .nil)) (lend2 rfl (owns_map Gate.row_frees) (lend1 rfl (owns_map irow_frees))) (by decide) rfl (retX_plain _ _) ?_
              refine AOps.sh (Sh.freezeX (d := 86) rfl (retXi_ffz _ _)) ?_
              first | refine AOps.val (Y.move rfl rfl) (by decide) ?_ | refine AOps.moveU rfl (by decide) ?_
              refine AOps.val (Y.extract rfl rfl rfl) (by decide) ?_
              refine AOps.val (Y.extract rfl rfl rfl) (by decide) ?_
              first | refine AOps.val (Y.assign rfl rfl) (by decide) ?_ | refine AOps.assignU rfl (by decide) ?_
              first | refine AOps.val (Y.assign rfl rfl) (by decide) ?_ | refine AOps.assignU rfl (by decide) ?_
              refine AOps.nil ?_
              refine AWp.seq ?_
              refine AWp.region ?_
              first | refine AOps.val (Y.move rfl rfl) (by decide) ?_ | refine AOps.moveU rfl (by decide) ?_
              first | refine AOps.val (Y.move rfl rfl) (by decide) ?_ | refine AOps.moveU rfl (by decide) ?_
              refine AOps.val (Y.len sl22 rfl rfl) (by decide) ?_
              refine AOps.val (Y.build pl38 ze38 rfl rfl rfl) (by decide) ?_
              refine AOps.buildSlice (([⟨4, (made ps ps.length).length, 0⟩] : List Gate).map Gate.row) sl22 ze38 rfl rfl rfl rfl rfl (by intro r hr; simp at hr; (first | subst hr | (rcases hr with rfl | rfl)) <;> rfl) rfl rfl rfl (by decide) ?_
              refine AOps.appendE ((loop (made ps ps.length)).map Gate.row) ((made ps ps.length).length + 1) sl22 ze38 rfl rfl rfl rfl (by rw [List.length_map]; omega) (by rw [drop0_take (by rw [List.length_map]), loop, List.map_append]) rfl (by omega) (by omega) (by decide) (by decide) ?_
              first | refine AOps.val (Y.move rfl rfl) (by decide) ?_ | refine AOps.moveU rfl (by decide) ?_
              refine AOps.callLP [105] ok19 (depthForm_spec (l := loop (made ps ps.length)) (by omega) (loop_bad _)) rfl (.lend rfl rfl (by rw [List.length_map]; omega) (drop0_take (by rw [List.length_map]; omega)) (.keep rfl rfl .nil)) (lend1 rfl (owns_map Gate.row_frees)) (by decide) rfl (retX_plain _ _) ?_
              refine AOps.sh (Sh.freezeX (d := 97) rfl (retXi_ffz _ _)) ?_
              first | refine AOps.val (Y.move rfl rfl) (by decide) ?_ | refine AOps.moveU rfl (by decide) ?_
              refine AOps.val (Y.extract rfl rfl rfl) (by decide) ?_
              refine AOps.val (Y.extract rfl rfl rfl) (by decide) ?_
              first | refine AOps.val (Y.assign rfl rfl) (by decide) ?_ | refine AOps.assignU rfl (by decide) ?_
              first | refine AOps.val (Y.assign rfl rfl) (by decide) ?_ | refine AOps.assignU rfl (by decide) ?_
              refine AOps.nil ?_
              refine AWp.seq ?_
              refine AWp.region ?_
              first | refine AOps.val (Y.move rfl rfl) (by decide) ?_ | refine AOps.moveU rfl (by decide) ?_
              refine AOps.val (Y.eql rfl rfl) (by decide) ?_
              first | refine AOps.val (Y.move rfl rfl) (by decide) ?_ | refine AOps.moveU rfl (by decide) ?_
              refine AOps.splitD (d := 102) rfl (fun c102 => ?_) (fun c102 => ?_)
              · refine AOps.guardRun (d := 102) rfl (by decide) rfl ?_
                first | refine AOps.val (Y.move rfl rfl) (by decide) ?_ | refine AOps.moveU rfl (by decide) ?_
                refine AOps.guardRun (d := 102) rfl (by decide) rfl ?_
                refine AOps.val (Y.eql rfl rfl) (by decide) ?_
                refine AOps.val (Y.pick rfl rfl rfl) (by decide) ?_
                first | refine AOps.val (Y.assign rfl rfl) (by decide) ?_ | refine AOps.assignU rfl (by decide) ?_
                refine AOps.nil ?_
                refine AWp.ret ?_
                exact ⟨_, _, rfl, rfl, rfl, rfl⟩
              · exact absurd rfl c102

end Go.Proofs.Ytiehdnjcapjacaa
