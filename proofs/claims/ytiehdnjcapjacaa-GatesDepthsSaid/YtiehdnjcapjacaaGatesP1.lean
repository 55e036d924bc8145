/- The walks through the functions that make gates of parts, and inputs. -/
import Derived.Test.YtiehdnjcapjacaaGatesP0
import Derived.Test.YtiehdnjcapjacaaGatesG4
namespace Go.Proofs.Ytiehdnjcapjacaa
open Go Go.AW Go.Proofs



set_option maxHeartbeats 1000000 in
theorem made_spec {ps : List Part} (hl : ps.length ≤ 1048576) (hok : partsOk ps) : ACalls Try.prog 16 [.fz 3 (ps.map Part.row)] [] [] (fun r o => r = .uni 3 ((made ps ps.length).map Gate.row) ∧ o = []) := by
  refine ACalls.of Try.func16 rfl rfl rfl (n := 62) (by decide) (Nat.le_of_ble_eq_true rfl) ?_
  refine AWp.seq ?_
  refine AWp.region ?_
  refine AOps.val (Y.assign rfl rfl) (by decide) ?_
  refine AOps.nil ?_
  refine AWp.seq ?_
  refine AWp.region ?_
  refine AOps.val (Y.build pl38 ze38 rfl rfl rfl) (by decide) ?_
  refine AOps.buildSlice (([⟨3, 0, 0⟩] : List Gate).map Gate.row) sl22 ze38 rfl rfl rfl rfl rfl (by intro r hr; simp at hr; (first | subst hr | (rcases hr with rfl | rfl)) <;> rfl) rfl rfl rfl (by decide) ?_
  first | refine AOps.val (Y.assign rfl rfl) (by decide) ?_ | refine AOps.assignU rfl (by decide) ?_
  refine AOps.nil ?_
  refine AWp.seq ?_
  refine AWp.seq ?_
  refine AWp.sh (Sh.adoptN (d := 3) (n := 1) 103 rfl rfl (by decide)) ?_
  refine AWp.region ?_
  refine AOps.val (Y.assign rfl rfl) (by decide) ?_
  refine AOps.nil ?_
  refine AWp.block ?_
  refine AWp.loop (fun (ix : Nat) => ⟨[(4, .v (.int .i64 ((ix : Int)))), (0, .fz 3 (ps.map Part.row)), (3, .slc 103 3 0 (ix + 1))], [(103, .rows 3 ((made ps ix).map Gate.row))]⟩) (fun ix => ix ≤ ps.length) (fun ix => ps.length - ix) (0) (by omega) (Le.mk (by repeat (first | exact SubL.nil | refine SubL.cons rfl ?_)) (by repeat (first | exact SubL.nil | refine SubL.cons rfl ?_))) (fun ix hI => ?_)
  refine AWp.seq ?_
  refine AWp.seq ?_
  refine AWp.region ?_
  first | refine AOps.val (Y.move rfl rfl) (by decide) ?_ | refine AOps.moveU rfl (by decide) ?_
  first | refine AOps.val (Y.move rfl rfl) (by decide) ?_ | refine AOps.moveU rfl (by decide) ?_
  refine AOps.val (Y.len sl33 rfl (n := ps.length) (congrArg some (List.length_map ..))) (by decide) ?_
  refine AOps.val (Y.lss rfl rfl) (by decide) ?_
  refine AOps.nil ?_
  refine AWp.condD rfl (fun c11 => ?_) (fun c11 => ?_)
  · obtain ⟨q, hg⟩ : ∃ q, ps[ix]? = some q := ⟨_, List.getElem?_eq_getElem (by omega)⟩
    have hq := hok.get hg
    have hma := mod_in (x := q.a) (n := ix + 1) (by omega)
    have hmb := mod_in (x := q.b) (n := ix + 1) (by omega)
    refine AWp.skip ?_
    refine AWp.seq ?_
    refine AWp.block ?_
    refine AWp.seq ?_
    refine AWp.region ?_
    first | refine AOps.val (Y.move rfl rfl) (by decide) ?_ | refine AOps.moveU rfl (by decide) ?_
    first | refine AOps.val (Y.move rfl rfl) (by decide) ?_ | refine AOps.moveU rfl (by decide) ?_
    refine AOps.val (Y.indexF sl33 rfl rfl rfl (getElem?_map' hg)) (by decide) ?_
    refine AOps.val (Y.fieldAddr fl57_0 rfl rfl) (by decide) ?_
    refine AOps.val (Y.load sh5 rfl rfl rfl rfl) (by decide) ?_
    first | refine AOps.val (Y.remI rfl rfl (by omega)) (by decide) ?_ | refine AOps.val (Y.rem rfl rfl (by omega) rfl) (by decide) ?_
    first | refine AOps.val (Y.convI ii5 ii3 rfl (by omega)) (by decide) ?_ | refine AOps.val (Y.conv ii5 ii3 rfl rfl) (by decide) ?_
    first | refine AOps.val (Y.addI rfl rfl (by omega)) (by decide) ?_ | refine AOps.val (Y.add rfl rfl rfl) (by decide) ?_
    refine AOps.val (Y.build pl38 ze38 rfl rfl rfl) (by decide) ?_
    refine AOps.alloc 105 ze38 rfl rfl (by decide) ?_
    first | refine AOps.storeC si38 rfl rfl rfl rfl rfl rfl (Nat.le_of_ble_eq_true rfl) rfl ?_ | refine AOps.storeR si38 rfl rfl rfl rfl rfl rfl rfl (by first | assumption | exact getElem?_map' (by assumption)) (Nat.le_of_ble_eq_true rfl) ?_
    refine AOps.nil ?_
    refine AWp.join (fun (a : Int) => ⟨[(5, .ptr 105 0 0 0), (4, .v (.int .i64 ((ix : Int)))), (0, .fz 3 (ps.map Part.row)), (3, .slc 103 3 0 (ix + 1))], [(105, .cells [.v (.int .i64 (1 + q.kind % 7)), .v (.int .i64 (a)), .v (.int .i64 (0))]), (103, .rows 3 ((made ps ix).map Gate.row))]⟩) (fun a => a = (gateOf (ix + 1) q).a) ?_ (fun a ha => ?_)
    · refine AWp.seq ?_
      refine AWp.region ?_
      refine AOps.val (Y.fieldAddr fl38_0 rfl rfl) (by decide) ?_
      refine AOps.val (Y.load sh3 rfl rfl rfl rfl) (by decide) ?_
      refine AOps.val (Y.geq rfl rfl) (by decide) ?_
      refine AOps.nil ?_
      refine AWp.condD rfl (fun c25 => ?_) (fun c25 => ?_)
      · refine AWp.region ?_
        first | refine AOps.val (Y.move rfl rfl) (by decide) ?_ | refine AOps.moveU rfl (by decide) ?_
        refine AOps.val (Y.len sl22 rfl rfl) (by decide) ?_
        first | refine AOps.val (Y.subI rfl rfl (by omega)) (by decide) ?_ | refine AOps.val (Y.sub rfl rfl rfl) (by decide) ?_
        first | refine AOps.val (Y.move rfl rfl) (by decide) ?_ | refine AOps.moveU rfl (by decide) ?_
        first | refine AOps.val (Y.move rfl rfl) (by decide) ?_ | refine AOps.moveU rfl (by decide) ?_
        refine AOps.val (Y.indexF sl33 rfl rfl rfl (getElem?_map' hg)) (by decide) ?_
        refine AOps.val (Y.fieldAddr fl57_1 rfl rfl) (by decide) ?_
        refine AOps.val (Y.load sh5 rfl rfl rfl rfl) (by decide) ?_
        first | refine AOps.val (Y.convI ii5 ii3 rfl (by omega)) (by decide) ?_ | refine AOps.val (Y.conv ii5 ii3 rfl rfl) (by decide) ?_
        first | refine AOps.val (Y.move rfl rfl) (by decide) ?_ | refine AOps.moveU rfl (by decide) ?_
        refine AOps.val (Y.len sl22 rfl rfl) (by decide) ?_
        first | refine AOps.val (Y.remI rfl rfl (by omega)) (by decide) ?_ | refine AOps.val (Y.rem rfl rfl (by omega) rfl) (by decide) ?_
        first | refine AOps.val (Y.subI rfl rfl (by omega)) (by decide) ?_ | refine AOps.val (Y.sub rfl rfl rfl) (by decide) ?_
        refine AOps.val (Y.fieldAddr fl38_1 rfl rfl) (by decide) ?_
        first | refine AOps.storeC si3 rfl rfl rfl rfl rfl rfl (Nat.le_of_ble_eq_true rfl) rfl ?_ | refine AOps.storeR si3 rfl rfl rfl rfl rfl rfl rfl (by first | assumption | exact getElem?_map' (by assumption)) (Nat.le_of_ble_eq_true rfl) ?_
        refine AOps.nil ?_
        refine ⟨_, ?_, Le.mk (SubL.cons rfl (SubL.cons rfl (SubL.cons rfl (SubL.cons rfl (SubL.nil))))) (SubL.cons rfl (SubL.cons rfl (SubL.nil)))⟩
        simp only [gateOf]
        first | (rw [if_pos (by omega)]; done) | (rw [if_neg (by omega)]; done)
      · refine AWp.skip ?_
        refine ⟨_, ?_, Le.mk (SubL.cons rfl (SubL.cons rfl (SubL.cons rfl (SubL.cons rfl (SubL.nil))))) (SubL.cons rfl (SubL.cons rfl (SubL.nil)))⟩
        simp only [gateOf]
        first | (rw [if_pos (by omega)]; done) | (rw [if_neg (by omega)]; done)
    · refine AWp.join (fun (b : Int) => ⟨[(5, .ptr 105 0 0 0), (4, .v (.int .i64 ((ix : Int)))), (0, .fz 3 (ps.map Part.row)), (3, .slc 103 3 0 (ix + 1))], [(105, .cells [.v (.int .i64 (1 + q.kind % 7)), .v (.int .i64 (a)), .v (.int .i64 (b))]), (103, .rows 3 ((made ps ix).map Gate.row))]⟩) (fun b => b = (gateOf (ix + 1) q).b) ?_ (fun b hb => ?_)
      · refine AWp.seq ?_
        refine AWp.region ?_
        refine AOps.val (Y.fieldAddr fl38_0 rfl rfl) (by decide) ?_
        refine AOps.val (Y.load sh3 rfl rfl rfl rfl) (by decide) ?_
        refine AOps.val (Y.geq rfl rfl) (by decide) ?_
        refine AOps.nil ?_
        refine AWp.condD rfl (fun c42 => ?_) (fun c42 => ?_)
        · refine AWp.region ?_
          first | refine AOps.val (Y.move rfl rfl) (by decide) ?_ | refine AOps.moveU rfl (by decide) ?_
          refine AOps.val (Y.len sl22 rfl rfl) (by decide) ?_
          first | refine AOps.val (Y.subI rfl rfl (by omega)) (by decide) ?_ | refine AOps.val (Y.sub rfl rfl rfl) (by decide) ?_
          first | refine AOps.val (Y.move rfl rfl) (by decide) ?_ | refine AOps.moveU rfl (by decide) ?_
          first | refine AOps.val (Y.move rfl rfl) (by decide) ?_ | refine AOps.moveU rfl (by decide) ?_
          refine AOps.val (Y.indexF sl33 rfl rfl rfl (getElem?_map' hg)) (by decide) ?_
          refine AOps.val (Y.fieldAddr fl57_2 rfl rfl) (by decide) ?_
          refine AOps.val (Y.load sh5 rfl rfl rfl rfl) (by decide) ?_
          first | refine AOps.val (Y.convI ii5 ii3 rfl (by omega)) (by decide) ?_ | refine AOps.val (Y.conv ii5 ii3 rfl rfl) (by decide) ?_
          first | refine AOps.val (Y.move rfl rfl) (by decide) ?_ | refine AOps.moveU rfl (by decide) ?_
          refine AOps.val (Y.len sl22 rfl rfl) (by decide) ?_
          first | refine AOps.val (Y.remI rfl rfl (by omega)) (by decide) ?_ | refine AOps.val (Y.rem rfl rfl (by omega) rfl) (by decide) ?_
          first | refine AOps.val (Y.subI rfl rfl (by omega)) (by decide) ?_ | refine AOps.val (Y.sub rfl rfl rfl) (by decide) ?_
          refine AOps.val (Y.fieldAddr fl38_2 rfl rfl) (by decide) ?_
          first | refine AOps.storeC si3 rfl rfl rfl rfl rfl rfl (Nat.le_of_ble_eq_true rfl) rfl ?_ | refine AOps.storeR si3 rfl rfl rfl rfl rfl rfl rfl (by first | assumption | exact getElem?_map' (by assumption)) (Nat.le_of_ble_eq_true rfl) ?_
          refine AOps.nil ?_
          refine ⟨_, ?_, Le.mk (SubL.cons rfl (SubL.cons rfl (SubL.cons rfl (SubL.cons rfl (SubL.nil))))) (SubL.cons rfl (SubL.cons rfl (SubL.nil)))⟩
          simp only [gateOf]
          first | (rw [if_pos (by omega)]; done) | (rw [if_neg (by omega)]; done)
        · refine AWp.skip ?_
          refine ⟨_, ?_, Le.mk (SubL.cons rfl (SubL.cons rfl (SubL.cons rfl (SubL.cons rfl (SubL.nil))))) (SubL.cons rfl (SubL.cons rfl (SubL.nil)))⟩
          simp only [gateOf]
          first | (rw [if_pos (by omega)]; done) | (rw [if_neg (by omega)]; done)
      · refine AWp.region ?_
        first | refine AOps.val (Y.move rfl rfl) (by decide) ?_ | refine AOps.moveU rfl (by decide) ?_
        refine AOps.val (Y.loadA sh38 rfl rfl (Nat.le_of_ble_eq_true rfl) rfl rfl) (by decide) ?_
        have hge : Gate.row (gateOf (ix + 1) q) = [.v (.int .i64 (1 + q.kind % 7)), .v (.int .i64 (a)), .v (.int .i64 (b))] := by rw [ha, hb]; rfl
        refine AOps.buildSlice [Gate.row (gateOf (ix + 1) q)] sl22 ze38 rfl rfl rfl rfl (by rw [hge]; rfl) (by intro r hr; simp only [List.mem_singleton] at hr; subst hr; rfl) rfl rfl rfl (by decide) ?_
        refine AOps.appendE ((made ps (ix + 1)).map Gate.row) (ix + 2) sl22 ze38 rfl rfl rfl rfl (by rw [List.length_map, made_length (by omega)]; omega) (made_app hg (by omega) rfl) rfl (by omega) (by omega) (by decide) (by decide) ?_
        first | refine AOps.val (Y.assign rfl rfl) (by decide) ?_ | refine AOps.assignU rfl (by decide) ?_
        refine AOps.nil ?_
        refine AWp.region ?_
        first | refine AOps.val (Y.move rfl rfl) (by decide) ?_ | refine AOps.moveU rfl (by decide) ?_
        first | refine AOps.val (Y.addI rfl rfl (by omega)) (by decide) ?_ | refine AOps.val (Y.add rfl rfl rfl) (by decide) ?_
        first | refine AOps.val (Y.assign rfl rfl) (by decide) ?_ | refine AOps.assignU rfl (by decide) ?_
        refine AOps.nil ?_
        exact ⟨ix + 1, by omega, by omega, Le.mk (by repeat (first | exact SubL.nil | refine SubL.cons rfl ?_)) (by repeat (first | exact SubL.nil | refine SubL.cons rfl ?_))⟩
  · refine AWp.exit ?_
    refine AWp.seq ?_
    refine AWp.region ?_
    first | refine AOps.val (Y.move rfl rfl) (by decide) ?_ | refine AOps.moveU rfl (by decide) ?_
    first | refine AOps.val (Y.assign rfl rfl) (by decide) ?_ | refine AOps.assignU rfl (by decide) ?_
    refine AOps.sh (Sh.detach (d := 2) (o := 103) rfl rfl (by rw [List.length_map, made_length hI]) (by decide)) ?_
    refine AOps.nil ?_
    refine AWp.ret ?_
    exact ⟨_, _, rfl, rfl, (by have h : ix = ps.length := (by omega); subst h; rfl), rfl⟩

set_option maxHeartbeats 1000000 in
theorem open_spec {l : List Gate} {xs : List Bool} (hl : l.length ≤ 8796093022208) : ACalls Try.prog 18 [.fz 3 (l.map Gate.row), .fz 1 (xs.map brow)] [] [] (fun r o => r = .uni 1 ((opened xs (nin l)).map brow) ∧ o = []) := by
  refine ACalls.of Try.func18 rfl rfl rfl (n := 30) (by decide) (Nat.le_of_ble_eq_true rfl) ?_
  refine AWp.seq ?_
  refine AWp.region ?_
  refine AOps.val (Y.assign rfl rfl) (by decide) ?_
  refine AOps.nil ?_
  refine AWp.seq ?_
  refine AWp.region ?_
  refine AOps.val (Y.assign rfl rfl) (by decide) ?_
  refine AOps.nil ?_
  refine AWp.seq ?_
  refine AWp.seq ?_
  refine AWp.sh (Sh.nil (d := 5) 105 1 rfl (by decide)) ?_
  refine AWp.region ?_
  refine AOps.val (Y.assign rfl rfl) (by decide) ?_
  refine AOps.nil ?_
  refine AWp.block ?_
  refine AWp.loop (fun (ix : Nat) => ⟨[(6, .v (.int .i64 ((ix : Int)))), (0, .fz 3 (l.map Gate.row)), (1, .fz 1 (xs.map brow)), (5, .slc 105 1 0 ix)], [(105, .rows 1 ((opened xs ix).map brow))]⟩) (fun ix => ix ≤ nin l) (fun ix => nin l - ix) (0) (by omega) (Le.mk (by repeat (first | exact SubL.nil | refine SubL.cons rfl ?_)) (by repeat (first | exact SubL.nil | refine SubL.cons rfl ?_))) (fun ix hI => ?_)
  refine AWp.seq ?_
  refine AWp.seq ?_
  refine AWp.region ?_
  first | refine AOps.val (Y.move rfl rfl) (by decide) ?_ | refine AOps.moveU rfl (by decide) ?_
  first | refine AOps.val (Y.move rfl rfl) (by decide) ?_ | refine AOps.moveU rfl (by decide) ?_
  refine AOps.callP ok14 (refInputs_spec (by omega)) rfl (.keep rfl rfl .nil) (by decide) rfl ?_
  refine AOps.val (Y.lss rfl rfl) (by decide) ?_
  refine AOps.nil ?_
  refine AWp.condD rfl (fun c10 => ?_) (fun c10 => ?_)
  · refine AWp.skip ?_
    refine AWp.seq ?_
    refine AWp.block ?_
    have hnl := nin_le l
    refine AWp.region ?_
    first | refine AOps.val (Y.move rfl rfl) (by decide) ?_ | refine AOps.moveU rfl (by decide) ?_
    first | refine AOps.val (Y.move rfl rfl) (by decide) ?_ | refine AOps.moveU rfl (by decide) ?_
    refine AOps.val (Y.len sl27 rfl (n := xs.length) (congrArg some (List.length_map ..))) (by decide) ?_
    refine AOps.val (Y.gtr rfl rfl) (by decide) ?_
    first | refine AOps.val (Y.move rfl rfl) (by decide) ?_ | refine AOps.moveU rfl (by decide) ?_
    refine AOps.splitD (d := 17) rfl (fun c17 => ?_) (fun c17 => ?_)
    · have hmx : (if (1 : Int) > (xs.length : Int) then 1 else (xs.length : Int)) = (xs.length : Int) := if_neg (by omega)
      have hmd := mod_in (x := (ix : Int)) (n := xs.length) (by omega)
      refine AOps.guardRun (d := 17) rfl (by decide) rfl ?_
      first | refine AOps.val (Y.move rfl rfl) (by decide) ?_ | refine AOps.moveU rfl (by decide) ?_
      refine AOps.guardRun (d := 17) rfl (by decide) rfl ?_
      first | refine AOps.val (Y.move rfl rfl) (by decide) ?_ | refine AOps.moveU rfl (by decide) ?_
      refine AOps.guardRun (d := 17) rfl (by decide) rfl ?_
      first | refine AOps.val (Y.move rfl rfl) (by decide) ?_ | refine AOps.moveU rfl (by decide) ?_
      refine AOps.guardRun (d := 17) rfl (by decide) rfl ?_
      refine AOps.val (Y.len sl27 rfl (n := xs.length) (congrArg some (List.length_map ..))) (by decide) ?_
      refine AOps.guardRun (d := 17) rfl (by decide) rfl ?_
      refine AOps.val (Y.max rfl rfl hmx.symm) (by decide) ?_
      refine AOps.guardRun (d := 17) rfl (by decide) rfl ?_
      refine AOps.val (Y.remI rfl rfl (by omega)) (by decide) ?_
      refine AOps.guardRun (d := 17) rfl (by decide) rfl ?_
      refine AOps.val (Y.indexF sl27 rfl rfl (m := ix % xs.length) (Int.natCast_emod ix xs.length).symm (map_row (f := brow) false (by omega))) (by decide) ?_
      refine AOps.guardRun (d := 17) rfl (by decide) rfl ?_
      refine AOps.val (Y.load sh4 rfl rfl rfl rfl) (by decide) ?_
      refine AOps.val (Y.pick rfl rfl rfl) (by decide) ?_
      refine AOps.buildSlice [[.v (.bool (openB xs ix))]] sl27 ze4 rfl rfl rfl rfl (by first | (rw [openB, if_pos (by omega)]; rfl) | (rw [openB, if_neg (by omega)]; rfl)) (by intro r hr; simp only [List.mem_singleton] at hr; subst hr; rfl) rfl rfl rfl (by decide) ?_
      refine AOps.appendE ((opened xs (ix + 1)).map brow) (ix + 1) sl27 ze4 rfl rfl rfl rfl (by rw [List.length_map, opened_length]; omega) (opened_app rfl) rfl (by omega) (by omega) (by decide) (by decide) ?_
      first | refine AOps.val (Y.assign rfl rfl) (by decide) ?_ | refine AOps.assignU rfl (by decide) ?_
      refine AOps.nil ?_
      refine AWp.region ?_
      first | refine AOps.val (Y.move rfl rfl) (by decide) ?_ | refine AOps.moveU rfl (by decide) ?_
      first | refine AOps.val (Y.addI rfl rfl (by omega)) (by decide) ?_ | refine AOps.val (Y.add rfl rfl rfl) (by decide) ?_
      first | refine AOps.val (Y.assign rfl rfl) (by decide) ?_ | refine AOps.assignU rfl (by decide) ?_
      refine AOps.nil ?_
      exact ⟨ix + 1, by omega, by omega, Le.mk (by repeat (first | exact SubL.nil | refine SubL.cons rfl ?_)) (by repeat (first | exact SubL.nil | refine SubL.cons rfl ?_))⟩
    · refine AOps.guardSkipV (d := 17) rfl (by decide) (by decide) rfl rfl ?_
      refine AOps.guardSkipV (d := 17) rfl (by decide) (by decide) rfl rfl ?_
      refine AOps.guardSkipV (d := 17) rfl (by decide) (by decide) rfl rfl ?_
      refine AOps.guardSkipV (d := 17) rfl (by decide) (by decide) rfl rfl ?_
      refine AOps.guardSkipV (d := 17) rfl (by decide) (by decide) rfl rfl ?_
      refine AOps.guardSkipV (d := 17) rfl (by decide) (by decide) rfl rfl ?_
      refine AOps.guardSkipV (d := 17) rfl (by decide) (by decide) rfl rfl ?_
      refine AOps.guardSkipV (d := 17) rfl (by decide) (by decide) rfl rfl ?_
      refine AOps.val (Y.pick rfl rfl rfl) (by decide) ?_
      refine AOps.buildSlice [[.v (.bool (openB xs ix))]] sl27 ze4 rfl rfl rfl rfl (by first | (rw [openB, if_pos (by omega)]; rfl) | (rw [openB, if_neg (by omega)]; rfl)) (by intro r hr; simp only [List.mem_singleton] at hr; subst hr; rfl) rfl rfl rfl (by decide) ?_
      refine AOps.appendE ((opened xs (ix + 1)).map brow) (ix + 1) sl27 ze4 rfl rfl rfl rfl (by rw [List.length_map, opened_length]; omega) (opened_app rfl) rfl (by omega) (by omega) (by decide) (by decide) ?_
      first | refine AOps.val (Y.assign rfl rfl) (by decide) ?_ | refine AOps.assignU rfl (by decide) ?_
      refine AOps.nil ?_
      refine AWp.region ?_
      first | refine AOps.val (Y.move rfl rfl) (by decide) ?_ | refine AOps.moveU rfl (by decide) ?_
      first | refine AOps.val (Y.addI rfl rfl (by omega)) (by decide) ?_ | refine AOps.val (Y.add rfl rfl rfl) (by decide) ?_
      first | refine AOps.val (Y.assign rfl rfl) (by decide) ?_ | refine AOps.assignU rfl (by decide) ?_
      refine AOps.nil ?_
      exact ⟨ix + 1, by omega, by omega, Le.mk (by repeat (first | exact SubL.nil | refine SubL.cons rfl ?_)) (by repeat (first | exact SubL.nil | refine SubL.cons rfl ?_))⟩
  · refine AWp.exit ?_
    refine AWp.seq ?_
    refine AWp.region ?_
    first | refine AOps.val (Y.move rfl rfl) (by decide) ?_ | refine AOps.moveU rfl (by decide) ?_
    first | refine AOps.val (Y.assign rfl rfl) (by decide) ?_ | refine AOps.assignU rfl (by decide) ?_
    refine AOps.sh (Sh.detach (d := 4) (o := 105) rfl rfl (by rw [List.length_map, opened_length]) (by decide)) ?_
    refine AOps.nil ?_
    refine AWp.ret ?_
    exact ⟨_, _, rfl, rfl, (by have h : ix = nin l := (by omega); subst h; rfl), rfl⟩

end Go.Proofs.Ytiehdnjcapjacaa
