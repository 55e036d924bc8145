/- The law on Eval. -/
import Derived.Test.YtiehdnjcapjacaaGatesG3
namespace Go.Proofs.Ytiehdnjcapjacaa
open Go Go.AW Go.Proofs



set_option maxHeartbeats 1000000 in
theorem refEval_spec {l : List Gate} {ins : List Bool} (hl : l.length ≤ 8796093022208) (hb : Good l) (hin : ins.length = nin l) : ACalls Try.prog 15 [.fz 3 (l.map Gate.row), .fz 1 (ins.map brow)] [] [] (fun r o => r = .uni 1 ((outs l ins l.length).map brow) ∧ o = []) := by
  refine ACalls.of Try.func15 rfl rfl rfl (n := 86) (by decide) (Nat.le_of_ble_eq_true rfl) ?_
  refine AWp.seq ?_
  refine AWp.region ?_
  refine AOps.val (Y.assign rfl rfl) (by decide) ?_
  refine AOps.nil ?_
  refine AWp.seq ?_
  refine AWp.region ?_
  refine AOps.val (Y.assign rfl rfl) (by decide) ?_
  refine AOps.nil ?_
  refine AWp.seq ?_
  refine AWp.region ?_
  refine AOps.val (Y.assign rfl rfl) (by decide) ?_
  refine AOps.nil ?_
  refine AWp.seq ?_
  refine AWp.seq ?_
  refine AWp.sh (Sh.nil (d := 5) 105 1 rfl (by decide)) ?_
  refine AWp.region ?_
  refine AOps.val (Y.assign rfl rfl) (by decide) ?_
  refine AOps.nil ?_
  refine AWp.block ?_
  refine AWp.loop (fun (ix : Nat) => ⟨[(6, .v (.int .i64 ((nin (l.take ix) : Nat)))), (7, .v (.int .i64 ((ix : Int)))), (5, .slc 105 1 0 ix), (0, .fz 3 (l.map Gate.row)), (1, .fz 1 (ins.map brow))], [(105, .rows 1 ((outs l ins ix).map brow))]⟩) (fun ix => ix ≤ l.length) (fun ix => l.length - ix) (0) (by omega) (Le.mk (by repeat (first | exact SubL.nil | refine SubL.cons (by first | rfl | (rw [nin_zero]; rfl)) ?_)) (SubL.cons rfl SubL.nil)) (fun ix hI => ?_)
  refine AWp.seq ?_
  refine AWp.seq ?_
  refine AWp.region ?_
  first | refine AOps.val (Y.move rfl rfl) (by decide) ?_ | refine AOps.moveU rfl (by decide) ?_
  first | refine AOps.val (Y.move rfl rfl) (by decide) ?_ | refine AOps.moveU rfl (by decide) ?_
  refine AOps.val (Y.len sl22 rfl (n := l.length) (congrArg some (List.length_map ..))) (by decide) ?_
  refine AOps.val (Y.lss rfl rfl) (by decide) ?_
  refine AOps.nil ?_
  refine AWp.condD rfl (fun c13 => ?_) (fun c13 => ?_)
  · obtain ⟨q, hg⟩ : ∃ q, l[ix]? = some q := ⟨_, List.getElem?_eq_getElem (by omega)⟩
    have hol : (outs l ins ix).length = ix := outs_length (by omega)
    have hok := hb ix q hg
    simp only [okGate, okArg, operands] at hok
    have hnl := nin_take_le l ix
    have hnl2 := nin_le l
    refine AWp.skip ?_
    refine AWp.seq ?_
    refine AWp.block ?_
    refine AWp.seq ?_
    refine AWp.region ?_
    first | refine AOps.val (Y.move rfl rfl) (by decide) ?_ | refine AOps.moveU rfl (by decide) ?_
    first | refine AOps.val (Y.move rfl rfl) (by decide) ?_ | refine AOps.moveU rfl (by decide) ?_
    refine AOps.val (Y.indexF sl22 rfl rfl rfl (getElem?_map' hg)) (by decide) ?_
    refine AOps.val (Y.loadA sh38 rfl rfl (Nat.le_of_ble_eq_true rfl) rfl rfl) (by decide) ?_
    refine AOps.alloc 108 ze38 rfl rfl (by decide) ?_
    first | refine AOps.storeC si38 rfl rfl rfl rfl rfl rfl (Nat.le_of_ble_eq_true rfl) rfl ?_ | refine AOps.storeR si38 rfl rfl rfl rfl rfl rfl rfl (by first | assumption | exact getElem?_map' (by assumption)) (Nat.le_of_ble_eq_true rfl) ?_
    refine AOps.nil ?_
    refine AWp.seq ?_
    refine AWp.region ?_
    refine AOps.val (Y.assign rfl rfl) (by decide) ?_
    refine AOps.nil ?_
    refine AWp.join (fun (u : Bool × Int) => ⟨[(9, .v (.bool u.1)), (6, .v (.int .i64 u.2)), (7, .v (.int .i64 ((ix : Int)))), (5, .slc 105 1 0 ix), (0, .fz 3 (l.map Gate.row)), (1, .fz 1 (ins.map brow))], [(105, .rows 1 ((outs l ins ix).map brow))]⟩) (fun u => u.1 = valOf (outs l ins ix) ins (nin (l.take ix)) q ∧ u.2 = (nin (l.take (ix + 1)) : Nat)) ?_ (fun u hJ => ?_)
    · refine AWp.seq ?_
      refine AWp.region ?_
      refine AOps.val (Y.fieldAddr fl38_0 rfl rfl) (by decide) ?_
      refine AOps.val (Y.load sh3 rfl rfl rfl rfl) (by decide) ?_
      refine AOps.nil ?_
      refine AWp.block ?_
      refine AWp.seq ?_
      refine AWp.region ?_
      refine AOps.val (Y.eql rfl rfl) (by decide) ?_
      first | refine AOps.val (Y.assign rfl rfl) (by decide) ?_ | refine AOps.assignU rfl (by decide) ?_
      refine AOps.nil ?_
      refine AWp.condD rfl (fun c22 => ?_) (fun c22 => ?_)
      · refine AWp.region ?_
        refine AOps.val (Y.assign rfl rfl) (by decide) ?_
        refine AOps.nil ?_
        refine ⟨(_, _), ?_, Le.mk (SubL.cons rfl (SubL.cons rfl (SubL.cons rfl (SubL.cons rfl (SubL.cons rfl (SubL.cons rfl (SubL.nil))))))) (SubL.cons rfl (SubL.nil))⟩
        refine ⟨by first | (rw [valOf_and c40, c47]; rfl) | (rw [valOf_or c54, c61]; rfl) | (rw [valOf_not c32]; rfl) | (rw [valOf_xor c68]; rfl) | (simp [valOf, c22]; done) | (simp [valOf, c24]; done) | (simp [valOf, *]; done), by rw [nin_succ hg]; first | (rw [if_pos (by omega)]; rfl) | (rw [if_neg (by omega)]; rfl)⟩
      · refine AWp.seq ?_
        refine AWp.region ?_
        refine AOps.val (Y.eql rfl rfl) (by decide) ?_
        first | refine AOps.val (Y.assign rfl rfl) (by decide) ?_ | refine AOps.assignU rfl (by decide) ?_
        refine AOps.nil ?_
        refine AWp.condD rfl (fun c24 => ?_) (fun c24 => ?_)
        · have hlt := nin_lt hg c24
          refine AWp.seq ?_
          refine AWp.region ?_
          first | refine AOps.val (Y.move rfl rfl) (by decide) ?_ | refine AOps.moveU rfl (by decide) ?_
          first | refine AOps.val (Y.move rfl rfl) (by decide) ?_ | refine AOps.moveU rfl (by decide) ?_
          refine AOps.val (Y.indexF sl27 rfl rfl rfl (map_row (f := brow) false (by omega))) (by decide) ?_
          refine AOps.val (Y.load sh4 rfl rfl rfl rfl) (by decide) ?_
          first | refine AOps.val (Y.assign rfl rfl) (by decide) ?_ | refine AOps.assignU rfl (by decide) ?_
          refine AOps.nil ?_
          refine AWp.region ?_
          first | refine AOps.val (Y.move rfl rfl) (by decide) ?_ | refine AOps.moveU rfl (by decide) ?_
          first | refine AOps.val (Y.addI rfl rfl (by omega)) (by decide) ?_ | refine AOps.val (Y.add rfl rfl rfl) (by decide) ?_
          first | refine AOps.val (Y.assign rfl rfl) (by decide) ?_ | refine AOps.assignU rfl (by decide) ?_
          refine AOps.nil ?_
          refine ⟨(_, _), ?_, Le.mk (SubL.cons rfl (SubL.cons rfl (SubL.cons rfl (SubL.cons rfl (SubL.cons rfl (SubL.cons rfl (SubL.nil))))))) (SubL.cons rfl (SubL.nil))⟩
          refine ⟨by first | (rw [valOf_and c40, c47]; rfl) | (rw [valOf_or c54, c61]; rfl) | (rw [valOf_not c32]; rfl) | (rw [valOf_xor c68]; rfl) | (simp [valOf, c22]; done) | (simp [valOf, c24]; done) | (simp [valOf, *]; done), by rw [nin_succ hg]; first | (rw [if_pos (by omega)]; rfl) | (rw [if_neg (by omega)]; rfl)⟩
        · refine AWp.seq ?_
          refine AWp.region ?_
          refine AOps.val (Y.eql rfl rfl) (by decide) ?_
          first | refine AOps.val (Y.assign rfl rfl) (by decide) ?_ | refine AOps.assignU rfl (by decide) ?_
          refine AOps.nil ?_
          refine AWp.condD rfl (fun c32 => ?_) (fun c32 => ?_)
          · refine AWp.region ?_
            first | refine AOps.val (Y.move rfl rfl) (by decide) ?_ | refine AOps.moveU rfl (by decide) ?_
            refine AOps.val (Y.fieldAddr fl38_1 rfl rfl) (by decide) ?_
            refine AOps.val (Y.load sh3 rfl rfl rfl rfl) (by decide) ?_
            refine AOps.val (Y.indexO (m := q.a.toNat) sl27 rfl rfl (by omega) (by omega)) (by decide) ?_
            refine AOps.val (Y.load sh4 rfl (row0 (out := outs l ins ix) (k := q.a.toNat) (by rw [hol]; omega)) rfl rfl) (by decide) ?_
            refine AOps.val (Y.not rfl) (by decide) ?_
            first | refine AOps.val (Y.assign rfl rfl) (by decide) ?_ | refine AOps.assignU rfl (by decide) ?_
            refine AOps.nil ?_
            refine ⟨(_, _), ?_, Le.mk (SubL.cons rfl (SubL.cons rfl (SubL.cons rfl (SubL.cons rfl (SubL.cons rfl (SubL.cons rfl (SubL.nil))))))) (SubL.cons rfl (SubL.nil))⟩
            refine ⟨by first | (rw [valOf_and c40, c47]; rfl) | (rw [valOf_or c54, c61]; rfl) | (rw [valOf_not c32]; rfl) | (rw [valOf_xor c68]; rfl) | (simp [valOf, c22]; done) | (simp [valOf, c24]; done) | (simp [valOf, *]; done), by rw [nin_succ hg]; first | (rw [if_pos (by omega)]; rfl) | (rw [if_neg (by omega)]; rfl)⟩
          · refine AWp.seq ?_
            refine AWp.region ?_
            refine AOps.val (Y.eql rfl rfl) (by decide) ?_
            first | refine AOps.val (Y.assign rfl rfl) (by decide) ?_ | refine AOps.assignU rfl (by decide) ?_
            refine AOps.nil ?_
            refine AWp.condD rfl (fun c40 => ?_) (fun c40 => ?_)
            · refine AWp.region ?_
              first | refine AOps.val (Y.move rfl rfl) (by decide) ?_ | refine AOps.moveU rfl (by decide) ?_
              refine AOps.val (Y.fieldAddr fl38_1 rfl rfl) (by decide) ?_
              refine AOps.val (Y.load sh3 rfl rfl rfl rfl) (by decide) ?_
              refine AOps.val (Y.indexO (m := q.a.toNat) sl27 rfl rfl (by omega) (by omega)) (by decide) ?_
              refine AOps.val (Y.load sh4 rfl (row0 (out := outs l ins ix) (k := q.a.toNat) (by rw [hol]; omega)) rfl rfl) (by decide) ?_
              first | refine AOps.val (Y.move rfl rfl) (by decide) ?_ | refine AOps.moveU rfl (by decide) ?_
              refine AOps.split (d := 47) rfl (fun c47 => ?_) (fun c47 => ?_)
              · refine AOps.guardRun (d := 47) rfl (by decide) rfl ?_
                first | refine AOps.val (Y.move rfl rfl) (by decide) ?_ | refine AOps.moveU rfl (by decide) ?_
                refine AOps.guardRun (d := 47) rfl (by decide) rfl ?_
                refine AOps.val (Y.fieldAddr fl38_2 rfl rfl) (by decide) ?_
                refine AOps.guardRun (d := 47) rfl (by decide) rfl ?_
                refine AOps.val (Y.load sh3 rfl rfl rfl rfl) (by decide) ?_
                refine AOps.guardRun (d := 47) rfl (by decide) rfl ?_
                refine AOps.val (Y.indexO (m := q.b.toNat) sl27 rfl rfl (by omega) (by omega)) (by decide) ?_
                refine AOps.guardRun (d := 47) rfl (by decide) rfl ?_
                refine AOps.val (Y.load sh4 rfl (row0 (out := outs l ins ix) (k := q.b.toNat) (by rw [hol]; omega)) rfl rfl) (by decide) ?_
                refine AOps.val (Y.pick rfl rfl rfl) (by decide) ?_
                first | refine AOps.val (Y.assign rfl rfl) (by decide) ?_ | refine AOps.assignU rfl (by decide) ?_
                refine AOps.nil ?_
                refine ⟨(_, _), ?_, Le.mk (SubL.cons rfl (SubL.cons rfl (SubL.cons rfl (SubL.cons rfl (SubL.cons rfl (SubL.cons rfl (SubL.nil))))))) (SubL.cons rfl (SubL.nil))⟩
                refine ⟨by first | (rw [valOf_and c40, c47]; rfl) | (rw [valOf_or c54, c61]; rfl) | (rw [valOf_not c32]; rfl) | (rw [valOf_xor c68]; rfl) | (simp [valOf, c22]; done) | (simp [valOf, c24]; done) | (simp [valOf, *]; done), by rw [nin_succ hg]; first | (rw [if_pos (by omega)]; rfl) | (rw [if_neg (by omega)]; rfl)⟩
              · refine AOps.guardSkipV (d := 47) rfl (by decide) (by decide) rfl rfl ?_
                refine AOps.guardSkipV (d := 47) rfl (by decide) (by decide) rfl rfl ?_
                refine AOps.guardSkipV (d := 47) rfl (by decide) (by decide) rfl rfl ?_
                refine AOps.guardSkipV (d := 47) rfl (by decide) (by decide) rfl rfl ?_
                refine AOps.guardSkipV (d := 47) rfl (by decide) (by decide) rfl rfl ?_
                refine AOps.val (Y.pick rfl rfl rfl) (by decide) ?_
                first | refine AOps.val (Y.assign rfl rfl) (by decide) ?_ | refine AOps.assignU rfl (by decide) ?_
                refine AOps.nil ?_
                refine ⟨(_, _), ?_, Le.mk (SubL.cons rfl (SubL.cons rfl (SubL.cons rfl (SubL.cons rfl (SubL.cons rfl (SubL.cons rfl (SubL.nil))))))) (SubL.cons rfl (SubL.nil))⟩
                refine ⟨by first | (rw [valOf_and c40, c47]; rfl) | (rw [valOf_or c54, c61]; rfl) | (rw [valOf_not c32]; rfl) | (rw [valOf_xor c68]; rfl) | (simp [valOf, c22]; done) | (simp [valOf, c24]; done) | (simp [valOf, *]; done), by rw [nin_succ hg]; first | (rw [if_pos (by omega)]; rfl) | (rw [if_neg (by omega)]; rfl)⟩
            · refine AWp.seq ?_
              refine AWp.region ?_
              refine AOps.val (Y.eql rfl rfl) (by decide) ?_
              first | refine AOps.val (Y.assign rfl rfl) (by decide) ?_ | refine AOps.assignU rfl (by decide) ?_
              refine AOps.nil ?_
              refine AWp.condD rfl (fun c54 => ?_) (fun c54 => ?_)
              · refine AWp.region ?_
                first | refine AOps.val (Y.move rfl rfl) (by decide) ?_ | refine AOps.moveU rfl (by decide) ?_
                refine AOps.val (Y.fieldAddr fl38_1 rfl rfl) (by decide) ?_
                refine AOps.val (Y.load sh3 rfl rfl rfl rfl) (by decide) ?_
                refine AOps.val (Y.indexO (m := q.a.toNat) sl27 rfl rfl (by omega) (by omega)) (by decide) ?_
                refine AOps.val (Y.load sh4 rfl (row0 (out := outs l ins ix) (k := q.a.toNat) (by rw [hol]; omega)) rfl rfl) (by decide) ?_
                first | refine AOps.val (Y.move rfl rfl) (by decide) ?_ | refine AOps.moveU rfl (by decide) ?_
                refine AOps.split (d := 61) rfl (fun c61 => ?_) (fun c61 => ?_)
                · refine AOps.guardSkipV (d := 61) rfl (by decide) (by decide) rfl rfl ?_
                  refine AOps.guardSkipV (d := 61) rfl (by decide) (by decide) rfl rfl ?_
                  refine AOps.guardSkipV (d := 61) rfl (by decide) (by decide) rfl rfl ?_
                  refine AOps.guardSkipV (d := 61) rfl (by decide) (by decide) rfl rfl ?_
                  refine AOps.guardSkipV (d := 61) rfl (by decide) (by decide) rfl rfl ?_
                  refine AOps.val (Y.pick rfl rfl rfl) (by decide) ?_
                  first | refine AOps.val (Y.assign rfl rfl) (by decide) ?_ | refine AOps.assignU rfl (by decide) ?_
                  refine AOps.nil ?_
                  refine ⟨(_, _), ?_, Le.mk (SubL.cons rfl (SubL.cons rfl (SubL.cons rfl (SubL.cons rfl (SubL.cons rfl (SubL.cons rfl (SubL.nil))))))) (SubL.cons rfl (SubL.nil))⟩
                  refine ⟨by first | (rw [valOf_and c40, c47]; rfl) | (rw [valOf_or c54, c61]; rfl) | (rw [valOf_not c32]; rfl) | (rw [valOf_xor c68]; rfl) | (simp [valOf, c22]; done) | (simp [valOf, c24]; done) | (simp [valOf, *]; done), by rw [nin_succ hg]; first | (rw [if_pos (by omega)]; rfl) | (rw [if_neg (by omega)]; rfl)⟩
                · refine AOps.guardRun (d := 61) rfl (by decide) rfl ?_
                  first | refine AOps.val (Y.move rfl rfl) (by decide) ?_ | refine AOps.moveU rfl (by decide) ?_
                  refine AOps.guardRun (d := 61) rfl (by decide) rfl ?_
                  refine AOps.val (Y.fieldAddr fl38_2 rfl rfl) (by decide) ?_
                  refine AOps.guardRun (d := 61) rfl (by decide) rfl ?_
                  refine AOps.val (Y.load sh3 rfl rfl rfl rfl) (by decide) ?_
                  refine AOps.guardRun (d := 61) rfl (by decide) rfl ?_
                  refine AOps.val (Y.indexO (m := q.b.toNat) sl27 rfl rfl (by omega) (by omega)) (by decide) ?_
                  refine AOps.guardRun (d := 61) rfl (by decide) rfl ?_
                  refine AOps.val (Y.load sh4 rfl (row0 (out := outs l ins ix) (k := q.b.toNat) (by rw [hol]; omega)) rfl rfl) (by decide) ?_
                  refine AOps.val (Y.pick rfl rfl rfl) (by decide) ?_
                  first | refine AOps.val (Y.assign rfl rfl) (by decide) ?_ | refine AOps.assignU rfl (by decide) ?_
                  refine AOps.nil ?_
                  refine ⟨(_, _), ?_, Le.mk (SubL.cons rfl (SubL.cons rfl (SubL.cons rfl (SubL.cons rfl (SubL.cons rfl (SubL.cons rfl (SubL.nil))))))) (SubL.cons rfl (SubL.nil))⟩
                  refine ⟨by first | (rw [valOf_and c40, c47]; rfl) | (rw [valOf_or c54, c61]; rfl) | (rw [valOf_not c32]; rfl) | (rw [valOf_xor c68]; rfl) | (simp [valOf, c22]; done) | (simp [valOf, c24]; done) | (simp [valOf, *]; done), by rw [nin_succ hg]; first | (rw [if_pos (by omega)]; rfl) | (rw [if_neg (by omega)]; rfl)⟩
              · refine AWp.seq ?_
                refine AWp.region ?_
                refine AOps.val (Y.eql rfl rfl) (by decide) ?_
                first | refine AOps.val (Y.assign rfl rfl) (by decide) ?_ | refine AOps.assignU rfl (by decide) ?_
                refine AOps.nil ?_
                refine AWp.condD rfl (fun c68 => ?_) (fun c68 => ?_)
                · refine AWp.regionS rfl (by kernel_rfl) ?_
                  first | refine AHead.val (Y.move rfl rfl) (by decide) ?_ | refine AHead.moveU rfl (by decide) ?_
                  refine AHead.val (Y.fieldAddr fl38_1 rfl rfl) (by decide) ?_
                  refine AHead.val (Y.load sh3 rfl rfl rfl rfl) (by decide) ?_
                  refine AHead.val (Y.indexO (m := q.a.toNat) sl27 rfl rfl (by omega) (by omega)) (by decide) ?_
                  refine AHead.val (Y.load sh4 rfl (row0 (out := outs l ins ix) (k := q.a.toNat) (by rw [hol]; omega)) rfl rfl) (by decide) ?_
                  first | refine AHead.val (Y.move rfl rfl) (by decide) ?_ | refine AHead.moveU rfl (by decide) ?_
                  refine AHead.val (Y.fieldAddr fl38_2 rfl rfl) (by decide) ?_
                  refine AHead.val (Y.load sh3 rfl rfl rfl rfl) (by decide) ?_
                  refine AHead.val (Y.indexO (m := q.b.toNat) sl27 rfl rfl (by omega) (by omega)) (by decide) ?_
                  refine AHead.val (Y.load sh4 rfl (row0 (out := outs l ins ix) (k := q.b.toNat) (by rw [hol]; omega)) rfl rfl) (by decide) ?_
                  refine AHead.val (Y.neqB un4 rfl rfl) (by decide) ?_
                  first | refine AHead.val (Y.assign rfl rfl) (by decide) ?_ | refine AHead.assignU rfl (by decide) ?_
                  refine AHead.nil ?_
                  refine ⟨(_, _), ?_, Le.mk (SubL.cons rfl (SubL.cons rfl (SubL.cons rfl (SubL.cons rfl (SubL.cons rfl (SubL.cons rfl (SubL.nil))))))) (SubL.cons rfl (SubL.nil))⟩
                  refine ⟨by first | (rw [valOf_and c40, c47]; rfl) | (rw [valOf_or c54, c61]; rfl) | (rw [valOf_not c32]; rfl) | (rw [valOf_xor c68]; rfl) | (simp [valOf, c22]; done) | (simp [valOf, c24]; done) | (simp [valOf, *]; done), by rw [nin_succ hg]; first | (rw [if_pos (by omega)]; rfl) | (rw [if_neg (by omega)]; rfl)⟩
                · refine AWp.skip ?_
                  refine ⟨(_, _), ?_, Le.mk (SubL.cons rfl (SubL.cons rfl (SubL.cons rfl (SubL.cons rfl (SubL.cons rfl (SubL.cons rfl (SubL.nil))))))) (SubL.cons rfl (SubL.nil))⟩
                  refine ⟨by first | (rw [valOf_and c40, c47]; rfl) | (rw [valOf_or c54, c61]; rfl) | (rw [valOf_not c32]; rfl) | (rw [valOf_xor c68]; rfl) | (simp [valOf, c22]; done) | (simp [valOf, c24]; done) | (simp [valOf, *]; done), by rw [nin_succ hg]; first | (rw [if_pos (by omega)]; rfl) | (rw [if_neg (by omega)]; rfl)⟩
    · obtain ⟨b, m⟩ := u
      obtain ⟨hb1, rfl⟩ := hJ
      refine AWp.region ?_
      first | refine AOps.val (Y.move rfl rfl) (by decide) ?_ | refine AOps.moveU rfl (by decide) ?_
      first | refine AOps.val (Y.move rfl rfl) (by decide) ?_ | refine AOps.moveU rfl (by decide) ?_
      refine AOps.buildSlice ([[.v (.bool b)]]) sl27 ze4 rfl rfl rfl rfl rfl (by intro r hr; simp at hr; (first | subst hr | (rcases hr with rfl | rfl)) <;> rfl) rfl rfl rfl (by decide) ?_
      refine AOps.appendE ((outs l ins (ix + 1)).map brow) (ix + 1) sl27 ze4 rfl rfl rfl rfl (by rw [List.length_map, hol]; omega) (outs_app hg (by omega) hb1) rfl (by omega) (by omega) (by decide) (by decide) ?_
      first | refine AOps.val (Y.assign rfl rfl) (by decide) ?_ | refine AOps.assignU rfl (by decide) ?_
      refine AOps.nil ?_
      refine AWp.region ?_
      first | refine AOps.val (Y.move rfl rfl) (by decide) ?_ | refine AOps.moveU rfl (by decide) ?_
      first | refine AOps.val (Y.addI rfl rfl (by omega)) (by decide) ?_ | refine AOps.val (Y.add rfl rfl rfl) (by decide) ?_
      first | refine AOps.val (Y.assign rfl rfl) (by decide) ?_ | refine AOps.assignU rfl (by decide) ?_
      refine AOps.nil ?_
      exact ⟨ix + 1, by omega, by omega, Le.mk (by repeat (first | exact SubL.nil | refine SubL.cons rfl ?_)) (by repeat (first | exact SubL.nil | refine SubL.cons rfl ?_))⟩
  · refine AWp.exit ?_
    refine AWp.seq ?_
    refine AWp.region ?_
    first | refine AOps.val (Y.move rfl rfl) (by decide) ?_ | refine AOps.moveU rfl (by decide) ?_
    first | refine AOps.val (Y.assign rfl rfl) (by decide) ?_ | refine AOps.assignU rfl (by decide) ?_
    refine AOps.sh (Sh.detach (d := 4) (o := 105) rfl rfl (by rw [List.length_map, outs_length hI]) (by decide)) ?_
    refine AOps.nil ?_
    refine AWp.ret ?_
    exact ⟨_, _, rfl, rfl, (by have h : ix = l.length := (by omega); subst h; rfl), rfl⟩

set_option maxHeartbeats 1000000 in
theorem law4_spec {l : List Gate} {ins : List Bool} (hl : l.length ≤ 8796093022208) : ACalls Try.prog 4 [.fz 3 (l.map Gate.row), .fz 1 (ins.map brow)] [] [] (fun r o => r = .v (.bool true) ∧ o = []) := by
  refine ACalls.of Try.func4 rfl rfl rfl (n := 66) (by decide) (Nat.le_of_ble_eq_true rfl) ?_
  refine AWp.seq ?_
  refine AWp.region ?_
  refine AOps.val (Y.assign rfl rfl) (by decide) ?_
  refine AOps.nil ?_
  refine AWp.seq ?_
  refine AWp.seq ?_
  refine AWp.region ?_
  refine AOps.callP ok10 (awake_spec) rfl .nil (by decide) rfl ?_
  refine AOps.val (Y.not rfl) (by decide) ?_
  refine AOps.nil ?_
  refine AWp.cond rfl (fun c10 => ?_) (fun c10 => ?_)
  · exact absurd c10 (by decide)
  · refine AWp.skip ?_
    refine AWp.seq ?_
    refine AWp.region ?_
    first | refine AOps.val (Y.move rfl rfl) (by decide) ?_ | refine AOps.moveU rfl (by decide) ?_
    first | refine AOps.val (Y.move rfl rfl) (by decide) ?_ | refine AOps.moveU rfl (by decide) ?_
    refine AOps.callP ok13 (eval_spec (by omega)) rfl (.keep rfl rfl (.keep rfl rfl .nil)) (by decide) rfl ?_
    refine AOps.sh (Sh.freezeX (d := 14) rfl (retX_ffz _ _)) ?_
    first | refine AOps.val (Y.move rfl rfl) (by decide) ?_ | refine AOps.moveU rfl (by decide) ?_
    refine AOps.val (Y.extract rfl rfl rfl) (by decide) ?_
    refine AOps.val (Y.extract rfl rfl rfl) (by decide) ?_
    first | refine AOps.val (Y.assign rfl rfl) (by decide) ?_ | refine AOps.assignU rfl (by decide) ?_
    first | refine AOps.val (Y.assign rfl rfl) (by decide) ?_ | refine AOps.assignU rfl (by decide) ?_
    refine AOps.nil ?_
    refine AWp.seq ?_
    refine AWp.seq ?_
    refine AWp.region ?_
    first | refine AOps.val (Y.move rfl rfl) (by decide) ?_ | refine AOps.moveU rfl (by decide) ?_
    refine AOps.callP ok11 (formed_spec (by omega)) rfl (.keep rfl rfl .nil) (by decide) rfl ?_
    refine AOps.val (Y.not rfl) (by decide) ?_
    refine AOps.nil ?_
    refine AWp.cond rfl (fun c19 => ?_) (fun c19 => ?_)
    · have hb : ¬ Good l := formed_not (by simpa using c19)
      rw [evalR_form ins hb]
      refine AWp.seq ?_
      refine AWp.region ?_
      first | refine AOps.val (Y.move rfl rfl) (by decide) ?_ | refine AOps.moveU rfl (by decide) ?_
      refine AOps.val (Y.eql rfl rfl) (by decide) ?_
      first | refine AOps.val (Y.move rfl rfl) (by decide) ?_ | refine AOps.moveU rfl (by decide) ?_
      refine AOps.splitD (d := 22) rfl (fun c22 => ?_) (fun c22 => ?_)
      · refine AOps.guardRun (d := 22) rfl (by decide) rfl ?_
        first | refine AOps.val (Y.move rfl rfl) (by decide) ?_ | refine AOps.moveU rfl (by decide) ?_
        refine AOps.guardRun (d := 22) rfl (by decide) rfl ?_
        refine AOps.val (Y.len sl27 rfl (n := 0) rfl) (by decide) ?_
        refine AOps.guardRun (d := 22) rfl (by decide) rfl ?_
        refine AOps.val (Y.eql rfl rfl) (by decide) ?_
        refine AOps.val (Y.pick rfl rfl rfl) (by decide) ?_
        first | refine AOps.val (Y.assign rfl rfl) (by decide) ?_ | refine AOps.assignU rfl (by decide) ?_
        refine AOps.nil ?_
        refine AWp.ret ?_
        exact ⟨_, _, rfl, rfl, rfl, rfl⟩
      · exact absurd rfl c22
    · have hb : Good l := formed_true (by simpa using c19)
      refine AWp.skip ?_
      refine AWp.seq ?_
      refine AWp.seq ?_
      refine AWp.region ?_
      first | refine AOps.val (Y.move rfl rfl) (by decide) ?_ | refine AOps.moveU rfl (by decide) ?_
      refine AOps.val (Y.len sl27 rfl (n := ins.length) (congrArg some (List.length_map ..))) (by decide) ?_
      first | refine AOps.val (Y.move rfl rfl) (by decide) ?_ | refine AOps.moveU rfl (by decide) ?_
      refine AOps.callP ok14 (refInputs_spec (by omega)) rfl (.keep rfl rfl .nil) (by decide) rfl ?_
      refine AOps.val (Y.neq rfl rfl) (by decide) ?_
      refine AOps.nil ?_
      refine AWp.condD rfl (fun c31 => ?_) (fun c31 => ?_)
      · rw [evalR_arg hb (by omega)]
        refine AWp.seq ?_
        refine AWp.region ?_
        first | refine AOps.val (Y.move rfl rfl) (by decide) ?_ | refine AOps.moveU rfl (by decide) ?_
        refine AOps.val (Y.eql rfl rfl) (by decide) ?_
        first | refine AOps.val (Y.move rfl rfl) (by decide) ?_ | refine AOps.moveU rfl (by decide) ?_
        refine AOps.splitD (d := 34) rfl (fun c34 => ?_) (fun c34 => ?_)
        · refine AOps.guardRun (d := 34) rfl (by decide) rfl ?_
          first | refine AOps.val (Y.move rfl rfl) (by decide) ?_ | refine AOps.moveU rfl (by decide) ?_
          refine AOps.guardRun (d := 34) rfl (by decide) rfl ?_
          refine AOps.val (Y.len sl27 rfl (n := 0) rfl) (by decide) ?_
          refine AOps.guardRun (d := 34) rfl (by decide) rfl ?_
          refine AOps.val (Y.eql rfl rfl) (by decide) ?_
          refine AOps.val (Y.pick rfl rfl rfl) (by decide) ?_
          first | refine AOps.val (Y.assign rfl rfl) (by decide) ?_ | refine AOps.assignU rfl (by decide) ?_
          refine AOps.nil ?_
          refine AWp.ret ?_
          exact ⟨_, _, rfl, rfl, rfl, rfl⟩
        · exact absurd rfl c34
      · have hin : ins.length = nin l := by omega
        rw [evalR_ok hb hin]
        refine AWp.skip ?_
        refine AWp.seq ?_
        refine AWp.region ?_
        first | refine AOps.val (Y.move rfl rfl) (by decide) ?_ | refine AOps.moveU rfl (by decide) ?_
        first | refine AOps.val (Y.move rfl rfl) (by decide) ?_ | refine AOps.moveU rfl (by decide) ?_
        refine AOps.callP ok15 (refEval_spec (by omega) hb hin) rfl (.keep rfl rfl (.keep rfl rfl .nil)) (by decide) rfl ?_
        refine AOps.sh (Sh.freezeX (d := 41) (y := .fz 1 ((outs l ins l.length).map brow)) rfl (congrArg (X.fz 1) (X.ffzr_frees (Frees.map brow_frees)))) ?_
        first | refine AOps.val (Y.assign rfl rfl) (by decide) ?_ | refine AOps.assignU rfl (by decide) ?_
        refine AOps.nil ?_
        refine AWp.seq ?_
        refine AWp.seq ?_
        refine AWp.region ?_
        first | refine AOps.val (Y.move rfl rfl) (by decide) ?_ | refine AOps.moveU rfl (by decide) ?_
        refine AOps.val (Y.neq rfl rfl) (by decide) ?_
        first | refine AOps.val (Y.move rfl rfl) (by decide) ?_ | refine AOps.moveU rfl (by decide) ?_
        refine AOps.splitD (d := 44) rfl (fun c44 => ?_) (fun c44 => ?_)
        · exact absurd rfl c44
        · refine AOps.guardRun (d := 44) rfl (by decide) rfl ?_
          first | refine AOps.val (Y.move rfl rfl) (by decide) ?_ | refine AOps.moveU rfl (by decide) ?_
          refine AOps.guardRun (d := 44) rfl (by decide) rfl ?_
          refine AOps.val (Y.len sl27 rfl (n := (outs l ins l.length).length) (congrArg some (List.length_map ..))) (by decide) ?_
          refine AOps.guardRun (d := 44) rfl (by decide) rfl ?_
          first | refine AOps.val (Y.move rfl rfl) (by decide) ?_ | refine AOps.moveU rfl (by decide) ?_
          refine AOps.guardRun (d := 44) rfl (by decide) rfl ?_
          refine AOps.val (Y.len sl27 rfl (n := (outs l ins l.length).length) (congrArg some (List.length_map ..))) (by decide) ?_
          refine AOps.guardRun (d := 44) rfl (by decide) rfl ?_
          refine AOps.val (Y.neq rfl rfl) (by decide) ?_
          refine AOps.val (Y.pick rfl rfl rfl) (by decide) ?_
          refine AOps.nil ?_
          refine AWp.condD rfl (fun c50 => ?_) (fun c50 => ?_)
          · exact absurd rfl c50
          · refine AWp.skip ?_
            refine AWp.seq ?_
            refine AWp.seq ?_
            refine AWp.region ?_
            first | refine AOps.val (Y.move rfl rfl) (by decide) ?_ | refine AOps.moveU rfl (by decide) ?_
            refine AOps.val (Y.len sl27 rfl (n := (outs l ins l.length).length) (congrArg some (List.length_map ..))) (by decide) ?_
            refine AOps.val (Y.move rfl rfl) (by decide) ?_
            refine AOps.nil ?_
            refine AWp.block ?_
            refine AWp.loop (fun (ix : Nat) => ⟨[(53, .v (.int .i64 ((ix : Int)))), (52, .v (.int .i64 (((outs l ins l.length).length : Int)))), (5, .fz 1 ((outs l ins l.length).map brow)), (7, .fz 1 ((outs l ins l.length).map brow))], []⟩) (fun ix => ix ≤ (outs l ins l.length).length) (fun ix => (outs l ins l.length).length - ix) (0) (by omega) (Le.mk (by repeat (first | exact SubL.nil | refine SubL.cons rfl ?_)) (by repeat (first | exact SubL.nil | refine SubL.cons rfl ?_))) (fun ix hI => ?_)
            have hol : (outs l ins l.length).length = l.length := outs_length (by omega)
            refine AWp.seq ?_
            refine AWp.region ?_
            refine AOps.val (Y.lss rfl rfl) (by decide) ?_
            refine AOps.nil ?_
            refine AWp.seq ?_
            refine AWp.condD rfl (fun c54 => ?_) (fun c54 => ?_)
            · refine AWp.skip ?_
              refine AWp.seq ?_
              refine AWp.block ?_
              refine AWp.seq ?_
              refine AWp.region ?_
              first | refine AOps.val (Y.move rfl rfl) (by decide) ?_ | refine AOps.moveU rfl (by decide) ?_
              first | refine AOps.val (Y.assign rfl rfl) (by decide) ?_ | refine AOps.assignU rfl (by decide) ?_
              refine AOps.nil ?_
              refine AWp.seq ?_
              refine AWp.regionS rfl (by kernel_rfl) ?_
              first | refine AHead.val (Y.move rfl rfl) (by decide) ?_ | refine AHead.moveU rfl (by decide) ?_
              first | refine AHead.val (Y.move rfl rfl) (by decide) ?_ | refine AHead.moveU rfl (by decide) ?_
              refine AHead.val (Y.indexF sl27 rfl rfl rfl (map_row (f := brow) false (by omega))) (by decide) ?_
              refine AHead.val (Y.load sh4 rfl rfl rfl rfl) (by decide) ?_
              first | refine AHead.val (Y.move rfl rfl) (by decide) ?_ | refine AHead.moveU rfl (by decide) ?_
              first | refine AHead.val (Y.move rfl rfl) (by decide) ?_ | refine AHead.moveU rfl (by decide) ?_
              refine AHead.val (Y.indexF sl27 rfl rfl rfl (map_row (f := brow) false (by omega))) (by decide) ?_
              refine AHead.val (Y.load sh4 rfl rfl rfl rfl) (by decide) ?_
              refine AHead.val (Y.neqB un4 rfl rfl) (by decide) ?_
              refine AHead.nil ?_
              refine AWp.cond rfl (fun c64 => ?_) (fun c64 => ?_)
              · exact absurd c64 (by simp)
              · refine AWp.skip ?_
                refine AWp.region ?_
                first | refine AOps.val (Y.addI rfl rfl (by omega)) (by decide) ?_ | refine AOps.val (Y.add rfl rfl rfl) (by decide) ?_
                first | refine AOps.val (Y.move rfl rfl) (by decide) ?_ | refine AOps.moveU rfl (by decide) ?_
                refine AOps.nil ?_
                exact ⟨ix + 1, by omega, by omega, Le.mk (by repeat (first | exact SubL.nil | refine SubL.cons rfl ?_)) (by repeat (first | exact SubL.nil | refine SubL.cons rfl ?_))⟩
            · refine AWp.exit ?_
              refine AWp.seq ?_
              refine AWp.region ?_
              refine AOps.val (Y.assign rfl rfl) (by decide) ?_
              refine AOps.nil ?_
              refine AWp.ret ?_
              exact ⟨_, _, rfl, rfl, rfl, rfl⟩

end Go.Proofs.Ytiehdnjcapjacaa
