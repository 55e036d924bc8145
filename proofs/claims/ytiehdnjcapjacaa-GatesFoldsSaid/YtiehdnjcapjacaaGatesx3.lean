/- The walk through the reference of folding. -/
import Derived.Test.YtiehdnjcapjacaaGatesx0
import Derived.Test.YtiehdnjcapjacaaGatesx1
import Derived.Test.YtiehdnjcapjacaaGatesx2
namespace Go.Proofs.Ytiehdnjcapjacaa
open Go Go.AW Go.Proofs



set_option maxHeartbeats 1000000 in
theorem folded_spec {l : List Gate} {keep : List Nat} (hl : l.length ≤ 1048576) (hkl0 : keep.length ≤ 1048576) (hgood : Good l) (hkeep : ∀ x ∈ keep, x < l.length) (hclean : Clean l) (hused : AllUsed l keep) : ACalls Try.prog 22 [.fz 3 (l.map Gate.row), .fz 1 (keep.map nrow)] [] [] (fun r o => r = .v (.bool true) ∧ o = []) := by
  refine ACalls.of Try.func22 rfl rfl rfl (n := 157) (by decide) (Nat.le_of_ble_eq_true rfl) ?_
  have hgl := fun (i : Nat) (h : i < l.length) => good_at hgood h
  have hkl := fun (i : Nat) (h : i < keep.length) => hkeep _ (mem_getD (d := 0) h)
  refine AWp.seq ?_
  refine AWp.region ?_
  refine AOps.val (Y.assign rfl rfl) (by decide) ?_
  refine AOps.nil ?_
  refine AWp.seq ?_
  refine AWp.region ?_
  refine AOps.val (Y.move rfl rfl) (by decide) ?_
  refine AOps.val (Y.len (n := l.length) sl22 rfl (congrArg some (List.length_map ..))) (by decide) ?_
  refine AOps.makeSlice (n := l.length) sl27 ze4 rfl rfl rfl rfl (by first | omega | (simp [-List.getD_eq_getElem?_getD]; done) | (simp [-List.getD_eq_getElem?_getD]; omega)) (by first | omega | (simp [-List.getD_eq_getElem?_getD]; done) | (simp [-List.getD_eq_getElem?_getD]; omega)) (by decide) ?_
  refine AOps.assignX rfl (by decide) ?_
  refine AOps.sh (Sh.adoptE (d := 5) (n := l.length) 105 ((List.replicate l.length false).map brow) rfl (by first | rfl | exact rep_map rfl) (len_map (by simp)) (by decide)) ?_
  refine AOps.nil ?_
  refine AWp.seq ?_
  refine AWp.seq ?_
  refine AWp.region ?_
  refine AOps.val (Y.assign rfl rfl) (by decide) ?_
  refine AOps.nil ?_
  refine AWp.block ?_
  refine AWp.loop2 (fun (i_3 : Nat) (used_3 : List Bool) => ⟨[(0, .fz 3 (l.map Gate.row)), (1, .fz 1 (keep.map nrow)), (5, .slc 105 1 0 l.length), (6, .v (.int .i64 (i_3 : Int)))], [(105, .rows 1 (used_3.map brow))]⟩) (fun (i_3 : Nat) (used_3 : List Bool) => (used_3.length = l.length) ∧ ((i_3 : Int) ≤ (keep.length : Nat)) ∧ (∀ x, x ∈ keep.take i_3 → used_3.getD x false = true)) (fun (i_3 : Nat) (used_3 : List Bool) => ((keep.length : Nat) - (i_3 : Int)).toNat) 0 (List.replicate l.length false) (⟨by first | omega | (simp [-List.getD_eq_getElem?_getD]; done) | (simp [-List.getD_eq_getElem?_getD]; omega), by first | omega | (simp [-List.getD_eq_getElem?_getD]; done) | (simp [-List.getD_eq_getElem?_getD]; omega), by simp⟩) (Le.mk (SubL.cons rfl (SubL.cons rfl (SubL.cons rfl (SubL.cons (look_int rfl (by first | rfl | omega)) (SubL.nil))))) (SubL.cons rfl (SubL.nil))) (fun i_3 used_3 hI3 => ?_)
  obtain ⟨hl105, hb3, hu⟩ := hI3
  refine AWp.seq ?_
  refine AWp.seq ?_
  refine AWp.region ?_
  refine AOps.val (Y.move rfl rfl) (by decide) ?_
  refine AOps.val (Y.move rfl rfl) (by decide) ?_
  refine AOps.val (Y.len (n := keep.length) sl42 rfl (congrArg some (List.length_map ..))) (by decide) ?_
  refine AOps.val (Y.lss rfl rfl) (by decide) ?_
  refine AOps.nil ?_
  refine AWp.condD rfl (fun c18 => ?_) (fun c18 => ?_)
  · have hk1 := hkl i_3 (by omega)
    refine AWp.skip ?_
    refine AWp.seq ?_
    refine AWp.block ?_
    refine AWp.region ?_
    refine AOps.val (Y.move rfl rfl) (by decide) ?_
    refine AOps.val (Y.move rfl rfl) (by decide) ?_
    refine AOps.val (Y.move rfl rfl) (by decide) ?_
    refine AOps.val (Y.indexF (m := i_3) sl42 rfl rfl (by first | rfl | omega) (row_getD (d := 0) (by first | omega | (simp [-List.getD_eq_getElem?_getD]; done) | (simp [-List.getD_eq_getElem?_getD]; omega)))) (by decide) ?_
    refine AOps.val (Y.load sh3 rfl rfl rfl rfl) (by decide) ?_
    refine AOps.val (Y.indexO (m := keep.getD i_3 0) sl27 rfl rfl (by first | rfl | omega) (by first | omega | (simp [-List.getD_eq_getElem?_getD]; done) | (simp [-List.getD_eq_getElem?_getD]; omega))) (by decide) ?_
    refine AOps.storeE ((used_3.set (keep.getD i_3 0) true).map brow) si4 rfl rfl rfl rfl rfl rfl rfl (row_getD0 (d := false) (by first | omega | (simp [-List.getD_eq_getElem?_getD]; done) | (simp [-List.getD_eq_getElem?_getD]; omega))) (Nat.le_of_ble_eq_true rfl) (set_map0 rfl) ?_
    refine AOps.nil ?_
    refine AWp.region ?_
    refine AOps.val (Y.move rfl rfl) (by decide) ?_
    refine AOps.val (Y.addI rfl rfl (by first | omega | (simp [-List.getD_eq_getElem?_getD]; done) | (simp [-List.getD_eq_getElem?_getD]; omega))) (by decide) ?_
    refine AOps.val (Y.assign rfl rfl) (by decide) ?_
    refine AOps.nil ?_
    exact ⟨i_3 + 1, used_3.set (keep.getD i_3 0) true, ⟨by first | omega | (simp [-List.getD_eq_getElem?_getD]; done) | (simp [-List.getD_eq_getElem?_getD]; omega), by first | omega | (simp [-List.getD_eq_getElem?_getD]; done) | (simp [-List.getD_eq_getElem?_getD]; omega), mark_take hu (by omega) (by omega)⟩, by omega, Le.mk (SubL.cons rfl (SubL.cons rfl (SubL.cons rfl (SubL.cons (look_int rfl (by first | rfl | omega)) (SubL.nil))))) (SubL.cons rfl (SubL.nil))⟩
  · refine AWp.exit ?_
    refine AWp.seq ?_
    refine AWp.seq ?_
    refine AWp.region ?_
    refine AOps.val (Y.assign rfl rfl) (by decide) ?_
    refine AOps.nil ?_
    refine AWp.block ?_
    refine AWp.loop2 (fun (i_7 : Nat) (used_7 : List Bool) => ⟨[(0, .fz 3 (l.map Gate.row)), (5, .slc 105 1 0 l.length), (7, .v (.int .i64 (i_7 : Int)))], [(105, .rows 1 (used_7.map brow))]⟩) (fun (i_7 : Nat) (used_7 : List Bool) => (used_7.length = l.length) ∧ ((i_7 : Int) ≤ (l.length : Nat)) ∧ (∀ x, x ∈ keep → used_7.getD x false = true) ∧ (∀ j, j < i_7 → (4 ≤ (l.getD j default).kind → used_7.getD (l.getD j default).a.toNat false = true) ∧ (5 ≤ (l.getD j default).kind → used_7.getD (l.getD j default).b.toNat false = true))) (fun (i_7 : Nat) (used_7 : List Bool) => ((l.length : Nat) - (i_7 : Int)).toNat) 0 used_3 (⟨by first | omega | (simp [-List.getD_eq_getElem?_getD]; done) | (simp [-List.getD_eq_getElem?_getD]; omega), by first | omega | (simp [-List.getD_eq_getElem?_getD]; done) | (simp [-List.getD_eq_getElem?_getD]; omega), mark_all hu (by omega), by intro j h; omega⟩) (Le.mk (SubL.cons rfl (SubL.cons rfl (SubL.cons (look_int rfl (by first | rfl | omega)) (SubL.nil)))) (SubL.cons rfl (SubL.nil))) (fun i_7 used_7 hI7 => ?_)
    obtain ⟨hl105, hb7, hv, hw⟩ := hI7
    refine AWp.seq ?_
    refine AWp.seq ?_
    refine AWp.region ?_
    refine AOps.val (Y.move rfl rfl) (by decide) ?_
    refine AOps.val (Y.move rfl rfl) (by decide) ?_
    refine AOps.val (Y.len (n := l.length) sl22 rfl (congrArg some (List.length_map ..))) (by decide) ?_
    refine AOps.val (Y.lss rfl rfl) (by decide) ?_
    refine AOps.nil ?_
    refine AWp.condD rfl (fun c30 => ?_) (fun c30 => ?_)
    · have hg1 := hgl i_7 (by omega)
      simp only [okGate, okArg, operands] at hg1
      have hc1 := clean_at hclean (show i_7 < l.length by omega)
      refine AWp.skip ?_
      refine AWp.seq ?_
      refine AWp.block ?_
      refine AWp.seq ?_
      refine AWp.region ?_
      refine AOps.val (Y.move rfl rfl) (by decide) ?_
      refine AOps.val (Y.move rfl rfl) (by decide) ?_
      refine AOps.val (Y.indexF (m := i_7) sl22 rfl rfl (by first | rfl | omega) (row_getD (d := default) (by first | omega | (simp [-List.getD_eq_getElem?_getD]; done) | (simp [-List.getD_eq_getElem?_getD]; omega)))) (by decide) ?_
      refine AOps.val (Y.loadA sh38 rfl rfl (Nat.le_of_ble_eq_true rfl) rfl rfl) (by decide) ?_
      refine AOps.alloc 108 ze38 rfl rfl (by decide) ?_
      refine AOps.storeC si38 rfl rfl rfl rfl rfl rfl (Nat.le_of_ble_eq_true rfl) rfl ?_
      refine AOps.nil ?_
      refine AWp.join1 (fun (used_j14 : List Bool) => ⟨[(0, .fz 3 (l.map Gate.row)), (5, .slc 105 1 0 l.length), (7, .v (.int .i64 (i_7 : Int))), (8, .ptr 108 0 0 0)], [(105, .rows 1 (used_j14.map brow)), (108, .cells [.v (.int .i64 ((l.getD i_7 default).kind)), .v (.int .i64 ((l.getD i_7 default).a)), .v (.int .i64 ((l.getD i_7 default).b))])]⟩) (fun (used_j14 : List Bool) => (used_j14.length = l.length) ∧ (((4 ≤ ((l.getD i_7 default).kind)) ∧ (¬ (((l.getD (((l.getD i_7 default).a).toNat) default).kind) < 3)) ∧ (((l.getD i_7 default).kind) = 4) ∧ (¬ (((l.getD (((l.getD i_7 default).a).toNat) default).kind) = 4)) ∧ (used_j14 = (used_7.set (((l.getD i_7 default).a).toNat) true))) ∨ ((4 ≤ ((l.getD i_7 default).kind)) ∧ (¬ (((l.getD (((l.getD i_7 default).a).toNat) default).kind) < 3)) ∧ (¬ (((l.getD i_7 default).kind) = 4)) ∧ (used_j14 = (used_7.set (((l.getD i_7 default).a).toNat) true))) ∨ ((¬ (4 ≤ ((l.getD i_7 default).kind))) ∧ (used_j14 = used_7)))) ?_ (fun used_j14 hJx14 => ?_)
      · refine AWp.seq ?_
        refine AWp.region ?_
        refine AOps.val (Y.fieldAddr fl38_0 rfl rfl) (by decide) ?_
        refine AOps.val (Y.load sh3 rfl rfl rfl rfl) (by decide) ?_
        refine AOps.val (Y.geq rfl rfl) (by decide) ?_
        refine AOps.nil ?_
        refine AWp.condD rfl (fun c39 => ?_) (fun c39 => ?_)
        · refine AWp.seq ?_
          refine AWp.region ?_
          refine AOps.val (Y.move rfl rfl) (by decide) ?_
          refine AOps.val (Y.fieldAddr fl38_1 rfl rfl) (by decide) ?_
          refine AOps.val (Y.load sh3 rfl rfl rfl rfl) (by decide) ?_
          refine AOps.val (Y.indexO (m := ((l.getD i_7 default).a).toNat) sl27 rfl rfl (by first | omega | (simp [-List.getD_eq_getElem?_getD]; done) | (simp [-List.getD_eq_getElem?_getD]; omega)) (by first | omega | (simp [-List.getD_eq_getElem?_getD]; done) | (simp [-List.getD_eq_getElem?_getD]; omega))) (by decide) ?_
          refine AOps.storeE ((used_7.set (((l.getD i_7 default).a).toNat) true).map brow) si4 rfl rfl rfl rfl rfl rfl rfl (row_getD0 (d := false) (by first | omega | (simp [-List.getD_eq_getElem?_getD]; done) | (simp [-List.getD_eq_getElem?_getD]; omega))) (Nat.le_of_ble_eq_true rfl) (set_map0 rfl) ?_
          refine AOps.nil ?_
          refine AWp.seq ?_
          refine AWp.region ?_
          refine AOps.val (Y.move rfl rfl) (by decide) ?_
          refine AOps.val (Y.fieldAddr fl38_1 rfl rfl) (by decide) ?_
          refine AOps.val (Y.load sh3 rfl rfl rfl rfl) (by decide) ?_
          refine AOps.val (Y.indexF (m := ((l.getD i_7 default).a).toNat) sl22 rfl rfl (by first | omega | (simp [-List.getD_eq_getElem?_getD]; done) | (simp [-List.getD_eq_getElem?_getD]; omega)) (row_getD (d := default) (by first | omega | (simp [-List.getD_eq_getElem?_getD]; done) | (simp [-List.getD_eq_getElem?_getD]; omega)))) (by decide) ?_
          refine AOps.val (Y.fieldAddr fl38_0 rfl rfl) (by decide) ?_
          refine AOps.val (Y.load sh3 rfl rfl rfl rfl) (by decide) ?_
          refine AOps.val (Y.lss rfl rfl) (by decide) ?_
          refine AOps.val (Y.move rfl rfl) (by decide) ?_
          refine AOps.splitD (d := 51) rfl (fun c51 => ?_) (fun c51 => ?_)
          · refine AOps.guardSkipV (d := 51) rfl (by decide) (by decide) rfl rfl ?_
            refine AOps.guardSkipV (d := 51) rfl (by decide) (by decide) rfl rfl ?_
            refine AOps.guardSkipV (d := 51) rfl (by decide) (by decide) rfl rfl ?_
            refine AOps.guardSkipV (d := 51) rfl (by decide) (by decide) rfl rfl ?_
            refine AOps.guardSkipV (d := 55) rfl (by decide) (by decide) rfl rfl ?_
            refine AOps.guardSkipV (d := 55) rfl (by decide) (by decide) rfl rfl ?_
            refine AOps.guardSkipV (d := 55) rfl (by decide) (by decide) rfl rfl ?_
            refine AOps.guardSkipV (d := 55) rfl (by decide) (by decide) rfl rfl ?_
            refine AOps.guardSkipV (d := 55) rfl (by decide) (by decide) rfl rfl ?_
            refine AOps.guardSkipV (d := 55) rfl (by decide) (by decide) rfl rfl ?_
            refine AOps.guardSkipV (d := 55) rfl (by decide) (by decide) rfl rfl ?_
            refine AOps.guardSkipV (d := 51) rfl (by decide) (by decide) rfl rfl ?_
            refine AOps.val (Y.pick rfl rfl rfl) (by decide) ?_
            refine AOps.nil ?_
            refine AWp.condT rfl ?_
            refine AWp.seq ?_
            refine AWp.region ?_
            refine AOps.val (Y.assign rfl rfl) (by decide) ?_
            refine AOps.nil ?_
            refine AWp.ret ?_
            exact ⟨_, _, rfl, rfl, (cg1 (fun (z0 : Bool) => X.v (.bool z0)) (by exfalso; first | omega | exact clean_two hclean (show i_7 < l.length by omega) (show k_19 < i_7 by omega) (by omega) (by omega) (by omega) | exact used_end (by omega) hv hw hused (show i_25 < l.length by omega) (by assumption) (by assumption) : false = true) : X.v (.bool false) = X.v (.bool true)), rfl⟩
          · refine AOps.guardRun (d := 51) rfl (by decide) rfl ?_
            refine AOps.val (Y.fieldAddr fl38_0 rfl rfl) (by decide) ?_
            refine AOps.guardRun (d := 51) rfl (by decide) rfl ?_
            refine AOps.val (Y.load sh3 rfl rfl rfl rfl) (by decide) ?_
            refine AOps.guardRun (d := 51) rfl (by decide) rfl ?_
            refine AOps.val (Y.eql rfl rfl) (by decide) ?_
            refine AOps.guardRun (d := 51) rfl (by decide) rfl ?_
            refine AOps.val (Y.move rfl rfl) (by decide) ?_
            refine AOps.splitD (d := 55) rfl (fun c55 => ?_) (fun c55 => ?_)
            · refine AOps.guardRun (d := 55) rfl (by decide) rfl ?_
              refine AOps.val (Y.move rfl rfl) (by decide) ?_
              refine AOps.guardRun (d := 55) rfl (by decide) rfl ?_
              refine AOps.val (Y.fieldAddr fl38_1 rfl rfl) (by decide) ?_
              refine AOps.guardRun (d := 55) rfl (by decide) rfl ?_
              refine AOps.val (Y.load sh3 rfl rfl rfl rfl) (by decide) ?_
              refine AOps.guardRun (d := 55) rfl (by decide) rfl ?_
              refine AOps.val (Y.indexF (m := ((l.getD i_7 default).a).toNat) sl22 rfl rfl (by first | omega | (simp [-List.getD_eq_getElem?_getD]; done) | (simp [-List.getD_eq_getElem?_getD]; omega)) (row_getD (d := default) (by first | omega | (simp [-List.getD_eq_getElem?_getD]; done) | (simp [-List.getD_eq_getElem?_getD]; omega)))) (by decide) ?_
              refine AOps.guardRun (d := 55) rfl (by decide) rfl ?_
              refine AOps.val (Y.fieldAddr fl38_0 rfl rfl) (by decide) ?_
              refine AOps.guardRun (d := 55) rfl (by decide) rfl ?_
              refine AOps.val (Y.load sh3 rfl rfl rfl rfl) (by decide) ?_
              refine AOps.guardRun (d := 55) rfl (by decide) rfl ?_
              refine AOps.val (Y.eql rfl rfl) (by decide) ?_
              refine AOps.guardRun (d := 51) rfl (by decide) rfl ?_
              refine AOps.val (Y.pick rfl rfl rfl) (by decide) ?_
              refine AOps.val (Y.pick rfl rfl rfl) (by decide) ?_
              refine AOps.nil ?_
              refine AWp.condD rfl (fun c64 => ?_) (fun c64 => ?_)
              · refine AWp.seq ?_
                refine AWp.region ?_
                refine AOps.val (Y.assign rfl rfl) (by decide) ?_
                refine AOps.nil ?_
                refine AWp.ret ?_
                exact ⟨_, _, rfl, rfl, (cg1 (fun (z0 : Bool) => X.v (.bool z0)) (by exfalso; first | omega | exact clean_two hclean (show i_7 < l.length by omega) (show k_19 < i_7 by omega) (by omega) (by omega) (by omega) | exact used_end (by omega) hv hw hused (show i_25 < l.length by omega) (by assumption) (by assumption) : false = true) : X.v (.bool false) = X.v (.bool true)), rfl⟩
              · refine AWp.skip ?_
                exact ⟨used_7.set (((l.getD i_7 default).a).toNat) true, ⟨by first | omega | (simp [-List.getD_eq_getElem?_getD]; done) | (simp [-List.getD_eq_getElem?_getD]; omega), .inl ⟨c39, c51, c55, c64, rfl⟩⟩, Le.mk (SubL.cons rfl (SubL.cons rfl (SubL.cons rfl (SubL.cons rfl (SubL.nil))))) (SubL.cons rfl (SubL.cons rfl (SubL.nil)))⟩
            · refine AOps.guardSkipV (d := 55) rfl (by decide) (by decide) rfl rfl ?_
              refine AOps.guardSkipV (d := 55) rfl (by decide) (by decide) rfl rfl ?_
              refine AOps.guardSkipV (d := 55) rfl (by decide) (by decide) rfl rfl ?_
              refine AOps.guardSkipV (d := 55) rfl (by decide) (by decide) rfl rfl ?_
              refine AOps.guardSkipV (d := 55) rfl (by decide) (by decide) rfl rfl ?_
              refine AOps.guardSkipV (d := 55) rfl (by decide) (by decide) rfl rfl ?_
              refine AOps.guardSkipV (d := 55) rfl (by decide) (by decide) rfl rfl ?_
              refine AOps.guardRun (d := 51) rfl (by decide) rfl ?_
              refine AOps.val (Y.pick rfl rfl rfl) (by decide) ?_
              refine AOps.val (Y.pick rfl rfl rfl) (by decide) ?_
              refine AOps.nil ?_
              refine AWp.condF rfl ?_
              refine AWp.skip ?_
              exact ⟨used_7.set (((l.getD i_7 default).a).toNat) true, ⟨by first | omega | (simp [-List.getD_eq_getElem?_getD]; done) | (simp [-List.getD_eq_getElem?_getD]; omega), .inr (.inl ⟨c39, c51, c55, rfl⟩)⟩, Le.mk (SubL.cons rfl (SubL.cons rfl (SubL.cons rfl (SubL.cons rfl (SubL.nil))))) (SubL.cons rfl (SubL.cons rfl (SubL.nil)))⟩
        · refine AWp.skip ?_
          exact ⟨used_7, ⟨by first | omega | (simp [-List.getD_eq_getElem?_getD]; done) | (simp [-List.getD_eq_getElem?_getD]; omega), .inr (.inr (⟨c39, rfl⟩))⟩, Le.mk (SubL.cons rfl (SubL.cons rfl (SubL.cons rfl (SubL.cons rfl (SubL.nil))))) (SubL.cons rfl (SubL.cons rfl (SubL.nil)))⟩
      · obtain ⟨hlj14_105, hJ14⟩ := hJx14
        refine AWp.join1 (fun (used_j18 : List Bool) => ⟨[(0, .fz 3 (l.map Gate.row)), (5, .slc 105 1 0 l.length), (7, .v (.int .i64 (i_7 : Int))), (8, .ptr 108 0 0 0)], [(105, .rows 1 (used_j18.map brow)), (108, .cells [.v (.int .i64 ((l.getD i_7 default).kind)), .v (.int .i64 ((l.getD i_7 default).a)), .v (.int .i64 ((l.getD i_7 default).b))])]⟩) (fun (used_j18 : List Bool) => (used_j18.length = l.length) ∧ (Marks l used_7 used_j18 i_7)) ?_ (fun used_j18 hJx18 => ?_)
        · refine AWp.seq ?_
          refine AWp.region ?_
          refine AOps.val (Y.fieldAddr fl38_0 rfl rfl) (by decide) ?_
          refine AOps.val (Y.load sh3 rfl rfl rfl rfl) (by decide) ?_
          refine AOps.val (Y.geq rfl rfl) (by decide) ?_
          refine AOps.nil ?_
          refine AWp.condD rfl (fun c67 => ?_) (fun c67 => ?_)
          · refine AWp.seq ?_
            refine AWp.region ?_
            refine AOps.val (Y.move rfl rfl) (by decide) ?_
            refine AOps.val (Y.fieldAddr fl38_2 rfl rfl) (by decide) ?_
            refine AOps.val (Y.load sh3 rfl rfl rfl rfl) (by decide) ?_
            refine AOps.val (Y.indexO (m := ((l.getD i_7 default).b).toNat) sl27 rfl rfl (by first | omega | (simp [-List.getD_eq_getElem?_getD]; done) | (simp [-List.getD_eq_getElem?_getD]; omega)) (by first | omega | (simp [-List.getD_eq_getElem?_getD]; done) | (simp [-List.getD_eq_getElem?_getD]; omega))) (by decide) ?_
            refine AOps.storeE ((used_j14.set (((l.getD i_7 default).b).toNat) true).map brow) si4 rfl rfl rfl rfl rfl rfl rfl (row_getD0 (d := false) (by first | omega | (simp [-List.getD_eq_getElem?_getD]; done) | (simp [-List.getD_eq_getElem?_getD]; omega))) (Nat.le_of_ble_eq_true rfl) (set_map0 rfl) ?_
            refine AOps.nil ?_
            refine AWp.seq ?_
            refine AWp.region ?_
            refine AOps.val (Y.move rfl rfl) (by decide) ?_
            refine AOps.val (Y.fieldAddr fl38_2 rfl rfl) (by decide) ?_
            refine AOps.val (Y.load sh3 rfl rfl rfl rfl) (by decide) ?_
            refine AOps.val (Y.indexF (m := ((l.getD i_7 default).b).toNat) sl22 rfl rfl (by first | omega | (simp [-List.getD_eq_getElem?_getD]; done) | (simp [-List.getD_eq_getElem?_getD]; omega)) (row_getD (d := default) (by first | omega | (simp [-List.getD_eq_getElem?_getD]; done) | (simp [-List.getD_eq_getElem?_getD]; omega)))) (by decide) ?_
            refine AOps.val (Y.fieldAddr fl38_0 rfl rfl) (by decide) ?_
            refine AOps.val (Y.load sh3 rfl rfl rfl rfl) (by decide) ?_
            refine AOps.val (Y.lss rfl rfl) (by decide) ?_
            refine AOps.val (Y.move rfl rfl) (by decide) ?_
            refine AOps.splitD (d := 79) rfl (fun c79 => ?_) (fun c79 => ?_)
            · refine AOps.guardSkipV (d := 79) rfl (by decide) (by decide) rfl rfl ?_
              refine AOps.guardSkipV (d := 79) rfl (by decide) (by decide) rfl rfl ?_
              refine AOps.guardSkipV (d := 79) rfl (by decide) (by decide) rfl rfl ?_
              refine AOps.guardSkipV (d := 79) rfl (by decide) (by decide) rfl rfl ?_
              refine AOps.guardSkipV (d := 79) rfl (by decide) (by decide) rfl rfl ?_
              refine AOps.val (Y.pick rfl rfl rfl) (by decide) ?_
              refine AOps.nil ?_
              refine AWp.condT rfl ?_
              refine AWp.seq ?_
              refine AWp.region ?_
              refine AOps.val (Y.assign rfl rfl) (by decide) ?_
              refine AOps.nil ?_
              refine AWp.ret ?_
              exact ⟨_, _, rfl, rfl, (cg1 (fun (z0 : Bool) => X.v (.bool z0)) (by exfalso; first | omega | exact clean_two hclean (show i_7 < l.length by omega) (show k_19 < i_7 by omega) (by omega) (by omega) (by omega) | exact used_end (by omega) hv hw hused (show i_25 < l.length by omega) (by assumption) (by assumption) : false = true) : X.v (.bool false) = X.v (.bool true)), rfl⟩
            · refine AOps.guardRun (d := 79) rfl (by decide) rfl ?_
              refine AOps.val (Y.fieldAddr fl38_1 rfl rfl) (by decide) ?_
              refine AOps.guardRun (d := 79) rfl (by decide) rfl ?_
              refine AOps.val (Y.load sh3 rfl rfl rfl rfl) (by decide) ?_
              refine AOps.guardRun (d := 79) rfl (by decide) rfl ?_
              refine AOps.val (Y.fieldAddr fl38_2 rfl rfl) (by decide) ?_
              refine AOps.guardRun (d := 79) rfl (by decide) rfl ?_
              refine AOps.val (Y.load sh3 rfl rfl rfl rfl) (by decide) ?_
              refine AOps.guardRun (d := 79) rfl (by decide) rfl ?_
              refine AOps.val (Y.eql rfl rfl) (by decide) ?_
              refine AOps.val (Y.pick rfl rfl rfl) (by decide) ?_
              refine AOps.nil ?_
              refine AWp.condD rfl (fun c85 => ?_) (fun c85 => ?_)
              · refine AWp.seq ?_
                refine AWp.region ?_
                refine AOps.val (Y.assign rfl rfl) (by decide) ?_
                refine AOps.nil ?_
                refine AWp.ret ?_
                exact ⟨_, _, rfl, rfl, (cg1 (fun (z0 : Bool) => X.v (.bool z0)) (by exfalso; first | omega | exact clean_two hclean (show i_7 < l.length by omega) (show k_19 < i_7 by omega) (by omega) (by omega) (by omega) | exact used_end (by omega) hv hw hused (show i_25 < l.length by omega) (by assumption) (by assumption) : false = true) : X.v (.bool false) = X.v (.bool true)), rfl⟩
              · refine AWp.skip ?_
                exact ⟨used_j14.set (((l.getD i_7 default).b).toNat) true, ⟨by first | omega | (simp [-List.getD_eq_getElem?_getD]; done) | (simp [-List.getD_eq_getElem?_getD]; omega), by rcases hJ14 with ⟨_, _, _, _, rfl⟩ | ⟨_, _, _, rfl⟩ | ⟨_, rfl⟩ <;> first | exact marks_two (by omega) (by omega) | exact marks_one (by omega) (by omega) | exact marks_none (by omega) | (exfalso; omega)⟩, Le.mk (SubL.cons rfl (SubL.cons rfl (SubL.cons rfl (SubL.cons rfl (SubL.nil))))) (SubL.cons rfl (SubL.cons rfl (SubL.nil)))⟩
          · refine AWp.skip ?_
            exact ⟨used_j14, ⟨by first | omega | (simp [-List.getD_eq_getElem?_getD]; done) | (simp [-List.getD_eq_getElem?_getD]; omega), by rcases hJ14 with ⟨_, _, _, _, rfl⟩ | ⟨_, _, _, rfl⟩ | ⟨_, rfl⟩ <;> first | exact marks_two (by omega) (by omega) | exact marks_one (by omega) (by omega) | exact marks_none (by omega) | (exfalso; omega)⟩, Le.mk (SubL.cons rfl (SubL.cons rfl (SubL.cons rfl (SubL.cons rfl (SubL.nil))))) (SubL.cons rfl (SubL.cons rfl (SubL.nil)))⟩
        · obtain ⟨hlj18_105, hJ18⟩ := hJx18
          have hm := hJ18
          refine AWp.seq ?_
          refine AWp.region ?_
          refine AOps.val (Y.assign rfl rfl) (by decide) ?_
          refine AOps.nil ?_
          refine AWp.block ?_
          refine AWp.loop1 (fun (k_19 : Nat) => ⟨[(0, .fz 3 (l.map Gate.row)), (5, .slc 105 1 0 l.length), (7, .v (.int .i64 (i_7 : Int))), (8, .ptr 108 0 0 0), (9, .v (.int .i64 (k_19 : Int)))], [(105, .rows 1 (used_j18.map brow)), (108, .cells [.v (.int .i64 ((l.getD i_7 default).kind)), .v (.int .i64 ((l.getD i_7 default).a)), .v (.int .i64 ((l.getD i_7 default).b))])]⟩) (fun (k_19 : Nat) => ((k_19 : Int) ≤ (i_7 : Int))) (fun (k_19 : Nat) => ((i_7 : Int) - (k_19 : Int)).toNat) 0 (by first | omega | (simp [-List.getD_eq_getElem?_getD]; done) | (simp [-List.getD_eq_getElem?_getD]; omega)) (Le.mk (SubL.cons rfl (SubL.cons rfl (SubL.cons rfl (SubL.cons rfl (SubL.cons (look_int rfl (by first | rfl | omega)) (SubL.nil)))))) (SubL.cons rfl (SubL.cons rfl (SubL.nil)))) (fun k_19 hI19 => ?_)
          have hb19 := hI19
          refine AWp.seq ?_
          refine AWp.seq ?_
          refine AWp.region ?_
          refine AOps.val (Y.move rfl rfl) (by decide) ?_
          refine AOps.val (Y.move rfl rfl) (by decide) ?_
          refine AOps.val (Y.lss rfl rfl) (by decide) ?_
          refine AOps.nil ?_
          refine AWp.condD rfl (fun c88 => ?_) (fun c88 => ?_)
          · refine AWp.skip ?_
            refine AWp.join0 (⟨[(0, .fz 3 (l.map Gate.row)), (5, .slc 105 1 0 l.length), (7, .v (.int .i64 (i_7 : Int))), (8, .ptr 108 0 0 0), (9, .v (.int .i64 (k_19 : Int)))], [(105, .rows 1 (used_j18.map brow)), (108, .cells [.v (.int .i64 ((l.getD i_7 default).kind)), .v (.int .i64 ((l.getD i_7 default).a)), .v (.int .i64 ((l.getD i_7 default).b))])]⟩) (((((l.getD i_7 default).kind) = ((l.getD k_19 default).kind)) ∧ (((l.getD i_7 default).kind) ≠ 3) ∧ (((l.getD i_7 default).a) = ((l.getD k_19 default).a)) ∧ (¬ (((l.getD i_7 default).b) = ((l.getD k_19 default).b))) ∧ (5 ≤ ((l.getD i_7 default).kind)) ∧ (((l.getD i_7 default).a) = ((l.getD k_19 default).b)) ∧ (¬ (((l.getD i_7 default).b) = ((l.getD k_19 default).a)))) ∨ ((((l.getD i_7 default).kind) = ((l.getD k_19 default).kind)) ∧ (((l.getD i_7 default).kind) ≠ 3) ∧ (((l.getD i_7 default).a) = ((l.getD k_19 default).a)) ∧ (¬ (((l.getD i_7 default).b) = ((l.getD k_19 default).b))) ∧ (5 ≤ ((l.getD i_7 default).kind)) ∧ (¬ (((l.getD i_7 default).a) = ((l.getD k_19 default).b)))) ∨ ((((l.getD i_7 default).kind) = ((l.getD k_19 default).kind)) ∧ (((l.getD i_7 default).kind) ≠ 3) ∧ (((l.getD i_7 default).a) = ((l.getD k_19 default).a)) ∧ (¬ (((l.getD i_7 default).b) = ((l.getD k_19 default).b))) ∧ (¬ (5 ≤ ((l.getD i_7 default).kind)))) ∨ ((((l.getD i_7 default).kind) = ((l.getD k_19 default).kind)) ∧ (((l.getD i_7 default).kind) ≠ 3) ∧ (¬ (((l.getD i_7 default).a) = ((l.getD k_19 default).a))) ∧ (5 ≤ ((l.getD i_7 default).kind)) ∧ (((l.getD i_7 default).a) = ((l.getD k_19 default).b)) ∧ (¬ (((l.getD i_7 default).b) = ((l.getD k_19 default).a)))) ∨ ((((l.getD i_7 default).kind) = ((l.getD k_19 default).kind)) ∧ (((l.getD i_7 default).kind) ≠ 3) ∧ (¬ (((l.getD i_7 default).a) = ((l.getD k_19 default).a))) ∧ (5 ≤ ((l.getD i_7 default).kind)) ∧ (¬ (((l.getD i_7 default).a) = ((l.getD k_19 default).b)))) ∨ ((((l.getD i_7 default).kind) = ((l.getD k_19 default).kind)) ∧ (((l.getD i_7 default).kind) ≠ 3) ∧ (¬ (((l.getD i_7 default).a) = ((l.getD k_19 default).a))) ∧ (¬ (5 ≤ ((l.getD i_7 default).kind)))) ∨ ((((l.getD i_7 default).kind) = ((l.getD k_19 default).kind)) ∧ (¬ (((l.getD i_7 default).kind) ≠ 3))) ∨ ((¬ (((l.getD i_7 default).kind) = ((l.getD k_19 default).kind))))) ?_ (fun hJ20 => ?_)
            · refine AWp.block ?_
              refine AWp.seq ?_
              refine AWp.region ?_
              refine AOps.val (Y.move rfl rfl) (by decide) ?_
              refine AOps.val (Y.move rfl rfl) (by decide) ?_
              refine AOps.val (Y.indexF (m := k_19) sl22 rfl rfl (by first | rfl | omega) (row_getD (d := default) (by first | omega | (simp [-List.getD_eq_getElem?_getD]; done) | (simp [-List.getD_eq_getElem?_getD]; omega)))) (by decide) ?_
              refine AOps.val (Y.loadA sh38 rfl rfl (Nat.le_of_ble_eq_true rfl) rfl rfl) (by decide) ?_
              refine AOps.alloc 110 ze38 rfl rfl (by decide) ?_
              refine AOps.storeC si38 rfl rfl rfl rfl rfl rfl (Nat.le_of_ble_eq_true rfl) rfl ?_
              refine AOps.nil ?_
              refine AWp.seq ?_
              refine AWp.region ?_
              refine AOps.val (Y.fieldAddr fl38_0 rfl rfl) (by decide) ?_
              refine AOps.val (Y.load sh3 rfl rfl rfl rfl) (by decide) ?_
              refine AOps.val (Y.fieldAddr fl38_0 rfl rfl) (by decide) ?_
              refine AOps.val (Y.load sh3 rfl rfl rfl rfl) (by decide) ?_
              refine AOps.val (Y.eql rfl rfl) (by decide) ?_
              refine AOps.val (Y.move rfl rfl) (by decide) ?_
              refine AOps.splitD (d := 100) rfl (fun c100 => ?_) (fun c100 => ?_)
              · refine AOps.guardRun (d := 100) rfl (by decide) rfl ?_
                refine AOps.val (Y.fieldAddr fl38_0 rfl rfl) (by decide) ?_
                refine AOps.guardRun (d := 100) rfl (by decide) rfl ?_
                refine AOps.val (Y.load sh3 rfl rfl rfl rfl) (by decide) ?_
                refine AOps.guardRun (d := 100) rfl (by decide) rfl ?_
                refine AOps.val (Y.neq rfl rfl) (by decide) ?_
                refine AOps.val (Y.pick rfl rfl rfl) (by decide) ?_
                refine AOps.val (Y.move rfl rfl) (by decide) ?_
                refine AOps.splitD (d := 105) rfl (fun c105 => ?_) (fun c105 => ?_)
                · refine AOps.guardRun (d := 105) rfl (by decide) rfl ?_
                  refine AOps.val (Y.fieldAddr fl38_1 rfl rfl) (by decide) ?_
                  refine AOps.guardRun (d := 105) rfl (by decide) rfl ?_
                  refine AOps.val (Y.load sh3 rfl rfl rfl rfl) (by decide) ?_
                  refine AOps.guardRun (d := 105) rfl (by decide) rfl ?_
                  refine AOps.val (Y.fieldAddr fl38_1 rfl rfl) (by decide) ?_
                  refine AOps.guardRun (d := 105) rfl (by decide) rfl ?_
                  refine AOps.val (Y.load sh3 rfl rfl rfl rfl) (by decide) ?_
                  refine AOps.guardRun (d := 105) rfl (by decide) rfl ?_
                  refine AOps.val (Y.eql rfl rfl) (by decide) ?_
                  refine AOps.guardRun (d := 105) rfl (by decide) rfl ?_
                  refine AOps.val (Y.move rfl rfl) (by decide) ?_
                  refine AOps.splitD (d := 111) rfl (fun c111 => ?_) (fun c111 => ?_)
                  · refine AOps.guardRun (d := 111) rfl (by decide) rfl ?_
                    refine AOps.val (Y.fieldAddr fl38_2 rfl rfl) (by decide) ?_
                    refine AOps.guardRun (d := 111) rfl (by decide) rfl ?_
                    refine AOps.val (Y.load sh3 rfl rfl rfl rfl) (by decide) ?_
                    refine AOps.guardRun (d := 111) rfl (by decide) rfl ?_
                    refine AOps.val (Y.fieldAddr fl38_2 rfl rfl) (by decide) ?_
                    refine AOps.guardRun (d := 111) rfl (by decide) rfl ?_
                    refine AOps.val (Y.load sh3 rfl rfl rfl rfl) (by decide) ?_
                    refine AOps.guardRun (d := 111) rfl (by decide) rfl ?_
                    refine AOps.val (Y.eql rfl rfl) (by decide) ?_
                    refine AOps.guardRun (d := 105) rfl (by decide) rfl ?_
                    refine AOps.val (Y.pick rfl rfl rfl) (by decide) ?_
                    refine AOps.guardRun (d := 105) rfl (by decide) rfl ?_
                    refine AOps.val (Y.move rfl rfl) (by decide) ?_
                    refine AOps.splitD (d := 118) rfl (fun c118 => ?_) (fun c118 => ?_)
                    · refine AOps.guardSkipV (d := 118) rfl (by decide) (by decide) rfl rfl ?_
                      refine AOps.guardSkipV (d := 118) rfl (by decide) (by decide) rfl rfl ?_
                      refine AOps.guardSkipV (d := 118) rfl (by decide) (by decide) rfl rfl ?_
                      refine AOps.guardSkipV (d := 118) rfl (by decide) (by decide) rfl rfl ?_
                      refine AOps.guardSkipV (d := 122) rfl (by decide) (by decide) rfl rfl ?_
                      refine AOps.guardSkipV (d := 122) rfl (by decide) (by decide) rfl rfl ?_
                      refine AOps.guardSkipV (d := 122) rfl (by decide) (by decide) rfl rfl ?_
                      refine AOps.guardSkipV (d := 122) rfl (by decide) (by decide) rfl rfl ?_
                      refine AOps.guardSkipV (d := 122) rfl (by decide) (by decide) rfl rfl ?_
                      refine AOps.guardSkipV (d := 118) rfl (by decide) (by decide) rfl rfl ?_
                      refine AOps.guardSkipV (d := 118) rfl (by decide) (by decide) rfl rfl ?_
                      refine AOps.guardSkipV (d := 129) rfl (by decide) (by decide) rfl rfl ?_
                      refine AOps.guardSkipV (d := 129) rfl (by decide) (by decide) rfl rfl ?_
                      refine AOps.guardSkipV (d := 129) rfl (by decide) (by decide) rfl rfl ?_
                      refine AOps.guardSkipV (d := 129) rfl (by decide) (by decide) rfl rfl ?_
                      refine AOps.guardSkipV (d := 129) rfl (by decide) (by decide) rfl rfl ?_
                      refine AOps.guardSkipV (d := 118) rfl (by decide) (by decide) rfl rfl ?_
                      refine AOps.guardRun (d := 105) rfl (by decide) rfl ?_
                      refine AOps.val (Y.pick rfl rfl rfl) (by decide) ?_
                      refine AOps.val (Y.pick rfl rfl rfl) (by decide) ?_
                      refine AOps.nil ?_
                      refine AWp.condT rfl ?_
                      refine AWp.seq ?_
                      refine AWp.region ?_
                      refine AOps.val (Y.assign rfl rfl) (by decide) ?_
                      refine AOps.nil ?_
                      refine AWp.ret ?_
                      exact ⟨_, _, rfl, rfl, (cg1 (fun (z0 : Bool) => X.v (.bool z0)) (by exfalso; first | omega | exact clean_two hclean (show i_7 < l.length by omega) (show k_19 < i_7 by omega) (by omega) (by omega) (by omega) | exact used_end (by omega) hv hw hused (show i_25 < l.length by omega) (by assumption) (by assumption) : false = true) : X.v (.bool false) = X.v (.bool true)), rfl⟩
                    · refine AOps.guardRun (d := 118) rfl (by decide) rfl ?_
                      refine AOps.val (Y.fieldAddr fl38_0 rfl rfl) (by decide) ?_
                      refine AOps.guardRun (d := 118) rfl (by decide) rfl ?_
                      refine AOps.val (Y.load sh3 rfl rfl rfl rfl) (by decide) ?_
                      refine AOps.guardRun (d := 118) rfl (by decide) rfl ?_
                      refine AOps.val (Y.geq rfl rfl) (by decide) ?_
                      refine AOps.guardRun (d := 118) rfl (by decide) rfl ?_
                      refine AOps.val (Y.move rfl rfl) (by decide) ?_
                      refine AOps.splitD (d := 122) rfl (fun c122 => ?_) (fun c122 => ?_)
                      · refine AOps.guardRun (d := 122) rfl (by decide) rfl ?_
                        refine AOps.val (Y.fieldAddr fl38_1 rfl rfl) (by decide) ?_
                        refine AOps.guardRun (d := 122) rfl (by decide) rfl ?_
                        refine AOps.val (Y.load sh3 rfl rfl rfl rfl) (by decide) ?_
                        refine AOps.guardRun (d := 122) rfl (by decide) rfl ?_
                        refine AOps.val (Y.fieldAddr fl38_2 rfl rfl) (by decide) ?_
                        refine AOps.guardRun (d := 122) rfl (by decide) rfl ?_
                        refine AOps.val (Y.load sh3 rfl rfl rfl rfl) (by decide) ?_
                        refine AOps.guardRun (d := 122) rfl (by decide) rfl ?_
                        refine AOps.val (Y.eql rfl rfl) (by decide) ?_
                        refine AOps.guardRun (d := 118) rfl (by decide) rfl ?_
                        refine AOps.val (Y.pick rfl rfl rfl) (by decide) ?_
                        refine AOps.guardRun (d := 118) rfl (by decide) rfl ?_
                        refine AOps.val (Y.move rfl rfl) (by decide) ?_
                        refine AOps.splitD (d := 129) rfl (fun c129 => ?_) (fun c129 => ?_)
                        · refine AOps.guardRun (d := 129) rfl (by decide) rfl ?_
                          refine AOps.val (Y.fieldAddr fl38_2 rfl rfl) (by decide) ?_
                          refine AOps.guardRun (d := 129) rfl (by decide) rfl ?_
                          refine AOps.val (Y.load sh3 rfl rfl rfl rfl) (by decide) ?_
                          refine AOps.guardRun (d := 129) rfl (by decide) rfl ?_
                          refine AOps.val (Y.fieldAddr fl38_1 rfl rfl) (by decide) ?_
                          refine AOps.guardRun (d := 129) rfl (by decide) rfl ?_
                          refine AOps.val (Y.load sh3 rfl rfl rfl rfl) (by decide) ?_
                          refine AOps.guardRun (d := 129) rfl (by decide) rfl ?_
                          refine AOps.val (Y.eql rfl rfl) (by decide) ?_
                          refine AOps.guardRun (d := 118) rfl (by decide) rfl ?_
                          refine AOps.val (Y.pick rfl rfl rfl) (by decide) ?_
                          refine AOps.guardRun (d := 105) rfl (by decide) rfl ?_
                          refine AOps.val (Y.pick rfl rfl rfl) (by decide) ?_
                          refine AOps.val (Y.pick rfl rfl rfl) (by decide) ?_
                          refine AOps.nil ?_
                          refine AWp.condD rfl (fun c137 => ?_) (fun c137 => ?_)
                          · refine AWp.seq ?_
                            refine AWp.region ?_
                            refine AOps.val (Y.assign rfl rfl) (by decide) ?_
                            refine AOps.nil ?_
                            refine AWp.ret ?_
                            exact ⟨_, _, rfl, rfl, (cg1 (fun (z0 : Bool) => X.v (.bool z0)) (by exfalso; first | omega | exact clean_two hclean (show i_7 < l.length by omega) (show k_19 < i_7 by omega) (by omega) (by omega) (by omega) | exact used_end (by omega) hv hw hused (show i_25 < l.length by omega) (by assumption) (by assumption) : false = true) : X.v (.bool false) = X.v (.bool true)), rfl⟩
                          · refine AWp.skip ?_
                            exact ⟨.inl ⟨c100, c105, c111, c118, c122, c129, c137⟩, Le.mk (SubL.cons rfl (SubL.cons rfl (SubL.cons rfl (SubL.cons rfl (SubL.cons rfl (SubL.nil)))))) (SubL.cons rfl (SubL.cons rfl (SubL.nil)))⟩
                        · refine AOps.guardSkipV (d := 129) rfl (by decide) (by decide) rfl rfl ?_
                          refine AOps.guardSkipV (d := 129) rfl (by decide) (by decide) rfl rfl ?_
                          refine AOps.guardSkipV (d := 129) rfl (by decide) (by decide) rfl rfl ?_
                          refine AOps.guardSkipV (d := 129) rfl (by decide) (by decide) rfl rfl ?_
                          refine AOps.guardSkipV (d := 129) rfl (by decide) (by decide) rfl rfl ?_
                          refine AOps.guardRun (d := 118) rfl (by decide) rfl ?_
                          refine AOps.val (Y.pick rfl rfl rfl) (by decide) ?_
                          refine AOps.guardRun (d := 105) rfl (by decide) rfl ?_
                          refine AOps.val (Y.pick rfl rfl rfl) (by decide) ?_
                          refine AOps.val (Y.pick rfl rfl rfl) (by decide) ?_
                          refine AOps.nil ?_
                          refine AWp.condF rfl ?_
                          refine AWp.skip ?_
                          exact ⟨.inr (.inl ⟨c100, c105, c111, c118, c122, c129⟩), Le.mk (SubL.cons rfl (SubL.cons rfl (SubL.cons rfl (SubL.cons rfl (SubL.cons rfl (SubL.nil)))))) (SubL.cons rfl (SubL.cons rfl (SubL.nil)))⟩
                      · refine AOps.guardSkipV (d := 122) rfl (by decide) (by decide) rfl rfl ?_
                        refine AOps.guardSkipV (d := 122) rfl (by decide) (by decide) rfl rfl ?_
                        refine AOps.guardSkipV (d := 122) rfl (by decide) (by decide) rfl rfl ?_
                        refine AOps.guardSkipV (d := 122) rfl (by decide) (by decide) rfl rfl ?_
                        refine AOps.guardSkipV (d := 122) rfl (by decide) (by decide) rfl rfl ?_
                        refine AOps.guardRun (d := 118) rfl (by decide) rfl ?_
                        refine AOps.val (Y.pick rfl rfl rfl) (by decide) ?_
                        refine AOps.guardRun (d := 118) rfl (by decide) rfl ?_
                        refine AOps.val (Y.move rfl rfl) (by decide) ?_
                        refine AOps.guardSkipV (d := 129) rfl (by decide) (by decide) rfl rfl ?_
                        refine AOps.guardSkipV (d := 129) rfl (by decide) (by decide) rfl rfl ?_
                        refine AOps.guardSkipV (d := 129) rfl (by decide) (by decide) rfl rfl ?_
                        refine AOps.guardSkipV (d := 129) rfl (by decide) (by decide) rfl rfl ?_
                        refine AOps.guardSkipV (d := 129) rfl (by decide) (by decide) rfl rfl ?_
                        refine AOps.guardRun (d := 118) rfl (by decide) rfl ?_
                        refine AOps.val (Y.pick rfl rfl rfl) (by decide) ?_
                        refine AOps.guardRun (d := 105) rfl (by decide) rfl ?_
                        refine AOps.val (Y.pick rfl rfl rfl) (by decide) ?_
                        refine AOps.val (Y.pick rfl rfl rfl) (by decide) ?_
                        refine AOps.nil ?_
                        refine AWp.condF rfl ?_
                        refine AWp.skip ?_
                        exact ⟨.inr (.inr (.inl ⟨c100, c105, c111, c118, c122⟩)), Le.mk (SubL.cons rfl (SubL.cons rfl (SubL.cons rfl (SubL.cons rfl (SubL.cons rfl (SubL.nil)))))) (SubL.cons rfl (SubL.cons rfl (SubL.nil)))⟩
                  · refine AOps.guardSkipV (d := 111) rfl (by decide) (by decide) rfl rfl ?_
                    refine AOps.guardSkipV (d := 111) rfl (by decide) (by decide) rfl rfl ?_
                    refine AOps.guardSkipV (d := 111) rfl (by decide) (by decide) rfl rfl ?_
                    refine AOps.guardSkipV (d := 111) rfl (by decide) (by decide) rfl rfl ?_
                    refine AOps.guardSkipV (d := 111) rfl (by decide) (by decide) rfl rfl ?_
                    refine AOps.guardRun (d := 105) rfl (by decide) rfl ?_
                    refine AOps.val (Y.pick rfl rfl rfl) (by decide) ?_
                    refine AOps.guardRun (d := 105) rfl (by decide) rfl ?_
                    refine AOps.val (Y.move rfl rfl) (by decide) ?_
                    refine AOps.guardRun (d := 118) rfl (by decide) rfl ?_
                    refine AOps.val (Y.fieldAddr fl38_0 rfl rfl) (by decide) ?_
                    refine AOps.guardRun (d := 118) rfl (by decide) rfl ?_
                    refine AOps.val (Y.load sh3 rfl rfl rfl rfl) (by decide) ?_
                    refine AOps.guardRun (d := 118) rfl (by decide) rfl ?_
                    refine AOps.val (Y.geq rfl rfl) (by decide) ?_
                    refine AOps.guardRun (d := 118) rfl (by decide) rfl ?_
                    refine AOps.val (Y.move rfl rfl) (by decide) ?_
                    refine AOps.splitD (d := 122) rfl (fun c122 => ?_) (fun c122 => ?_)
                    · refine AOps.guardRun (d := 122) rfl (by decide) rfl ?_
                      refine AOps.val (Y.fieldAddr fl38_1 rfl rfl) (by decide) ?_
                      refine AOps.guardRun (d := 122) rfl (by decide) rfl ?_
                      refine AOps.val (Y.load sh3 rfl rfl rfl rfl) (by decide) ?_
                      refine AOps.guardRun (d := 122) rfl (by decide) rfl ?_
                      refine AOps.val (Y.fieldAddr fl38_2 rfl rfl) (by decide) ?_
                      refine AOps.guardRun (d := 122) rfl (by decide) rfl ?_
                      refine AOps.val (Y.load sh3 rfl rfl rfl rfl) (by decide) ?_
                      refine AOps.guardRun (d := 122) rfl (by decide) rfl ?_
                      refine AOps.val (Y.eql rfl rfl) (by decide) ?_
                      refine AOps.guardRun (d := 118) rfl (by decide) rfl ?_
                      refine AOps.val (Y.pick rfl rfl rfl) (by decide) ?_
                      refine AOps.guardRun (d := 118) rfl (by decide) rfl ?_
                      refine AOps.val (Y.move rfl rfl) (by decide) ?_
                      refine AOps.splitD (d := 129) rfl (fun c129 => ?_) (fun c129 => ?_)
                      · refine AOps.guardRun (d := 129) rfl (by decide) rfl ?_
                        refine AOps.val (Y.fieldAddr fl38_2 rfl rfl) (by decide) ?_
                        refine AOps.guardRun (d := 129) rfl (by decide) rfl ?_
                        refine AOps.val (Y.load sh3 rfl rfl rfl rfl) (by decide) ?_
                        refine AOps.guardRun (d := 129) rfl (by decide) rfl ?_
                        refine AOps.val (Y.fieldAddr fl38_1 rfl rfl) (by decide) ?_
                        refine AOps.guardRun (d := 129) rfl (by decide) rfl ?_
                        refine AOps.val (Y.load sh3 rfl rfl rfl rfl) (by decide) ?_
                        refine AOps.guardRun (d := 129) rfl (by decide) rfl ?_
                        refine AOps.val (Y.eql rfl rfl) (by decide) ?_
                        refine AOps.guardRun (d := 118) rfl (by decide) rfl ?_
                        refine AOps.val (Y.pick rfl rfl rfl) (by decide) ?_
                        refine AOps.guardRun (d := 105) rfl (by decide) rfl ?_
                        refine AOps.val (Y.pick rfl rfl rfl) (by decide) ?_
                        refine AOps.val (Y.pick rfl rfl rfl) (by decide) ?_
                        refine AOps.nil ?_
                        refine AWp.condD rfl (fun c137 => ?_) (fun c137 => ?_)
                        · refine AWp.seq ?_
                          refine AWp.region ?_
                          refine AOps.val (Y.assign rfl rfl) (by decide) ?_
                          refine AOps.nil ?_
                          refine AWp.ret ?_
                          exact ⟨_, _, rfl, rfl, (cg1 (fun (z0 : Bool) => X.v (.bool z0)) (by exfalso; first | omega | exact clean_two hclean (show i_7 < l.length by omega) (show k_19 < i_7 by omega) (by omega) (by omega) (by omega) | exact used_end (by omega) hv hw hused (show i_25 < l.length by omega) (by assumption) (by assumption) : false = true) : X.v (.bool false) = X.v (.bool true)), rfl⟩
                        · refine AWp.skip ?_
                          exact ⟨.inr (.inr (.inr (.inl ⟨c100, c105, c111, c122, c129, c137⟩))), Le.mk (SubL.cons rfl (SubL.cons rfl (SubL.cons rfl (SubL.cons rfl (SubL.cons rfl (SubL.nil)))))) (SubL.cons rfl (SubL.cons rfl (SubL.nil)))⟩
                      · refine AOps.guardSkipV (d := 129) rfl (by decide) (by decide) rfl rfl ?_
                        refine AOps.guardSkipV (d := 129) rfl (by decide) (by decide) rfl rfl ?_
                        refine AOps.guardSkipV (d := 129) rfl (by decide) (by decide) rfl rfl ?_
                        refine AOps.guardSkipV (d := 129) rfl (by decide) (by decide) rfl rfl ?_
                        refine AOps.guardSkipV (d := 129) rfl (by decide) (by decide) rfl rfl ?_
                        refine AOps.guardRun (d := 118) rfl (by decide) rfl ?_
                        refine AOps.val (Y.pick rfl rfl rfl) (by decide) ?_
                        refine AOps.guardRun (d := 105) rfl (by decide) rfl ?_
                        refine AOps.val (Y.pick rfl rfl rfl) (by decide) ?_
                        refine AOps.val (Y.pick rfl rfl rfl) (by decide) ?_
                        refine AOps.nil ?_
                        refine AWp.condF rfl ?_
                        refine AWp.skip ?_
                        exact ⟨.inr (.inr (.inr (.inr (.inl ⟨c100, c105, c111, c122, c129⟩)))), Le.mk (SubL.cons rfl (SubL.cons rfl (SubL.cons rfl (SubL.cons rfl (SubL.cons rfl (SubL.nil)))))) (SubL.cons rfl (SubL.cons rfl (SubL.nil)))⟩
                    · refine AOps.guardSkipV (d := 122) rfl (by decide) (by decide) rfl rfl ?_
                      refine AOps.guardSkipV (d := 122) rfl (by decide) (by decide) rfl rfl ?_
                      refine AOps.guardSkipV (d := 122) rfl (by decide) (by decide) rfl rfl ?_
                      refine AOps.guardSkipV (d := 122) rfl (by decide) (by decide) rfl rfl ?_
                      refine AOps.guardSkipV (d := 122) rfl (by decide) (by decide) rfl rfl ?_
                      refine AOps.guardRun (d := 118) rfl (by decide) rfl ?_
                      refine AOps.val (Y.pick rfl rfl rfl) (by decide) ?_
                      refine AOps.guardRun (d := 118) rfl (by decide) rfl ?_
                      refine AOps.val (Y.move rfl rfl) (by decide) ?_
                      refine AOps.guardSkipV (d := 129) rfl (by decide) (by decide) rfl rfl ?_
                      refine AOps.guardSkipV (d := 129) rfl (by decide) (by decide) rfl rfl ?_
                      refine AOps.guardSkipV (d := 129) rfl (by decide) (by decide) rfl rfl ?_
                      refine AOps.guardSkipV (d := 129) rfl (by decide) (by decide) rfl rfl ?_
                      refine AOps.guardSkipV (d := 129) rfl (by decide) (by decide) rfl rfl ?_
                      refine AOps.guardRun (d := 118) rfl (by decide) rfl ?_
                      refine AOps.val (Y.pick rfl rfl rfl) (by decide) ?_
                      refine AOps.guardRun (d := 105) rfl (by decide) rfl ?_
                      refine AOps.val (Y.pick rfl rfl rfl) (by decide) ?_
                      refine AOps.val (Y.pick rfl rfl rfl) (by decide) ?_
                      refine AOps.nil ?_
                      refine AWp.condF rfl ?_
                      refine AWp.skip ?_
                      exact ⟨.inr (.inr (.inr (.inr (.inr (.inl ⟨c100, c105, c111, c122⟩))))), Le.mk (SubL.cons rfl (SubL.cons rfl (SubL.cons rfl (SubL.cons rfl (SubL.cons rfl (SubL.nil)))))) (SubL.cons rfl (SubL.cons rfl (SubL.nil)))⟩
                · refine AOps.guardSkipV (d := 105) rfl (by decide) (by decide) rfl rfl ?_
                  refine AOps.guardSkipV (d := 105) rfl (by decide) (by decide) rfl rfl ?_
                  refine AOps.guardSkipV (d := 105) rfl (by decide) (by decide) rfl rfl ?_
                  refine AOps.guardSkipV (d := 105) rfl (by decide) (by decide) rfl rfl ?_
                  refine AOps.guardSkipV (d := 105) rfl (by decide) (by decide) rfl rfl ?_
                  refine AOps.guardSkipV (d := 105) rfl (by decide) (by decide) rfl rfl ?_
                  refine AOps.guardSkipV (d := 111) rfl (by decide) (by decide) rfl rfl ?_
                  refine AOps.guardSkipV (d := 111) rfl (by decide) (by decide) rfl rfl ?_
                  refine AOps.guardSkipV (d := 111) rfl (by decide) (by decide) rfl rfl ?_
                  refine AOps.guardSkipV (d := 111) rfl (by decide) (by decide) rfl rfl ?_
                  refine AOps.guardSkipV (d := 111) rfl (by decide) (by decide) rfl rfl ?_
                  refine AOps.guardSkipV (d := 105) rfl (by decide) (by decide) rfl rfl ?_
                  refine AOps.guardSkipV (d := 105) rfl (by decide) (by decide) rfl rfl ?_
                  refine AOps.guardSkipV (d := 118) rfl (by decide) (by decide) rfl rfl ?_
                  refine AOps.guardSkipV (d := 118) rfl (by decide) (by decide) rfl rfl ?_
                  refine AOps.guardSkipV (d := 118) rfl (by decide) (by decide) rfl rfl ?_
                  refine AOps.guardSkipV (d := 118) rfl (by decide) (by decide) rfl rfl ?_
                  refine AOps.guardSkipV (d := 122) rfl (by decide) (by decide) rfl rfl ?_
                  refine AOps.guardSkipV (d := 122) rfl (by decide) (by decide) rfl rfl ?_
                  refine AOps.guardSkipV (d := 122) rfl (by decide) (by decide) rfl rfl ?_
                  refine AOps.guardSkipV (d := 122) rfl (by decide) (by decide) rfl rfl ?_
                  refine AOps.guardSkipV (d := 122) rfl (by decide) (by decide) rfl rfl ?_
                  refine AOps.guardSkipV (d := 118) rfl (by decide) (by decide) rfl rfl ?_
                  refine AOps.guardSkipV (d := 118) rfl (by decide) (by decide) rfl rfl ?_
                  refine AOps.guardSkipV (d := 129) rfl (by decide) (by decide) rfl rfl ?_
                  refine AOps.guardSkipV (d := 129) rfl (by decide) (by decide) rfl rfl ?_
                  refine AOps.guardSkipV (d := 129) rfl (by decide) (by decide) rfl rfl ?_
                  refine AOps.guardSkipV (d := 129) rfl (by decide) (by decide) rfl rfl ?_
                  refine AOps.guardSkipV (d := 129) rfl (by decide) (by decide) rfl rfl ?_
                  refine AOps.guardSkipV (d := 118) rfl (by decide) (by decide) rfl rfl ?_
                  refine AOps.guardSkipV (d := 105) rfl (by decide) (by decide) rfl rfl ?_
                  refine AOps.val (Y.pick rfl rfl rfl) (by decide) ?_
                  refine AOps.nil ?_
                  refine AWp.condF rfl ?_
                  refine AWp.skip ?_
                  exact ⟨.inr (.inr (.inr (.inr (.inr (.inr (.inl ⟨c100, c105⟩)))))), Le.mk (SubL.cons rfl (SubL.cons rfl (SubL.cons rfl (SubL.cons rfl (SubL.cons rfl (SubL.nil)))))) (SubL.cons rfl (SubL.cons rfl (SubL.nil)))⟩
              · refine AOps.guardSkipV (d := 100) rfl (by decide) (by decide) rfl rfl ?_
                refine AOps.guardSkipV (d := 100) rfl (by decide) (by decide) rfl rfl ?_
                refine AOps.guardSkipV (d := 100) rfl (by decide) (by decide) rfl rfl ?_
                refine AOps.val (Y.pick rfl rfl rfl) (by decide) ?_
                refine AOps.val (Y.move rfl rfl) (by decide) ?_
                refine AOps.guardSkipV (d := 105) rfl (by decide) (by decide) rfl rfl ?_
                refine AOps.guardSkipV (d := 105) rfl (by decide) (by decide) rfl rfl ?_
                refine AOps.guardSkipV (d := 105) rfl (by decide) (by decide) rfl rfl ?_
                refine AOps.guardSkipV (d := 105) rfl (by decide) (by decide) rfl rfl ?_
                refine AOps.guardSkipV (d := 105) rfl (by decide) (by decide) rfl rfl ?_
                refine AOps.guardSkipV (d := 105) rfl (by decide) (by decide) rfl rfl ?_
                refine AOps.guardSkipV (d := 111) rfl (by decide) (by decide) rfl rfl ?_
                refine AOps.guardSkipV (d := 111) rfl (by decide) (by decide) rfl rfl ?_
                refine AOps.guardSkipV (d := 111) rfl (by decide) (by decide) rfl rfl ?_
                refine AOps.guardSkipV (d := 111) rfl (by decide) (by decide) rfl rfl ?_
                refine AOps.guardSkipV (d := 111) rfl (by decide) (by decide) rfl rfl ?_
                refine AOps.guardSkipV (d := 105) rfl (by decide) (by decide) rfl rfl ?_
                refine AOps.guardSkipV (d := 105) rfl (by decide) (by decide) rfl rfl ?_
                refine AOps.guardSkipV (d := 118) rfl (by decide) (by decide) rfl rfl ?_
                refine AOps.guardSkipV (d := 118) rfl (by decide) (by decide) rfl rfl ?_
                refine AOps.guardSkipV (d := 118) rfl (by decide) (by decide) rfl rfl ?_
                refine AOps.guardSkipV (d := 118) rfl (by decide) (by decide) rfl rfl ?_
                refine AOps.guardSkipV (d := 122) rfl (by decide) (by decide) rfl rfl ?_
                refine AOps.guardSkipV (d := 122) rfl (by decide) (by decide) rfl rfl ?_
                refine AOps.guardSkipV (d := 122) rfl (by decide) (by decide) rfl rfl ?_
                refine AOps.guardSkipV (d := 122) rfl (by decide) (by decide) rfl rfl ?_
                refine AOps.guardSkipV (d := 122) rfl (by decide) (by decide) rfl rfl ?_
                refine AOps.guardSkipV (d := 118) rfl (by decide) (by decide) rfl rfl ?_
                refine AOps.guardSkipV (d := 118) rfl (by decide) (by decide) rfl rfl ?_
                refine AOps.guardSkipV (d := 129) rfl (by decide) (by decide) rfl rfl ?_
                refine AOps.guardSkipV (d := 129) rfl (by decide) (by decide) rfl rfl ?_
                refine AOps.guardSkipV (d := 129) rfl (by decide) (by decide) rfl rfl ?_
                refine AOps.guardSkipV (d := 129) rfl (by decide) (by decide) rfl rfl ?_
                refine AOps.guardSkipV (d := 129) rfl (by decide) (by decide) rfl rfl ?_
                refine AOps.guardSkipV (d := 118) rfl (by decide) (by decide) rfl rfl ?_
                refine AOps.guardSkipV (d := 105) rfl (by decide) (by decide) rfl rfl ?_
                refine AOps.val (Y.pick rfl rfl rfl) (by decide) ?_
                refine AOps.nil ?_
                refine AWp.condF rfl ?_
                refine AWp.skip ?_
                exact ⟨.inr (.inr (.inr (.inr (.inr (.inr (.inr (c100))))))), Le.mk (SubL.cons rfl (SubL.cons rfl (SubL.cons rfl (SubL.cons rfl (SubL.cons rfl (SubL.nil)))))) (SubL.cons rfl (SubL.cons rfl (SubL.nil)))⟩
            · refine AWp.region ?_
              refine AOps.val (Y.move rfl rfl) (by decide) ?_
              refine AOps.val (Y.addI rfl rfl (by first | omega | (simp [-List.getD_eq_getElem?_getD]; done) | (simp [-List.getD_eq_getElem?_getD]; omega))) (by decide) ?_
              refine AOps.val (Y.assign rfl rfl) (by decide) ?_
              refine AOps.nil ?_
              exact ⟨k_19 + 1, by first | omega | (simp [-List.getD_eq_getElem?_getD]; done) | (simp [-List.getD_eq_getElem?_getD]; omega), by omega, Le.mk (SubL.cons rfl (SubL.cons rfl (SubL.cons rfl (SubL.cons rfl (SubL.cons (look_int rfl (by first | rfl | omega)) (SubL.nil)))))) (SubL.cons rfl (SubL.cons rfl (SubL.nil)))⟩
          · refine AWp.exit ?_
            refine AWp.region ?_
            refine AOps.val (Y.move rfl rfl) (by decide) ?_
            refine AOps.val (Y.addI rfl rfl (by first | omega | (simp [-List.getD_eq_getElem?_getD]; done) | (simp [-List.getD_eq_getElem?_getD]; omega))) (by decide) ?_
            refine AOps.val (Y.assign rfl rfl) (by decide) ?_
            refine AOps.nil ?_
            exact ⟨i_7 + 1, used_j18, ⟨by first | omega | (simp [-List.getD_eq_getElem?_getD]; done) | (simp [-List.getD_eq_getElem?_getD]; omega), by first | omega | (simp [-List.getD_eq_getElem?_getD]; done) | (simp [-List.getD_eq_getElem?_getD]; omega), fun x hx => hm.1 x (hv x hx), below_succ (fun j hj => ⟨fun h4 => hm.1 _ ((hw j hj).1 h4), fun h5 => hm.1 _ ((hw j hj).2 h5)⟩) hm.2⟩, by omega, Le.mk (SubL.cons rfl (SubL.cons rfl (SubL.cons (look_int rfl (by first | rfl | omega)) (SubL.nil)))) (SubL.cons rfl (SubL.nil))⟩
    · refine AWp.exit ?_
      refine AWp.seq ?_
      refine AWp.seq ?_
      refine AWp.region ?_
      refine AOps.val (Y.assign rfl rfl) (by decide) ?_
      refine AOps.nil ?_
      refine AWp.block ?_
      refine AWp.loop1 (fun (i_25 : Nat) => ⟨[(0, .fz 3 (l.map Gate.row)), (5, .slc 105 1 0 l.length), (11, .v (.int .i64 (i_25 : Int)))], [(105, .rows 1 (used_7.map brow))]⟩) (fun (i_25 : Nat) => ((i_25 : Int) ≤ (l.length : Nat))) (fun (i_25 : Nat) => ((l.length : Nat) - (i_25 : Int)).toNat) 0 (by first | omega | (simp [-List.getD_eq_getElem?_getD]; done) | (simp [-List.getD_eq_getElem?_getD]; omega)) (Le.mk (SubL.cons rfl (SubL.cons rfl (SubL.cons (look_int rfl (by first | rfl | omega)) (SubL.nil)))) (SubL.cons rfl (SubL.nil))) (fun i_25 hI25 => ?_)
      have hb25 := hI25
      refine AWp.seq ?_
      refine AWp.seq ?_
      refine AWp.region ?_
      refine AOps.val (Y.move rfl rfl) (by decide) ?_
      refine AOps.val (Y.move rfl rfl) (by decide) ?_
      refine AOps.val (Y.len (n := l.length) sl22 rfl (congrArg some (List.length_map ..))) (by decide) ?_
      refine AOps.val (Y.lss rfl rfl) (by decide) ?_
      refine AOps.nil ?_
      refine AWp.condD rfl (fun c141 => ?_) (fun c141 => ?_)
      · refine AWp.skip ?_
        refine AWp.join0 (⟨[(0, .fz 3 (l.map Gate.row)), (5, .slc 105 1 0 l.length), (11, .v (.int .i64 (i_25 : Int)))], [(105, .rows 1 (used_7.map brow))]⟩) ((((used_7.getD i_25 false) = false) ∧ (¬ (((l.getD i_25 default).kind) ≠ 3))) ∨ (((used_7.getD i_25 false) = true))) ?_ (fun hJ26 => ?_)
        · refine AWp.block ?_
          refine AWp.seq ?_
          refine AWp.region ?_
          refine AOps.val (Y.move rfl rfl) (by decide) ?_
          refine AOps.val (Y.move rfl rfl) (by decide) ?_
          refine AOps.val (Y.indexO (m := i_25) sl27 rfl rfl (by first | rfl | omega) (by first | omega | (simp [-List.getD_eq_getElem?_getD]; done) | (simp [-List.getD_eq_getElem?_getD]; omega))) (by decide) ?_
          refine AOps.val (Y.load sh4 rfl (row_getD0 (d := false) (by first | omega | (simp [-List.getD_eq_getElem?_getD]; done) | (simp [-List.getD_eq_getElem?_getD]; omega))) rfl rfl) (by decide) ?_
          refine AOps.val (Y.not rfl) (by decide) ?_
          refine AOps.val (Y.move rfl rfl) (by decide) ?_
          refine AOps.split (d := 149) rfl (fun c149 => ?_) (fun c149 => ?_)
          · replace c149 : (used_7.getD i_25 false) = false := by simpa using c149
            refine AOps.guardRun (d := 149) rfl (by decide) rfl ?_
            refine AOps.val (Y.move rfl rfl) (by decide) ?_
            refine AOps.guardRun (d := 149) rfl (by decide) rfl ?_
            refine AOps.val (Y.move rfl rfl) (by decide) ?_
            refine AOps.guardRun (d := 149) rfl (by decide) rfl ?_
            refine AOps.val (Y.indexF (m := i_25) sl22 rfl rfl (by first | rfl | omega) (row_getD (d := default) (by first | omega | (simp [-List.getD_eq_getElem?_getD]; done) | (simp [-List.getD_eq_getElem?_getD]; omega)))) (by decide) ?_
            refine AOps.guardRun (d := 149) rfl (by decide) rfl ?_
            refine AOps.val (Y.fieldAddr fl38_0 rfl rfl) (by decide) ?_
            refine AOps.guardRun (d := 149) rfl (by decide) rfl ?_
            refine AOps.val (Y.load sh3 rfl rfl rfl rfl) (by decide) ?_
            refine AOps.guardRun (d := 149) rfl (by decide) rfl ?_
            refine AOps.val (Y.neq rfl rfl) (by decide) ?_
            refine AOps.val (Y.pick rfl rfl rfl) (by decide) ?_
            refine AOps.nil ?_
            refine AWp.condD rfl (fun c156 => ?_) (fun c156 => ?_)
            · refine AWp.seq ?_
              refine AWp.region ?_
              refine AOps.val (Y.assign rfl rfl) (by decide) ?_
              refine AOps.nil ?_
              refine AWp.ret ?_
              exact ⟨_, _, rfl, rfl, (cg1 (fun (z0 : Bool) => X.v (.bool z0)) (by exfalso; first | omega | exact clean_two hclean (show i_7 < l.length by omega) (show k_19 < i_7 by omega) (by omega) (by omega) (by omega) | exact used_end (by omega) hv hw hused (show i_25 < l.length by omega) (by assumption) (by assumption) : false = true) : X.v (.bool false) = X.v (.bool true)), rfl⟩
            · refine AWp.skip ?_
              exact ⟨.inl ⟨c149, c156⟩, Le.mk (SubL.cons rfl (SubL.cons rfl (SubL.cons rfl (SubL.nil)))) (SubL.cons rfl (SubL.nil))⟩
          · replace c149 : (used_7.getD i_25 false) = true := by simpa using c149
            refine AOps.guardSkipV (d := 149) rfl (by decide) (by decide) rfl rfl ?_
            refine AOps.guardSkipV (d := 149) rfl (by decide) (by decide) rfl rfl ?_
            refine AOps.guardSkipV (d := 149) rfl (by decide) (by decide) rfl rfl ?_
            refine AOps.guardSkipV (d := 149) rfl (by decide) (by decide) rfl rfl ?_
            refine AOps.guardSkipV (d := 149) rfl (by decide) (by decide) rfl rfl ?_
            refine AOps.guardSkipV (d := 149) rfl (by decide) (by decide) rfl rfl ?_
            refine AOps.val (Y.pick rfl rfl rfl) (by decide) ?_
            refine AOps.nil ?_
            refine AWp.condF rfl ?_
            refine AWp.skip ?_
            exact ⟨.inr (c149), Le.mk (SubL.cons rfl (SubL.cons rfl (SubL.cons rfl (SubL.nil)))) (SubL.cons rfl (SubL.nil))⟩
        · refine AWp.region ?_
          refine AOps.val (Y.move rfl rfl) (by decide) ?_
          refine AOps.val (Y.addI rfl rfl (by first | omega | (simp [-List.getD_eq_getElem?_getD]; done) | (simp [-List.getD_eq_getElem?_getD]; omega))) (by decide) ?_
          refine AOps.val (Y.assign rfl rfl) (by decide) ?_
          refine AOps.nil ?_
          exact ⟨i_25 + 1, by first | omega | (simp [-List.getD_eq_getElem?_getD]; done) | (simp [-List.getD_eq_getElem?_getD]; omega), by omega, Le.mk (SubL.cons rfl (SubL.cons rfl (SubL.cons (look_int rfl (by first | rfl | omega)) (SubL.nil)))) (SubL.cons rfl (SubL.nil))⟩
      · refine AWp.exit ?_
        refine AWp.seq ?_
        refine AWp.region ?_
        refine AOps.val (Y.assign rfl rfl) (by decide) ?_
        refine AOps.nil ?_
        refine AWp.ret ?_
        exact ⟨_, _, rfl, rfl, (cg1 (fun (z0 : Bool) => X.v (.bool z0)) (rfl : true = true) : X.v (.bool true) = X.v (.bool true)), rfl⟩

end Go.Proofs.Ytiehdnjcapjacaa
/- The law on folding. -/
namespace Go.Proofs.Ytiehdnjcapjacaa
open Go Go.AW Go.Proofs



set_option maxHeartbeats 1000000 in
theorem law8_spec {ps : List Part} {keep : List Nat} {xs : List Bool} (hl : ps.length ≤ 140737488355328) (hkl0 : keep.length ≤ 140737488355328) (hok : partsOk ps) (hkeep : ∀ x ∈ keep, x ≤ 255) : ACalls Try.prog 8 [.fz 3 (ps.map Part.row), .fz 1 (keep.map nu8row), .fz 1 (xs.map brow)] [] [] (fun r o => r = .v (.bool true) ∧ o = []) := by
  refine ACalls.of Try.func8 rfl rfl rfl (n := 125) (by decide) (Nat.le_of_ble_eq_true rfl) ?_
  have hkb := fun (i : Nat) (h : i < keep.length) => hkeep _ (mem_getD (d := 0) h)
  refine AWp.seq ?_
  refine AWp.region ?_
  refine AOps.val (Y.assign rfl rfl) (by decide) ?_
  refine AOps.nil ?_
  refine AWp.seq ?_
  refine AWp.seq ?_
  refine AWp.region ?_
  refine AOps.callP ok10 (awake_spec) rfl .nil (by decide) rfl ?_
  refine AOps.val (Y.not rfl) (by decide) ?_
  refine AOps.val (Y.move rfl rfl) (by decide) ?_
  refine AOps.guardRun (d := 19) rfl (by decide) rfl ?_
  refine AOps.val (Y.move rfl rfl) (by decide) ?_
  refine AOps.guardRun (d := 19) rfl (by decide) rfl ?_
  refine AOps.val (Y.len (n := ps.length) sl33 rfl (congrArg some (List.length_map ..))) (by decide) ?_
  refine AOps.guardRun (d := 19) rfl (by decide) rfl ?_
  refine AOps.val (Y.gtr rfl rfl) (by decide) ?_
  refine AOps.val (Y.pick rfl rfl rfl) (by decide) ?_
  refine AOps.val (Y.move rfl rfl) (by decide) ?_
  refine AOps.splitD (d := 24) rfl (fun c24 => ?_) (fun c24 => ?_)
  · refine AOps.guardSkipV (d := 24) rfl (by decide) (by decide) rfl rfl ?_
    refine AOps.guardSkipV (d := 24) rfl (by decide) (by decide) rfl rfl ?_
    refine AOps.guardSkipV (d := 24) rfl (by decide) (by decide) rfl rfl ?_
    refine AOps.val (Y.pick rfl rfl rfl) (by decide) ?_
    refine AOps.nil ?_
    refine AWp.condT rfl ?_
    refine AWp.seq ?_
    refine AWp.region ?_
    refine AOps.callP ok10 (awake_spec) rfl .nil (by decide) rfl ?_
    refine AOps.val (Y.assign rfl rfl) (by decide) ?_
    refine AOps.nil ?_
    refine AWp.ret ?_
    exact ⟨_, _, rfl, rfl, (cg1 (fun (z0 : Bool) => X.v (.bool z0)) (rfl : true = true) : X.v (.bool true) = X.v (.bool true)), rfl⟩
  · refine AOps.guardRun (d := 24) rfl (by decide) rfl ?_
    refine AOps.val (Y.move rfl rfl) (by decide) ?_
    refine AOps.guardRun (d := 24) rfl (by decide) rfl ?_
    refine AOps.val (Y.len (n := keep.length) sl48 rfl (congrArg some (List.length_map ..))) (by decide) ?_
    refine AOps.guardRun (d := 24) rfl (by decide) rfl ?_
    refine AOps.val (Y.gtr rfl rfl) (by decide) ?_
    refine AOps.val (Y.pick rfl rfl rfl) (by decide) ?_
    refine AOps.nil ?_
    refine AWp.condD rfl (fun c28 => ?_) (fun c28 => ?_)
    · refine AWp.seq ?_
      refine AWp.region ?_
      refine AOps.callP ok10 (awake_spec) rfl .nil (by decide) rfl ?_
      refine AOps.val (Y.assign rfl rfl) (by decide) ?_
      refine AOps.nil ?_
      refine AWp.ret ?_
      exact ⟨_, _, rfl, rfl, (cg1 (fun (z0 : Bool) => X.v (.bool z0)) (rfl : true = true) : X.v (.bool true) = X.v (.bool true)), rfl⟩
    · refine AWp.skip ?_
      refine AWp.seq ?_
      refine AWp.region ?_
      refine AOps.val (Y.move rfl rfl) (by decide) ?_
      refine AOps.callV ok16 (made_rel (ps := ps) (by omega) hok) rfl (.keep rfl rfl .nil) (by decide) ?_
      rintro _ ⟨l, hg31, hl31, rfl, _⟩
      refine ⟨rfl, ?_⟩
      refine AOps.assignX rfl (by decide) ?_
      refine AOps.sh (Sh.freezeE (d := 7) (l.map Gate.row) rfl (by first | rfl | exact rep_map rfl) (Frees.map Gate.row_frees)) ?_
      refine AOps.nil ?_
      refine AWp.seq ?_
      refine AWp.region ?_
      refine AOps.val (Y.assign rfl rfl) (by decide) ?_
      refine AOps.sh (Sh.nil (d := 8) 108 1 rfl (by decide)) ?_
      refine AOps.nil ?_
      refine AWp.seq ?_
      refine AWp.seq ?_
      refine AWp.region ?_
      refine AOps.val (Y.move rfl rfl) (by decide) ?_
      refine AOps.val (Y.len (n := keep.length) sl48 rfl (congrArg some (List.length_map ..))) (by decide) ?_
      refine AOps.val (Y.move rfl rfl) (by decide) ?_
      refine AOps.nil ?_
      refine AWp.block ?_
      refine AWp.loop2 (fun (n_6 : Nat) (kept_6 : List Nat) => ⟨[(1, .fz 1 (keep.map nu8row)), (2, .fz 1 (xs.map brow)), (7, .fz 3 (l.map Gate.row)), (8, .slc 108 1 0 kept_6.length), (33, .v (.int .i64 (keep.length : Nat))), (34, .v (.int .i64 (n_6 : Int)))], [(108, .rows 1 (kept_6.map nrow))]⟩) (fun (n_6 : Nat) (kept_6 : List Nat) => ((n_6 : Int) ≤ (keep.length : Nat)) ∧ (kept_6.length = n_6 ∧ ∀ x ∈ kept_6, x < l.length)) (fun (n_6 : Nat) (kept_6 : List Nat) => ((keep.length : Nat) - (n_6 : Int)).toNat) 0 ([] : List Nat) (⟨by first | omega | (simp [-List.getD_eq_getElem?_getD]; done) | (simp [-List.getD_eq_getElem?_getD]; omega), ⟨rfl, fun _ h => by cases h⟩⟩) (Le.mk (SubL.cons rfl (SubL.cons rfl (SubL.cons rfl (SubL.cons (look_slc rfl (by first | omega | (simp [-List.getD_eq_getElem?_getD]; done) | (simp [-List.getD_eq_getElem?_getD]; omega))) (SubL.cons rfl (SubL.cons (look_int rfl (by first | rfl | omega)) (SubL.nil))))))) (SubL.cons rfl (SubL.nil))) (fun n_6 kept_6 hI6 => ?_)
      obtain ⟨hb6, hke⟩ := hI6
      refine AWp.seq ?_
      refine AWp.region ?_
      refine AOps.val (Y.lss rfl rfl) (by decide) ?_
      refine AOps.nil ?_
      refine AWp.seq ?_
      refine AWp.condD rfl (fun c35 => ?_) (fun c35 => ?_)
      · have hkb1 := hkb n_6 (by omega)
        have hke1 : kept_6.length = n_6 := hke.1
        have hlt : keep.getD n_6 0 % l.length < l.length := Nat.mod_lt _ (by omega)
        have hle := Nat.mod_le (keep.getD n_6 0) l.length
        refine AWp.skip ?_
        refine AWp.seq ?_
        refine AWp.block ?_
        refine AWp.seq ?_
        refine AWp.region ?_
        refine AOps.val (Y.move rfl rfl) (by decide) ?_
        refine AOps.val (Y.assign rfl rfl) (by decide) ?_
        refine AOps.nil ?_
        refine AWp.region ?_
        refine AOps.val (Y.move rfl rfl) (by decide) ?_
        refine AOps.val (Y.move rfl rfl) (by decide) ?_
        refine AOps.val (Y.move rfl rfl) (by decide) ?_
        refine AOps.val (Y.indexF (m := n_6) sl48 rfl rfl (by first | rfl | omega) (row_getD (d := 0) (by first | omega | (simp [-List.getD_eq_getElem?_getD]; done) | (simp [-List.getD_eq_getElem?_getD]; omega)))) (by decide) ?_
        refine AOps.val (Y.load sh5 rfl rfl rfl rfl) (by decide) ?_
        refine AOps.val (Y.convK ii5 ii3 rfl (by first | rfl | exact IntWalk.i64_in _ (by first | omega | (simp [-List.getD_eq_getElem?_getD]; done) | (simp [-List.getD_eq_getElem?_getD]; omega)))) (by decide) ?_
        refine AOps.val (Y.move rfl rfl) (by decide) ?_
        refine AOps.val (Y.len (n := l.length) sl22 rfl (congrArg some (List.length_map ..))) (by decide) ?_
        refine AOps.val (Y.remI rfl rfl (by first | omega | (simp [-List.getD_eq_getElem?_getD]; done) | (simp [-List.getD_eq_getElem?_getD]; omega))) (by decide) ?_
        refine AOps.buildSlice (([(keep.getD n_6 0) % l.length] : List Nat).map nrow) sl42 ze3 rfl rfl rfl rfl rfl (uniform_map (s := 1) (f := nrow) (fun _ => rfl)) rfl rfl rfl (by decide) ?_
        refine AOps.appendE ((kept_6 ++ ([(keep.getD n_6 0) % l.length] : List Nat)).map nrow) (kept_6 ++ ([(keep.getD n_6 0) % l.length] : List Nat)).length sl42 ze3 rfl rfl rfl rfl (app_le (by first | omega | (simp [-List.getD_eq_getElem?_getD]; done) | (simp [-List.getD_eq_getElem?_getD]; omega))) (app_map (by first | omega | (simp [-List.getD_eq_getElem?_getD]; done) | (simp [-List.getD_eq_getElem?_getD]; omega))) (app_n (by first | omega | (simp [-List.getD_eq_getElem?_getD]; done) | (simp [-List.getD_eq_getElem?_getD]; omega))) (by first | omega | (simp [-List.getD_eq_getElem?_getD]; done) | (simp [-List.getD_eq_getElem?_getD]; omega)) (by first | omega | (simp [-List.getD_eq_getElem?_getD]; done) | (simp [-List.getD_eq_getElem?_getD]; omega)) (by decide) (by decide) ?_
        refine AOps.val (Y.assign rfl rfl) (by decide) ?_
        refine AOps.nil ?_
        refine AWp.region ?_
        refine AOps.val (Y.addI rfl rfl (by first | omega | (simp [-List.getD_eq_getElem?_getD]; done) | (simp [-List.getD_eq_getElem?_getD]; omega))) (by decide) ?_
        refine AOps.val (Y.move rfl rfl) (by decide) ?_
        refine AOps.nil ?_
        exact ⟨n_6 + 1, kept_6 ++ ([(keep.getD n_6 0) % l.length] : List Nat), ⟨by first | omega | (simp [-List.getD_eq_getElem?_getD]; done) | (simp [-List.getD_eq_getElem?_getD]; omega), ⟨by rw [List.length_append, hke.1]; rfl, fun x hx => by rcases List.mem_append.1 hx with h | h; exact hke.2 x h; simp only [List.mem_singleton] at h; rw [h]; exact hlt⟩⟩, by omega, Le.mk (SubL.cons rfl (SubL.cons rfl (SubL.cons rfl (SubL.cons (look_slc rfl (by first | omega | (simp [-List.getD_eq_getElem?_getD]; done) | (simp [-List.getD_eq_getElem?_getD]; omega))) (SubL.cons rfl (SubL.cons (look_int rfl (by first | rfl | omega)) (SubL.nil))))))) (SubL.cons rfl (SubL.nil))⟩
      · refine AWp.exit ?_
        refine AWp.seq ?_
        have hgood := hg31
        have hkept := hke.2
        have hkl := hke.1
        refine AWp.sh (Sh.detach (d := 8) (o := 108) rfl rfl (len_map (by first | omega | (simp [-List.getD_eq_getElem?_getD]; done) | (simp [-List.getD_eq_getElem?_getD]; omega))) (by decide)) ?_
        refine AWp.sh (Sh.freezeE (d := 8) (kept_6.map nrow) rfl (by first | rfl | exact rep_map rfl) (Frees.map nrow_frees)) ?_
        refine AWp.region ?_
        refine AOps.val (Y.move rfl rfl) (by decide) ?_
        refine AOps.val (Y.move rfl rfl) (by decide) ?_
        refine AOps.callV ok21 (fold_rel (l := l) (keep := kept_6) (by omega) (by omega) hgood hkept) rfl (.keep rfl rfl (.keep rfl rfl .nil)) (by decide) ?_
        rintro _ ⟨m, kp, hF52, rfl, _⟩
        refine ⟨rfl, ?_⟩
        refine AOps.moveX rfl (by decide) ?_
        refine AOps.extractU rfl rfl (by decide) ?_
        refine AOps.extractU rfl rfl (by decide) ?_
        refine AOps.assignX rfl (by decide) ?_
        refine AOps.sh (Sh.freezeE (d := 10) (m.map Gate.row) rfl (by first | rfl | exact rep_map rfl) (Frees.map Gate.row_frees)) ?_
        refine AOps.assignX rfl (by decide) ?_
        refine AOps.sh (Sh.freezeE (d := 11) (kp.map nrow) rfl (by first | rfl | exact rep_map rfl) (Frees.map nrow_frees)) ?_
        refine AOps.nil ?_
        refine AWp.seq ?_
        refine AWp.seq ?_
        have hgoodm := hF52.good
        have hlm := hF52.small
        have hlk := hF52.len
        refine AWp.region ?_
        refine AOps.val (Y.move rfl rfl) (by decide) ?_
        refine AOps.callP ok11 (formed_ok (l := m) (by omega) hgoodm) rfl (.keep rfl rfl .nil) (by decide) rfl ?_
        refine AOps.val (Y.not rfl) (by decide) ?_
        refine AOps.val (Y.move rfl rfl) (by decide) ?_
        refine AOps.guardRun (d := 58) rfl (by decide) rfl ?_
        refine AOps.val (Y.move rfl rfl) (by decide) ?_
        refine AOps.guardRun (d := 58) rfl (by decide) rfl ?_
        refine AOps.val (Y.len (n := kp.length) sl42 rfl (congrArg some (List.length_map ..))) (by decide) ?_
        refine AOps.guardRun (d := 58) rfl (by decide) rfl ?_
        refine AOps.val (Y.move rfl rfl) (by decide) ?_
        refine AOps.guardRun (d := 58) rfl (by decide) rfl ?_
        refine AOps.val (Y.len (n := kept_6.length) sl42 rfl (congrArg some (List.length_map ..))) (by decide) ?_
        refine AOps.guardRun (d := 58) rfl (by decide) rfl ?_
        refine AOps.val (Y.neq rfl rfl) (by decide) ?_
        refine AOps.val (Y.pick rfl rfl rfl) (by decide) ?_
        refine AOps.val (Y.move rfl rfl) (by decide) ?_
        refine AOps.splitD (d := 65) rfl (fun c65 => ?_) (fun c65 => ?_)
        · exact absurd (congrArg Nat.cast hF52.len) c65
        · refine AOps.guardRun (d := 65) rfl (by decide) rfl ?_
          refine AOps.val (Y.move rfl rfl) (by decide) ?_
          refine AOps.guardRun (d := 65) rfl (by decide) rfl ?_
          refine AOps.callP ok14 (refInputs_spec (l := m) (by omega)) rfl (.keep rfl rfl .nil) (by decide) rfl ?_
          refine AOps.guardRun (d := 65) rfl (by decide) rfl ?_
          refine AOps.val (Y.move rfl rfl) (by decide) ?_
          refine AOps.guardRun (d := 65) rfl (by decide) rfl ?_
          refine AOps.callP ok14 (refInputs_spec (l := l) (by omega)) rfl (.keep rfl rfl .nil) (by decide) rfl ?_
          refine AOps.guardRun (d := 65) rfl (by decide) rfl ?_
          refine AOps.val (Y.neq rfl rfl) (by decide) ?_
          refine AOps.val (Y.pick rfl rfl rfl) (by decide) ?_
          refine AOps.nil ?_
          refine AWp.condD rfl (fun c71 => ?_) (fun c71 => ?_)
          · exact absurd (congrArg Nat.cast hF52.nin) c71
          · refine AWp.skip ?_
            refine AWp.seq ?_
            refine AWp.seq ?_
            refine AWp.region ?_
            refine AOps.val (Y.move rfl rfl) (by decide) ?_
            refine AOps.val (Y.len (n := kp.length) sl42 rfl (congrArg some (List.length_map ..))) (by decide) ?_
            refine AOps.val (Y.move rfl rfl) (by decide) ?_
            refine AOps.nil ?_
            refine AWp.block ?_
            refine AWp.loop1 (fun (i_14 : Nat) => ⟨[(2, .fz 1 (xs.map brow)), (7, .fz 3 (l.map Gate.row)), (8, .fz 1 (kept_6.map nrow)), (10, .fz 3 (m.map Gate.row)), (11, .fz 1 (kp.map nrow)), (73, .v (.int .i64 (kp.length : Nat))), (74, .v (.int .i64 (i_14 : Int)))], []⟩) (fun (i_14 : Nat) => ((i_14 : Int) ≤ (kp.length : Nat))) (fun (i_14 : Nat) => ((kp.length : Nat) - (i_14 : Int)).toNat) 0 (by first | omega | (simp [-List.getD_eq_getElem?_getD]; done) | (simp [-List.getD_eq_getElem?_getD]; omega)) (Le.mk (SubL.cons rfl (SubL.cons rfl (SubL.cons rfl (SubL.cons rfl (SubL.cons rfl (SubL.cons rfl (SubL.cons (look_int rfl (by first | rfl | omega)) (SubL.nil)))))))) (SubL.nil)) (fun i_14 hI14 => ?_)
            have hb14 := hI14
            refine AWp.seq ?_
            refine AWp.region ?_
            refine AOps.val (Y.lss rfl rfl) (by decide) ?_
            refine AOps.nil ?_
            refine AWp.seq ?_
            refine AWp.condD rfl (fun c75 => ?_) (fun c75 => ?_)
            · have hat := hF52.lt _ (mem_getD (d := 0) (show i_14 < kp.length by omega))
              refine AWp.skip ?_
              refine AWp.seq ?_
              refine AWp.block ?_
              refine AWp.seq ?_
              refine AWp.region ?_
              refine AOps.val (Y.move rfl rfl) (by decide) ?_
              refine AOps.val (Y.assign rfl rfl) (by decide) ?_
              refine AOps.nil ?_
              refine AWp.seq ?_
              refine AWp.region ?_
              refine AOps.val (Y.move rfl rfl) (by decide) ?_
              refine AOps.val (Y.move rfl rfl) (by decide) ?_
              refine AOps.val (Y.indexF (m := i_14) sl42 rfl rfl (by first | rfl | omega) (row_getD (d := 0) (by first | omega | (simp [-List.getD_eq_getElem?_getD]; done) | (simp [-List.getD_eq_getElem?_getD]; omega)))) (by decide) ?_
              refine AOps.val (Y.load sh3 rfl rfl rfl rfl) (by decide) ?_
              refine AOps.val (Y.lss rfl rfl) (by decide) ?_
              refine AOps.val (Y.move rfl rfl) (by decide) ?_
              refine AOps.splitD (d := 82) rfl (fun c82 => ?_) (fun c82 => ?_)
              · exfalso; omega
              · refine AOps.guardRun (d := 82) rfl (by decide) rfl ?_
                refine AOps.val (Y.move rfl rfl) (by decide) ?_
                refine AOps.guardRun (d := 82) rfl (by decide) rfl ?_
                refine AOps.val (Y.move rfl rfl) (by decide) ?_
                refine AOps.guardRun (d := 82) rfl (by decide) rfl ?_
                refine AOps.val (Y.indexF (m := i_14) sl42 rfl rfl (by first | rfl | omega) (row_getD (d := 0) (by first | omega | (simp [-List.getD_eq_getElem?_getD]; done) | (simp [-List.getD_eq_getElem?_getD]; omega)))) (by decide) ?_
                refine AOps.guardRun (d := 82) rfl (by decide) rfl ?_
                refine AOps.val (Y.load sh3 rfl rfl rfl rfl) (by decide) ?_
                refine AOps.guardRun (d := 82) rfl (by decide) rfl ?_
                refine AOps.val (Y.move rfl rfl) (by decide) ?_
                refine AOps.guardRun (d := 82) rfl (by decide) rfl ?_
                refine AOps.val (Y.len (n := m.length) sl22 rfl (congrArg some (List.length_map ..))) (by decide) ?_
                refine AOps.guardRun (d := 82) rfl (by decide) rfl ?_
                refine AOps.val (Y.geq rfl rfl) (by decide) ?_
                refine AOps.val (Y.pick rfl rfl rfl) (by decide) ?_
                refine AOps.nil ?_
                refine AWp.condD rfl (fun c90 => ?_) (fun c90 => ?_)
                · exfalso; omega
                · refine AWp.skip ?_
                  refine AWp.region ?_
                  refine AOps.val (Y.addI rfl rfl (by first | omega | (simp [-List.getD_eq_getElem?_getD]; done) | (simp [-List.getD_eq_getElem?_getD]; omega))) (by decide) ?_
                  refine AOps.val (Y.move rfl rfl) (by decide) ?_
                  refine AOps.nil ?_
                  exact ⟨i_14 + 1, by first | omega | (simp [-List.getD_eq_getElem?_getD]; done) | (simp [-List.getD_eq_getElem?_getD]; omega), by omega, Le.mk (SubL.cons rfl (SubL.cons rfl (SubL.cons rfl (SubL.cons rfl (SubL.cons rfl (SubL.cons rfl (SubL.cons (look_int rfl (by first | rfl | omega)) (SubL.nil)))))))) (SubL.nil)⟩
            · refine AWp.exit ?_
              refine AWp.seq ?_
              refine AWp.region ?_
              refine AOps.val (Y.move rfl rfl) (by decide) ?_
              refine AOps.val (Y.move rfl rfl) (by decide) ?_
              refine AOps.callP ok18 (open_spec (l := l) (xs := xs) (by omega)) rfl (.keep rfl rfl (.keep rfl rfl .nil)) (by decide) rfl ?_
              refine AOps.assignX rfl (by decide) ?_
              refine AOps.sh (Sh.freezeE (d := 13) ((opened xs (nin l)).map brow) rfl (by first | rfl | exact rep_map rfl) (Frees.map brow_frees)) ?_
              refine AOps.nil ?_
              refine AWp.seq ?_
              have hio : (opened xs (nin l)).length = nin l := opened_length _ _
              have hol : (outs l (opened xs (nin l)) l.length).length = l.length := outs_length (Nat.le_refl _)
              have hom : (outs m (opened xs (nin l)) m.length).length = m.length := outs_length (Nat.le_refl _)
              refine AWp.region ?_
              refine AOps.val (Y.move rfl rfl) (by decide) ?_
              refine AOps.val (Y.move rfl rfl) (by decide) ?_
              refine AOps.callP ok15 (refEval_spec (l := l) (ins := (opened xs (nin l))) (by omega) hgood hio) rfl (.keep rfl rfl (.keep rfl rfl .nil)) (by decide) rfl ?_
              refine AOps.val (Y.move rfl rfl) (by decide) ?_
              refine AOps.val (Y.move rfl rfl) (by decide) ?_
              refine AOps.callP ok15 (refEval_spec (l := m) (ins := (opened xs (nin l))) (by omega) hgoodm (by rw [hF52.nin]; exact hio)) rfl (.keep rfl rfl (.keep rfl rfl .nil)) (by decide) rfl ?_
              refine AOps.assignX rfl (by decide) ?_
              refine AOps.sh (Sh.freezeE (d := 14) ((outs l (opened xs (nin l)) l.length).map brow) rfl (by first | rfl | exact rep_map rfl) (Frees.map brow_frees)) ?_
              refine AOps.assignX rfl (by decide) ?_
              refine AOps.sh (Sh.freezeE (d := 15) ((outs m (opened xs (nin l)) m.length).map brow) rfl (by first | rfl | exact rep_map rfl) (Frees.map brow_frees)) ?_
              refine AOps.nil ?_
              refine AWp.seq ?_
              refine AWp.seq ?_
              refine AWp.region ?_
              refine AOps.val (Y.move rfl rfl) (by decide) ?_
              refine AOps.val (Y.len (n := kp.length) sl42 rfl (congrArg some (List.length_map ..))) (by decide) ?_
              refine AOps.val (Y.move rfl rfl) (by decide) ?_
              refine AOps.nil ?_
              refine AWp.block ?_
              refine AWp.loop1 (fun (j_22 : Nat) => ⟨[(8, .fz 1 (kept_6.map nrow)), (10, .fz 3 (m.map Gate.row)), (11, .fz 1 (kp.map nrow)), (14, .fz 1 ((outs l (opened xs (nin l)) l.length).map brow)), (15, .fz 1 ((outs m (opened xs (nin l)) m.length).map brow)), (102, .v (.int .i64 (kp.length : Nat))), (103, .v (.int .i64 (j_22 : Int)))], []⟩) (fun (j_22 : Nat) => ((j_22 : Int) ≤ (kp.length : Nat))) (fun (j_22 : Nat) => ((kp.length : Nat) - (j_22 : Int)).toNat) 0 (by first | omega | (simp [-List.getD_eq_getElem?_getD]; done) | (simp [-List.getD_eq_getElem?_getD]; omega)) (Le.mk (SubL.cons rfl (SubL.cons rfl (SubL.cons rfl (SubL.cons rfl (SubL.cons rfl (SubL.cons rfl (SubL.cons (look_int rfl (by first | rfl | omega)) (SubL.nil)))))))) (SubL.nil)) (fun j_22 hI22 => ?_)
              have hb22 := hI22
              refine AWp.seq ?_
              refine AWp.region ?_
              refine AOps.val (Y.lss rfl rfl) (by decide) ?_
              refine AOps.nil ?_
              refine AWp.seq ?_
              refine AWp.condD rfl (fun c104 => ?_) (fun c104 => ?_)
              · have hat2 := hF52.lt _ (mem_getD (d := 0) (show j_22 < kp.length by omega))
                have hvl := hF52.val (opened xs (nin l)) j_22 (by omega)
                have hkt := hkept _ (mem_getD (d := 0) (show j_22 < kept_6.length by omega))
                refine AWp.skip ?_
                refine AWp.seq ?_
                refine AWp.block ?_
                refine AWp.seq ?_
                refine AWp.region ?_
                refine AOps.val (Y.move rfl rfl) (by decide) ?_
                refine AOps.val (Y.assign rfl rfl) (by decide) ?_
                refine AOps.nil ?_
                refine AWp.seq ?_
                refine AWp.regionS rfl (by kernel_rfl) ?_
                refine AHead.val (Y.move rfl rfl) (by decide) ?_
                refine AHead.val (Y.move rfl rfl) (by decide) ?_
                refine AHead.val (Y.move rfl rfl) (by decide) ?_
                refine AHead.val (Y.indexF (m := j_22) sl42 rfl rfl (by first | rfl | omega) (row_getD (d := 0) (by first | omega | (simp [-List.getD_eq_getElem?_getD]; done) | (simp [-List.getD_eq_getElem?_getD]; omega)))) (by decide) ?_
                refine AHead.val (Y.load sh3 rfl rfl rfl rfl) (by decide) ?_
                refine AHead.val (Y.indexF (m := kp.getD j_22 0) sl27 rfl rfl (by first | rfl | omega) (row_getD (d := false) (by first | omega | (simp [-List.getD_eq_getElem?_getD]; done) | (simp [-List.getD_eq_getElem?_getD]; omega)))) (by decide) ?_
                refine AHead.val (Y.load sh4 rfl rfl rfl rfl) (by decide) ?_
                refine AHead.val (Y.move rfl rfl) (by decide) ?_
                refine AHead.val (Y.move rfl rfl) (by decide) ?_
                refine AHead.val (Y.move rfl rfl) (by decide) ?_
                refine AHead.val (Y.indexF (m := j_22) sl42 rfl rfl (by first | rfl | omega) (row_getD (d := 0) (by first | omega | (simp [-List.getD_eq_getElem?_getD]; done) | (simp [-List.getD_eq_getElem?_getD]; omega)))) (by decide) ?_
                refine AHead.val (Y.load sh3 rfl rfl rfl rfl) (by decide) ?_
                refine AHead.val (Y.indexF (m := kept_6.getD j_22 0) sl27 rfl rfl (by first | rfl | omega) (row_getD (d := false) (by first | omega | (simp [-List.getD_eq_getElem?_getD]; done) | (simp [-List.getD_eq_getElem?_getD]; omega)))) (by decide) ?_
                refine AHead.val (Y.load sh4 rfl rfl rfl rfl) (by decide) ?_
                refine AHead.val (Y.neqB un4 rfl rfl) (by decide) ?_
                refine AHead.nil ?_
                refine AWp.cond rfl (fun c120 => ?_) (fun c120 => ?_)
                · exfalso
                  rw [show (outs m (opened xs (nin l)) m.length).getD (kp.getD j_22 0) false = (outs l (opened xs (nin l)) l.length).getD (kept_6.getD j_22 0) false from hvl] at c120
                  simp at c120
                · refine AWp.skip ?_
                  refine AWp.region ?_
                  refine AOps.val (Y.addI rfl rfl (by first | omega | (simp [-List.getD_eq_getElem?_getD]; done) | (simp [-List.getD_eq_getElem?_getD]; omega))) (by decide) ?_
                  refine AOps.val (Y.move rfl rfl) (by decide) ?_
                  refine AOps.nil ?_
                  exact ⟨j_22 + 1, by first | omega | (simp [-List.getD_eq_getElem?_getD]; done) | (simp [-List.getD_eq_getElem?_getD]; omega), by omega, Le.mk (SubL.cons rfl (SubL.cons rfl (SubL.cons rfl (SubL.cons rfl (SubL.cons rfl (SubL.cons rfl (SubL.cons (look_int rfl (by first | rfl | omega)) (SubL.nil)))))))) (SubL.nil)⟩
              · refine AWp.exit ?_
                refine AWp.seq ?_
                refine AWp.region ?_
                refine AOps.val (Y.move rfl rfl) (by decide) ?_
                refine AOps.val (Y.move rfl rfl) (by decide) ?_
                refine AOps.callP ok22 (folded_spec (l := m) (keep := kp) (by omega) (by omega) hgoodm hF52.lt hF52.clean hF52.used) rfl (.keep rfl rfl (.keep rfl rfl .nil)) (by decide) rfl ?_
                refine AOps.val (Y.assign rfl rfl) (by decide) ?_
                refine AOps.nil ?_
                refine AWp.ret ?_
                exact ⟨_, _, rfl, rfl, (cg1 (fun (z0 : Bool) => X.v (.bool z0)) (rfl : true = true) : X.v (.bool true) = X.v (.bool true)), rfl⟩

end Go.Proofs.Ytiehdnjcapjacaa
/- The law on folding twice. -/
namespace Go.Proofs.Ytiehdnjcapjacaa
open Go Go.AW Go.Proofs



set_option maxHeartbeats 1000000 in
theorem fold_bad {l : List Gate} (hl : l.length ≤ 1000) (hgood : Good l) : ACalls Try.prog 21 [.fz 3 (l.map Gate.row), .fz 1 (([l.length] : List Nat).map nrow)] [] [] (fun r o => r = .tup [.uni 3 (([] : List Gate).map Gate.row), .uni 1 (([] : List Nat).map nrow)] ∧ o = []) := by
  refine ACalls.of Try.func21 rfl rfl rfl (n := 91) (by decide) (Nat.le_of_ble_eq_true rfl) ?_
  have hk1 : ([l.length] : List Nat).length = 1 := rfl
  refine AWp.seq ?_
  refine AWp.region ?_
  refine AOps.val (Y.assign rfl rfl) (by decide) ?_
  refine AOps.val (Y.assign rfl rfl) (by decide) ?_
  refine AOps.nil ?_
  refine AWp.seq ?_
  refine AWp.seq ?_
  refine AWp.region ?_
  refine AOps.val (Y.move rfl rfl) (by decide) ?_
  refine AOps.callP ok12 (check_spec (l := l) (by omega)) rfl (.keep rfl rfl .nil) (by decide) rfl ?_
  refine AOps.val (Y.neq rfl rfl) (by decide) ?_
  refine AOps.nil ?_
  refine AWp.condD rfl (fun c14 => ?_) (fun c14 => ?_)
  · exact absurd (check_good hgood) c14
  · refine AWp.skip ?_
    refine AWp.seq ?_
    refine AWp.seq ?_
    refine AWp.region ?_
    refine AOps.val (Y.move rfl rfl) (by decide) ?_
    refine AOps.val (Y.len (n := ([l.length] : List Nat).length) sl42 rfl (congrArg some (List.length_map ..))) (by decide) ?_
    refine AOps.val (Y.move rfl rfl) (by decide) ?_
    refine AOps.nil ?_
    refine AWp.block ?_
    refine AWp.loop0 (⟨[(0, .fz 3 (l.map Gate.row)), (1, .fz 1 (([l.length] : List Nat).map nrow)), (15, .fz 1 (([l.length] : List Nat).map nrow)), (16, .v (.int .i64 (([l.length] : List Nat).length : Nat))), (17, .v (.int .i64 0))], []⟩) (True) (trivial) (Le.mk (SubL.cons rfl (SubL.cons rfl (SubL.cons rfl (SubL.cons rfl (SubL.cons rfl (SubL.nil)))))) (SubL.nil)) (fun hI4 => ?_)
    refine AWp.seq ?_
    refine AWp.region ?_
    refine AOps.val (Y.lss rfl rfl) (by decide) ?_
    refine AOps.nil ?_
    refine AWp.seq ?_
    refine AWp.condD rfl (fun c18 => ?_) (fun c18 => ?_)
    · have hx : ([l.length] : List Nat).getD 0 0 = l.length := rfl
      refine AWp.skip ?_
      refine AWp.seq ?_
      refine AWp.block ?_
      refine AWp.seq ?_
      refine AWp.region ?_
      refine AOps.val (Y.indexF (m := 0) sl42 rfl rfl (by first | rfl | omega) (row_getD (d := 0) (by first | omega | (simp [-List.getD_eq_getElem?_getD]; done) | (simp [-List.getD_eq_getElem?_getD]; omega)))) (by decide) ?_
      refine AOps.val (Y.load sh3 rfl rfl rfl rfl) (by decide) ?_
      refine AOps.val (Y.assign rfl rfl) (by decide) ?_
      refine AOps.nil ?_
      refine AWp.seq ?_
      refine AWp.region ?_
      refine AOps.val (Y.move rfl rfl) (by decide) ?_
      refine AOps.val (Y.lss rfl rfl) (by decide) ?_
      refine AOps.val (Y.move rfl rfl) (by decide) ?_
      refine AOps.splitD (d := 23) rfl (fun c23 => ?_) (fun c23 => ?_)
      · exfalso; omega
      · refine AOps.guardRun (d := 23) rfl (by decide) rfl ?_
        refine AOps.val (Y.move rfl rfl) (by decide) ?_
        refine AOps.guardRun (d := 23) rfl (by decide) rfl ?_
        refine AOps.val (Y.move rfl rfl) (by decide) ?_
        refine AOps.guardRun (d := 23) rfl (by decide) rfl ?_
        refine AOps.val (Y.len (n := l.length) sl22 rfl (congrArg some (List.length_map ..))) (by decide) ?_
        refine AOps.guardRun (d := 23) rfl (by decide) rfl ?_
        refine AOps.val (Y.geq rfl rfl) (by decide) ?_
        refine AOps.val (Y.pick rfl rfl rfl) (by decide) ?_
        refine AOps.nil ?_
        refine AWp.condD rfl (fun c28 => ?_) (fun c28 => ?_)
        · refine AWp.seq ?_
          refine AWp.region ?_
          refine AOps.val (Y.assign rfl rfl) (by decide) ?_
          refine AOps.val (Y.assign rfl rfl) (by decide) ?_
          refine AOps.nil ?_
          refine AWp.sh (Sh.nilU (d := 4) 3 rfl) ?_
          refine AWp.sh (Sh.nilU (d := 5) 1 rfl) ?_
          refine AWp.ret ?_
          exact ⟨_, _, rfl, rfl, (cg2 (fun (z0 : List Gate) (z1 : List Nat) => X.tup [.uni 3 (z0.map Gate.row), .uni 1 (z1.map nrow)]) (rfl : ([] : List Gate) = []) (rfl : ([] : List Nat) = []) : X.tup [.uni 3 (([] : List Gate).map Gate.row), .uni 1 (([] : List Nat).map nrow)] = X.tup [.uni 3 ([].map Gate.row), .uni 1 ([].map nrow)]), rfl⟩
        · exfalso; omega
    · exfalso; omega

set_option maxHeartbeats 1000000 in
theorem law9_spec {ps : List Part} {keep : List Nat} (hl : ps.length ≤ 140737488355328) (hkl0 : keep.length ≤ 140737488355328) (hok : partsOk ps) (hkeep : ∀ x ∈ keep, x ≤ 255) : ACalls Try.prog 9 [.fz 3 (ps.map Part.row), .fz 1 (keep.map nu8row)] [] [] (fun r o => r = .v (.bool true) ∧ o = []) := by
  refine ACalls.of Try.func9 rfl rfl rfl (n := 130) (by decide) (Nat.le_of_ble_eq_true rfl) ?_
  have hkb := fun (i : Nat) (h : i < keep.length) => hkeep _ (mem_getD (d := 0) h)
  refine AWp.seq ?_
  refine AWp.region ?_
  refine AOps.val (Y.assign rfl rfl) (by decide) ?_
  refine AOps.nil ?_
  refine AWp.seq ?_
  refine AWp.seq ?_
  refine AWp.region ?_
  refine AOps.callP ok10 (awake_spec) rfl .nil (by decide) rfl ?_
  refine AOps.val (Y.not rfl) (by decide) ?_
  refine AOps.val (Y.move rfl rfl) (by decide) ?_
  refine AOps.guardRun (d := 20) rfl (by decide) rfl ?_
  refine AOps.val (Y.move rfl rfl) (by decide) ?_
  refine AOps.guardRun (d := 20) rfl (by decide) rfl ?_
  refine AOps.val (Y.len (n := ps.length) sl33 rfl (congrArg some (List.length_map ..))) (by decide) ?_
  refine AOps.guardRun (d := 20) rfl (by decide) rfl ?_
  refine AOps.val (Y.gtr rfl rfl) (by decide) ?_
  refine AOps.val (Y.pick rfl rfl rfl) (by decide) ?_
  refine AOps.val (Y.move rfl rfl) (by decide) ?_
  refine AOps.splitD (d := 25) rfl (fun c25 => ?_) (fun c25 => ?_)
  · refine AOps.guardSkipV (d := 25) rfl (by decide) (by decide) rfl rfl ?_
    refine AOps.guardSkipV (d := 25) rfl (by decide) (by decide) rfl rfl ?_
    refine AOps.guardSkipV (d := 25) rfl (by decide) (by decide) rfl rfl ?_
    refine AOps.val (Y.pick rfl rfl rfl) (by decide) ?_
    refine AOps.nil ?_
    refine AWp.condT rfl ?_
    refine AWp.seq ?_
    refine AWp.region ?_
    refine AOps.callP ok10 (awake_spec) rfl .nil (by decide) rfl ?_
    refine AOps.val (Y.assign rfl rfl) (by decide) ?_
    refine AOps.nil ?_
    refine AWp.ret ?_
    exact ⟨_, _, rfl, rfl, (cg1 (fun (z0 : Bool) => X.v (.bool z0)) (rfl : true = true) : X.v (.bool true) = X.v (.bool true)), rfl⟩
  · refine AOps.guardRun (d := 25) rfl (by decide) rfl ?_
    refine AOps.val (Y.move rfl rfl) (by decide) ?_
    refine AOps.guardRun (d := 25) rfl (by decide) rfl ?_
    refine AOps.val (Y.len (n := keep.length) sl48 rfl (congrArg some (List.length_map ..))) (by decide) ?_
    refine AOps.guardRun (d := 25) rfl (by decide) rfl ?_
    refine AOps.val (Y.gtr rfl rfl) (by decide) ?_
    refine AOps.val (Y.pick rfl rfl rfl) (by decide) ?_
    refine AOps.nil ?_
    refine AWp.condD rfl (fun c29 => ?_) (fun c29 => ?_)
    · refine AWp.seq ?_
      refine AWp.region ?_
      refine AOps.callP ok10 (awake_spec) rfl .nil (by decide) rfl ?_
      refine AOps.val (Y.assign rfl rfl) (by decide) ?_
      refine AOps.nil ?_
      refine AWp.ret ?_
      exact ⟨_, _, rfl, rfl, (cg1 (fun (z0 : Bool) => X.v (.bool z0)) (rfl : true = true) : X.v (.bool true) = X.v (.bool true)), rfl⟩
    · refine AWp.skip ?_
      refine AWp.seq ?_
      refine AWp.region ?_
      refine AOps.val (Y.move rfl rfl) (by decide) ?_
      refine AOps.callV ok16 (made_rel (ps := ps) (by omega) hok) rfl (.keep rfl rfl .nil) (by decide) ?_
      rintro _ ⟨l, hg32, hl32, rfl, _⟩
      refine ⟨rfl, ?_⟩
      refine AOps.assignX rfl (by decide) ?_
      refine AOps.sh (Sh.freezeE (d := 5) (l.map Gate.row) rfl (by first | rfl | exact rep_map rfl) (Frees.map Gate.row_frees)) ?_
      refine AOps.nil ?_
      refine AWp.seq ?_
      refine AWp.region ?_
      refine AOps.val (Y.assign rfl rfl) (by decide) ?_
      refine AOps.sh (Sh.nil (d := 6) 106 1 rfl (by decide)) ?_
      refine AOps.nil ?_
      refine AWp.seq ?_
      refine AWp.seq ?_
      refine AWp.region ?_
      refine AOps.val (Y.move rfl rfl) (by decide) ?_
      refine AOps.val (Y.len (n := keep.length) sl48 rfl (congrArg some (List.length_map ..))) (by decide) ?_
      refine AOps.val (Y.move rfl rfl) (by decide) ?_
      refine AOps.nil ?_
      refine AWp.block ?_
      refine AWp.loop2 (fun (n_6 : Nat) (kept_6 : List Nat) => ⟨[(1, .fz 1 (keep.map nu8row)), (5, .fz 3 (l.map Gate.row)), (6, .slc 106 1 0 kept_6.length), (34, .v (.int .i64 (keep.length : Nat))), (35, .v (.int .i64 (n_6 : Int)))], [(106, .rows 1 (kept_6.map nrow))]⟩) (fun (n_6 : Nat) (kept_6 : List Nat) => ((n_6 : Int) ≤ (keep.length : Nat)) ∧ (kept_6.length = n_6 ∧ ∀ x ∈ kept_6, x < l.length)) (fun (n_6 : Nat) (kept_6 : List Nat) => ((keep.length : Nat) - (n_6 : Int)).toNat) 0 ([] : List Nat) (⟨by first | omega | (simp [-List.getD_eq_getElem?_getD]; done) | (simp [-List.getD_eq_getElem?_getD]; omega), ⟨rfl, fun _ h => by cases h⟩⟩) (Le.mk (SubL.cons rfl (SubL.cons rfl (SubL.cons (look_slc rfl (by first | omega | (simp [-List.getD_eq_getElem?_getD]; done) | (simp [-List.getD_eq_getElem?_getD]; omega))) (SubL.cons rfl (SubL.cons (look_int rfl (by first | rfl | omega)) (SubL.nil)))))) (SubL.cons rfl (SubL.nil))) (fun n_6 kept_6 hI6 => ?_)
      obtain ⟨hb6, hke⟩ := hI6
      refine AWp.seq ?_
      refine AWp.region ?_
      refine AOps.val (Y.lss rfl rfl) (by decide) ?_
      refine AOps.nil ?_
      refine AWp.seq ?_
      refine AWp.condD rfl (fun c36 => ?_) (fun c36 => ?_)
      · have hkb1 := hkb n_6 (by omega)
        have hke1 : kept_6.length = n_6 := hke.1
        have hlt : keep.getD n_6 0 % l.length < l.length := Nat.mod_lt _ (by omega)
        have hle := Nat.mod_le (keep.getD n_6 0) l.length
        refine AWp.skip ?_
        refine AWp.seq ?_
        refine AWp.block ?_
        refine AWp.seq ?_
        refine AWp.region ?_
        refine AOps.val (Y.move rfl rfl) (by decide) ?_
        refine AOps.val (Y.assign rfl rfl) (by decide) ?_
        refine AOps.nil ?_
        refine AWp.region ?_
        refine AOps.val (Y.move rfl rfl) (by decide) ?_
        refine AOps.val (Y.move rfl rfl) (by decide) ?_
        refine AOps.val (Y.move rfl rfl) (by decide) ?_
        refine AOps.val (Y.indexF (m := n_6) sl48 rfl rfl (by first | rfl | omega) (row_getD (d := 0) (by first | omega | (simp [-List.getD_eq_getElem?_getD]; done) | (simp [-List.getD_eq_getElem?_getD]; omega)))) (by decide) ?_
        refine AOps.val (Y.load sh5 rfl rfl rfl rfl) (by decide) ?_
        refine AOps.val (Y.convK ii5 ii3 rfl (by first | rfl | exact IntWalk.i64_in _ (by first | omega | (simp [-List.getD_eq_getElem?_getD]; done) | (simp [-List.getD_eq_getElem?_getD]; omega)))) (by decide) ?_
        refine AOps.val (Y.move rfl rfl) (by decide) ?_
        refine AOps.val (Y.len (n := l.length) sl22 rfl (congrArg some (List.length_map ..))) (by decide) ?_
        refine AOps.val (Y.remI rfl rfl (by first | omega | (simp [-List.getD_eq_getElem?_getD]; done) | (simp [-List.getD_eq_getElem?_getD]; omega))) (by decide) ?_
        refine AOps.buildSlice (([(keep.getD n_6 0) % l.length] : List Nat).map nrow) sl42 ze3 rfl rfl rfl rfl rfl (uniform_map (s := 1) (f := nrow) (fun _ => rfl)) rfl rfl rfl (by decide) ?_
        refine AOps.appendE ((kept_6 ++ ([(keep.getD n_6 0) % l.length] : List Nat)).map nrow) (kept_6 ++ ([(keep.getD n_6 0) % l.length] : List Nat)).length sl42 ze3 rfl rfl rfl rfl (app_le (by first | omega | (simp [-List.getD_eq_getElem?_getD]; done) | (simp [-List.getD_eq_getElem?_getD]; omega))) (app_map (by first | omega | (simp [-List.getD_eq_getElem?_getD]; done) | (simp [-List.getD_eq_getElem?_getD]; omega))) (app_n (by first | omega | (simp [-List.getD_eq_getElem?_getD]; done) | (simp [-List.getD_eq_getElem?_getD]; omega))) (by first | omega | (simp [-List.getD_eq_getElem?_getD]; done) | (simp [-List.getD_eq_getElem?_getD]; omega)) (by first | omega | (simp [-List.getD_eq_getElem?_getD]; done) | (simp [-List.getD_eq_getElem?_getD]; omega)) (by decide) (by decide) ?_
        refine AOps.val (Y.assign rfl rfl) (by decide) ?_
        refine AOps.nil ?_
        refine AWp.region ?_
        refine AOps.val (Y.addI rfl rfl (by first | omega | (simp [-List.getD_eq_getElem?_getD]; done) | (simp [-List.getD_eq_getElem?_getD]; omega))) (by decide) ?_
        refine AOps.val (Y.move rfl rfl) (by decide) ?_
        refine AOps.nil ?_
        exact ⟨n_6 + 1, kept_6 ++ ([(keep.getD n_6 0) % l.length] : List Nat), ⟨by first | omega | (simp [-List.getD_eq_getElem?_getD]; done) | (simp [-List.getD_eq_getElem?_getD]; omega), ⟨by rw [List.length_append, hke.1]; rfl, fun x hx => by rcases List.mem_append.1 hx with h | h; exact hke.2 x h; simp only [List.mem_singleton] at h; rw [h]; exact hlt⟩⟩, by omega, Le.mk (SubL.cons rfl (SubL.cons rfl (SubL.cons (look_slc rfl (by first | omega | (simp [-List.getD_eq_getElem?_getD]; done) | (simp [-List.getD_eq_getElem?_getD]; omega))) (SubL.cons rfl (SubL.cons (look_int rfl (by first | rfl | omega)) (SubL.nil)))))) (SubL.cons rfl (SubL.nil))⟩
      · refine AWp.exit ?_
        refine AWp.seq ?_
        have hgood := hg32
        have hkept := hke.2
        have hkl := hke.1
        refine AWp.sh (Sh.detach (d := 6) (o := 106) rfl rfl (len_map (by first | omega | (simp [-List.getD_eq_getElem?_getD]; done) | (simp [-List.getD_eq_getElem?_getD]; omega))) (by decide)) ?_
        refine AWp.sh (Sh.freezeE (d := 6) (kept_6.map nrow) rfl (by first | rfl | exact rep_map rfl) (Frees.map nrow_frees)) ?_
        refine AWp.region ?_
        refine AOps.val (Y.move rfl rfl) (by decide) ?_
        refine AOps.val (Y.move rfl rfl) (by decide) ?_
        refine AOps.callV ok21 (fold_rel (l := l) (keep := kept_6) (by omega) (by omega) hgood hkept) rfl (.keep rfl rfl (.keep rfl rfl .nil)) (by decide) ?_
        rintro _ ⟨m, kp, hF53, rfl, _⟩
        refine ⟨rfl, ?_⟩
        refine AOps.moveX rfl (by decide) ?_
        refine AOps.extractU rfl rfl (by decide) ?_
        refine AOps.extractU rfl rfl (by decide) ?_
        refine AOps.assignX rfl (by decide) ?_
        refine AOps.sh (Sh.freezeE (d := 8) (m.map Gate.row) rfl (by first | rfl | exact rep_map rfl) (Frees.map Gate.row_frees)) ?_
        refine AOps.assignX rfl (by decide) ?_
        refine AOps.sh (Sh.freezeE (d := 9) (kp.map nrow) rfl (by first | rfl | exact rep_map rfl) (Frees.map nrow_frees)) ?_
        refine AOps.nil ?_
        refine AWp.seq ?_
        refine AWp.seq ?_
        have hgoodm := hF53.good
        have hlm := hF53.small
        have hlk := hF53.len
        refine AWp.region ?_
        refine AOps.val (Y.move rfl rfl) (by decide) ?_
        refine AOps.callP ok11 (formed_ok (l := m) (by omega) hgoodm) rfl (.keep rfl rfl .nil) (by decide) rfl ?_
        refine AOps.val (Y.not rfl) (by decide) ?_
        refine AOps.val (Y.move rfl rfl) (by decide) ?_
        refine AOps.guardRun (d := 59) rfl (by decide) rfl ?_
        refine AOps.val (Y.move rfl rfl) (by decide) ?_
        refine AOps.guardRun (d := 59) rfl (by decide) rfl ?_
        refine AOps.val (Y.len (n := kp.length) sl42 rfl (congrArg some (List.length_map ..))) (by decide) ?_
        refine AOps.guardRun (d := 59) rfl (by decide) rfl ?_
        refine AOps.val (Y.move rfl rfl) (by decide) ?_
        refine AOps.guardRun (d := 59) rfl (by decide) rfl ?_
        refine AOps.val (Y.len (n := kept_6.length) sl42 rfl (congrArg some (List.length_map ..))) (by decide) ?_
        refine AOps.guardRun (d := 59) rfl (by decide) rfl ?_
        refine AOps.val (Y.neq rfl rfl) (by decide) ?_
        refine AOps.val (Y.pick rfl rfl rfl) (by decide) ?_
        refine AOps.nil ?_
        refine AWp.condD rfl (fun c65 => ?_) (fun c65 => ?_)
        · exact absurd (congrArg Nat.cast hF53.len) c65
        · refine AWp.skip ?_
          refine AWp.seq ?_
          refine AWp.region ?_
          refine AOps.val (Y.move rfl rfl) (by decide) ?_
          refine AOps.val (Y.move rfl rfl) (by decide) ?_
          refine AOps.callV ok21 (fold_again (l := m) (keep := kp) (by omega) (by omega) hgoodm hF53.lt hF53.clean hF53.used) rfl (.keep rfl rfl (.keep rfl rfl .nil)) (by decide) ?_
          rintro _ ⟨m2, kp2, hL69, rfl, _⟩
          refine ⟨rfl, ?_⟩
          refine AOps.moveX rfl (by decide) ?_
          refine AOps.extractU rfl rfl (by decide) ?_
          refine AOps.extractU rfl rfl (by decide) ?_
          refine AOps.assignX rfl (by decide) ?_
          refine AOps.sh (Sh.freezeE (d := 10) (m2.map Gate.row) rfl (by first | rfl | exact rep_map rfl) (Frees.map Gate.row_frees)) ?_
          refine AOps.assignX rfl (by decide) ?_
          refine AOps.sh (Sh.freezeE (d := 11) (kp2.map nrow) rfl (by first | rfl | exact rep_map rfl) (Frees.map nrow_frees)) ?_
          refine AOps.nil ?_
          refine AWp.seq ?_
          refine AWp.seq ?_
          refine AWp.region ?_
          refine AOps.val (Y.move rfl rfl) (by decide) ?_
          refine AOps.val (Y.len (n := m2.length) sl22 rfl (congrArg some (List.length_map ..))) (by decide) ?_
          refine AOps.val (Y.move rfl rfl) (by decide) ?_
          refine AOps.val (Y.len (n := m.length) sl22 rfl (congrArg some (List.length_map ..))) (by decide) ?_
          refine AOps.val (Y.neq rfl rfl) (by decide) ?_
          refine AOps.val (Y.move rfl rfl) (by decide) ?_
          refine AOps.splitD (d := 77) rfl (fun c77 => ?_) (fun c77 => ?_)
          · exact absurd (congrArg Nat.cast hL69.1) c77
          · refine AOps.guardRun (d := 77) rfl (by decide) rfl ?_
            refine AOps.val (Y.move rfl rfl) (by decide) ?_
            refine AOps.guardRun (d := 77) rfl (by decide) rfl ?_
            refine AOps.val (Y.len (n := kp2.length) sl42 rfl (congrArg some (List.length_map ..))) (by decide) ?_
            refine AOps.guardRun (d := 77) rfl (by decide) rfl ?_
            refine AOps.val (Y.move rfl rfl) (by decide) ?_
            refine AOps.guardRun (d := 77) rfl (by decide) rfl ?_
            refine AOps.val (Y.len (n := kp.length) sl42 rfl (congrArg some (List.length_map ..))) (by decide) ?_
            refine AOps.guardRun (d := 77) rfl (by decide) rfl ?_
            refine AOps.val (Y.neq rfl rfl) (by decide) ?_
            refine AOps.val (Y.pick rfl rfl rfl) (by decide) ?_
            refine AOps.nil ?_
            refine AWp.condD rfl (fun c83 => ?_) (fun c83 => ?_)
            · exact absurd (congrArg Nat.cast hL69.2) c83
            · refine AWp.skip ?_
              refine AWp.seq ?_
              have hnl := nin_le l
              have hol : (touts l (List.replicate (nin l) (0 : Int)) l.length).length = l.length := touts_length (Nat.le_refl _)
              have hom : (touts m (List.replicate (nin l) (0 : Int)) m.length).length = m.length := touts_length (Nat.le_refl _)
              refine AWp.region ?_
              refine AOps.val (Y.move rfl rfl) (by decide) ?_
              refine AOps.callP ok14 (refInputs_spec (l := l) (by omega)) rfl (.keep rfl rfl .nil) (by decide) rfl ?_
              refine AOps.makeSlice (n := nin l) sl42 ze3 rfl rfl rfl rfl (by first | omega | (simp [-List.getD_eq_getElem?_getD]; done) | (simp [-List.getD_eq_getElem?_getD]; omega)) (by first | omega | (simp [-List.getD_eq_getElem?_getD]; done) | (simp [-List.getD_eq_getElem?_getD]; omega)) (by decide) ?_
              refine AOps.assignX rfl (by decide) ?_
              refine AOps.sh (Sh.freezeE (d := 12) ((List.replicate (nin l) 0).map nrow) rfl (by first | rfl | exact rep_map rfl) (Frees.map nrow_frees)) ?_
              refine AOps.nil ?_
              refine AWp.seq ?_
              refine AWp.region ?_
              refine AOps.val (Y.move rfl rfl) (by decide) ?_
              refine AOps.val (Y.move rfl rfl) (by decide) ?_
              refine AOps.callP ok20 (refDepths_zero (l := l) (n := nin l) (by omega) hgood rfl) rfl (.keep rfl rfl (.keep rfl rfl .nil)) (by decide) rfl ?_
              refine AOps.val (Y.move rfl rfl) (by decide) ?_
              refine AOps.val (Y.move rfl rfl) (by decide) ?_
              refine AOps.callP ok20 (refDepths_zero (l := m) (n := nin l) (by omega) hgoodm hF53.nin.symm) rfl (.keep rfl rfl (.keep rfl rfl .nil)) (by decide) rfl ?_
              refine AOps.assignX rfl (by decide) ?_
              refine AOps.sh (Sh.freezeE (d := 13) ((touts l (List.replicate (nin l) 0) l.length).map irow) rfl (by first | rfl | exact rep_map rfl) (Frees.map irow_frees)) ?_
              refine AOps.assignX rfl (by decide) ?_
              refine AOps.sh (Sh.freezeE (d := 14) ((touts m (List.replicate (nin l) 0) m.length).map irow) rfl (by first | rfl | exact rep_map rfl) (Frees.map irow_frees)) ?_
              refine AOps.nil ?_
              refine AWp.seq ?_
              refine AWp.seq ?_
              refine AWp.region ?_
              refine AOps.val (Y.move rfl rfl) (by decide) ?_
              refine AOps.val (Y.len (n := kp.length) sl42 rfl (congrArg some (List.length_map ..))) (by decide) ?_
              refine AOps.val (Y.move rfl rfl) (by decide) ?_
              refine AOps.nil ?_
              refine AWp.block ?_
              refine AWp.loop1 (fun (j_19 : Nat) => ⟨[(5, .fz 3 (l.map Gate.row)), (6, .fz 1 (kept_6.map nrow)), (9, .fz 1 (kp.map nrow)), (13, .fz 1 ((touts l (List.replicate (nin l) 0) l.length).map irow)), (14, .fz 1 ((touts m (List.replicate (nin l) 0) m.length).map irow)), (94, .v (.int .i64 (kp.length : Nat))), (95, .v (.int .i64 (j_19 : Int)))], []⟩) (fun (j_19 : Nat) => ((j_19 : Int) ≤ (kp.length : Nat))) (fun (j_19 : Nat) => ((kp.length : Nat) - (j_19 : Int)).toNat) 0 (by first | omega | (simp [-List.getD_eq_getElem?_getD]; done) | (simp [-List.getD_eq_getElem?_getD]; omega)) (Le.mk (SubL.cons rfl (SubL.cons rfl (SubL.cons rfl (SubL.cons rfl (SubL.cons rfl (SubL.cons rfl (SubL.cons (look_int rfl (by first | rfl | omega)) (SubL.nil)))))))) (SubL.nil)) (fun j_19 hI19 => ?_)
              have hb19 := hI19
              refine AWp.seq ?_
              refine AWp.region ?_
              refine AOps.val (Y.lss rfl rfl) (by decide) ?_
              refine AOps.nil ?_
              refine AWp.seq ?_
              refine AWp.condD rfl (fun c96 => ?_) (fun c96 => ?_)
              · have hat2 := hF53.lt _ (mem_getD (d := 0) (show j_19 < kp.length by omega))
                have htm := hF53.time (List.replicate (nin l) (0 : Int)) (zeros_rep _) small_rep j_19 (by omega)
                have hkt := hkept _ (mem_getD (d := 0) (show j_19 < kept_6.length by omega))
                simp only [tAt] at htm
                refine AWp.skip ?_
                refine AWp.seq ?_
                refine AWp.block ?_
                refine AWp.seq ?_
                refine AWp.region ?_
                refine AOps.val (Y.move rfl rfl) (by decide) ?_
                refine AOps.val (Y.assign rfl rfl) (by decide) ?_
                refine AOps.nil ?_
                refine AWp.seq ?_
                refine AWp.regionS rfl (by kernel_rfl) ?_
                refine AHead.val (Y.move rfl rfl) (by decide) ?_
                refine AHead.val (Y.move rfl rfl) (by decide) ?_
                refine AHead.val (Y.move rfl rfl) (by decide) ?_
                refine AHead.val (Y.indexF (m := j_19) sl42 rfl rfl (by first | rfl | omega) (row_getD (d := 0) (by first | omega | (simp [-List.getD_eq_getElem?_getD]; done) | (simp [-List.getD_eq_getElem?_getD]; omega)))) (by decide) ?_
                refine AHead.val (Y.load sh3 rfl rfl rfl rfl) (by decide) ?_
                refine AHead.val (Y.indexF (m := kp.getD j_19 0) sl42 rfl rfl (by first | rfl | omega) (row_getD (d := 0) (by first | omega | (simp [-List.getD_eq_getElem?_getD]; done) | (simp [-List.getD_eq_getElem?_getD]; omega)))) (by decide) ?_
                refine AHead.val (Y.load sh3 rfl rfl rfl rfl) (by decide) ?_
                refine AHead.val (Y.move rfl rfl) (by decide) ?_
                refine AHead.val (Y.move rfl rfl) (by decide) ?_
                refine AHead.val (Y.move rfl rfl) (by decide) ?_
                refine AHead.val (Y.indexF (m := j_19) sl42 rfl rfl (by first | rfl | omega) (row_getD (d := 0) (by first | omega | (simp [-List.getD_eq_getElem?_getD]; done) | (simp [-List.getD_eq_getElem?_getD]; omega)))) (by decide) ?_
                refine AHead.val (Y.load sh3 rfl rfl rfl rfl) (by decide) ?_
                refine AHead.val (Y.indexF (m := kept_6.getD j_19 0) sl42 rfl rfl (by first | rfl | omega) (row_getD (d := 0) (by first | omega | (simp [-List.getD_eq_getElem?_getD]; done) | (simp [-List.getD_eq_getElem?_getD]; omega)))) (by decide) ?_
                refine AHead.val (Y.load sh3 rfl rfl rfl rfl) (by decide) ?_
                refine AHead.val (Y.gtr rfl rfl) (by decide) ?_
                refine AHead.nil ?_
                refine AWp.condD rfl (fun c112 => ?_) (fun c112 => ?_)
                · exfalso; omega
                · refine AWp.skip ?_
                  refine AWp.region ?_
                  refine AOps.val (Y.addI rfl rfl (by first | omega | (simp [-List.getD_eq_getElem?_getD]; done) | (simp [-List.getD_eq_getElem?_getD]; omega))) (by decide) ?_
                  refine AOps.val (Y.move rfl rfl) (by decide) ?_
                  refine AOps.nil ?_
                  exact ⟨j_19 + 1, by first | omega | (simp [-List.getD_eq_getElem?_getD]; done) | (simp [-List.getD_eq_getElem?_getD]; omega), by omega, Le.mk (SubL.cons rfl (SubL.cons rfl (SubL.cons rfl (SubL.cons rfl (SubL.cons rfl (SubL.cons rfl (SubL.cons (look_int rfl (by first | rfl | omega)) (SubL.nil)))))))) (SubL.nil)⟩
              · refine AWp.exit ?_
                refine AWp.seq ?_
                refine AWp.region ?_
                refine AOps.val (Y.move rfl rfl) (by decide) ?_
                refine AOps.val (Y.move rfl rfl) (by decide) ?_
                refine AOps.val (Y.len (n := l.length) sl22 rfl (congrArg some (List.length_map ..))) (by decide) ?_
                refine AOps.buildSlice (([l.length] : List Nat).map nrow) sl42 ze3 rfl rfl rfl rfl rfl (uniform_map (s := 1) (f := nrow) (fun _ => rfl)) rfl rfl rfl (by decide) ?_
                refine AOps.sh (Sh.freezeE (d := 118) (([l.length] : List Nat).map nrow) rfl (by first | rfl | exact rep_map rfl) (Frees.map nrow_frees)) ?_
                refine AOps.callP ok21 (fold_bad (l := l) (by omega) hgood) rfl (.keep rfl rfl (.keep rfl rfl .nil)) (by decide) rfl ?_
                refine AOps.moveX rfl (by decide) ?_
                refine AOps.extractU rfl rfl (by decide) ?_
                refine AOps.extractU rfl rfl (by decide) ?_
                refine AOps.assignX rfl (by decide) ?_
                refine AOps.sh (Sh.freezeE (d := 16) (([] : List Gate).map Gate.row) rfl (by first | rfl | exact rep_map rfl) (Frees.map Gate.row_frees)) ?_
                refine AOps.assignX rfl (by decide) ?_
                refine AOps.sh (Sh.freezeE (d := 17) (([] : List Nat).map nrow) rfl (by first | rfl | exact rep_map rfl) (Frees.map nrow_frees)) ?_
                refine AOps.nil ?_
                refine AWp.seq ?_
                refine AWp.region ?_
                refine AOps.val (Y.move rfl rfl) (by decide) ?_
                refine AOps.val (Y.len (n := ([] : List Gate).length) sl22 rfl (congrArg some (List.length_map ..))) (by decide) ?_
                refine AOps.val (Y.eql rfl rfl) (by decide) ?_
                refine AOps.val (Y.move rfl rfl) (by decide) ?_
                refine AOps.splitD (d := 125) rfl (fun c125 => ?_) (fun c125 => ?_)
                · refine AOps.guardRun (d := 125) rfl (by decide) rfl ?_
                  refine AOps.val (Y.move rfl rfl) (by decide) ?_
                  refine AOps.guardRun (d := 125) rfl (by decide) rfl ?_
                  refine AOps.val (Y.len (n := ([] : List Nat).length) sl42 rfl (congrArg some (List.length_map ..))) (by decide) ?_
                  refine AOps.guardRun (d := 125) rfl (by decide) rfl ?_
                  refine AOps.val (Y.eql rfl rfl) (by decide) ?_
                  refine AOps.val (Y.pick rfl rfl rfl) (by decide) ?_
                  refine AOps.val (Y.assign rfl rfl) (by decide) ?_
                  refine AOps.nil ?_
                  refine AWp.ret ?_
                  exact ⟨_, _, rfl, rfl, (cg1 (fun (z0 : Bool) => X.v (.bool z0)) (rfl : decide ((([] : List Nat).length : Nat) = 0) = true) : X.v (.bool (decide ((([] : List Nat).length : Nat) = 0))) = X.v (.bool true)), rfl⟩
                · exact absurd rfl c125

end Go.Proofs.Ytiehdnjcapjacaa
/- The laws on folding, with bytes as they come in. -/
namespace Go.Proofs.Ytiehdnjcapjacaa
open Go Go.AW

def u8row (z : Int) : List X := [.v (.int .u8 z)]

theorem bytes_nat {ks : List Int} (h : ∀ z ∈ ks, (Lit.int .u8 z).wf = true) : ∃ ns : List Nat, ks.map u8row = ns.map nu8row ∧ ns.length = ks.length ∧ ∀ n ∈ ns, n ≤ 255 := by
  refine ⟨ks.map Int.toNat, ?_, by rw [List.length_map], fun n hn => ?_⟩
  · rw [List.map_map]
    refine List.map_congr_left fun z hz => ?_
    have := wf_u8 (h z hz)
    simp only [Function.comp, u8row, nu8row, Int.toNat_of_nonneg this.1]
  · obtain ⟨z, hz, rfl⟩ := List.mem_map.1 hn
    have := wf_u8 (h z hz)
    omega
theorem law8_int {ps : List Part} {ks : List Int} {xs : List Bool} (hl : ps.length ≤ 140737488355328) (hkl : ks.length ≤ 140737488355328) (hok : partsOk ps) (hk : ∀ z ∈ ks, (Lit.int .u8 z).wf = true) :
    ACalls Try.prog 8 [.fz 3 (ps.map Part.row), .fz 1 (ks.map u8row), .fz 1 (xs.map brow)] [] [] (fun r o => r = .v (.bool true) ∧ o = []) := by
  obtain ⟨ns, h1, h2, h3⟩ := bytes_nat hk
  rw [h1]
  exact law8_spec hl (by omega) hok h3
theorem law9_int {ps : List Part} {ks : List Int} (hl : ps.length ≤ 140737488355328) (hkl : ks.length ≤ 140737488355328) (hok : partsOk ps) (hk : ∀ z ∈ ks, (Lit.int .u8 z).wf = true) :
    ACalls Try.prog 9 [.fz 3 (ps.map Part.row), .fz 1 (ks.map u8row)] [] [] (fun r o => r = .v (.bool true) ∧ o = []) := by
  obtain ⟨ns, h1, h2, h3⟩ := bytes_nat hk
  rw [h1]
  exact law9_spec hl (by omega) hok h3
end Go.Proofs.Ytiehdnjcapjacaa
