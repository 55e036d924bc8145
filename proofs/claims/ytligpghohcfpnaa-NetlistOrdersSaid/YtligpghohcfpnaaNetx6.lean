/- Walks through Few, Drivers, Ordered. -/
import Derived.Test.YtligpghohcfpnaaNetx0
import Derived.Test.YtligpghohcfpnaaNetx1
import Derived.Test.YtligpghohcfpnaaAWx2
import Derived.Test.YtligpghohcfpnaaNetx5
import Derived.Test.YtligpghohcfpnaaNetx3
set_option linter.unusedSimpArgs false
set_option linter.unusedVariables false
set_option linter.unusedSectionVars false
namespace Go.Proofs.Ytligpghohcfpnaa
open Go Go.AW Go.Proofs



set_option maxRecDepth 4000 in
set_option maxHeartbeats 1000000 in
theorem few_spec {p : Pln} : ACalls Try.prog 18 [.agg (Pln.row p)] [] [] (fun r o => r = .v (.bool (decide (p.Few))) ∧ o = []) := by
 refine ACalls.of Try.func18 rfl rfl rfl (n := 31) (by decide) (Nat.le_of_ble_eq_true rfl) ?_
 refine AWp.sr ?_
 refine AOps.box 101 rfl rfl rfl rfl rfl (by decide) ?_
 refine .vl (Y.assign rfl rfl) ?_
 refine AOps.nil ?_
 refine AWp.sr ?_
 refine .vl (Y.fieldAddr fl36_0 rfl rfl) ?_
 refine .vl (Y.load sh32 rfl rfl rfl rfl) ?_
 refine .vl (Y.len (n := p.mems.length) sl32 rfl (congrArg some (List.length_map ..))) ?_
 refine .vl (Y.leq rfl rfl) ?_
 refine .vl (Y.move rfl rfl) ?_
 refine AOps.splitD (d := 7) rfl (fun c7 => ?_) (fun c7 => ?_)
 refine .gv 7 rfl rfl (Y.fieldAddr fl36_1 rfl rfl) ?_
 refine .gv 7 rfl rfl (Y.load sh32 rfl rfl rfl rfl) ?_
 refine .gv 7 rfl rfl (Y.len (n := p.streams.length) sl32 rfl (congrArg some (List.length_map ..))) ?_
 refine .gv 7 rfl rfl (Y.leq rfl rfl) ?_
 refine .vl (Y.pick rfl rfl rfl) ?_
 refine .vl (Y.move rfl rfl) ?_
 refine AOps.splitD (d := 13) rfl (fun c13 => ?_) (fun c13 => ?_)
 refine .gv 13 rfl rfl (Y.fieldAddr fl36_2 rfl rfl) ?_
 refine .gv 13 rfl rfl (Y.load sh33 rfl rfl rfl rfl) ?_
 refine .gv 13 rfl rfl (Y.len (n := p.ins.length) sl33 rfl (congrArg some (List.length_map ..))) ?_
 refine .gv 13 rfl rfl (Y.leq rfl rfl) ?_
 refine .vl (Y.pick rfl rfl rfl) ?_
 refine .vl (Y.move rfl rfl) ?_
 refine AOps.splitD (d := 19) rfl (fun c19 => ?_) (fun c19 => ?_)
 refine .gv 19 rfl rfl (Y.fieldAddr fl36_3 rfl rfl) ?_
 refine .gv 19 rfl rfl (Y.load sh34 rfl rfl rfl rfl) ?_
 refine .gv 19 rfl rfl (Y.len (n := p.parts.length) sl34 rfl (congrArg some (List.length_map ..))) ?_
 refine .gv 19 rfl rfl (Y.leq rfl rfl) ?_
 refine .vl (Y.pick rfl rfl rfl) ?_
 refine .vl (Y.move rfl rfl) ?_
 refine AOps.splitD (d := 25) rfl (fun c25 => ?_) (fun c25 => ?_)
 refine .gv 25 rfl rfl (Y.fieldAddr fl36_4 rfl rfl) ?_
 refine .gv 25 rfl rfl (Y.load sh33 rfl rfl rfl rfl) ?_
 refine .gv 25 rfl rfl (Y.len (n := p.rets.length) sl33 rfl (congrArg some (List.length_map ..))) ?_
 refine .gv 25 rfl rfl (Y.leq rfl rfl) ?_
 refine .vl (Y.pick rfl rfl rfl) ?_
 refine .vl (Y.assign rfl rfl) ?_
 refine AOps.nil ?_
 refine AWp.ret ?_
 exact ⟨_, _, rfl, rfl, (cg1 (fun (z0 : Bool) => X.v (.bool z0)) (dd ⟨fun h => ⟨by omega, by omega, by omega, by omega, by omega⟩, fun h => by have h5 := h.rets; omega⟩ : (decide (((p.rets.length : Nat) : Int) ≤ 3)) = decide (p.Few)) : X.v (.bool (decide (((p.rets.length : Nat) : Int) ≤ 3))) = X.v (.bool (decide (p.Few)))), rfl⟩
 refine .gs 25 rfl rfl rfl ?_
 refine .gs 25 rfl rfl rfl ?_
 refine .gs 25 rfl rfl rfl ?_
 refine .gs 25 rfl rfl rfl ?_
 refine .vl (Y.pick rfl rfl rfl) ?_
 refine .vl (Y.assign rfl rfl) ?_
 refine AOps.nil ?_
 refine AWp.ret ?_
 exact ⟨_, _, rfl, rfl, (cg1 (fun (z0 : Bool) => X.v (.bool z0)) (df (fun h => by have h1 := h.mems; have h2 := h.streams; have h3 := h.ins; have h4 := h.parts; have h5 := h.rets; omega) : false = decide (p.Few)) : X.v (.bool false) = X.v (.bool (decide (p.Few)))), rfl⟩
 refine .gs 19 rfl rfl rfl ?_
 refine .gs 19 rfl rfl rfl ?_
 refine .gs 19 rfl rfl rfl ?_
 refine .gs 19 rfl rfl rfl ?_
 refine .vl (Y.pick rfl rfl rfl) ?_
 refine .vl (Y.move rfl rfl) ?_
 refine .gs 25 rfl rfl rfl ?_
 refine .gs 25 rfl rfl rfl ?_
 refine .gs 25 rfl rfl rfl ?_
 refine .gs 25 rfl rfl rfl ?_
 refine .vl (Y.pick rfl rfl rfl) ?_
 refine .vl (Y.assign rfl rfl) ?_
 refine AOps.nil ?_
 refine AWp.ret ?_
 exact ⟨_, _, rfl, rfl, (cg1 (fun (z0 : Bool) => X.v (.bool z0)) (df (fun h => by have h1 := h.mems; have h2 := h.streams; have h3 := h.ins; have h4 := h.parts; have h5 := h.rets; omega) : false = decide (p.Few)) : X.v (.bool false) = X.v (.bool (decide (p.Few)))), rfl⟩
 refine .gs 13 rfl rfl rfl ?_
 refine .gs 13 rfl rfl rfl ?_
 refine .gs 13 rfl rfl rfl ?_
 refine .gs 13 rfl rfl rfl ?_
 refine .vl (Y.pick rfl rfl rfl) ?_
 refine .vl (Y.move rfl rfl) ?_
 refine .gs 19 rfl rfl rfl ?_
 refine .gs 19 rfl rfl rfl ?_
 refine .gs 19 rfl rfl rfl ?_
 refine .gs 19 rfl rfl rfl ?_
 refine .vl (Y.pick rfl rfl rfl) ?_
 refine .vl (Y.move rfl rfl) ?_
 refine .gs 25 rfl rfl rfl ?_
 refine .gs 25 rfl rfl rfl ?_
 refine .gs 25 rfl rfl rfl ?_
 refine .gs 25 rfl rfl rfl ?_
 refine .vl (Y.pick rfl rfl rfl) ?_
 refine .vl (Y.assign rfl rfl) ?_
 refine AOps.nil ?_
 refine AWp.ret ?_
 exact ⟨_, _, rfl, rfl, (cg1 (fun (z0 : Bool) => X.v (.bool z0)) (df (fun h => by have h1 := h.mems; have h2 := h.streams; have h3 := h.ins; have h4 := h.parts; have h5 := h.rets; omega) : false = decide (p.Few)) : X.v (.bool false) = X.v (.bool (decide (p.Few)))), rfl⟩
 refine .gs 7 rfl rfl rfl ?_
 refine .gs 7 rfl rfl rfl ?_
 refine .gs 7 rfl rfl rfl ?_
 refine .gs 7 rfl rfl rfl ?_
 refine .vl (Y.pick rfl rfl rfl) ?_
 refine .vl (Y.move rfl rfl) ?_
 refine .gs 13 rfl rfl rfl ?_
 refine .gs 13 rfl rfl rfl ?_
 refine .gs 13 rfl rfl rfl ?_
 refine .gs 13 rfl rfl rfl ?_
 refine .vl (Y.pick rfl rfl rfl) ?_
 refine .vl (Y.move rfl rfl) ?_
 refine .gs 19 rfl rfl rfl ?_
 refine .gs 19 rfl rfl rfl ?_
 refine .gs 19 rfl rfl rfl ?_
 refine .gs 19 rfl rfl rfl ?_
 refine .vl (Y.pick rfl rfl rfl) ?_
 refine .vl (Y.move rfl rfl) ?_
 refine .gs 25 rfl rfl rfl ?_
 refine .gs 25 rfl rfl rfl ?_
 refine .gs 25 rfl rfl rfl ?_
 refine .gs 25 rfl rfl rfl ?_
 refine .vl (Y.pick rfl rfl rfl) ?_
 refine .vl (Y.assign rfl rfl) ?_
 refine AOps.nil ?_
 refine AWp.ret ?_
 exact ⟨_, _, rfl, rfl, (cg1 (fun (z0 : Bool) => X.v (.bool z0)) (df (fun h => by have h1 := h.mems; have h2 := h.streams; have h3 := h.ins; have h4 := h.parts; have h5 := h.rets; omega) : false = decide (p.Few)) : X.v (.bool false) = X.v (.bool (decide (p.Few)))), rfl⟩

set_option maxRecDepth 4000 in
set_option maxHeartbeats 1000000 in
theorem drivers_spec {n : Netlist} (hs : n.Small) (hf : Formed n) : ACalls Try.prog 38 [.agg (Netlist.row n)] [] [] (fun r o => ∃ l, DrvBy n l ∧ r = .uni 1 (l.map irow) ∧ o = []) := by
 refine ACalls.of Try.func38 rfl rfl rfl (n := 33) (by decide) (Nat.le_of_ble_eq_true rfl) ?_
 have hs1 := hs.widths; have hs2 := hs.cells
 refine AWp.sr ?_
 refine AOps.box 101 rfl rfl rfl rfl rfl (by decide) ?_
 refine .vl (Y.assign rfl rfl) ?_
 refine AOps.nil ?_
 refine AWp.sr ?_
 refine .vl (Y.fieldAddr fl27_1 rfl rfl) ?_
 refine .vl (Y.load sh22 rfl rfl rfl rfl) ?_
 refine .vl (Y.len (n := n.widths.length) sl22 rfl (congrArg some (List.length_map ..))) ?_
 refine AOps.makeSlice (n := n.widths.length) sl22 ze3 rfl rfl rfl rfl (by first | omega | simp [-List.getD_eq_getElem?_getD] <;> omega) (by first | omega | simp [-List.getD_eq_getElem?_getD] <;> omega) (by decide) ?_
 refine AOps.assignX rfl (by decide) ?_
 refine AOps.sh (Sh.adoptE (d := 3) (n := n.widths.length) 103 ((List.replicate n.widths.length 0).map irow) rfl (by first | rfl | exact rep_map rfl) (len_map (by simp)) (by decide)) ?_
 refine AOps.nil ?_
 refine AWp.seq ?_
 refine AWp.sr ?_
 refine .vl (Y.assign rfl rfl) ?_
 refine AOps.nil ?_
 refine AWp.block ?_
 refine AWp.loop2 (fun (i4_3 : Nat) (out3_3 : List Int) => ⟨[(1, .ptr 101 0 0 0), (3, .slc 103 1 0 n.widths.length), (4, .v (.int .i64 (i4_3 : Int)))], [(101, .cells (Netlist.row n)), (103, .rows 1 (out3_3.map irow))]⟩) (fun (i4_3 : Nat) (out3_3 : List Int) => (out3_3.length = n.widths.length) ∧ ((i4_3 : Int) ≤ ((n.cells.length : Nat) : Int)) ∧ (DrvTo n i4_3 out3_3)) (fun (i4_3 : Nat) (out3_3 : List Int) => (((n.cells.length : Nat) : Int) - (i4_3 : Int)).toNat) 0 (List.replicate n.widths.length 0) (⟨by first | omega | (simp [-List.getD_eq_getElem?_getD]; done) | (simp [-List.getD_eq_getElem?_getD]; omega), by first | omega | (simp [-List.getD_eq_getElem?_getD]; done) | (simp [-List.getD_eq_getElem?_getD]; omega), ⟨by simp, fun j w hd hj => by have := hd.1; omega⟩⟩) (Le.mk (SubL.cons rfl (SubL.cons rfl (SubL.cons (look_int rfl (by first | rfl | omega)) (SubL.nil)))) (SubL.cons rfl (SubL.cons rfl (SubL.nil)))) (fun i4_3 out3_3 hI3 => ?_)
 obtain ⟨hl103, hb3, hD⟩ := hI3
 refine AWp.seq ?_
 refine AWp.sr ?_
 refine .vl (Y.move rfl rfl) ?_
 refine .vl (Y.fieldAddr fl27_2 rfl rfl) ?_
 refine .vl (Y.load sh23 rfl rfl rfl rfl) ?_
 refine .vl (Y.len (n := n.cells.length) sl23 rfl (congrArg some (List.length_map ..))) ?_
 refine .vl (Y.lss rfl rfl) ?_
 refine AOps.nil ?_
 refine AWp.condD rfl (fun c13 => ?_) (fun c13 => ?_)
 refine AWp.skip ?_
 refine AWp.join1 (fun (out3_j4 : List Int) => ⟨[(1, .ptr 101 0 0 0), (3, .slc 103 1 0 n.widths.length), (4, .v (.int .i64 (i4_3 : Int)))], [(101, .cells (Netlist.row n)), (103, .rows 1 (out3_j4.map irow))]⟩) (fun (out3_j4 : List Int) => (out3_j4.length = n.widths.length) ∧ (DrvTo n (i4_3 + 1) out3_j4)) ?_ (fun out3_j4 hJx4 => ?_)
 refine AWp.block ?_
 refine AWp.sr ?_
 refine .vl (Y.fieldAddr fl27_2 rfl rfl) ?_
 refine .vl (Y.load sh23 rfl rfl rfl rfl) ?_
 refine .vl (Y.move rfl rfl) ?_
 refine .vl (Y.indexF (m := i4_3) sl23 rfl rfl (by first | rfl | omega) (row_getD (d := default) (by first | omega | simp [-List.getD_eq_getElem?_getD] <;> omega))) ?_
 refine .vl (Y.fieldAddr fl39_2 rfl rfl) ?_
 refine .vl (Y.load sh3 rfl rfl rfl rfl) ?_
 refine .vl (Y.geq rfl rfl) ?_
 refine AOps.nil ?_
 refine AWp.condD rfl (fun c22 => ?_) (fun c22 => ?_)
 have ho6 : In (n.cells.getD i4_3 default).out n.widths.length := (hf.cells i4_3 (by omega)).2.2.2 (fun e => by have := (hf.cells i4_3 (by omega)).2.2.1 e; omega)
 unfold In at ho6
 refine AWp.region ?_
 refine .vl (Y.move rfl rfl) ?_
 refine .vl (Y.fieldAddr fl27_2 rfl rfl) ?_
 refine .vl (Y.load sh23 rfl rfl rfl rfl) ?_
 refine .vl (Y.move rfl rfl) ?_
 refine .vl (Y.indexF (m := i4_3) sl23 rfl rfl (by first | rfl | omega) (row_getD (d := default) (by first | omega | simp [-List.getD_eq_getElem?_getD] <;> omega))) ?_
 refine .vl (Y.fieldAddr fl39_2 rfl rfl) ?_
 refine .vl (Y.load sh3 rfl rfl rfl rfl) ?_
 refine .vl (Y.move rfl rfl) ?_
 refine .vl (Y.indexO (m := ((n.cells.getD i4_3 default).out).toNat) sl22 rfl rfl (by first | omega | simp [-List.getD_eq_getElem?_getD] <;> omega) (by first | omega | simp [-List.getD_eq_getElem?_getD] <;> omega)) ?_
 refine AOps.storeE ((out3_3.set (((n.cells.getD i4_3 default).out).toNat) (i4_3 : Int)).map irow) si3 rfl rfl rfl rfl rfl rfl rfl (row_getD0 (d := 0) (by first | omega | simp [-List.getD_eq_getElem?_getD] <;> omega)) (Nat.le_of_ble_eq_true rfl) (set_map0 rfl) ?_
 refine AOps.nil ?_
 exact ⟨out3_3.set (((n.cells.getD i4_3 default).out).toNat) (i4_3 : Int), ⟨by first | omega | (simp [-List.getD_eq_getElem?_getD]; done) | (simp [-List.getD_eq_getElem?_getD]; omega), by first | exact hD.set hf (by omega) (by assumption) | exact hD.skip hf (by assumption)⟩, Le.mk (SubL.cons rfl (SubL.cons rfl (SubL.cons rfl (SubL.nil)))) (SubL.cons rfl (SubL.cons rfl (SubL.nil)))⟩
 refine AWp.skip ?_
 exact ⟨out3_3, ⟨by first | omega | (simp [-List.getD_eq_getElem?_getD]; done) | (simp [-List.getD_eq_getElem?_getD]; omega), by first | exact hD.set hf (by omega) (by assumption) | exact hD.skip hf (by assumption)⟩, Le.mk (SubL.cons rfl (SubL.cons rfl (SubL.cons rfl (SubL.nil)))) (SubL.cons rfl (SubL.cons rfl (SubL.nil)))⟩
 obtain ⟨hlj4_103, hJ4⟩ := hJx4
 refine AWp.region ?_
 refine .vl (Y.move rfl rfl) ?_
 refine .vl (Y.addI rfl rfl (by first | omega | simp [-List.getD_eq_getElem?_getD] <;> omega)) ?_
 refine .vl (Y.assign rfl rfl) ?_
 refine AOps.nil ?_
 exact ⟨i4_3 + 1, out3_j4, ⟨by first | omega | (simp [-List.getD_eq_getElem?_getD]; done) | (simp [-List.getD_eq_getElem?_getD]; omega), by first | omega | (simp [-List.getD_eq_getElem?_getD]; done) | (simp [-List.getD_eq_getElem?_getD]; omega), hJ4⟩, by omega, Le.mk (SubL.cons rfl (SubL.cons rfl (SubL.cons (look_int rfl (by first | rfl | omega)) (SubL.nil)))) (SubL.cons rfl (SubL.cons rfl (SubL.nil)))⟩
 refine AWp.exit ?_
 refine AWp.sr ?_
 refine .vl (Y.move rfl rfl) ?_
 refine .vl (Y.assign rfl rfl) ?_
 refine AOps.sh (Sh.detach (d := 2) (o := 103) rfl rfl (len_map (by first | omega | simp [-List.getD_eq_getElem?_getD] <;> omega)) (by decide)) ?_
 refine AOps.nil ?_
 refine AWp.ret ?_
 exact ⟨_, _, rfl, rfl, out3_3, DrvTo.done hf (by rw [show n.cells.length = i4_3 by omega]; exact hD), rfl, rfl⟩

set_option maxRecDepth 4000 in
set_option maxHeartbeats 1000000 in
theorem ordered_spec {n : Netlist} {l : List Int} (hs : n.Small) (hf : Formed n) (ho : Ord n l) : ACalls Try.prog 23 [.agg (Netlist.row n), .fz 1 (l.map irow)] [] [] (fun r o => r = .v (.bool true) ∧ o = []) := by
 refine ACalls.of Try.func23 rfl rfl rfl (n := 96) (by decide) (Nat.le_of_ble_eq_true rfl) ?_
 have hs1 := hs.widths; have hs2 := hs.cells; have hol := ho.len; have hag := hs.args
 refine AWp.sr ?_
 refine AOps.box 102 rfl rfl rfl rfl rfl (by decide) ?_
 refine .vl (Y.assign rfl rfl) ?_
 refine AOps.nil ?_
 refine AWp.seq ?_
 refine AWp.sr ?_
 refine .vl (Y.move rfl rfl) ?_
 refine .vl (Y.len (n := l.length) sl22 rfl (congrArg some (List.length_map ..))) ?_
 refine .vl (Y.fieldAddr fl27_2 rfl rfl) ?_
 refine .vl (Y.load sh23 rfl rfl rfl rfl) ?_
 refine .vl (Y.len (n := n.cells.length) sl23 rfl (congrArg some (List.length_map ..))) ?_
 refine .vl (Y.neq rfl rfl) ?_
 refine AOps.nil ?_
 refine AWp.condD rfl (fun c16 => ?_) (fun c16 => ?_)
 exact absurd c16 (by omega)
 refine AWp.skip ?_
 refine AWp.sr ?_
 refine .vl (Y.fieldAddr fl27_2 rfl rfl) ?_
 refine .vl (Y.load sh23 rfl rfl rfl rfl) ?_
 refine .vl (Y.len (n := n.cells.length) sl23 rfl (congrArg some (List.length_map ..))) ?_
 refine AOps.makeSlice (n := n.cells.length) sl22 ze3 rfl rfl rfl rfl (by first | omega | simp [-List.getD_eq_getElem?_getD] <;> omega) (by first | omega | simp [-List.getD_eq_getElem?_getD] <;> omega) (by decide) ?_
 refine AOps.assignX rfl (by decide) ?_
 refine AOps.sh (Sh.adoptE (d := 5) (n := n.cells.length) 105 ((List.replicate n.cells.length 0).map irow) rfl (by first | rfl | exact rep_map rfl) (len_map (by simp)) (by decide)) ?_
 refine AOps.nil ?_
 refine AWp.seq ?_
 refine AWp.sr ?_
 refine .vl (Y.assign rfl rfl) ?_
 refine AOps.nil ?_
 refine AWp.block ?_
 refine AWp.loop2 (fun (i6_5 : Nat) (place5_5 : List Int) => ⟨[(1, .fz 1 (l.map irow)), (2, .ptr 102 0 0 0), (5, .slc 105 1 0 n.cells.length), (6, .v (.int .i64 (i6_5 : Int)))], [(102, .cells (Netlist.row n)), (105, .rows 1 (place5_5.map irow))]⟩) (fun (i6_5 : Nat) (place5_5 : List Int) => (place5_5.length = n.cells.length) ∧ ((i6_5 : Int) ≤ ((l.length : Nat) : Int)) ∧ (Plc n l i6_5 place5_5)) (fun (i6_5 : Nat) (place5_5 : List Int) => (((l.length : Nat) : Int) - (i6_5 : Int)).toNat) 0 (List.replicate n.cells.length 0) (⟨by first | omega | (simp [-List.getD_eq_getElem?_getD]; done) | (simp [-List.getD_eq_getElem?_getD]; omega), by first | omega | (simp [-List.getD_eq_getElem?_getD]; done) | (simp [-List.getD_eq_getElem?_getD]; omega), Plc.init n l⟩) (Le.mk (SubL.cons rfl (SubL.cons rfl (SubL.cons rfl (SubL.cons (look_int rfl (by first | rfl | omega)) (SubL.nil))))) (SubL.cons rfl (SubL.cons rfl (SubL.nil)))) (fun i6_5 place5_5 hI5 => ?_)
 obtain ⟨hl105, hb5, hp⟩ := hI5
 refine AWp.seq ?_
 refine AWp.sr ?_
 refine .vl (Y.move rfl rfl) ?_
 refine .vl (Y.move rfl rfl) ?_
 refine .vl (Y.len (n := l.length) sl22 rfl (congrArg some (List.length_map ..))) ?_
 refine .vl (Y.lss rfl rfl) ?_
 refine AOps.nil ?_
 refine AWp.condD rfl (fun c24 => ?_) (fun c24 => ?_)
 refine AWp.skip ?_
 refine AWp.seq ?_
 refine AWp.block ?_
 refine AWp.seq ?_
 refine AWp.seq ?_
 have hr := ho.rng (l.getD i6_5 0) (getD_mem (by omega))
 refine AWp.regionAny rfl ?_
 refine AAny.quietN (n := 12) [0, 1, 2, 3, 4, 5, 6] [7, 8, 9, 10, 11, 12, 13, 14, 15, 16, 17, 18] 7 rfl (by kernel_rfl) ?_
 refine .cn 0 rfl (Y.move rfl rfl) ?_
 refine .cn 1 rfl (Y.move rfl rfl) ?_
 refine .cn 2 rfl (Y.indexF (m := i6_5) sl22 rfl rfl (by first | rfl | omega) (row_getD (d := 0) (by first | omega | simp [-List.getD_eq_getElem?_getD] <;> omega))) ?_
 refine .cn 3 rfl (Y.load sh3 rfl rfl rfl rfl) ?_
 refine .cn 4 rfl (Y.fieldAddr fl27_2 rfl rfl) ?_
 refine .cn 5 rfl (Y.load sh23 rfl rfl rfl rfl) ?_
 refine .cn 6 rfl (Y.len (n := n.cells.length) sl23 rfl (congrArg some (List.length_map ..))) ?_
 refine AQ.nil ?_
 refine AAny.one 7 rfl (by kernel_rfl) ?_
 refine AOps.callP ok59 (within_spec (i := (l.getD i6_5 0)) (n := ((n.cells.length : Nat) : Int))) rfl (.keep rfl rfl (.keep rfl rfl .nil)) (by decide) rfl ?_
 refine AOps.nil ⟨rfl, ?_⟩
 refine AAny.quietN (n := 0) [8, 9, 10, 11, 12, 13, 14, 15, 16, 17, 18] [] 0 rfl (by kernel_rfl) ?_
 refine .cn 8 rfl (Y.not rfl) ?_
 refine .cn 9 rfl (Y.move rfl rfl) ?_
 refine AQ.split (d := 36) rfl (fun c36 => ?_) (fun c36 => ?_)
 exact absurd (show In _ _ from hr) (notb c36)
 replace c36 : In (l.getD i6_5 0) ((n.cells.length : Nat) : Int) := by simpa using c36
 refine .rn 10 rfl rfl rfl (Y.move rfl rfl) ?_
 refine .rn 11 rfl rfl rfl (Y.move rfl rfl) ?_
 refine .rn 12 rfl rfl rfl (Y.move rfl rfl) ?_
 refine .rn 13 rfl rfl rfl (Y.indexF (m := i6_5) sl22 rfl rfl (by first | rfl | omega) (row_getD (d := 0) (by first | omega | simp [-List.getD_eq_getElem?_getD] <;> omega))) ?_
 refine .rn 14 rfl rfl rfl (Y.load sh3 rfl rfl rfl rfl) ?_
 refine .rn 15 rfl rfl rfl (Y.indexO (m := (l.getD i6_5 0).toNat) sl22 rfl rfl (by first | omega | simp [-List.getD_eq_getElem?_getD] <;> omega) (by first | omega | simp [-List.getD_eq_getElem?_getD] <;> omega)) ?_
 refine .rn 16 rfl rfl rfl (Y.load sh3 rfl (row_getD0 (d := 0) (by first | omega | simp [-List.getD_eq_getElem?_getD] <;> omega)) rfl rfl) ?_
 refine .rn 17 rfl rfl rfl (Y.gtr rfl rfl) ?_
 refine .cn 18 rfl (Y.pick rfl rfl rfl) ?_
 refine AQ.nil ?_
 refine AAny.done (by kernel_rfl) ?_
 refine AWp.condD rfl (fun c45 => ?_) (fun c45 => ?_)
 exact absurd c45 (by rw [hp.fresh ho (by omega)]; decide)
 refine AWp.skip ?_
 have hr9 := ho.rng (l.getD i6_5 0) (getD_mem (by omega))
 refine AWp.region ?_
 refine .vl (Y.move rfl rfl) ?_
 refine .vl (Y.move rfl rfl) ?_
 refine .vl (Y.move rfl rfl) ?_
 refine .vl (Y.indexF (m := i6_5) sl22 rfl rfl (by first | rfl | omega) (row_getD (d := 0) (by first | omega | simp [-List.getD_eq_getElem?_getD] <;> omega))) ?_
 refine .vl (Y.load sh3 rfl rfl rfl rfl) ?_
 refine .vl (Y.move rfl rfl) ?_
 refine .vl (Y.addI rfl rfl (by first | omega | simp [-List.getD_eq_getElem?_getD] <;> omega)) ?_
 refine .vl (Y.indexO (m := (l.getD i6_5 0).toNat) sl22 rfl rfl (by first | omega | simp [-List.getD_eq_getElem?_getD] <;> omega) (by first | omega | simp [-List.getD_eq_getElem?_getD] <;> omega)) ?_
 refine AOps.storeE ((place5_5.set ((l.getD i6_5 0).toNat) ((i6_5 : Int) + 1)).map irow) si3 rfl rfl rfl rfl rfl rfl rfl (row_getD0 (d := 0) (by first | omega | simp [-List.getD_eq_getElem?_getD] <;> omega)) (Nat.le_of_ble_eq_true rfl) (set_map0 rfl) ?_
 refine AOps.nil ?_
 refine AWp.region ?_
 refine .vl (Y.move rfl rfl) ?_
 refine .vl (Y.addI rfl rfl (by first | omega | simp [-List.getD_eq_getElem?_getD] <;> omega)) ?_
 refine .vl (Y.assign rfl rfl) ?_
 refine AOps.nil ?_
 exact ⟨i6_5 + 1, place5_5.set ((l.getD i6_5 0).toNat) ((i6_5 : Int) + 1), ⟨by first | omega | (simp [-List.getD_eq_getElem?_getD]; done) | (simp [-List.getD_eq_getElem?_getD]; omega), by first | omega | (simp [-List.getD_eq_getElem?_getD]; done) | (simp [-List.getD_eq_getElem?_getD]; omega), hp.step ho (by omega)⟩, by omega, Le.mk (SubL.cons rfl (SubL.cons rfl (SubL.cons rfl (SubL.cons (look_int rfl (by first | rfl | omega)) (SubL.nil))))) (SubL.cons rfl (SubL.cons rfl (SubL.nil)))⟩
 refine AWp.exit ?_
 refine AWp.seq ?_
 have hpe : Plc n l l.length place5_5 := by rw [show l.length = i6_5 by omega]; exact hp
 refine AWp.region ?_
 refine .vl (Y.loadA sh27 rfl rfl (Nat.le_of_ble_eq_true rfl) rfl rfl) ?_
 refine AOps.callV ok38 (drivers_spec (n := n) hs hf) rfl (.keep rfl rfl .nil) (by decide) ?_
 rintro _ ⟨dl55, hdl55, rfl, _⟩
 refine ⟨rfl, ?_⟩
 refine AOps.assignX rfl (by decide) ?_
 refine AOps.sh (Sh.freezeE (d := 7) (dl55.map irow) rfl (by first | rfl | exact rep_map rfl) (Frees.map irow_frees)) ?_
 refine AOps.nil ?_
 refine AWp.seq ?_
 refine AWp.sr ?_
 refine .vl (Y.assign rfl rfl) ?_
 refine AOps.nil ?_
 refine AWp.block ?_
 refine AWp.loop1 (fun (i8_12 : Nat) => ⟨[(2, .ptr 102 0 0 0), (5, .slc 105 1 0 n.cells.length), (7, .fz 1 (dl55.map irow)), (8, .v (.int .i64 (i8_12 : Int)))], [(102, .cells (Netlist.row n)), (105, .rows 1 (place5_5.map irow))]⟩) (fun (i8_12 : Nat) => ((i8_12 : Int) ≤ ((n.cells.length : Nat) : Int))) (fun (i8_12 : Nat) => (((n.cells.length : Nat) : Int) - (i8_12 : Int)).toNat) 0 (by first | omega | simp [-List.getD_eq_getElem?_getD] <;> omega) (Le.mk (SubL.cons rfl (SubL.cons rfl (SubL.cons rfl (SubL.cons (look_int rfl (by first | rfl | omega)) (SubL.nil))))) (SubL.cons rfl (SubL.cons rfl (SubL.nil)))) (fun i8_12 hI12 => ?_)
 have hb12 := hI12
 refine AWp.seq ?_
 refine AWp.sr ?_
 refine .vl (Y.move rfl rfl) ?_
 refine .vl (Y.fieldAddr fl27_2 rfl rfl) ?_
 refine .vl (Y.load sh23 rfl rfl rfl rfl) ?_
 refine .vl (Y.len (n := n.cells.length) sl23 rfl (congrArg some (List.length_map ..))) ?_
 refine .vl (Y.lss rfl rfl) ?_
 refine AOps.nil ?_
 refine AWp.condD rfl (fun c60 => ?_) (fun c60 => ?_)
 refine AWp.skip ?_
 refine AWp.join0 (⟨[(2, .ptr 102 0 0 0), (5, .slc 105 1 0 n.cells.length), (7, .fz 1 (dl55.map irow)), (8, .v (.int .i64 (i8_12 : Int)))], [(102, .cells (Netlist.row n)), (105, .rows 1 (place5_5.map irow))]⟩) ((∃ (k10_16 : Nat), (k10_16 ≤ (n.cells.getD i8_12 default).args.length) ∧ ((k10_16 : Int) < ((((n.cells.getD i8_12 default).args).length : Nat) : Int)) ∧ (¬ (Comb ((n.cells.getD i8_12 default).kind)))) ∨ (∃ (k10_16 : Nat), (k10_16 ≤ (n.cells.getD i8_12 default).args.length) ∧ (¬ ((k10_16 : Int) < ((((n.cells.getD i8_12 default).args).length : Nat) : Int))))) ?_ (fun hJ13 => ?_)
 refine AWp.block ?_
 refine AWp.sr ?_
 refine .vl (Y.fieldAddr fl27_2 rfl rfl) ?_
 refine .vl (Y.load sh23 rfl rfl rfl rfl) ?_
 refine .vl (Y.move rfl rfl) ?_
 refine .vl (Y.indexF (m := i8_12) sl23 rfl rfl (by first | rfl | omega) (row_getD (d := default) (by first | omega | simp [-List.getD_eq_getElem?_getD] <;> omega))) ?_
 refine .vl (Y.loadA sh39 rfl rfl (Nat.le_of_ble_eq_true rfl) rfl rfl) ?_
 refine AOps.alloc 109 ze39 rfl rfl (by decide) ?_
 refine AOps.storeC si39 rfl rfl rfl rfl rfl rfl (Nat.le_of_ble_eq_true rfl) rfl ?_
 refine AOps.nil ?_
 refine AWp.seq ?_
 have h15 := hag (n.cells.getD i8_12 default) (getD_in (by omega)); have h15b := hdl55.len
 refine AWp.region ?_
 refine .vl (Y.assign rfl rfl) ?_
 refine AOps.nil ?_
 refine AWp.block ?_
 refine AWp.loop1 (fun (k10_16 : Nat) => ⟨[(2, .ptr 102 0 0 0), (5, .slc 105 1 0 n.cells.length), (7, .fz 1 (dl55.map irow)), (8, .v (.int .i64 (i8_12 : Int))), (9, .ptr 109 0 0 0), (10, .v (.int .i64 (k10_16 : Int)))], [(102, .cells (Netlist.row n)), (105, .rows 1 (place5_5.map irow)), (109, .cells [.v (.int .i64 ((n.cells.getD i8_12 default).kind)), .v (.int .i64 ((n.cells.getD i8_12 default).op)), .v (.int .i64 ((n.cells.getD i8_12 default).out)), .fz 1 (((n.cells.getD i8_12 default).args).map irow), .v (.int .u64 (((n.cells.getD i8_12 default).num : Nat) : Int)), .v (.int .i64 ((n.cells.getD i8_12 default).mem))])]⟩) (fun (k10_16 : Nat) => (k10_16 ≤ (n.cells.getD i8_12 default).args.length)) (fun (k10_16 : Nat) => (n.cells.getD i8_12 default).args.length - k10_16) 0 (by omega) (Le.mk (SubL.cons rfl (SubL.cons rfl (SubL.cons rfl (SubL.cons rfl (SubL.cons rfl (SubL.cons (look_int rfl (by first | rfl | omega)) (SubL.nil))))))) (SubL.cons rfl (SubL.cons rfl (SubL.cons rfl (SubL.nil))))) (fun k10_16 hI16 => ?_)
 have hk16 := hI16
 refine AWp.seq ?_
 refine AWp.sr ?_
 refine .vl (Y.move rfl rfl) ?_
 refine .vl (Y.fieldAddr fl39_3 rfl rfl) ?_
 refine .vl (Y.load sh22 rfl rfl rfl rfl) ?_
 refine .vl (Y.len (n := ((n.cells.getD i8_12 default).args).length) sl22 rfl (congrArg some (List.length_map ..))) ?_
 refine .vl (Y.lss rfl rfl) ?_
 refine .vl (Y.move rfl rfl) ?_
 refine AOps.splitD (d := 73) rfl (fun c73 => ?_) (fun c73 => ?_)
 refine .gv 73 rfl rfl (Y.fieldAddr fl39_0 rfl rfl) ?_
 refine .gv 73 rfl rfl (Y.load sh3 rfl rfl rfl rfl) ?_
 refine AOps.guardRun (d := 73) rfl (by decide) rfl ?_
 refine AOps.callP ok22 (refComb_spec (w := ((n.cells.getD i8_12 default).kind))) rfl (.keep rfl rfl .nil) (by decide) rfl ?_
 refine .vl (Y.pick rfl rfl rfl) ?_
 refine AOps.nil ?_
 refine AWp.condD rfl (fun c77 => ?_) (fun c77 => ?_)
 refine AWp.skip ?_
 refine AWp.seq ?_
 refine AWp.block ?_
 refine AWp.seq ?_
 have hpl := place_le hf ho hpe hdl55 (i := i8_12) (x := (n.cells.getD i8_12 default).args.getD k10_16 0) (by omega) (by assumption) (getD_mem (by omega))
 have hin := hf.argIn (i := (i8_12 : Int)) (x := (n.cells.getD i8_12 default).args.getD k10_16 0) ⟨by omega, by omega⟩ (getD_mem (l := (n.cells.getD i8_12 default).args) (by omega))
 have hpll := hpe.len
 unfold In at hpl hin
 refine AWp.regionS rfl (by kernel_rfl) ?_
 refine AHead.val (Y.move rfl rfl) (by decide) ?_
 refine AHead.val (Y.move rfl rfl) (by decide) ?_
 refine AHead.val (Y.fieldAddr fl39_3 rfl rfl) (by decide) ?_
 refine AHead.val (Y.load sh22 rfl rfl rfl rfl) (by decide) ?_
 refine AHead.val (Y.move rfl rfl) (by decide) ?_
 refine AHead.val (Y.indexF (m := k10_16) sl22 rfl rfl (by first | rfl | omega) (row_getD (d := 0) (by first | omega | simp [-List.getD_eq_getElem?_getD] <;> omega))) (by decide) ?_
 refine AHead.val (Y.load sh3 rfl rfl rfl rfl) (by decide) ?_
 refine AHead.val (Y.indexF (m := (((n.cells.getD i8_12 default).args).getD k10_16 0).toNat) sl22 rfl rfl (by first | omega | simp [-List.getD_eq_getElem?_getD] <;> omega) (row_getD (d := 0) (by first | omega | simp [-List.getD_eq_getElem?_getD] <;> omega))) (by decide) ?_
 refine AHead.val (Y.load sh3 rfl rfl rfl rfl) (by decide) ?_
 refine AHead.val (Y.indexO (m := (dl55.getD ((((n.cells.getD i8_12 default).args).getD k10_16 0).toNat) 0).toNat) sl22 rfl rfl (by first | omega | simp [-List.getD_eq_getElem?_getD] <;> omega) (by first | omega | simp [-List.getD_eq_getElem?_getD] <;> omega)) (by decide) ?_
 refine AHead.val (Y.load sh3 rfl (row_getD0 (d := 0) (by first | omega | simp [-List.getD_eq_getElem?_getD] <;> omega)) rfl rfl) (by decide) ?_
 refine AHead.val (Y.move rfl rfl) (by decide) ?_
 refine AHead.val (Y.move rfl rfl) (by decide) ?_
 refine AHead.val (Y.indexO (m := i8_12) sl22 rfl rfl (by first | rfl | omega) (by first | omega | simp [-List.getD_eq_getElem?_getD] <;> omega)) (by decide) ?_
 refine AHead.val (Y.load sh3 rfl (row_getD0 (d := 0) (by first | omega | simp [-List.getD_eq_getElem?_getD] <;> omega)) rfl rfl) (by decide) ?_
 refine AHead.val (Y.gtr rfl rfl) (by decide) ?_
 refine AHead.nil ?_
 refine AWp.condD rfl (fun c95 => ?_) (fun c95 => ?_)
 exact absurd c95 (by omega)
 refine AWp.skip ?_
 refine AWp.region ?_
 refine .vl (Y.move rfl rfl) ?_
 refine .vl (Y.addI rfl rfl (by first | omega | simp [-List.getD_eq_getElem?_getD] <;> omega)) ?_
 refine .vl (Y.assign rfl rfl) ?_
 refine AOps.nil ?_
 exact ⟨k10_16 + 1, by omega, by omega, Le.mk (SubL.cons rfl (SubL.cons rfl (SubL.cons rfl (SubL.cons rfl (SubL.cons rfl (SubL.cons (look_int rfl (by first | rfl | omega)) (SubL.nil))))))) (SubL.cons rfl (SubL.cons rfl (SubL.cons rfl (SubL.nil))))⟩
 refine AWp.exit ?_
 exact ⟨.inl ⟨k10_16, hk16, c73, c77⟩, Le.mk (SubL.cons rfl (SubL.cons rfl (SubL.cons rfl (SubL.cons rfl (SubL.nil))))) (SubL.cons rfl (SubL.cons rfl (SubL.nil)))⟩
 refine .gs 73 rfl rfl rfl ?_
 refine .gs 73 rfl rfl rfl ?_
 refine .gs 73 rfl rfl rfl ?_
 refine .vl (Y.pick rfl rfl rfl) ?_
 refine AOps.nil ?_
 refine AWp.condF rfl ?_
 refine AWp.exit ?_
 exact ⟨.inr (⟨k10_16, hk16, c73⟩), Le.mk (SubL.cons rfl (SubL.cons rfl (SubL.cons rfl (SubL.cons rfl (SubL.nil))))) (SubL.cons rfl (SubL.cons rfl (SubL.nil)))⟩
 refine AWp.region ?_
 refine .vl (Y.move rfl rfl) ?_
 refine .vl (Y.addI rfl rfl (by first | omega | simp [-List.getD_eq_getElem?_getD] <;> omega)) ?_
 refine .vl (Y.assign rfl rfl) ?_
 refine AOps.nil ?_
 exact ⟨i8_12 + 1, by first | omega | (simp [-List.getD_eq_getElem?_getD]; done) | (simp [-List.getD_eq_getElem?_getD]; omega), by omega, Le.mk (SubL.cons rfl (SubL.cons rfl (SubL.cons rfl (SubL.cons (look_int rfl (by first | rfl | omega)) (SubL.nil))))) (SubL.cons rfl (SubL.cons rfl (SubL.nil)))⟩
 refine AWp.exit ?_
 refine AWp.sr ?_
 refine .vl (Y.assign rfl rfl) ?_
 refine AOps.nil ?_
 refine AWp.ret ?_
 exact ⟨_, _, rfl, rfl, (cg1 (fun (z0 : Bool) => X.v (.bool z0)) (rfl : true = true) : X.v (.bool true) = X.v (.bool true)), rfl⟩

end Go.Proofs.Ytligpghohcfpnaa
/- The walk of NetlistOrders. -/
namespace Go.Proofs.Ytligpghohcfpnaa
open Go Go.AW Go.Proofs



set_option maxRecDepth 4000 in
set_option maxHeartbeats 1000000 in
theorem netlistOrders_spec {p : Pln} (hk : p.Ok) : ACalls Try.prog 5 [.agg (Pln.row p)] [] [] (fun r o => r = .v (.bool true) ∧ o = []) := by
 refine ACalls.of Try.func5 rfl rfl rfl (n := 62) (by decide) (Nat.le_of_ble_eq_true rfl) ?_
 refine AWp.sr ?_
 refine AOps.box 101 rfl rfl rfl rfl rfl (by decide) ?_
 refine .vl (Y.assign rfl rfl) ?_
 refine AOps.nil ?_
 refine AWp.seq ?_
 refine AWp.sr ?_
 refine AOps.callP ok15 (awake_spec) rfl .nil (by decide) rfl ?_
 refine .vl (Y.not rfl) ?_
 refine .vl (Y.move rfl rfl) ?_
 refine .gv 11 rfl rfl (Y.loadA sh36 rfl rfl (Nat.le_of_ble_eq_true rfl) rfl rfl) ?_
 refine AOps.guardRun (d := 11) rfl (by decide) rfl ?_
 refine AOps.callP ok18 (few_spec (p := p)) rfl (.keep rfl rfl .nil) (by decide) rfl ?_
 refine .gv 11 rfl rfl (Y.not rfl) ?_
 refine .vl (Y.pick rfl rfl rfl) ?_
 refine AOps.nil ?_
 refine AWp.cond rfl (fun c15 => ?_) (fun c15 => ?_)
 replace c15 : ¬ (p.Few) := by simpa using c15
 refine AWp.sr ?_
 refine AOps.callP ok15 (awake_spec) rfl .nil (by decide) rfl ?_
 refine .vl (Y.assign rfl rfl) ?_
 refine AOps.nil ?_
 refine AWp.ret ?_
 exact ⟨_, _, rfl, rfl, (cg1 (fun (z0 : Bool) => X.v (.bool z0)) (rfl : true = true) : X.v (.bool true) = X.v (.bool true)), rfl⟩
 replace c15 : p.Few := by simpa using c15
 refine AWp.skip ?_
 refine AWp.sr ?_
 refine .vl (Y.loadA sh36 rfl rfl (Nat.le_of_ble_eq_true rfl) rfl rfl) ?_
 refine AOps.callV ok19 (made_spec (p := p) (by assumption) hk) rfl (.keep rfl rfl .nil) (by decide) ?_
 rintro _ ⟨nM18, hM18, rfl, _⟩
 refine ⟨rfl, ?_⟩
 refine AOps.alloc 103 ze27 rfl rfl (by decide) ?_
 refine AOps.sh (Sh.nameA (d := 18) 1 861 rfl rfl rfl (by decide)) ?_
 refine AOps.sh (Sh.nameA (d := 18) 2 862 rfl rfl rfl (by decide)) ?_
 refine AOps.storeC si27 rfl rfl rfl rfl rfl rfl (Nat.le_of_ble_eq_true rfl) rfl ?_
 refine AOps.nil ?_
 refine AWp.seq ?_
 have hs := hM18.small; have hf := hM18.formed; have hFt := hM18.fit; have hAc := hM18.acyclic; have hnc := hM18.ncells; have hnw := hM18.nwidths; have hni := hM18.nins; have hna := hM18.nargs
 refine AWp.region ?_
 refine .vl (Y.loadA sh27 rfl rfl (Nat.le_of_ble_eq_true rfl) rfl rfl) ?_
 refine AOps.callLV [861, 862] ok20 (order_spec (n := nM18) hs (by omega)) rfl (.agg (.keep rfl rfl (.lend rfl rfl (lend_le (by first | omega | simp [-List.getD_eq_getElem?_getD] <;> omega)) (lend_eq (by first | omega | simp [-List.getD_eq_getElem?_getD] <;> omega)) (.lend rfl rfl (lend_le (by first | omega | simp [-List.getD_eq_getElem?_getD] <;> omega)) (lend_eq (by first | omega | simp [-List.getD_eq_getElem?_getD] <;> omega)) (.keep rfl rfl (.keep rfl rfl (.keep rfl rfl (.keep rfl rfl (.keep rfl rfl (.keep rfl rfl (.keep rfl rfl (.keep rfl rfl .nil))))))))))) rfl .nil) (lend2 rfl (owns_map irow_frees) (lend1 rfl (owns_map Cell.row_frees))) (by decide) ?_
 rintro _ ⟨l21, e21, ho21, rfl, _⟩
 refine ⟨rfl, ⟨(plainr_map irow_plains _), trivial, trivial⟩, ?_⟩
 refine AOps.moveX rfl (by decide) ?_
 refine AOps.extractU rfl rfl (by decide) ?_
 refine .vl (Y.extract rfl rfl rfl) ?_
 refine AOps.assignX rfl (by decide) ?_
 refine AOps.sh (Sh.freezeE (d := 4) (l21.map irow) rfl (by first | rfl | exact rep_map rfl) (Frees.map irow_frees)) ?_
 refine .vl (Y.assign rfl rfl) ?_
 refine AOps.nil ?_
 refine AWp.seq ?_
 obtain ⟨hO, hO2⟩ := ho21.ok hf hFt hAc
 refine AWp.region ?_
 refine .vl (Y.fieldAddr fl27_1 rfl rfl) ?_
 refine .vl (Y.load sh22 rfl rfl rfl rfl) ?_
 refine AOps.buildSlice (([5] : List Int).map irow) sl22 ze3 rfl rfl rfl rfl rfl (uniform_map (s := 1) (f := irow) (fun _ => rfl)) rfl rfl rfl (by decide) ?_
 refine AOps.appendE ((nM18.widths ++ ([5] : List Int)).map irow) (nM18.widths ++ ([5] : List Int)).length sl22 ze3 rfl rfl rfl rfl (app_le (by first | omega | simp [-List.getD_eq_getElem?_getD] <;> omega)) (app_map (by first | omega | simp [-List.getD_eq_getElem?_getD] <;> omega)) (app_n (by first | omega | simp [-List.getD_eq_getElem?_getD] <;> omega)) (by first | omega | simp [-List.getD_eq_getElem?_getD] <;> omega) (by first | omega | simp [-List.getD_eq_getElem?_getD] <;> omega) (by decide) (by decide) ?_
 refine .vl (Y.fieldAddr fl27_1 rfl rfl) ?_
 refine AOps.storeC si22 rfl rfl rfl rfl rfl rfl (Nat.le_of_ble_eq_true rfl) rfl ?_
 refine AOps.nil ?_
 refine AWp.sr ?_
 refine .vl (Y.loadA sh27 rfl rfl (Nat.le_of_ble_eq_true rfl) rfl rfl) ?_
 refine AOps.callLV [861, 862] ok20 (order_spec (n := (⟨nM18.name, nM18.widths ++ ([5] : List Int), nM18.cells, nM18.ins, nM18.mems, nM18.streams, nM18.active, nM18.data, nM18.freeze, nM18.done, nM18.rets⟩ : Netlist)) (hs.moreW (by omega)) (by simp; omega)) rfl (.agg (.keep rfl rfl (.lend rfl rfl (lend_le (by first | omega | simp [-List.getD_eq_getElem?_getD] <;> omega)) (lend_eq (by first | omega | simp [-List.getD_eq_getElem?_getD] <;> omega)) (.lend rfl rfl (lend_le (by first | omega | simp [-List.getD_eq_getElem?_getD] <;> omega)) (lend_eq (by first | omega | simp [-List.getD_eq_getElem?_getD] <;> omega)) (.keep rfl rfl (.keep rfl rfl (.keep rfl rfl (.keep rfl rfl (.keep rfl rfl (.keep rfl rfl (.keep rfl rfl (.keep rfl rfl .nil))))))))))) rfl .nil) (lend2 rfl (owns_map irow_frees) (lend1 rfl (owns_map Cell.row_frees))) (by decide) ?_
 rintro _ ⟨l31, e31, ho31, rfl, _⟩
 refine ⟨rfl, ⟨(plainr_map irow_plains _), trivial, trivial⟩, ?_⟩
 refine AOps.moveX rfl (by decide) ?_
 refine AOps.extractU rfl rfl (by decide) ?_
 refine .vl (Y.extract rfl rfl rfl) ?_
 refine AOps.assignX rfl (by decide) ?_
 refine AOps.sh (Sh.freezeE (d := 6) (l31.map irow) rfl (by first | rfl | exact rep_map rfl) (Frees.map irow_frees)) ?_
 refine .vl (Y.assign rfl rfl) ?_
 refine AOps.nil ?_
 refine AWp.seq ?_
 have hB := ho31.bad (not_formed_more hf rfl rfl)
 refine AWp.region ?_
 refine .vl (Y.fieldAddr fl27_1 rfl rfl) ?_
 refine .vl (Y.load sh22 rfl rfl rfl rfl) ?_
 refine .vl (Y.fieldAddr fl27_1 rfl rfl) ?_
 refine .vl (Y.load sh22 rfl rfl rfl rfl) ?_
 refine .vl (Y.len (n := (nM18.widths ++ ([5] : List Int)).length) sl22 rfl rfl) ?_
 refine .vl (Y.sub rfl rfl (wrap_pred (by omega))) ?_
 refine .vl (Y.sliceO (l := 0) (h := nM18.widths.length) sl22 rfl (.none _) (.some rfl) (by first | omega | simp [-List.getD_eq_getElem?_getD] <;> omega) (by first | omega | simp [-List.getD_eq_getElem?_getD] <;> omega)) ?_
 refine AOps.sh (Sh.trimE (d := 40) (o := 861) (nM18.widths.map irow) rfl rfl (trim_le rfl) (trim_he rfl) (by decide)) ?_
 refine .vl (Y.fieldAddr fl27_1 rfl rfl) ?_
 refine AOps.storeC si22 rfl rfl rfl rfl rfl rfl (Nat.le_of_ble_eq_true rfl) rfl ?_
 refine AOps.nil ?_
 refine AWp.seq ?_
 refine AWp.sr ?_
 refine .vl (Y.move rfl rfl) ?_
 refine AOps.nil ?_
 refine AWp.block ?_
 refine AWp.loop1 (fun (n42_9 : Nat) => ⟨[(3, .ptr 103 0 0 0), (4, .fz 1 (l21.map irow)), (5, .v (.int .i64 e21)), (7, .v (.int .i64 e31)), (42, .v (.int .i64 (n42_9 : Int)))], [(103, .cells [.v (.string nM18.name), .slc 861 1 0 nM18.widths.length, .slc 862 6 0 ((nM18.cells.map Cell.row).length), .fz 1 (nM18.ins.map irow), .fz 5 (nM18.mems.map Arr.row), .fz 3 (nM18.streams.map Strm.row), .fz 1 (nM18.active.map irow), .fz 1 (nM18.data.map irow), .v (.int .i64 nM18.freeze), .v (.int .i64 nM18.done), .fz 1 (nM18.rets.map irow)]), (861, .rows 1 (nM18.widths.map irow)), (862, .rows 6 (nM18.cells.map Cell.row))]⟩) (fun (n42_9 : Nat) => ((n42_9 : Int) ≤ 12)) (fun (n42_9 : Nat) => (12 - (n42_9 : Int)).toNat) 0 (by first | omega | simp [-List.getD_eq_getElem?_getD] <;> omega) (Le.mk (SubL.cons rfl (SubL.cons rfl (SubL.cons rfl (SubL.cons rfl (SubL.cons (look_int rfl (by first | rfl | omega)) (SubL.nil)))))) (SubL.cons rfl (SubL.cons rfl (SubL.cons rfl (SubL.nil))))) (fun n42_9 hI9 => ?_)
 have hb9 := hI9
 refine AWp.sr ?_
 refine .vl (Y.lss rfl rfl) ?_
 refine AOps.nil ?_
 refine AWp.seq ?_
 refine AWp.condD rfl (fun c43 => ?_) (fun c43 => ?_)
 refine AWp.skip ?_
 refine AWp.seq ?_
 refine AWp.block ?_
 refine AWp.sr ?_
 refine .vl (Y.move rfl rfl) ?_
 refine .vl (Y.assign rfl rfl) ?_
 refine AOps.nil ?_
 refine AWp.sr ?_
 refine .vl (Y.move rfl rfl) ?_
 refine AOps.callP ok21 (comb_spec (w := (n42_9 : Int))) rfl (.keep rfl rfl .nil) (by decide) rfl ?_
 refine .vl (Y.move rfl rfl) ?_
 refine AOps.callP ok22 (refComb_spec (w := (n42_9 : Int))) rfl (.keep rfl rfl .nil) (by decide) rfl ?_
 refine .vl (Y.neqB un4 rfl rfl) ?_
 refine AOps.nil ?_
 refine AWp.cond rfl (fun c49 => ?_) (fun c49 => ?_)
 exfalso; simp_all
 refine AWp.skip ?_
 refine AWp.region ?_
 refine .vl (Y.addI rfl rfl (by first | omega | simp [-List.getD_eq_getElem?_getD] <;> omega)) ?_
 refine .vl (Y.move rfl rfl) ?_
 refine AOps.nil ?_
 exact ⟨n42_9 + 1, by first | omega | (simp [-List.getD_eq_getElem?_getD]; done) | (simp [-List.getD_eq_getElem?_getD]; omega), by omega, Le.mk (SubL.cons rfl (SubL.cons rfl (SubL.cons rfl (SubL.cons rfl (SubL.cons (look_int rfl (by first | rfl | omega)) (SubL.nil)))))) (SubL.cons rfl (SubL.cons rfl (SubL.cons rfl (SubL.nil))))⟩
 refine AWp.exit ?_
 refine AWp.sr ?_
 refine .vl (Y.move rfl rfl) ?_
 refine .vl (Y.eql rfl rfl) ?_
 refine .vl (Y.move rfl rfl) ?_
 refine AOps.splitD (d := 53) rfl (fun c53 => ?_) (fun c53 => ?_)
 refine .gv 53 rfl rfl (Y.move rfl rfl) ?_
 refine .gv 53 rfl rfl (Y.eql rfl rfl) ?_
 refine .vl (Y.pick rfl rfl rfl) ?_
 refine .vl (Y.move rfl rfl) ?_
 refine AOps.splitD (d := 57) rfl (fun c57 => ?_) (fun c57 => ?_)
 refine .gv 57 rfl rfl (Y.loadA sh27 rfl rfl (Nat.le_of_ble_eq_true rfl) rfl rfl) ?_
 refine .gv 57 rfl rfl (Y.move rfl rfl) ?_
 refine AOps.guardRun (d := 57) rfl (by decide) rfl ?_
 refine AOps.callLP [861, 862] ok23 (ordered_spec (n := nM18) (l := l21) hs hf hO) rfl (.agg (.keep rfl rfl (.lend rfl rfl (lend_le (by first | omega | simp [-List.getD_eq_getElem?_getD] <;> omega)) (lend_eq (by first | omega | simp [-List.getD_eq_getElem?_getD] <;> omega)) (.lend rfl rfl (lend_le (by first | omega | simp [-List.getD_eq_getElem?_getD] <;> omega)) (lend_eq (by first | omega | simp [-List.getD_eq_getElem?_getD] <;> omega)) (.keep rfl rfl (.keep rfl rfl (.keep rfl rfl (.keep rfl rfl (.keep rfl rfl (.keep rfl rfl (.keep rfl rfl (.keep rfl rfl .nil))))))))))) rfl (.keep rfl rfl .nil)) (lend2 rfl (owns_map irow_frees) (lend1 rfl (owns_map Cell.row_frees))) (by decide) rfl trivial ?_
 refine .vl (Y.pick rfl rfl rfl) ?_
 refine .vl (Y.assign rfl rfl) ?_
 refine AOps.nil ?_
 refine AWp.ret ?_
 exact ⟨_, _, rfl, rfl, (cg1 (fun (z0 : Bool) => X.v (.bool z0)) (rfl : true = true) : X.v (.bool true) = X.v (.bool true)), rfl⟩
 exact absurd hB (by assumption)
 exact absurd hO2 (by assumption)

end Go.Proofs.Ytligpghohcfpnaa
