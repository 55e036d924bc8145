/- Walks through Check, and through the specification of a cell. -/
import Derived.Test.YtjnpbojdjipboaaNetx0
import Derived.Test.YtjnpbojdjipboaaNetx3
set_option linter.unusedSimpArgs false
set_option linter.unusedVariables false
set_option linter.unusedSectionVars false
namespace Go.Proofs.Ytjnpbojdjipboaa
open Go Go.AW Go.Proofs



set_option maxHeartbeats 1000000 in
theorem check_spec {n : Netlist} (hs : n.Small) (hwi : n.widths.length + n.ins.length ≤ 17592186044416) : ACalls Try.prog 16 [.agg (Netlist.row n)] [] [] (fun r o => r = .v (.int .i64 (errOf n)) ∧ o = []) := by
 refine ACalls.of Try.func16 rfl rfl rfl (n := 11) (by decide) (Nat.le_of_ble_eq_true rfl) ?_
 refine AWp.sr ?_
 refine AOps.box 101 rfl rfl rfl rfl rfl (by decide) ?_
 refine .vl (Y.assign rfl rfl) ?_
 refine AOps.nil ?_
 refine AWp.sr ?_
 refine .vl (Y.loadA sh27 rfl rfl (Nat.le_of_ble_eq_true rfl) rfl rfl) ?_
 refine AOps.callV ok20 (order_spec (n := n) hs ((by first | omega | simp [-List.getD_eq_getElem?_getD] <;> omega))) rfl (.keep rfl rfl .nil) (by decide) ?_
 rintro _ ⟨l7, e7, ho7, rfl, _⟩
 refine ⟨rfl, ?_⟩
 refine AOps.moveX rfl (by decide) ?_
 refine AOps.extractU rfl rfl (by decide) ?_
 refine .vl (Y.extract rfl rfl rfl) ?_
 refine AOps.assignX rfl (by decide) ?_
 refine AOps.sh (Sh.freezeE (d := 3) (l7.map irow) rfl (by first | rfl | exact rep_map rfl) (Frees.map irow_frees)) ?_
 refine .vl (Y.assign rfl rfl) ?_
 refine AOps.nil ?_
 refine AWp.sr ?_
 refine .vl (Y.move rfl rfl) ?_
 refine .vl (Y.assign rfl rfl) ?_
 refine AOps.nil ?_
 refine AWp.ret ?_
 exact ⟨_, _, rfl, rfl, (cg1 (fun (z0 : Int) => X.v (.int .i64 z0)) (ho7.err : e7 = errOf n) : X.v (.int .i64 e7) = X.v (.int .i64 (errOf n))), rfl⟩

set_option maxRecDepth 4000 in
set_option maxHeartbeats 1000000 in
theorem cell_k0 {n : Netlist} {op out mem : Int} {args : List Int} {num : Nat} (hs : n.Small) (hc : args.length ≤ 17592186043904) {kind : Int} (hk : ¬ (1 ≤ kind ∧ kind ≤ 10)) : ACalls Try.prog 88 [.agg (Netlist.row n), .agg [.v (.int .i64 kind), .v (.int .i64 op), .v (.int .i64 out), .fz 1 (args.map irow), .v (.int .u64 ((num : Nat) : Int)), .v (.int .i64 mem)]] [] [] (fun r o => r = .v (.bool (decide (Shaped n ⟨kind, op, out, args, num, mem⟩))) ∧ o = []) := by
 refine ACalls.of Try.func88 rfl rfl rfl (n := 207) (by decide) (Nat.le_of_ble_eq_true rfl) ?_
 have hs4 := hs.ins; have hs5 := hs.mems; have hs6 := hs.streams
 refine AWp.sr ?_
 refine AOps.box 102 rfl rfl rfl rfl rfl (by decide) ?_
 refine AOps.box 103 rfl rfl rfl rfl rfl (by decide) ?_
 refine .vl (Y.assign rfl rfl) ?_
 refine AOps.nil ?_
 refine AWp.sr ?_
 refine .vl (Y.fieldAddr fl39_3 rfl rfl) ?_
 refine .vl (Y.load sh22 rfl rfl rfl rfl) ?_
 refine .vl (Y.len (n := args.length) sl22 rfl (congrArg some (List.length_map ..))) ?_
 refine .vl (Y.assign rfl rfl) ?_
 refine AOps.nil ?_
 refine AWp.join0 (⟨[(2, .ptr 102 0 0 0), (3, .ptr 103 0 0 0), (5, .v (.int .i64 ((args.length : Nat) : Int)))], [(102, .cells (Netlist.row n)), (103, .cells [.v (.int .i64 kind), .v (.int .i64 op), .v (.int .i64 out), .fz 1 (args.map irow), .v (.int .u64 ((num : Nat) : Int)), .v (.int .i64 mem)])]⟩) (((kind ≠ 2) ∧ (kind ≠ 5) ∧ (¬ (op ≠ 0))) ∨ ((kind ≠ 2) ∧ (¬ (kind ≠ 5))) ∨ ((¬ (kind ≠ 2)))) ?_ (fun hJ4 => ?_)
 refine AWp.sr ?_
 refine .vl (Y.fieldAddr fl39_0 rfl rfl) ?_
 refine .vl (Y.load sh3 rfl rfl rfl rfl) ?_
 refine .vl (Y.neq rfl rfl) ?_
 refine .vl (Y.move rfl rfl) ?_
 refine AOps.splitD (d := 14) rfl (fun c14 => ?_) (fun c14 => ?_)
 refine .gv 14 rfl rfl (Y.fieldAddr fl39_0 rfl rfl) ?_
 refine .gv 14 rfl rfl (Y.load sh3 rfl rfl rfl rfl) ?_
 refine .gv 14 rfl rfl (Y.neq rfl rfl) ?_
 refine .vl (Y.pick rfl rfl rfl) ?_
 refine .vl (Y.move rfl rfl) ?_
 refine AOps.splitD (d := 19) rfl (fun c19 => ?_) (fun c19 => ?_)
 refine .gv 19 rfl rfl (Y.fieldAddr fl39_1 rfl rfl) ?_
 refine .gv 19 rfl rfl (Y.load sh3 rfl rfl rfl rfl) ?_
 refine .gv 19 rfl rfl (Y.neq rfl rfl) ?_
 refine .vl (Y.pick rfl rfl rfl) ?_
 refine AOps.nil ?_
 refine AWp.condD rfl (fun c23 => ?_) (fun c23 => ?_)
 refine AWp.sr ?_
 refine .vl (Y.assign rfl rfl) ?_
 refine AOps.nil ?_
 refine AWp.ret ?_
 exact ⟨_, _, rfl, rfl, (cg1 (fun (z0 : Bool) => X.v (.bool z0)) (df (fun h => hk h.kind) : false = decide (Shaped n ⟨kind, op, out, args, num, mem⟩)) : X.v (.bool false) = X.v (.bool (decide (Shaped n ⟨kind, op, out, args, num, mem⟩)))), rfl⟩
 refine AWp.skip ?_
 exact ⟨.inl ⟨c14, c19, c23⟩, Le.mk (SubL.cons rfl (SubL.cons rfl (SubL.cons rfl (SubL.nil)))) (SubL.cons rfl (SubL.cons rfl (SubL.nil)))⟩
 refine .gs 19 rfl rfl rfl ?_
 refine .gs 19 rfl rfl rfl ?_
 refine .gs 19 rfl rfl rfl ?_
 refine .vl (Y.pick rfl rfl rfl) ?_
 refine AOps.nil ?_
 refine AWp.condF rfl ?_
 refine AWp.skip ?_
 exact ⟨.inr (.inl ⟨c14, c19⟩), Le.mk (SubL.cons rfl (SubL.cons rfl (SubL.cons rfl (SubL.nil)))) (SubL.cons rfl (SubL.cons rfl (SubL.nil)))⟩
 refine .gs 14 rfl rfl rfl ?_
 refine .gs 14 rfl rfl rfl ?_
 refine .gs 14 rfl rfl rfl ?_
 refine .vl (Y.pick rfl rfl rfl) ?_
 refine .vl (Y.move rfl rfl) ?_
 refine .gs 19 rfl rfl rfl ?_
 refine .gs 19 rfl rfl rfl ?_
 refine .gs 19 rfl rfl rfl ?_
 refine .vl (Y.pick rfl rfl rfl) ?_
 refine AOps.nil ?_
 refine AWp.condF rfl ?_
 refine AWp.skip ?_
 exact ⟨.inr (.inr (c14)), Le.mk (SubL.cons rfl (SubL.cons rfl (SubL.cons rfl (SubL.nil)))) (SubL.cons rfl (SubL.cons rfl (SubL.nil)))⟩
 refine AWp.join1 (fun (memory6_j5 : Bool) => ⟨[(2, .ptr 102 0 0 0), (3, .ptr 103 0 0 0), (5, .v (.int .i64 ((args.length : Nat) : Int))), (6, .v (.bool memory6_j5))], [(102, .cells (Netlist.row n)), (103, .cells [.v (.int .i64 kind), .v (.int .i64 op), .v (.int .i64 out), .fz 1 (args.map irow), .v (.int .u64 ((num : Nat) : Int)), .v (.int .i64 mem)])]⟩) (fun (memory6_j5 : Bool) => ((kind = 6) ∧ (memory6_j5 = true)) ∨ ((¬ (kind = 6)) ∧ (memory6_j5 = (decide (kind = 7))))) ?_ (fun memory6_j5 hJ5 => ?_)
 refine AWp.region ?_
 refine .vl (Y.fieldAddr fl39_0 rfl rfl) ?_
 refine .vl (Y.load sh3 rfl rfl rfl rfl) ?_
 refine .vl (Y.eql rfl rfl) ?_
 refine .vl (Y.move rfl rfl) ?_
 refine AOps.splitD (d := 27) rfl (fun c27 => ?_) (fun c27 => ?_)
 refine .gs 27 rfl rfl rfl ?_
 refine .gs 27 rfl rfl rfl ?_
 refine .gs 27 rfl rfl rfl ?_
 refine .vl (Y.pick rfl rfl rfl) ?_
 refine .vl (Y.assign rfl rfl) ?_
 refine AOps.nil ?_
 exact ⟨true, .inl ⟨c27, rfl⟩, Le.mk (SubL.cons rfl (SubL.cons rfl (SubL.cons rfl (SubL.cons (look_bool rfl (by first | rfl | simp_all)) (SubL.nil))))) (SubL.cons rfl (SubL.cons rfl (SubL.nil)))⟩
 refine .gv 27 rfl rfl (Y.fieldAddr fl39_0 rfl rfl) ?_
 refine .gv 27 rfl rfl (Y.load sh3 rfl rfl rfl rfl) ?_
 refine .gv 27 rfl rfl (Y.eql rfl rfl) ?_
 refine .vl (Y.pick rfl rfl rfl) ?_
 refine .vl (Y.assign rfl rfl) ?_
 refine AOps.nil ?_
 exact ⟨decide (kind = 7), .inr (⟨c27, rfl⟩), Le.mk (SubL.cons rfl (SubL.cons rfl (SubL.cons rfl (SubL.cons (look_bool rfl (by first | rfl | simp_all)) (SubL.nil))))) (SubL.cons rfl (SubL.cons rfl (SubL.nil)))⟩
 refine AWp.join1 (fun (stream7_j6 : Bool) => ⟨[(2, .ptr 102 0 0 0), (3, .ptr 103 0 0 0), (5, .v (.int .i64 ((args.length : Nat) : Int))), (6, .v (.bool memory6_j5)), (7, .v (.bool stream7_j6))], [(102, .cells (Netlist.row n)), (103, .cells [.v (.int .i64 kind), .v (.int .i64 op), .v (.int .i64 out), .fz 1 (args.map irow), .v (.int .u64 ((num : Nat) : Int)), .v (.int .i64 mem)])]⟩) (fun (stream7_j6 : Bool) => ((kind = 9) ∧ (stream7_j6 = true)) ∨ ((¬ (kind = 9)) ∧ (stream7_j6 = (decide (kind = 10))))) ?_ (fun stream7_j6 hJ6 => ?_)
 refine AWp.region ?_
 refine .vl (Y.fieldAddr fl39_0 rfl rfl) ?_
 refine .vl (Y.load sh3 rfl rfl rfl rfl) ?_
 refine .vl (Y.eql rfl rfl) ?_
 refine .vl (Y.move rfl rfl) ?_
 refine AOps.splitD (d := 35) rfl (fun c35 => ?_) (fun c35 => ?_)
 refine .gs 35 rfl rfl rfl ?_
 refine .gs 35 rfl rfl rfl ?_
 refine .gs 35 rfl rfl rfl ?_
 refine .vl (Y.pick rfl rfl rfl) ?_
 refine .vl (Y.assign rfl rfl) ?_
 refine AOps.nil ?_
 exact ⟨true, .inl ⟨c35, rfl⟩, Le.mk (SubL.cons rfl (SubL.cons rfl (SubL.cons rfl (SubL.cons rfl (SubL.cons (look_bool rfl (by first | rfl | simp_all)) (SubL.nil)))))) (SubL.cons rfl (SubL.cons rfl (SubL.nil)))⟩
 refine .gv 35 rfl rfl (Y.fieldAddr fl39_0 rfl rfl) ?_
 refine .gv 35 rfl rfl (Y.load sh3 rfl rfl rfl rfl) ?_
 refine .gv 35 rfl rfl (Y.eql rfl rfl) ?_
 refine .vl (Y.pick rfl rfl rfl) ?_
 refine .vl (Y.assign rfl rfl) ?_
 refine AOps.nil ?_
 exact ⟨decide (kind = 10), .inr (⟨c35, rfl⟩), Le.mk (SubL.cons rfl (SubL.cons rfl (SubL.cons rfl (SubL.cons rfl (SubL.cons (look_bool rfl (by first | rfl | simp_all)) (SubL.nil)))))) (SubL.cons rfl (SubL.cons rfl (SubL.nil)))⟩
 refine AWp.join0 (⟨[(2, .ptr 102 0 0 0), (3, .ptr 103 0 0 0), (5, .v (.int .i64 ((args.length : Nat) : Int)))], [(102, .cells (Netlist.row n)), (103, .cells [.v (.int .i64 kind), .v (.int .i64 op), .v (.int .i64 out), .fz 1 (args.map irow), .v (.int .u64 ((num : Nat) : Int)), .v (.int .i64 mem)])]⟩) (((memory6_j5 = false) ∧ (stream7_j6 = false) ∧ (¬ (mem ≠ 0)) ∧ (memory6_j5 = true) ∧ (In mem ((n.mems.length : Nat) : Int)) ∧ (stream7_j6 = true) ∧ (In mem ((n.streams.length : Nat) : Int))) ∨ ((memory6_j5 = false) ∧ (stream7_j6 = false) ∧ (¬ (mem ≠ 0)) ∧ (memory6_j5 = true) ∧ (In mem ((n.mems.length : Nat) : Int)) ∧ (stream7_j6 = false)) ∨ ((memory6_j5 = false) ∧ (stream7_j6 = false) ∧ (¬ (mem ≠ 0)) ∧ (memory6_j5 = false) ∧ (stream7_j6 = true) ∧ (In mem ((n.streams.length : Nat) : Int))) ∨ ((memory6_j5 = false) ∧ (stream7_j6 = false) ∧ (¬ (mem ≠ 0)) ∧ (memory6_j5 = false) ∧ (stream7_j6 = false)) ∨ ((memory6_j5 = false) ∧ (stream7_j6 = true) ∧ (memory6_j5 = true) ∧ (In mem ((n.mems.length : Nat) : Int)) ∧ (stream7_j6 = true) ∧ (In mem ((n.streams.length : Nat) : Int))) ∨ ((memory6_j5 = false) ∧ (stream7_j6 = true) ∧ (memory6_j5 = true) ∧ (In mem ((n.mems.length : Nat) : Int)) ∧ (stream7_j6 = false)) ∨ ((memory6_j5 = false) ∧ (stream7_j6 = true) ∧ (memory6_j5 = false) ∧ (stream7_j6 = true) ∧ (In mem ((n.streams.length : Nat) : Int))) ∨ ((memory6_j5 = false) ∧ (stream7_j6 = true) ∧ (memory6_j5 = false) ∧ (stream7_j6 = false)) ∨ ((memory6_j5 = true) ∧ (memory6_j5 = true) ∧ (In mem ((n.mems.length : Nat) : Int)) ∧ (stream7_j6 = true) ∧ (In mem ((n.streams.length : Nat) : Int))) ∨ ((memory6_j5 = true) ∧ (memory6_j5 = true) ∧ (In mem ((n.mems.length : Nat) : Int)) ∧ (stream7_j6 = false)) ∨ ((memory6_j5 = true) ∧ (memory6_j5 = false) ∧ (stream7_j6 = true) ∧ (In mem ((n.streams.length : Nat) : Int))) ∨ ((memory6_j5 = true) ∧ (memory6_j5 = false) ∧ (stream7_j6 = false))) ?_ (fun hJ8 => ?_)
 refine AWp.sr ?_
 refine .vl (Y.move rfl rfl) ?_
 refine .vl (Y.not rfl) ?_
 refine .vl (Y.move rfl rfl) ?_
 refine AOps.split (d := 42) rfl (fun c42 => ?_) (fun c42 => ?_)
 replace c42 : memory6_j5 = false := by simpa using c42
 refine .gv 42 rfl rfl (Y.move rfl rfl) ?_
 refine .gv 42 rfl rfl (Y.not rfl) ?_
 refine .vl (Y.pick rfl rfl rfl) ?_
 refine .vl (Y.move rfl rfl) ?_
 refine AOps.split (d := 46) rfl (fun c46 => ?_) (fun c46 => ?_)
 replace c46 : stream7_j6 = false := by simpa using c46
 refine .gv 46 rfl rfl (Y.fieldAddr fl39_5 rfl rfl) ?_
 refine .gv 46 rfl rfl (Y.load sh3 rfl rfl rfl rfl) ?_
 refine .gv 46 rfl rfl (Y.neq rfl rfl) ?_
 refine .vl (Y.pick rfl rfl rfl) ?_
 refine .vl (Y.move rfl rfl) ?_
 refine AOps.splitD (d := 51) rfl (fun c51 => ?_) (fun c51 => ?_)
 refine .gs 51 rfl rfl rfl ?_
 refine .gs 51 rfl rfl rfl ?_
 refine .gs 53 rfl rfl rfl ?_
 refine .gs 53 rfl rfl rfl ?_
 refine .gs 53 rfl rfl rfl ?_
 refine .gs 53 rfl rfl rfl ?_
 refine .gs 53 rfl rfl rfl ?_
 refine .gs 53 rfl rfl rfl ?_
 refine .gs 53 rfl rfl rfl ?_
 refine .gs 51 rfl rfl rfl ?_
 refine .vl (Y.pick rfl rfl rfl) ?_
 refine .vl (Y.move rfl rfl) ?_
 refine .gs 63 rfl rfl rfl ?_
 refine .gs 63 rfl rfl rfl ?_
 refine .gs 65 rfl rfl rfl ?_
 refine .gs 65 rfl rfl rfl ?_
 refine .gs 65 rfl rfl rfl ?_
 refine .gs 65 rfl rfl rfl ?_
 refine .gs 65 rfl rfl rfl ?_
 refine .gs 65 rfl rfl rfl ?_
 refine .gs 65 rfl rfl rfl ?_
 refine .gs 63 rfl rfl rfl ?_
 refine .vl (Y.pick rfl rfl rfl) ?_
 refine AOps.nil ?_
 refine AWp.condT rfl ?_
 refine AWp.sr ?_
 refine .vl (Y.assign rfl rfl) ?_
 refine AOps.nil ?_
 refine AWp.ret ?_
 exact ⟨_, _, rfl, rfl, (cg1 (fun (z0 : Bool) => X.v (.bool z0)) (df (fun h => hk h.kind) : false = decide (Shaped n ⟨kind, op, out, args, num, mem⟩)) : X.v (.bool false) = X.v (.bool (decide (Shaped n ⟨kind, op, out, args, num, mem⟩)))), rfl⟩
 refine .gv 51 rfl rfl (Y.move rfl rfl) ?_
 refine .gv 51 rfl rfl (Y.move rfl rfl) ?_
 refine AOps.split (d := 53) rfl (fun c53 => ?_) (fun c53 => ?_)
 refine .gv 53 rfl rfl (Y.fieldAddr fl39_5 rfl rfl) ?_
 refine .gv 53 rfl rfl (Y.load sh3 rfl rfl rfl rfl) ?_
 refine .gv 53 rfl rfl (Y.fieldAddr fl27_4 rfl rfl) ?_
 refine .gv 53 rfl rfl (Y.load sh24 rfl rfl rfl rfl) ?_
 refine .gv 53 rfl rfl (Y.len (n := n.mems.length) sl24 rfl (congrArg some (List.length_map ..))) ?_
 refine AOps.guardRun (d := 53) rfl (by decide) rfl ?_
 refine AOps.callP ok59 (within_spec (i := mem) (n := ((n.mems.length : Nat) : Int))) rfl (.keep rfl rfl (.keep rfl rfl .nil)) (by decide) rfl ?_
 refine .gv 53 rfl rfl (Y.not rfl) ?_
 refine .gv 51 rfl rfl (Y.pick rfl rfl rfl) ?_
 refine .vl (Y.pick rfl rfl rfl) ?_
 refine .vl (Y.move rfl rfl) ?_
 refine AOps.split (d := 63) rfl (fun c63 => ?_) (fun c63 => ?_)
 replace c63 : ¬ (In mem ((n.mems.length : Nat) : Int)) := by simpa using c63
 refine .gs 63 rfl rfl rfl ?_
 refine .gs 63 rfl rfl rfl ?_
 refine .gs 65 rfl rfl rfl ?_
 refine .gs 65 rfl rfl rfl ?_
 refine .gs 65 rfl rfl rfl ?_
 refine .gs 65 rfl rfl rfl ?_
 refine .gs 65 rfl rfl rfl ?_
 refine .gs 65 rfl rfl rfl ?_
 refine .gs 65 rfl rfl rfl ?_
 refine .gs 63 rfl rfl rfl ?_
 refine .vl (Y.pick rfl rfl rfl) ?_
 refine AOps.nil ?_
 refine AWp.condT rfl ?_
 refine AWp.sr ?_
 refine .vl (Y.assign rfl rfl) ?_
 refine AOps.nil ?_
 refine AWp.ret ?_
 exact ⟨_, _, rfl, rfl, (cg1 (fun (z0 : Bool) => X.v (.bool z0)) (df (fun h => hk h.kind) : false = decide (Shaped n ⟨kind, op, out, args, num, mem⟩)) : X.v (.bool false) = X.v (.bool (decide (Shaped n ⟨kind, op, out, args, num, mem⟩)))), rfl⟩
 replace c63 : In mem ((n.mems.length : Nat) : Int) := by simpa using c63
 refine .gv 63 rfl rfl (Y.move rfl rfl) ?_
 refine .gv 63 rfl rfl (Y.move rfl rfl) ?_
 refine AOps.split (d := 65) rfl (fun c65 => ?_) (fun c65 => ?_)
 refine .gv 65 rfl rfl (Y.fieldAddr fl39_5 rfl rfl) ?_
 refine .gv 65 rfl rfl (Y.load sh3 rfl rfl rfl rfl) ?_
 refine .gv 65 rfl rfl (Y.fieldAddr fl27_5 rfl rfl) ?_
 refine .gv 65 rfl rfl (Y.load sh25 rfl rfl rfl rfl) ?_
 refine .gv 65 rfl rfl (Y.len (n := n.streams.length) sl25 rfl (congrArg some (List.length_map ..))) ?_
 refine AOps.guardRun (d := 65) rfl (by decide) rfl ?_
 refine AOps.callP ok59 (within_spec (i := mem) (n := ((n.streams.length : Nat) : Int))) rfl (.keep rfl rfl (.keep rfl rfl .nil)) (by decide) rfl ?_
 refine .gv 65 rfl rfl (Y.not rfl) ?_
 refine .gv 63 rfl rfl (Y.pick rfl rfl rfl) ?_
 refine .vl (Y.pick rfl rfl rfl) ?_
 refine AOps.nil ?_
 refine AWp.cond rfl (fun c74 => ?_) (fun c74 => ?_)
 replace c74 : ¬ (In mem ((n.streams.length : Nat) : Int)) := by simpa using c74
 refine AWp.sr ?_
 refine .vl (Y.assign rfl rfl) ?_
 refine AOps.nil ?_
 refine AWp.ret ?_
 exact ⟨_, _, rfl, rfl, (cg1 (fun (z0 : Bool) => X.v (.bool z0)) (df (fun h => hk h.kind) : false = decide (Shaped n ⟨kind, op, out, args, num, mem⟩)) : X.v (.bool false) = X.v (.bool (decide (Shaped n ⟨kind, op, out, args, num, mem⟩)))), rfl⟩
 replace c74 : In mem ((n.streams.length : Nat) : Int) := by simpa using c74
 refine AWp.skip ?_
 exact ⟨.inl ⟨c42, c46, c51, c53, c63, c65, c74⟩, Le.mk (SubL.cons rfl (SubL.cons rfl (SubL.cons rfl (SubL.nil)))) (SubL.cons rfl (SubL.cons rfl (SubL.nil)))⟩
 refine .gs 65 rfl rfl rfl ?_
 refine .gs 65 rfl rfl rfl ?_
 refine .gs 65 rfl rfl rfl ?_
 refine .gs 65 rfl rfl rfl ?_
 refine .gs 65 rfl rfl rfl ?_
 refine .gs 65 rfl rfl rfl ?_
 refine .gs 65 rfl rfl rfl ?_
 refine .gv 63 rfl rfl (Y.pick rfl rfl rfl) ?_
 refine .vl (Y.pick rfl rfl rfl) ?_
 refine AOps.nil ?_
 refine AWp.condF rfl ?_
 refine AWp.skip ?_
 exact ⟨.inr (.inl ⟨c42, c46, c51, c53, c63, c65⟩), Le.mk (SubL.cons rfl (SubL.cons rfl (SubL.cons rfl (SubL.nil)))) (SubL.cons rfl (SubL.cons rfl (SubL.nil)))⟩
 refine .gs 53 rfl rfl rfl ?_
 refine .gs 53 rfl rfl rfl ?_
 refine .gs 53 rfl rfl rfl ?_
 refine .gs 53 rfl rfl rfl ?_
 refine .gs 53 rfl rfl rfl ?_
 refine .gs 53 rfl rfl rfl ?_
 refine .gs 53 rfl rfl rfl ?_
 refine .gv 51 rfl rfl (Y.pick rfl rfl rfl) ?_
 refine .vl (Y.pick rfl rfl rfl) ?_
 refine .vl (Y.move rfl rfl) ?_
 refine .gv 63 rfl rfl (Y.move rfl rfl) ?_
 refine .gv 63 rfl rfl (Y.move rfl rfl) ?_
 refine AOps.split (d := 65) rfl (fun c65 => ?_) (fun c65 => ?_)
 refine .gv 65 rfl rfl (Y.fieldAddr fl39_5 rfl rfl) ?_
 refine .gv 65 rfl rfl (Y.load sh3 rfl rfl rfl rfl) ?_
 refine .gv 65 rfl rfl (Y.fieldAddr fl27_5 rfl rfl) ?_
 refine .gv 65 rfl rfl (Y.load sh25 rfl rfl rfl rfl) ?_
 refine .gv 65 rfl rfl (Y.len (n := n.streams.length) sl25 rfl (congrArg some (List.length_map ..))) ?_
 refine AOps.guardRun (d := 65) rfl (by decide) rfl ?_
 refine AOps.callP ok59 (within_spec (i := mem) (n := ((n.streams.length : Nat) : Int))) rfl (.keep rfl rfl (.keep rfl rfl .nil)) (by decide) rfl ?_
 refine .gv 65 rfl rfl (Y.not rfl) ?_
 refine .gv 63 rfl rfl (Y.pick rfl rfl rfl) ?_
 refine .vl (Y.pick rfl rfl rfl) ?_
 refine AOps.nil ?_
 refine AWp.cond rfl (fun c74 => ?_) (fun c74 => ?_)
 replace c74 : ¬ (In mem ((n.streams.length : Nat) : Int)) := by simpa using c74
 refine AWp.sr ?_
 refine .vl (Y.assign rfl rfl) ?_
 refine AOps.nil ?_
 refine AWp.ret ?_
 exact ⟨_, _, rfl, rfl, (cg1 (fun (z0 : Bool) => X.v (.bool z0)) (df (fun h => hk h.kind) : false = decide (Shaped n ⟨kind, op, out, args, num, mem⟩)) : X.v (.bool false) = X.v (.bool (decide (Shaped n ⟨kind, op, out, args, num, mem⟩)))), rfl⟩
 replace c74 : In mem ((n.streams.length : Nat) : Int) := by simpa using c74
 refine AWp.skip ?_
 exact ⟨.inr (.inr (.inl ⟨c42, c46, c51, c53, c65, c74⟩)), Le.mk (SubL.cons rfl (SubL.cons rfl (SubL.cons rfl (SubL.nil)))) (SubL.cons rfl (SubL.cons rfl (SubL.nil)))⟩
 refine .gs 65 rfl rfl rfl ?_
 refine .gs 65 rfl rfl rfl ?_
 refine .gs 65 rfl rfl rfl ?_
 refine .gs 65 rfl rfl rfl ?_
 refine .gs 65 rfl rfl rfl ?_
 refine .gs 65 rfl rfl rfl ?_
 refine .gs 65 rfl rfl rfl ?_
 refine .gv 63 rfl rfl (Y.pick rfl rfl rfl) ?_
 refine .vl (Y.pick rfl rfl rfl) ?_
 refine AOps.nil ?_
 refine AWp.condF rfl ?_
 refine AWp.skip ?_
 exact ⟨.inr (.inr (.inr (.inl ⟨c42, c46, c51, c53, c65⟩))), Le.mk (SubL.cons rfl (SubL.cons rfl (SubL.cons rfl (SubL.nil)))) (SubL.cons rfl (SubL.cons rfl (SubL.nil)))⟩
 replace c46 : stream7_j6 = true := by simpa using c46
 refine .gs 46 rfl rfl rfl ?_
 refine .gs 46 rfl rfl rfl ?_
 refine .gs 46 rfl rfl rfl ?_
 refine .vl (Y.pick rfl rfl rfl) ?_
 refine .vl (Y.move rfl rfl) ?_
 refine .gv 51 rfl rfl (Y.move rfl rfl) ?_
 refine .gv 51 rfl rfl (Y.move rfl rfl) ?_
 refine AOps.split (d := 53) rfl (fun c53 => ?_) (fun c53 => ?_)
 refine .gv 53 rfl rfl (Y.fieldAddr fl39_5 rfl rfl) ?_
 refine .gv 53 rfl rfl (Y.load sh3 rfl rfl rfl rfl) ?_
 refine .gv 53 rfl rfl (Y.fieldAddr fl27_4 rfl rfl) ?_
 refine .gv 53 rfl rfl (Y.load sh24 rfl rfl rfl rfl) ?_
 refine .gv 53 rfl rfl (Y.len (n := n.mems.length) sl24 rfl (congrArg some (List.length_map ..))) ?_
 refine AOps.guardRun (d := 53) rfl (by decide) rfl ?_
 refine AOps.callP ok59 (within_spec (i := mem) (n := ((n.mems.length : Nat) : Int))) rfl (.keep rfl rfl (.keep rfl rfl .nil)) (by decide) rfl ?_
 refine .gv 53 rfl rfl (Y.not rfl) ?_
 refine .gv 51 rfl rfl (Y.pick rfl rfl rfl) ?_
 refine .vl (Y.pick rfl rfl rfl) ?_
 refine .vl (Y.move rfl rfl) ?_
 refine AOps.split (d := 63) rfl (fun c63 => ?_) (fun c63 => ?_)
 replace c63 : ¬ (In mem ((n.mems.length : Nat) : Int)) := by simpa using c63
 refine .gs 63 rfl rfl rfl ?_
 refine .gs 63 rfl rfl rfl ?_
 refine .gs 65 rfl rfl rfl ?_
 refine .gs 65 rfl rfl rfl ?_
 refine .gs 65 rfl rfl rfl ?_
 refine .gs 65 rfl rfl rfl ?_
 refine .gs 65 rfl rfl rfl ?_
 refine .gs 65 rfl rfl rfl ?_
 refine .gs 65 rfl rfl rfl ?_
 refine .gs 63 rfl rfl rfl ?_
 refine .vl (Y.pick rfl rfl rfl) ?_
 refine AOps.nil ?_
 refine AWp.condT rfl ?_
 refine AWp.sr ?_
 refine .vl (Y.assign rfl rfl) ?_
 refine AOps.nil ?_
 refine AWp.ret ?_
 exact ⟨_, _, rfl, rfl, (cg1 (fun (z0 : Bool) => X.v (.bool z0)) (df (fun h => hk h.kind) : false = decide (Shaped n ⟨kind, op, out, args, num, mem⟩)) : X.v (.bool false) = X.v (.bool (decide (Shaped n ⟨kind, op, out, args, num, mem⟩)))), rfl⟩
 replace c63 : In mem ((n.mems.length : Nat) : Int) := by simpa using c63
 refine .gv 63 rfl rfl (Y.move rfl rfl) ?_
 refine .gv 63 rfl rfl (Y.move rfl rfl) ?_
 refine AOps.split (d := 65) rfl (fun c65 => ?_) (fun c65 => ?_)
 refine .gv 65 rfl rfl (Y.fieldAddr fl39_5 rfl rfl) ?_
 refine .gv 65 rfl rfl (Y.load sh3 rfl rfl rfl rfl) ?_
 refine .gv 65 rfl rfl (Y.fieldAddr fl27_5 rfl rfl) ?_
 refine .gv 65 rfl rfl (Y.load sh25 rfl rfl rfl rfl) ?_
 refine .gv 65 rfl rfl (Y.len (n := n.streams.length) sl25 rfl (congrArg some (List.length_map ..))) ?_
 refine AOps.guardRun (d := 65) rfl (by decide) rfl ?_
 refine AOps.callP ok59 (within_spec (i := mem) (n := ((n.streams.length : Nat) : Int))) rfl (.keep rfl rfl (.keep rfl rfl .nil)) (by decide) rfl ?_
 refine .gv 65 rfl rfl (Y.not rfl) ?_
 refine .gv 63 rfl rfl (Y.pick rfl rfl rfl) ?_
 refine .vl (Y.pick rfl rfl rfl) ?_
 refine AOps.nil ?_
 refine AWp.cond rfl (fun c74 => ?_) (fun c74 => ?_)
 replace c74 : ¬ (In mem ((n.streams.length : Nat) : Int)) := by simpa using c74
 refine AWp.sr ?_
 refine .vl (Y.assign rfl rfl) ?_
 refine AOps.nil ?_
 refine AWp.ret ?_
 exact ⟨_, _, rfl, rfl, (cg1 (fun (z0 : Bool) => X.v (.bool z0)) (df (fun h => hk h.kind) : false = decide (Shaped n ⟨kind, op, out, args, num, mem⟩)) : X.v (.bool false) = X.v (.bool (decide (Shaped n ⟨kind, op, out, args, num, mem⟩)))), rfl⟩
 replace c74 : In mem ((n.streams.length : Nat) : Int) := by simpa using c74
 refine AWp.skip ?_
 exact ⟨.inr (.inr (.inr (.inr (.inl ⟨c42, c46, c53, c63, c65, c74⟩)))), Le.mk (SubL.cons rfl (SubL.cons rfl (SubL.cons rfl (SubL.nil)))) (SubL.cons rfl (SubL.cons rfl (SubL.nil)))⟩
 refine .gs 65 rfl rfl rfl ?_
 refine .gs 65 rfl rfl rfl ?_
 refine .gs 65 rfl rfl rfl ?_
 refine .gs 65 rfl rfl rfl ?_
 refine .gs 65 rfl rfl rfl ?_
 refine .gs 65 rfl rfl rfl ?_
 refine .gs 65 rfl rfl rfl ?_
 refine .gv 63 rfl rfl (Y.pick rfl rfl rfl) ?_
 refine .vl (Y.pick rfl rfl rfl) ?_
 refine AOps.nil ?_
 refine AWp.condF rfl ?_
 refine AWp.skip ?_
 exact ⟨.inr (.inr (.inr (.inr (.inr (.inl ⟨c42, c46, c53, c63, c65⟩))))), Le.mk (SubL.cons rfl (SubL.cons rfl (SubL.cons rfl (SubL.nil)))) (SubL.cons rfl (SubL.cons rfl (SubL.nil)))⟩
 refine .gs 53 rfl rfl rfl ?_
 refine .gs 53 rfl rfl rfl ?_
 refine .gs 53 rfl rfl rfl ?_
 refine .gs 53 rfl rfl rfl ?_
 refine .gs 53 rfl rfl rfl ?_
 refine .gs 53 rfl rfl rfl ?_
 refine .gs 53 rfl rfl rfl ?_
 refine .gv 51 rfl rfl (Y.pick rfl rfl rfl) ?_
 refine .vl (Y.pick rfl rfl rfl) ?_
 refine .vl (Y.move rfl rfl) ?_
 refine .gv 63 rfl rfl (Y.move rfl rfl) ?_
 refine .gv 63 rfl rfl (Y.move rfl rfl) ?_
 refine AOps.split (d := 65) rfl (fun c65 => ?_) (fun c65 => ?_)
 refine .gv 65 rfl rfl (Y.fieldAddr fl39_5 rfl rfl) ?_
 refine .gv 65 rfl rfl (Y.load sh3 rfl rfl rfl rfl) ?_
 refine .gv 65 rfl rfl (Y.fieldAddr fl27_5 rfl rfl) ?_
 refine .gv 65 rfl rfl (Y.load sh25 rfl rfl rfl rfl) ?_
 refine .gv 65 rfl rfl (Y.len (n := n.streams.length) sl25 rfl (congrArg some (List.length_map ..))) ?_
 refine AOps.guardRun (d := 65) rfl (by decide) rfl ?_
 refine AOps.callP ok59 (within_spec (i := mem) (n := ((n.streams.length : Nat) : Int))) rfl (.keep rfl rfl (.keep rfl rfl .nil)) (by decide) rfl ?_
 refine .gv 65 rfl rfl (Y.not rfl) ?_
 refine .gv 63 rfl rfl (Y.pick rfl rfl rfl) ?_
 refine .vl (Y.pick rfl rfl rfl) ?_
 refine AOps.nil ?_
 refine AWp.cond rfl (fun c74 => ?_) (fun c74 => ?_)
 replace c74 : ¬ (In mem ((n.streams.length : Nat) : Int)) := by simpa using c74
 refine AWp.sr ?_
 refine .vl (Y.assign rfl rfl) ?_
 refine AOps.nil ?_
 refine AWp.ret ?_
 exact ⟨_, _, rfl, rfl, (cg1 (fun (z0 : Bool) => X.v (.bool z0)) (df (fun h => hk h.kind) : false = decide (Shaped n ⟨kind, op, out, args, num, mem⟩)) : X.v (.bool false) = X.v (.bool (decide (Shaped n ⟨kind, op, out, args, num, mem⟩)))), rfl⟩
 replace c74 : In mem ((n.streams.length : Nat) : Int) := by simpa using c74
 refine AWp.skip ?_
 exact ⟨.inr (.inr (.inr (.inr (.inr (.inr (.inl ⟨c42, c46, c53, c65, c74⟩)))))), Le.mk (SubL.cons rfl (SubL.cons rfl (SubL.cons rfl (SubL.nil)))) (SubL.cons rfl (SubL.cons rfl (SubL.nil)))⟩
 refine .gs 65 rfl rfl rfl ?_
 refine .gs 65 rfl rfl rfl ?_
 refine .gs 65 rfl rfl rfl ?_
 refine .gs 65 rfl rfl rfl ?_
 refine .gs 65 rfl rfl rfl ?_
 refine .gs 65 rfl rfl rfl ?_
 refine .gs 65 rfl rfl rfl ?_
 refine .gv 63 rfl rfl (Y.pick rfl rfl rfl) ?_
 refine .vl (Y.pick rfl rfl rfl) ?_
 refine AOps.nil ?_
 refine AWp.condF rfl ?_
 refine AWp.skip ?_
 exact ⟨.inr (.inr (.inr (.inr (.inr (.inr (.inr (.inl ⟨c42, c46, c53, c65⟩))))))), Le.mk (SubL.cons rfl (SubL.cons rfl (SubL.cons rfl (SubL.nil)))) (SubL.cons rfl (SubL.cons rfl (SubL.nil)))⟩
 replace c42 : memory6_j5 = true := by simpa using c42
 refine .gs 42 rfl rfl rfl ?_
 refine .gs 42 rfl rfl rfl ?_
 refine .vl (Y.pick rfl rfl rfl) ?_
 refine .vl (Y.move rfl rfl) ?_
 refine .gs 46 rfl rfl rfl ?_
 refine .gs 46 rfl rfl rfl ?_
 refine .gs 46 rfl rfl rfl ?_
 refine .vl (Y.pick rfl rfl rfl) ?_
 refine .vl (Y.move rfl rfl) ?_
 refine .gv 51 rfl rfl (Y.move rfl rfl) ?_
 refine .gv 51 rfl rfl (Y.move rfl rfl) ?_
 refine AOps.split (d := 53) rfl (fun c53 => ?_) (fun c53 => ?_)
 refine .gv 53 rfl rfl (Y.fieldAddr fl39_5 rfl rfl) ?_
 refine .gv 53 rfl rfl (Y.load sh3 rfl rfl rfl rfl) ?_
 refine .gv 53 rfl rfl (Y.fieldAddr fl27_4 rfl rfl) ?_
 refine .gv 53 rfl rfl (Y.load sh24 rfl rfl rfl rfl) ?_
 refine .gv 53 rfl rfl (Y.len (n := n.mems.length) sl24 rfl (congrArg some (List.length_map ..))) ?_
 refine AOps.guardRun (d := 53) rfl (by decide) rfl ?_
 refine AOps.callP ok59 (within_spec (i := mem) (n := ((n.mems.length : Nat) : Int))) rfl (.keep rfl rfl (.keep rfl rfl .nil)) (by decide) rfl ?_
 refine .gv 53 rfl rfl (Y.not rfl) ?_
 refine .gv 51 rfl rfl (Y.pick rfl rfl rfl) ?_
 refine .vl (Y.pick rfl rfl rfl) ?_
 refine .vl (Y.move rfl rfl) ?_
 refine AOps.split (d := 63) rfl (fun c63 => ?_) (fun c63 => ?_)
 replace c63 : ¬ (In mem ((n.mems.length : Nat) : Int)) := by simpa using c63
 refine .gs 63 rfl rfl rfl ?_
 refine .gs 63 rfl rfl rfl ?_
 refine .gs 65 rfl rfl rfl ?_
 refine .gs 65 rfl rfl rfl ?_
 refine .gs 65 rfl rfl rfl ?_
 refine .gs 65 rfl rfl rfl ?_
 refine .gs 65 rfl rfl rfl ?_
 refine .gs 65 rfl rfl rfl ?_
 refine .gs 65 rfl rfl rfl ?_
 refine .gs 63 rfl rfl rfl ?_
 refine .vl (Y.pick rfl rfl rfl) ?_
 refine AOps.nil ?_
 refine AWp.condT rfl ?_
 refine AWp.sr ?_
 refine .vl (Y.assign rfl rfl) ?_
 refine AOps.nil ?_
 refine AWp.ret ?_
 exact ⟨_, _, rfl, rfl, (cg1 (fun (z0 : Bool) => X.v (.bool z0)) (df (fun h => hk h.kind) : false = decide (Shaped n ⟨kind, op, out, args, num, mem⟩)) : X.v (.bool false) = X.v (.bool (decide (Shaped n ⟨kind, op, out, args, num, mem⟩)))), rfl⟩
 replace c63 : In mem ((n.mems.length : Nat) : Int) := by simpa using c63
 refine .gv 63 rfl rfl (Y.move rfl rfl) ?_
 refine .gv 63 rfl rfl (Y.move rfl rfl) ?_
 refine AOps.split (d := 65) rfl (fun c65 => ?_) (fun c65 => ?_)
 refine .gv 65 rfl rfl (Y.fieldAddr fl39_5 rfl rfl) ?_
 refine .gv 65 rfl rfl (Y.load sh3 rfl rfl rfl rfl) ?_
 refine .gv 65 rfl rfl (Y.fieldAddr fl27_5 rfl rfl) ?_
 refine .gv 65 rfl rfl (Y.load sh25 rfl rfl rfl rfl) ?_
 refine .gv 65 rfl rfl (Y.len (n := n.streams.length) sl25 rfl (congrArg some (List.length_map ..))) ?_
 refine AOps.guardRun (d := 65) rfl (by decide) rfl ?_
 refine AOps.callP ok59 (within_spec (i := mem) (n := ((n.streams.length : Nat) : Int))) rfl (.keep rfl rfl (.keep rfl rfl .nil)) (by decide) rfl ?_
 refine .gv 65 rfl rfl (Y.not rfl) ?_
 refine .gv 63 rfl rfl (Y.pick rfl rfl rfl) ?_
 refine .vl (Y.pick rfl rfl rfl) ?_
 refine AOps.nil ?_
 refine AWp.cond rfl (fun c74 => ?_) (fun c74 => ?_)
 replace c74 : ¬ (In mem ((n.streams.length : Nat) : Int)) := by simpa using c74
 refine AWp.sr ?_
 refine .vl (Y.assign rfl rfl) ?_
 refine AOps.nil ?_
 refine AWp.ret ?_
 exact ⟨_, _, rfl, rfl, (cg1 (fun (z0 : Bool) => X.v (.bool z0)) (df (fun h => hk h.kind) : false = decide (Shaped n ⟨kind, op, out, args, num, mem⟩)) : X.v (.bool false) = X.v (.bool (decide (Shaped n ⟨kind, op, out, args, num, mem⟩)))), rfl⟩
 replace c74 : In mem ((n.streams.length : Nat) : Int) := by simpa using c74
 refine AWp.skip ?_
 exact ⟨.inr (.inr (.inr (.inr (.inr (.inr (.inr (.inr (.inl ⟨c42, c53, c63, c65, c74⟩)))))))), Le.mk (SubL.cons rfl (SubL.cons rfl (SubL.cons rfl (SubL.nil)))) (SubL.cons rfl (SubL.cons rfl (SubL.nil)))⟩
 refine .gs 65 rfl rfl rfl ?_
 refine .gs 65 rfl rfl rfl ?_
 refine .gs 65 rfl rfl rfl ?_
 refine .gs 65 rfl rfl rfl ?_
 refine .gs 65 rfl rfl rfl ?_
 refine .gs 65 rfl rfl rfl ?_
 refine .gs 65 rfl rfl rfl ?_
 refine .gv 63 rfl rfl (Y.pick rfl rfl rfl) ?_
 refine .vl (Y.pick rfl rfl rfl) ?_
 refine AOps.nil ?_
 refine AWp.condF rfl ?_
 refine AWp.skip ?_
 exact ⟨.inr (.inr (.inr (.inr (.inr (.inr (.inr (.inr (.inr (.inl ⟨c42, c53, c63, c65⟩))))))))), Le.mk (SubL.cons rfl (SubL.cons rfl (SubL.cons rfl (SubL.nil)))) (SubL.cons rfl (SubL.cons rfl (SubL.nil)))⟩
 refine .gs 53 rfl rfl rfl ?_
 refine .gs 53 rfl rfl rfl ?_
 refine .gs 53 rfl rfl rfl ?_
 refine .gs 53 rfl rfl rfl ?_
 refine .gs 53 rfl rfl rfl ?_
 refine .gs 53 rfl rfl rfl ?_
 refine .gs 53 rfl rfl rfl ?_
 refine .gv 51 rfl rfl (Y.pick rfl rfl rfl) ?_
 refine .vl (Y.pick rfl rfl rfl) ?_
 refine .vl (Y.move rfl rfl) ?_
 refine .gv 63 rfl rfl (Y.move rfl rfl) ?_
 refine .gv 63 rfl rfl (Y.move rfl rfl) ?_
 refine AOps.split (d := 65) rfl (fun c65 => ?_) (fun c65 => ?_)
 refine .gv 65 rfl rfl (Y.fieldAddr fl39_5 rfl rfl) ?_
 refine .gv 65 rfl rfl (Y.load sh3 rfl rfl rfl rfl) ?_
 refine .gv 65 rfl rfl (Y.fieldAddr fl27_5 rfl rfl) ?_
 refine .gv 65 rfl rfl (Y.load sh25 rfl rfl rfl rfl) ?_
 refine .gv 65 rfl rfl (Y.len (n := n.streams.length) sl25 rfl (congrArg some (List.length_map ..))) ?_
 refine AOps.guardRun (d := 65) rfl (by decide) rfl ?_
 refine AOps.callP ok59 (within_spec (i := mem) (n := ((n.streams.length : Nat) : Int))) rfl (.keep rfl rfl (.keep rfl rfl .nil)) (by decide) rfl ?_
 refine .gv 65 rfl rfl (Y.not rfl) ?_
 refine .gv 63 rfl rfl (Y.pick rfl rfl rfl) ?_
 refine .vl (Y.pick rfl rfl rfl) ?_
 refine AOps.nil ?_
 refine AWp.cond rfl (fun c74 => ?_) (fun c74 => ?_)
 replace c74 : ¬ (In mem ((n.streams.length : Nat) : Int)) := by simpa using c74
 refine AWp.sr ?_
 refine .vl (Y.assign rfl rfl) ?_
 refine AOps.nil ?_
 refine AWp.ret ?_
 exact ⟨_, _, rfl, rfl, (cg1 (fun (z0 : Bool) => X.v (.bool z0)) (df (fun h => hk h.kind) : false = decide (Shaped n ⟨kind, op, out, args, num, mem⟩)) : X.v (.bool false) = X.v (.bool (decide (Shaped n ⟨kind, op, out, args, num, mem⟩)))), rfl⟩
 replace c74 : In mem ((n.streams.length : Nat) : Int) := by simpa using c74
 refine AWp.skip ?_
 exact ⟨.inr (.inr (.inr (.inr (.inr (.inr (.inr (.inr (.inr (.inr (.inl ⟨c42, c53, c65, c74⟩)))))))))), Le.mk (SubL.cons rfl (SubL.cons rfl (SubL.cons rfl (SubL.nil)))) (SubL.cons rfl (SubL.cons rfl (SubL.nil)))⟩
 refine .gs 65 rfl rfl rfl ?_
 refine .gs 65 rfl rfl rfl ?_
 refine .gs 65 rfl rfl rfl ?_
 refine .gs 65 rfl rfl rfl ?_
 refine .gs 65 rfl rfl rfl ?_
 refine .gs 65 rfl rfl rfl ?_
 refine .gs 65 rfl rfl rfl ?_
 refine .gv 63 rfl rfl (Y.pick rfl rfl rfl) ?_
 refine .vl (Y.pick rfl rfl rfl) ?_
 refine AOps.nil ?_
 refine AWp.condF rfl ?_
 refine AWp.skip ?_
 exact ⟨.inr (.inr (.inr (.inr (.inr (.inr (.inr (.inr (.inr (.inr (.inr (⟨c42, c53, c65⟩))))))))))), Le.mk (SubL.cons rfl (SubL.cons rfl (SubL.cons rfl (SubL.nil)))) (SubL.cons rfl (SubL.cons rfl (SubL.nil)))⟩
 refine AWp.join0 (⟨[(2, .ptr 102 0 0 0), (3, .ptr 103 0 0 0), (5, .v (.int .i64 ((args.length : Nat) : Int)))], [(102, .cells (Netlist.row n)), (103, .cells [.v (.int .i64 kind), .v (.int .i64 op), .v (.int .i64 out), .fz 1 (args.map irow), .v (.int .u64 ((num : Nat) : Int)), .v (.int .i64 mem)])]⟩) (((kind ≠ 1) ∧ (kind ≠ 4) ∧ (kind ≠ 5) ∧ (kind ≠ 8) ∧ (¬ (((num : Nat) : Int) ≠ 0))) ∨ ((kind ≠ 1) ∧ (kind ≠ 4) ∧ (kind ≠ 5) ∧ (¬ (kind ≠ 8))) ∨ ((kind ≠ 1) ∧ (kind ≠ 4) ∧ (¬ (kind ≠ 5))) ∨ ((kind ≠ 1) ∧ (¬ (kind ≠ 4))) ∨ ((¬ (kind ≠ 1)))) ?_ (fun hJ10 => ?_)
 refine AWp.sr ?_
 refine .vl (Y.fieldAddr fl39_0 rfl rfl) ?_
 refine .vl (Y.load sh3 rfl rfl rfl rfl) ?_
 refine .vl (Y.neq rfl rfl) ?_
 refine .vl (Y.move rfl rfl) ?_
 refine AOps.splitD (d := 78) rfl (fun c78 => ?_) (fun c78 => ?_)
 refine .gv 78 rfl rfl (Y.fieldAddr fl39_0 rfl rfl) ?_
 refine .gv 78 rfl rfl (Y.load sh3 rfl rfl rfl rfl) ?_
 refine .gv 78 rfl rfl (Y.neq rfl rfl) ?_
 refine .vl (Y.pick rfl rfl rfl) ?_
 refine .vl (Y.move rfl rfl) ?_
 refine AOps.splitD (d := 83) rfl (fun c83 => ?_) (fun c83 => ?_)
 refine .gv 83 rfl rfl (Y.fieldAddr fl39_0 rfl rfl) ?_
 refine .gv 83 rfl rfl (Y.load sh3 rfl rfl rfl rfl) ?_
 refine .gv 83 rfl rfl (Y.neq rfl rfl) ?_
 refine .vl (Y.pick rfl rfl rfl) ?_
 refine .vl (Y.move rfl rfl) ?_
 refine AOps.splitD (d := 88) rfl (fun c88 => ?_) (fun c88 => ?_)
 refine .gv 88 rfl rfl (Y.fieldAddr fl39_0 rfl rfl) ?_
 refine .gv 88 rfl rfl (Y.load sh3 rfl rfl rfl rfl) ?_
 refine .gv 88 rfl rfl (Y.neq rfl rfl) ?_
 refine .vl (Y.pick rfl rfl rfl) ?_
 refine .vl (Y.move rfl rfl) ?_
 refine AOps.splitD (d := 93) rfl (fun c93 => ?_) (fun c93 => ?_)
 refine .gv 93 rfl rfl (Y.fieldAddr fl39_4 rfl rfl) ?_
 refine .gv 93 rfl rfl (Y.load sh37 rfl rfl rfl rfl) ?_
 refine .gv 93 rfl rfl (Y.neq rfl rfl) ?_
 refine .vl (Y.pick rfl rfl rfl) ?_
 refine AOps.nil ?_
 refine AWp.condD rfl (fun c97 => ?_) (fun c97 => ?_)
 refine AWp.sr ?_
 refine .vl (Y.assign rfl rfl) ?_
 refine AOps.nil ?_
 refine AWp.ret ?_
 exact ⟨_, _, rfl, rfl, (cg1 (fun (z0 : Bool) => X.v (.bool z0)) (df (fun h => hk h.kind) : false = decide (Shaped n ⟨kind, op, out, args, num, mem⟩)) : X.v (.bool false) = X.v (.bool (decide (Shaped n ⟨kind, op, out, args, num, mem⟩)))), rfl⟩
 refine AWp.skip ?_
 exact ⟨.inl ⟨c78, c83, c88, c93, c97⟩, Le.mk (SubL.cons rfl (SubL.cons rfl (SubL.cons rfl (SubL.nil)))) (SubL.cons rfl (SubL.cons rfl (SubL.nil)))⟩
 refine .gs 93 rfl rfl rfl ?_
 refine .gs 93 rfl rfl rfl ?_
 refine .gs 93 rfl rfl rfl ?_
 refine .vl (Y.pick rfl rfl rfl) ?_
 refine AOps.nil ?_
 refine AWp.condF rfl ?_
 refine AWp.skip ?_
 exact ⟨.inr (.inl ⟨c78, c83, c88, c93⟩), Le.mk (SubL.cons rfl (SubL.cons rfl (SubL.cons rfl (SubL.nil)))) (SubL.cons rfl (SubL.cons rfl (SubL.nil)))⟩
 refine .gs 88 rfl rfl rfl ?_
 refine .gs 88 rfl rfl rfl ?_
 refine .gs 88 rfl rfl rfl ?_
 refine .vl (Y.pick rfl rfl rfl) ?_
 refine .vl (Y.move rfl rfl) ?_
 refine .gs 93 rfl rfl rfl ?_
 refine .gs 93 rfl rfl rfl ?_
 refine .gs 93 rfl rfl rfl ?_
 refine .vl (Y.pick rfl rfl rfl) ?_
 refine AOps.nil ?_
 refine AWp.condF rfl ?_
 refine AWp.skip ?_
 exact ⟨.inr (.inr (.inl ⟨c78, c83, c88⟩)), Le.mk (SubL.cons rfl (SubL.cons rfl (SubL.cons rfl (SubL.nil)))) (SubL.cons rfl (SubL.cons rfl (SubL.nil)))⟩
 refine .gs 83 rfl rfl rfl ?_
 refine .gs 83 rfl rfl rfl ?_
 refine .gs 83 rfl rfl rfl ?_
 refine .vl (Y.pick rfl rfl rfl) ?_
 refine .vl (Y.move rfl rfl) ?_
 refine .gs 88 rfl rfl rfl ?_
 refine .gs 88 rfl rfl rfl ?_
 refine .gs 88 rfl rfl rfl ?_
 refine .vl (Y.pick rfl rfl rfl) ?_
 refine .vl (Y.move rfl rfl) ?_
 refine .gs 93 rfl rfl rfl ?_
 refine .gs 93 rfl rfl rfl ?_
 refine .gs 93 rfl rfl rfl ?_
 refine .vl (Y.pick rfl rfl rfl) ?_
 refine AOps.nil ?_
 refine AWp.condF rfl ?_
 refine AWp.skip ?_
 exact ⟨.inr (.inr (.inr (.inl ⟨c78, c83⟩))), Le.mk (SubL.cons rfl (SubL.cons rfl (SubL.cons rfl (SubL.nil)))) (SubL.cons rfl (SubL.cons rfl (SubL.nil)))⟩
 refine .gs 78 rfl rfl rfl ?_
 refine .gs 78 rfl rfl rfl ?_
 refine .gs 78 rfl rfl rfl ?_
 refine .vl (Y.pick rfl rfl rfl) ?_
 refine .vl (Y.move rfl rfl) ?_
 refine .gs 83 rfl rfl rfl ?_
 refine .gs 83 rfl rfl rfl ?_
 refine .gs 83 rfl rfl rfl ?_
 refine .vl (Y.pick rfl rfl rfl) ?_
 refine .vl (Y.move rfl rfl) ?_
 refine .gs 88 rfl rfl rfl ?_
 refine .gs 88 rfl rfl rfl ?_
 refine .gs 88 rfl rfl rfl ?_
 refine .vl (Y.pick rfl rfl rfl) ?_
 refine .vl (Y.move rfl rfl) ?_
 refine .gs 93 rfl rfl rfl ?_
 refine .gs 93 rfl rfl rfl ?_
 refine .gs 93 rfl rfl rfl ?_
 refine .vl (Y.pick rfl rfl rfl) ?_
 refine AOps.nil ?_
 refine AWp.condF rfl ?_
 refine AWp.skip ?_
 exact ⟨.inr (.inr (.inr (.inr (c78)))), Le.mk (SubL.cons rfl (SubL.cons rfl (SubL.cons rfl (SubL.nil)))) (SubL.cons rfl (SubL.cons rfl (SubL.nil)))⟩
 refine AWp.seq ?_
 refine AWp.sr ?_
 refine .vl (Y.fieldAddr fl39_0 rfl rfl) ?_
 refine .vl (Y.load sh3 rfl rfl rfl rfl) ?_
 refine AOps.nil ?_
 refine AWp.block ?_
 refine AWp.seq ?_
 refine AWp.sr ?_
 refine .vl (Y.eql rfl rfl) ?_
 refine .vl (Y.assign rfl rfl) ?_
 refine AOps.nil ?_
 refine AWp.condKD rfl (fun c100 => ?_) (fun c100 => ?_)
 exfalso; omega
 refine AWp.region ?_
 refine .vl (Y.eql rfl rfl) ?_
 refine .vl (Y.assign rfl rfl) ?_
 refine AOps.nil ?_
 refine AWp.condKD rfl (fun c100 => ?_) (fun c100 => ?_)
 exfalso; omega
 refine AWp.sr ?_
 refine .vl (Y.eql rfl rfl) ?_
 refine .vl (Y.assign rfl rfl) ?_
 refine AOps.nil ?_
 refine AWp.condD rfl (fun c105 => ?_) (fun c105 => ?_)
 exfalso; omega
 refine AWp.sr ?_
 refine .vl (Y.eql rfl rfl) ?_
 refine .vl (Y.assign rfl rfl) ?_
 refine AOps.nil ?_
 refine AWp.condD rfl (fun c143 => ?_) (fun c143 => ?_)
 exfalso; omega
 refine AWp.seq ?_
 refine AWp.sr ?_
 refine .vl (Y.eql rfl rfl) ?_
 refine .vl (Y.assign rfl rfl) ?_
 refine AOps.nil ?_
 refine AWp.condKD rfl (fun c152 => ?_) (fun c152 => ?_)
 exfalso; omega
 refine AWp.region ?_
 refine .vl (Y.eql rfl rfl) ?_
 refine .vl (Y.assign rfl rfl) ?_
 refine AOps.nil ?_
 refine AWp.condKD rfl (fun c152 => ?_) (fun c152 => ?_)
 exfalso; omega
 refine AWp.sr ?_
 refine .vl (Y.eql rfl rfl) ?_
 refine .vl (Y.assign rfl rfl) ?_
 refine AOps.nil ?_
 refine AWp.condD rfl (fun c157 => ?_) (fun c157 => ?_)
 exfalso; omega
 refine AWp.sr ?_
 refine .vl (Y.eql rfl rfl) ?_
 refine .vl (Y.assign rfl rfl) ?_
 refine AOps.nil ?_
 refine AWp.condD rfl (fun c176 => ?_) (fun c176 => ?_)
 exfalso; omega
 refine AWp.sr ?_
 refine .vl (Y.eql rfl rfl) ?_
 refine .vl (Y.assign rfl rfl) ?_
 refine AOps.nil ?_
 refine AWp.condD rfl (fun c180 => ?_) (fun c180 => ?_)
 exfalso; omega
 refine AWp.sr ?_
 refine .vl (Y.eql rfl rfl) ?_
 refine .vl (Y.assign rfl rfl) ?_
 refine AOps.nil ?_
 refine AWp.condD rfl (fun c193 => ?_) (fun c193 => ?_)
 exfalso; omega
 refine AWp.skip ?_
 refine AWp.sr ?_
 refine .vl (Y.assign rfl rfl) ?_
 refine AOps.nil ?_
 refine AWp.ret ?_
 exact ⟨_, _, rfl, rfl, (cg1 (fun (z0 : Bool) => X.v (.bool z0)) (df (fun h => hk h.kind) : false = decide (Shaped n ⟨kind, op, out, args, num, mem⟩)) : X.v (.bool false) = X.v (.bool (decide (Shaped n ⟨kind, op, out, args, num, mem⟩)))), rfl⟩

set_option maxRecDepth 4000 in
set_option maxHeartbeats 1000000 in
theorem cell_k1 {n : Netlist} {op out mem : Int} {args : List Int} {num : Nat} (hs : n.Small) (hc : args.length ≤ 17592186043904) : ACalls Try.prog 88 [.agg (Netlist.row n), .agg [.v (.int .i64 1), .v (.int .i64 op), .v (.int .i64 out), .fz 1 (args.map irow), .v (.int .u64 ((num : Nat) : Int)), .v (.int .i64 mem)]] [] [] (fun r o => r = .v (.bool (decide (Shaped n ⟨1, op, out, args, num, mem⟩))) ∧ o = []) := by
 refine ACalls.of Try.func88 rfl rfl rfl (n := 207) (by decide) (Nat.le_of_ble_eq_true rfl) ?_
 have hs4 := hs.ins; have hs5 := hs.mems; have hs6 := hs.streams
 refine AWp.sr ?_
 refine AOps.box 102 rfl rfl rfl rfl rfl (by decide) ?_
 refine AOps.box 103 rfl rfl rfl rfl rfl (by decide) ?_
 refine .vl (Y.assign rfl rfl) ?_
 refine AOps.nil ?_
 refine AWp.sr ?_
 refine .vl (Y.fieldAddr fl39_3 rfl rfl) ?_
 refine .vl (Y.load sh22 rfl rfl rfl rfl) ?_
 refine .vl (Y.len (n := args.length) sl22 rfl (congrArg some (List.length_map ..))) ?_
 refine .vl (Y.assign rfl rfl) ?_
 refine AOps.nil ?_
 refine AWp.seq ?_
 refine AWp.sr ?_
 refine .vl (Y.fieldAddr fl39_0 rfl rfl) ?_
 refine .vl (Y.load sh3 rfl rfl rfl rfl) ?_
 refine .vl (Y.neq rfl rfl) ?_
 refine .vl (Y.move rfl rfl) ?_
 refine .gv 14 rfl rfl (Y.fieldAddr fl39_0 rfl rfl) ?_
 refine .gv 14 rfl rfl (Y.load sh3 rfl rfl rfl rfl) ?_
 refine .gv 14 rfl rfl (Y.neq rfl rfl) ?_
 refine .vl (Y.pick rfl rfl rfl) ?_
 refine .vl (Y.move rfl rfl) ?_
 refine .gv 19 rfl rfl (Y.fieldAddr fl39_1 rfl rfl) ?_
 refine .gv 19 rfl rfl (Y.load sh3 rfl rfl rfl rfl) ?_
 refine .gv 19 rfl rfl (Y.neq rfl rfl) ?_
 refine .vl (Y.pick rfl rfl rfl) ?_
 refine AOps.nil ?_
 refine AWp.condD rfl (fun c23 => ?_) (fun c23 => ?_)
 refine AWp.sr ?_
 refine .vl (Y.assign rfl rfl) ?_
 refine AOps.nil ?_
 refine AWp.ret ?_
 exact ⟨_, _, rfl, rfl, (cg1 (fun (z0 : Bool) => X.v (.bool z0)) (df (by (try unfold Seq at *); (try unfold In at *); (simp only [Shaped, Int.reduceEq, Bool.not_eq_true, false_and, true_and, and_true, and_false, or_false, false_or, ne_eq]) <;> (first | omega | grind)) : false = decide (Shaped n ⟨1, op, out, args, num, mem⟩)) : X.v (.bool false) = X.v (.bool (decide (Shaped n ⟨1, op, out, args, num, mem⟩)))), rfl⟩
 refine AWp.skip ?_
 refine AWp.sr ?_
 refine .vl (Y.fieldAddr fl39_0 rfl rfl) ?_
 refine .vl (Y.load sh3 rfl rfl rfl rfl) ?_
 refine .vl (Y.eql rfl rfl) ?_
 refine .vl (Y.move rfl rfl) ?_
 refine .gv 27 rfl rfl (Y.fieldAddr fl39_0 rfl rfl) ?_
 refine .gv 27 rfl rfl (Y.load sh3 rfl rfl rfl rfl) ?_
 refine .gv 27 rfl rfl (Y.eql rfl rfl) ?_
 refine .vl (Y.pick rfl rfl rfl) ?_
 refine .vl (Y.assign rfl rfl) ?_
 refine AOps.nil ?_
 refine AWp.sr ?_
 refine .vl (Y.fieldAddr fl39_0 rfl rfl) ?_
 refine .vl (Y.load sh3 rfl rfl rfl rfl) ?_
 refine .vl (Y.eql rfl rfl) ?_
 refine .vl (Y.move rfl rfl) ?_
 refine .gv 35 rfl rfl (Y.fieldAddr fl39_0 rfl rfl) ?_
 refine .gv 35 rfl rfl (Y.load sh3 rfl rfl rfl rfl) ?_
 refine .gv 35 rfl rfl (Y.eql rfl rfl) ?_
 refine .vl (Y.pick rfl rfl rfl) ?_
 refine .vl (Y.assign rfl rfl) ?_
 refine AOps.nil ?_
 refine AWp.seq ?_
 refine AWp.sr ?_
 refine .vl (Y.move rfl rfl) ?_
 refine .vl (Y.not rfl) ?_
 refine .vl (Y.move rfl rfl) ?_
 refine .gv 42 rfl rfl (Y.move rfl rfl) ?_
 refine .gv 42 rfl rfl (Y.not rfl) ?_
 refine .vl (Y.pick rfl rfl rfl) ?_
 refine .vl (Y.move rfl rfl) ?_
 refine .gv 46 rfl rfl (Y.fieldAddr fl39_5 rfl rfl) ?_
 refine .gv 46 rfl rfl (Y.load sh3 rfl rfl rfl rfl) ?_
 refine .gv 46 rfl rfl (Y.neq rfl rfl) ?_
 refine .vl (Y.pick rfl rfl rfl) ?_
 refine .vl (Y.move rfl rfl) ?_
 refine AOps.splitD (d := 51) rfl (fun c51 => ?_) (fun c51 => ?_)
 refine .gs 51 rfl rfl rfl ?_
 refine .gs 51 rfl rfl rfl ?_
 refine .gs 53 rfl rfl rfl ?_
 refine .gs 53 rfl rfl rfl ?_
 refine .gs 53 rfl rfl rfl ?_
 refine .gs 53 rfl rfl rfl ?_
 refine .gs 53 rfl rfl rfl ?_
 refine .gs 53 rfl rfl rfl ?_
 refine .gs 53 rfl rfl rfl ?_
 refine .gs 51 rfl rfl rfl ?_
 refine .vl (Y.pick rfl rfl rfl) ?_
 refine .vl (Y.move rfl rfl) ?_
 refine .gs 63 rfl rfl rfl ?_
 refine .gs 63 rfl rfl rfl ?_
 refine .gs 65 rfl rfl rfl ?_
 refine .gs 65 rfl rfl rfl ?_
 refine .gs 65 rfl rfl rfl ?_
 refine .gs 65 rfl rfl rfl ?_
 refine .gs 65 rfl rfl rfl ?_
 refine .gs 65 rfl rfl rfl ?_
 refine .gs 65 rfl rfl rfl ?_
 refine .gs 63 rfl rfl rfl ?_
 refine .vl (Y.pick rfl rfl rfl) ?_
 refine AOps.nil ?_
 refine AWp.condT rfl ?_
 refine AWp.sr ?_
 refine .vl (Y.assign rfl rfl) ?_
 refine AOps.nil ?_
 refine AWp.ret ?_
 exact ⟨_, _, rfl, rfl, (cg1 (fun (z0 : Bool) => X.v (.bool z0)) (df (by (try unfold Seq at *); (try unfold In at *); (simp only [Shaped, Int.reduceEq, Bool.not_eq_true, false_and, true_and, and_true, and_false, or_false, false_or, ne_eq]) <;> (first | omega | grind)) : false = decide (Shaped n ⟨1, op, out, args, num, mem⟩)) : X.v (.bool false) = X.v (.bool (decide (Shaped n ⟨1, op, out, args, num, mem⟩)))), rfl⟩
 refine .gv 51 rfl rfl (Y.move rfl rfl) ?_
 refine .gv 51 rfl rfl (Y.move rfl rfl) ?_
 refine .gs 53 rfl rfl rfl ?_
 refine .gs 53 rfl rfl rfl ?_
 refine .gs 53 rfl rfl rfl ?_
 refine .gs 53 rfl rfl rfl ?_
 refine .gs 53 rfl rfl rfl ?_
 refine .gs 53 rfl rfl rfl ?_
 refine .gs 53 rfl rfl rfl ?_
 refine .gv 51 rfl rfl (Y.pick rfl rfl rfl) ?_
 refine .vl (Y.pick rfl rfl rfl) ?_
 refine .vl (Y.move rfl rfl) ?_
 refine .gv 63 rfl rfl (Y.move rfl rfl) ?_
 refine .gv 63 rfl rfl (Y.move rfl rfl) ?_
 refine .gs 65 rfl rfl rfl ?_
 refine .gs 65 rfl rfl rfl ?_
 refine .gs 65 rfl rfl rfl ?_
 refine .gs 65 rfl rfl rfl ?_
 refine .gs 65 rfl rfl rfl ?_
 refine .gs 65 rfl rfl rfl ?_
 refine .gs 65 rfl rfl rfl ?_
 refine .gv 63 rfl rfl (Y.pick rfl rfl rfl) ?_
 refine .vl (Y.pick rfl rfl rfl) ?_
 refine AOps.nil ?_
 refine AWp.condF rfl ?_
 refine AWp.skip ?_
 refine AWp.seq ?_
 refine AWp.sr ?_
 refine .vl (Y.fieldAddr fl39_0 rfl rfl) ?_
 refine .vl (Y.load sh3 rfl rfl rfl rfl) ?_
 refine .vl (Y.neq rfl rfl) ?_
 refine .vl (Y.move rfl rfl) ?_
 refine .gs 78 rfl rfl rfl ?_
 refine .gs 78 rfl rfl rfl ?_
 refine .gs 78 rfl rfl rfl ?_
 refine .vl (Y.pick rfl rfl rfl) ?_
 refine .vl (Y.move rfl rfl) ?_
 refine .gs 83 rfl rfl rfl ?_
 refine .gs 83 rfl rfl rfl ?_
 refine .gs 83 rfl rfl rfl ?_
 refine .vl (Y.pick rfl rfl rfl) ?_
 refine .vl (Y.move rfl rfl) ?_
 refine .gs 88 rfl rfl rfl ?_
 refine .gs 88 rfl rfl rfl ?_
 refine .gs 88 rfl rfl rfl ?_
 refine .vl (Y.pick rfl rfl rfl) ?_
 refine .vl (Y.move rfl rfl) ?_
 refine .gs 93 rfl rfl rfl ?_
 refine .gs 93 rfl rfl rfl ?_
 refine .gs 93 rfl rfl rfl ?_
 refine .vl (Y.pick rfl rfl rfl) ?_
 refine AOps.nil ?_
 refine AWp.condF rfl ?_
 refine AWp.skip ?_
 refine AWp.seq ?_
 refine AWp.sr ?_
 refine .vl (Y.fieldAddr fl39_0 rfl rfl) ?_
 refine .vl (Y.load sh3 rfl rfl rfl rfl) ?_
 refine AOps.nil ?_
 refine AWp.block ?_
 refine AWp.seq ?_
 refine AWp.sr ?_
 refine .vl (Y.eql rfl rfl) ?_
 refine .vl (Y.assign rfl rfl) ?_
 refine AOps.nil ?_
 refine AWp.condT rfl ?_
 refine AWp.skip ?_
 refine AWp.condT rfl ?_
 refine AWp.sr ?_
 refine .vl (Y.move rfl rfl) ?_
 refine .vl (Y.eql rfl rfl) ?_
 refine .vl (Y.assign rfl rfl) ?_
 refine AOps.nil ?_
 refine AWp.ret ?_
 exact ⟨_, _, rfl, rfl, (cg1 (fun (z0 : Bool) => X.v (.bool z0)) (dd (by (try unfold Seq at *); (try unfold In at *); (simp only [Shaped, Int.reduceEq, Bool.not_eq_true, false_and, true_and, and_true, and_false, or_false, false_or, ne_eq]) <;> (first | omega | grind)) : (decide (((args.length : Nat) : Int) = 0)) = decide (Shaped n ⟨1, op, out, args, num, mem⟩)) : X.v (.bool (decide (((args.length : Nat) : Int) = 0))) = X.v (.bool (decide (Shaped n ⟨1, op, out, args, num, mem⟩)))), rfl⟩

set_option maxRecDepth 4000 in
set_option maxHeartbeats 1000000 in
theorem cell_k2 {n : Netlist} {op out mem : Int} {args : List Int} {num : Nat} (hs : n.Small) (hc : args.length ≤ 17592186043904) : ACalls Try.prog 88 [.agg (Netlist.row n), .agg [.v (.int .i64 2), .v (.int .i64 op), .v (.int .i64 out), .fz 1 (args.map irow), .v (.int .u64 ((num : Nat) : Int)), .v (.int .i64 mem)]] [] [] (fun r o => r = .v (.bool (decide (Shaped n ⟨2, op, out, args, num, mem⟩))) ∧ o = []) := by
 refine ACalls.of Try.func88 rfl rfl rfl (n := 207) (by decide) (Nat.le_of_ble_eq_true rfl) ?_
 have hs4 := hs.ins; have hs5 := hs.mems; have hs6 := hs.streams
 refine AWp.sr ?_
 refine AOps.box 102 rfl rfl rfl rfl rfl (by decide) ?_
 refine AOps.box 103 rfl rfl rfl rfl rfl (by decide) ?_
 refine .vl (Y.assign rfl rfl) ?_
 refine AOps.nil ?_
 refine AWp.sr ?_
 refine .vl (Y.fieldAddr fl39_3 rfl rfl) ?_
 refine .vl (Y.load sh22 rfl rfl rfl rfl) ?_
 refine .vl (Y.len (n := args.length) sl22 rfl (congrArg some (List.length_map ..))) ?_
 refine .vl (Y.assign rfl rfl) ?_
 refine AOps.nil ?_
 refine AWp.seq ?_
 refine AWp.sr ?_
 refine .vl (Y.fieldAddr fl39_0 rfl rfl) ?_
 refine .vl (Y.load sh3 rfl rfl rfl rfl) ?_
 refine .vl (Y.neq rfl rfl) ?_
 refine .vl (Y.move rfl rfl) ?_
 refine .gs 14 rfl rfl rfl ?_
 refine .gs 14 rfl rfl rfl ?_
 refine .gs 14 rfl rfl rfl ?_
 refine .vl (Y.pick rfl rfl rfl) ?_
 refine .vl (Y.move rfl rfl) ?_
 refine .gs 19 rfl rfl rfl ?_
 refine .gs 19 rfl rfl rfl ?_
 refine .gs 19 rfl rfl rfl ?_
 refine .vl (Y.pick rfl rfl rfl) ?_
 refine AOps.nil ?_
 refine AWp.condF rfl ?_
 refine AWp.skip ?_
 refine AWp.sr ?_
 refine .vl (Y.fieldAddr fl39_0 rfl rfl) ?_
 refine .vl (Y.load sh3 rfl rfl rfl rfl) ?_
 refine .vl (Y.eql rfl rfl) ?_
 refine .vl (Y.move rfl rfl) ?_
 refine .gv 27 rfl rfl (Y.fieldAddr fl39_0 rfl rfl) ?_
 refine .gv 27 rfl rfl (Y.load sh3 rfl rfl rfl rfl) ?_
 refine .gv 27 rfl rfl (Y.eql rfl rfl) ?_
 refine .vl (Y.pick rfl rfl rfl) ?_
 refine .vl (Y.assign rfl rfl) ?_
 refine AOps.nil ?_
 refine AWp.sr ?_
 refine .vl (Y.fieldAddr fl39_0 rfl rfl) ?_
 refine .vl (Y.load sh3 rfl rfl rfl rfl) ?_
 refine .vl (Y.eql rfl rfl) ?_
 refine .vl (Y.move rfl rfl) ?_
 refine .gv 35 rfl rfl (Y.fieldAddr fl39_0 rfl rfl) ?_
 refine .gv 35 rfl rfl (Y.load sh3 rfl rfl rfl rfl) ?_
 refine .gv 35 rfl rfl (Y.eql rfl rfl) ?_
 refine .vl (Y.pick rfl rfl rfl) ?_
 refine .vl (Y.assign rfl rfl) ?_
 refine AOps.nil ?_
 refine AWp.seq ?_
 refine AWp.sr ?_
 refine .vl (Y.move rfl rfl) ?_
 refine .vl (Y.not rfl) ?_
 refine .vl (Y.move rfl rfl) ?_
 refine .gv 42 rfl rfl (Y.move rfl rfl) ?_
 refine .gv 42 rfl rfl (Y.not rfl) ?_
 refine .vl (Y.pick rfl rfl rfl) ?_
 refine .vl (Y.move rfl rfl) ?_
 refine .gv 46 rfl rfl (Y.fieldAddr fl39_5 rfl rfl) ?_
 refine .gv 46 rfl rfl (Y.load sh3 rfl rfl rfl rfl) ?_
 refine .gv 46 rfl rfl (Y.neq rfl rfl) ?_
 refine .vl (Y.pick rfl rfl rfl) ?_
 refine .vl (Y.move rfl rfl) ?_
 refine AOps.splitD (d := 51) rfl (fun c51 => ?_) (fun c51 => ?_)
 refine .gs 51 rfl rfl rfl ?_
 refine .gs 51 rfl rfl rfl ?_
 refine .gs 53 rfl rfl rfl ?_
 refine .gs 53 rfl rfl rfl ?_
 refine .gs 53 rfl rfl rfl ?_
 refine .gs 53 rfl rfl rfl ?_
 refine .gs 53 rfl rfl rfl ?_
 refine .gs 53 rfl rfl rfl ?_
 refine .gs 53 rfl rfl rfl ?_
 refine .gs 51 rfl rfl rfl ?_
 refine .vl (Y.pick rfl rfl rfl) ?_
 refine .vl (Y.move rfl rfl) ?_
 refine .gs 63 rfl rfl rfl ?_
 refine .gs 63 rfl rfl rfl ?_
 refine .gs 65 rfl rfl rfl ?_
 refine .gs 65 rfl rfl rfl ?_
 refine .gs 65 rfl rfl rfl ?_
 refine .gs 65 rfl rfl rfl ?_
 refine .gs 65 rfl rfl rfl ?_
 refine .gs 65 rfl rfl rfl ?_
 refine .gs 65 rfl rfl rfl ?_
 refine .gs 63 rfl rfl rfl ?_
 refine .vl (Y.pick rfl rfl rfl) ?_
 refine AOps.nil ?_
 refine AWp.condT rfl ?_
 refine AWp.sr ?_
 refine .vl (Y.assign rfl rfl) ?_
 refine AOps.nil ?_
 refine AWp.ret ?_
 exact ⟨_, _, rfl, rfl, (cg1 (fun (z0 : Bool) => X.v (.bool z0)) (df (by (try unfold Plain at *); (try unfold Unary at *); (try unfold Bin at *); (try unfold Seq at *); simp only [Shaped, opArgs, Int.reduceEq, Bool.not_eq_true, false_and, true_and, and_true, and_false, or_false, false_or, ne_eq]; grind) : false = decide (Shaped n ⟨2, op, out, args, num, mem⟩)) : X.v (.bool false) = X.v (.bool (decide (Shaped n ⟨2, op, out, args, num, mem⟩)))), rfl⟩
 refine .gv 51 rfl rfl (Y.move rfl rfl) ?_
 refine .gv 51 rfl rfl (Y.move rfl rfl) ?_
 refine .gs 53 rfl rfl rfl ?_
 refine .gs 53 rfl rfl rfl ?_
 refine .gs 53 rfl rfl rfl ?_
 refine .gs 53 rfl rfl rfl ?_
 refine .gs 53 rfl rfl rfl ?_
 refine .gs 53 rfl rfl rfl ?_
 refine .gs 53 rfl rfl rfl ?_
 refine .gv 51 rfl rfl (Y.pick rfl rfl rfl) ?_
 refine .vl (Y.pick rfl rfl rfl) ?_
 refine .vl (Y.move rfl rfl) ?_
 refine .gv 63 rfl rfl (Y.move rfl rfl) ?_
 refine .gv 63 rfl rfl (Y.move rfl rfl) ?_
 refine .gs 65 rfl rfl rfl ?_
 refine .gs 65 rfl rfl rfl ?_
 refine .gs 65 rfl rfl rfl ?_
 refine .gs 65 rfl rfl rfl ?_
 refine .gs 65 rfl rfl rfl ?_
 refine .gs 65 rfl rfl rfl ?_
 refine .gs 65 rfl rfl rfl ?_
 refine .gv 63 rfl rfl (Y.pick rfl rfl rfl) ?_
 refine .vl (Y.pick rfl rfl rfl) ?_
 refine AOps.nil ?_
 refine AWp.condF rfl ?_
 refine AWp.skip ?_
 refine AWp.seq ?_
 refine AWp.sr ?_
 refine .vl (Y.fieldAddr fl39_0 rfl rfl) ?_
 refine .vl (Y.load sh3 rfl rfl rfl rfl) ?_
 refine .vl (Y.neq rfl rfl) ?_
 refine .vl (Y.move rfl rfl) ?_
 refine .gv 78 rfl rfl (Y.fieldAddr fl39_0 rfl rfl) ?_
 refine .gv 78 rfl rfl (Y.load sh3 rfl rfl rfl rfl) ?_
 refine .gv 78 rfl rfl (Y.neq rfl rfl) ?_
 refine .vl (Y.pick rfl rfl rfl) ?_
 refine .vl (Y.move rfl rfl) ?_
 refine .gv 83 rfl rfl (Y.fieldAddr fl39_0 rfl rfl) ?_
 refine .gv 83 rfl rfl (Y.load sh3 rfl rfl rfl rfl) ?_
 refine .gv 83 rfl rfl (Y.neq rfl rfl) ?_
 refine .vl (Y.pick rfl rfl rfl) ?_
 refine .vl (Y.move rfl rfl) ?_
 refine .gv 88 rfl rfl (Y.fieldAddr fl39_0 rfl rfl) ?_
 refine .gv 88 rfl rfl (Y.load sh3 rfl rfl rfl rfl) ?_
 refine .gv 88 rfl rfl (Y.neq rfl rfl) ?_
 refine .vl (Y.pick rfl rfl rfl) ?_
 refine .vl (Y.move rfl rfl) ?_
 refine .gv 93 rfl rfl (Y.fieldAddr fl39_4 rfl rfl) ?_
 refine .gv 93 rfl rfl (Y.load sh37 rfl rfl rfl rfl) ?_
 refine .gv 93 rfl rfl (Y.neq rfl rfl) ?_
 refine .vl (Y.pick rfl rfl rfl) ?_
 refine AOps.nil ?_
 refine AWp.condD rfl (fun c97 => ?_) (fun c97 => ?_)
 refine AWp.sr ?_
 refine .vl (Y.assign rfl rfl) ?_
 refine AOps.nil ?_
 refine AWp.ret ?_
 exact ⟨_, _, rfl, rfl, (cg1 (fun (z0 : Bool) => X.v (.bool z0)) (df (by (try unfold Plain at *); (try unfold Unary at *); (try unfold Bin at *); (try unfold Seq at *); simp only [Shaped, opArgs, Int.reduceEq, Bool.not_eq_true, false_and, true_and, and_true, and_false, or_false, false_or, ne_eq]; grind) : false = decide (Shaped n ⟨2, op, out, args, num, mem⟩)) : X.v (.bool false) = X.v (.bool (decide (Shaped n ⟨2, op, out, args, num, mem⟩)))), rfl⟩
 refine AWp.skip ?_
 refine AWp.seq ?_
 refine AWp.sr ?_
 refine .vl (Y.fieldAddr fl39_0 rfl rfl) ?_
 refine .vl (Y.load sh3 rfl rfl rfl rfl) ?_
 refine AOps.nil ?_
 refine AWp.block ?_
 refine AWp.seq ?_
 refine AWp.sr ?_
 refine .vl (Y.eql rfl rfl) ?_
 refine .vl (Y.assign rfl rfl) ?_
 refine AOps.nil ?_
 refine AWp.condF rfl ?_
 refine AWp.region ?_
 refine .vl (Y.eql rfl rfl) ?_
 refine .vl (Y.assign rfl rfl) ?_
 refine AOps.nil ?_
 refine AWp.condF rfl ?_
 refine AWp.sr ?_
 refine .vl (Y.eql rfl rfl) ?_
 refine .vl (Y.assign rfl rfl) ?_
 refine AOps.nil ?_
 refine AWp.condT rfl ?_
 refine AWp.sr ?_
 refine .vl (Y.fieldAddr fl39_1 rfl rfl) ?_
 refine .vl (Y.load sh3 rfl rfl rfl rfl) ?_
 refine AOps.callP ok118 (unary_spec (w := op)) rfl (.keep rfl rfl .nil) (by decide) rfl ?_
 refine .vl (Y.move rfl rfl) ?_
 refine AOps.splitD (d := 110) rfl (fun c110 => ?_) (fun c110 => ?_)
 refine .gv 110 rfl rfl (Y.move rfl rfl) ?_
 refine .gv 110 rfl rfl (Y.eql rfl rfl) ?_
 refine .vl (Y.pick rfl rfl rfl) ?_
 refine .vl (Y.move rfl rfl) ?_
 refine AOps.splitD (d := 114) rfl (fun c114 => ?_) (fun c114 => ?_)
 refine .gs 114 rfl rfl rfl ?_
 refine .gs 114 rfl rfl rfl ?_
 refine .gs 114 rfl rfl rfl ?_
 refine .gs 114 rfl rfl rfl ?_
 refine .gs 118 rfl rfl rfl ?_
 refine .gs 118 rfl rfl rfl ?_
 refine .gs 114 rfl rfl rfl ?_
 refine .vl (Y.pick rfl rfl rfl) ?_
 refine .vl (Y.move rfl rfl) ?_
 refine .gs 123 rfl rfl rfl ?_
 refine .gs 123 rfl rfl rfl ?_
 refine .gs 123 rfl rfl rfl ?_
 refine .gs 123 rfl rfl rfl ?_
 refine .gs 127 rfl rfl rfl ?_
 refine .gs 127 rfl rfl rfl ?_
 refine .gs 127 rfl rfl rfl ?_
 refine .gs 127 rfl rfl rfl ?_
 refine .gs 123 rfl rfl rfl ?_
 refine .gs 123 rfl rfl rfl ?_
 refine .gs 133 rfl rfl rfl ?_
 refine .gs 133 rfl rfl rfl ?_
 refine .gs 133 rfl rfl rfl ?_
 refine .gs 123 rfl rfl rfl ?_
 refine .gs 123 rfl rfl rfl ?_
 refine .gs 138 rfl rfl rfl ?_
 refine .gs 138 rfl rfl rfl ?_
 refine .gs 123 rfl rfl rfl ?_
 refine .vl (Y.pick rfl rfl rfl) ?_
 refine .vl (Y.assign rfl rfl) ?_
 refine AOps.nil ?_
 refine AWp.ret ?_
 exact ⟨_, _, rfl, rfl, (cg1 (fun (z0 : Bool) => X.v (.bool z0)) (dt (by (try unfold Plain at *); (try unfold Unary at *); (try unfold Bin at *); (try unfold Seq at *); simp only [Shaped, opArgs, Int.reduceEq, Bool.not_eq_true, false_and, true_and, and_true, and_false, or_false, false_or, ne_eq]; grind) : true = decide (Shaped n ⟨2, op, out, args, num, mem⟩)) : X.v (.bool true) = X.v (.bool (decide (Shaped n ⟨2, op, out, args, num, mem⟩)))), rfl⟩
 refine .gv 114 rfl rfl (Y.fieldAddr fl39_1 rfl rfl) ?_
 refine .gv 114 rfl rfl (Y.load sh3 rfl rfl rfl rfl) ?_
 refine .gv 114 rfl rfl (Y.eql rfl rfl) ?_
 refine .gv 114 rfl rfl (Y.move rfl rfl) ?_
 refine AOps.splitD (d := 118) rfl (fun c118 => ?_) (fun c118 => ?_)
 refine .gv 118 rfl rfl (Y.move rfl rfl) ?_
 refine .gv 118 rfl rfl (Y.eql rfl rfl) ?_
 refine .gv 114 rfl rfl (Y.pick rfl rfl rfl) ?_
 refine .vl (Y.pick rfl rfl rfl) ?_
 refine .vl (Y.move rfl rfl) ?_
 refine AOps.splitD (d := 123) rfl (fun c123 => ?_) (fun c123 => ?_)
 refine .gs 123 rfl rfl rfl ?_
 refine .gs 123 rfl rfl rfl ?_
 refine .gs 123 rfl rfl rfl ?_
 refine .gs 123 rfl rfl rfl ?_
 refine .gs 127 rfl rfl rfl ?_
 refine .gs 127 rfl rfl rfl ?_
 refine .gs 127 rfl rfl rfl ?_
 refine .gs 127 rfl rfl rfl ?_
 refine .gs 123 rfl rfl rfl ?_
 refine .gs 123 rfl rfl rfl ?_
 refine .gs 133 rfl rfl rfl ?_
 refine .gs 133 rfl rfl rfl ?_
 refine .gs 133 rfl rfl rfl ?_
 refine .gs 123 rfl rfl rfl ?_
 refine .gs 123 rfl rfl rfl ?_
 refine .gs 138 rfl rfl rfl ?_
 refine .gs 138 rfl rfl rfl ?_
 refine .gs 123 rfl rfl rfl ?_
 refine .vl (Y.pick rfl rfl rfl) ?_
 refine .vl (Y.assign rfl rfl) ?_
 refine AOps.nil ?_
 refine AWp.ret ?_
 exact ⟨_, _, rfl, rfl, (cg1 (fun (z0 : Bool) => X.v (.bool z0)) (dt (by (try unfold Plain at *); (try unfold Unary at *); (try unfold Bin at *); (try unfold Seq at *); simp only [Shaped, opArgs, Int.reduceEq, Bool.not_eq_true, false_and, true_and, and_true, and_false, or_false, false_or, ne_eq]; grind) : true = decide (Shaped n ⟨2, op, out, args, num, mem⟩)) : X.v (.bool true) = X.v (.bool (decide (Shaped n ⟨2, op, out, args, num, mem⟩)))), rfl⟩
 refine .gv 123 rfl rfl (Y.fieldAddr fl39_1 rfl rfl) ?_
 refine .gv 123 rfl rfl (Y.load sh3 rfl rfl rfl rfl) ?_
 refine AOps.guardRun (d := 123) rfl (by decide) rfl ?_
 refine AOps.callP ok119 (plain_spec (w := op)) rfl (.keep rfl rfl .nil) (by decide) rfl ?_
 refine .gv 123 rfl rfl (Y.move rfl rfl) ?_
 refine AOps.splitD (d := 127) rfl (fun c127 => ?_) (fun c127 => ?_)
 refine .gv 127 rfl rfl (Y.fieldAddr fl39_1 rfl rfl) ?_
 refine .gv 127 rfl rfl (Y.load sh3 rfl rfl rfl rfl) ?_
 refine AOps.guardRun (d := 127) rfl (by decide) rfl ?_
 refine AOps.callP ok118 (unary_spec (w := op)) rfl (.keep rfl rfl .nil) (by decide) rfl ?_
 refine .gv 127 rfl rfl (Y.not rfl) ?_
 refine .gv 123 rfl rfl (Y.pick rfl rfl rfl) ?_
 refine .gv 123 rfl rfl (Y.move rfl rfl) ?_
 refine AOps.split (d := 133) rfl (fun c133 => ?_) (fun c133 => ?_)
 replace c133 : ¬ (Unary op) := by simpa using c133
 refine .gv 133 rfl rfl (Y.fieldAddr fl39_1 rfl rfl) ?_
 refine .gv 133 rfl rfl (Y.load sh3 rfl rfl rfl rfl) ?_
 refine .gv 133 rfl rfl (Y.neq rfl rfl) ?_
 refine .gv 123 rfl rfl (Y.pick rfl rfl rfl) ?_
 refine .gv 123 rfl rfl (Y.move rfl rfl) ?_
 refine AOps.splitD (d := 138) rfl (fun c138 => ?_) (fun c138 => ?_)
 refine .gv 138 rfl rfl (Y.move rfl rfl) ?_
 refine .gv 138 rfl rfl (Y.eql rfl rfl) ?_
 refine .gv 123 rfl rfl (Y.pick rfl rfl rfl) ?_
 refine .vl (Y.pick rfl rfl rfl) ?_
 refine .vl (Y.assign rfl rfl) ?_
 refine AOps.nil ?_
 refine AWp.ret ?_
 exact ⟨_, _, rfl, rfl, (cg1 (fun (z0 : Bool) => X.v (.bool z0)) (dd (by (try unfold Plain at *); (try unfold Unary at *); (try unfold Bin at *); (try unfold Seq at *); simp only [Shaped, opArgs, Int.reduceEq, Bool.not_eq_true, false_and, true_and, and_true, and_false, or_false, false_or, ne_eq]; grind) : (decide (((args.length : Nat) : Int) = 2)) = decide (Shaped n ⟨2, op, out, args, num, mem⟩)) : X.v (.bool (decide (((args.length : Nat) : Int) = 2))) = X.v (.bool (decide (Shaped n ⟨2, op, out, args, num, mem⟩)))), rfl⟩
 refine .gs 138 rfl rfl rfl ?_
 refine .gs 138 rfl rfl rfl ?_
 refine .gv 123 rfl rfl (Y.pick rfl rfl rfl) ?_
 refine .vl (Y.pick rfl rfl rfl) ?_
 refine .vl (Y.assign rfl rfl) ?_
 refine AOps.nil ?_
 refine AWp.ret ?_
 exact ⟨_, _, rfl, rfl, (cg1 (fun (z0 : Bool) => X.v (.bool z0)) (df (by (try unfold Plain at *); (try unfold Unary at *); (try unfold Bin at *); (try unfold Seq at *); simp only [Shaped, opArgs, Int.reduceEq, Bool.not_eq_true, false_and, true_and, and_true, and_false, or_false, false_or, ne_eq]; grind) : false = decide (Shaped n ⟨2, op, out, args, num, mem⟩)) : X.v (.bool false) = X.v (.bool (decide (Shaped n ⟨2, op, out, args, num, mem⟩)))), rfl⟩
 replace c133 : Unary op := by simpa using c133
 refine .gs 133 rfl rfl rfl ?_
 refine .gs 133 rfl rfl rfl ?_
 refine .gs 133 rfl rfl rfl ?_
 refine .gv 123 rfl rfl (Y.pick rfl rfl rfl) ?_
 refine .gv 123 rfl rfl (Y.move rfl rfl) ?_
 refine .gs 138 rfl rfl rfl ?_
 refine .gs 138 rfl rfl rfl ?_
 refine .gv 123 rfl rfl (Y.pick rfl rfl rfl) ?_
 refine .vl (Y.pick rfl rfl rfl) ?_
 refine .vl (Y.assign rfl rfl) ?_
 refine AOps.nil ?_
 refine AWp.ret ?_
 exact ⟨_, _, rfl, rfl, (cg1 (fun (z0 : Bool) => X.v (.bool z0)) (df (by (try unfold Plain at *); (try unfold Unary at *); (try unfold Bin at *); (try unfold Seq at *); simp only [Shaped, opArgs, Int.reduceEq, Bool.not_eq_true, false_and, true_and, and_true, and_false, or_false, false_or, ne_eq]; grind) : false = decide (Shaped n ⟨2, op, out, args, num, mem⟩)) : X.v (.bool false) = X.v (.bool (decide (Shaped n ⟨2, op, out, args, num, mem⟩)))), rfl⟩
 refine .gs 127 rfl rfl rfl ?_
 refine .gs 127 rfl rfl rfl ?_
 refine .gs 127 rfl rfl rfl ?_
 refine .gs 127 rfl rfl rfl ?_
 refine .gv 123 rfl rfl (Y.pick rfl rfl rfl) ?_
 refine .gv 123 rfl rfl (Y.move rfl rfl) ?_
 refine .gs 133 rfl rfl rfl ?_
 refine .gs 133 rfl rfl rfl ?_
 refine .gs 133 rfl rfl rfl ?_
 refine .gv 123 rfl rfl (Y.pick rfl rfl rfl) ?_
 refine .gv 123 rfl rfl (Y.move rfl rfl) ?_
 refine .gs 138 rfl rfl rfl ?_
 refine .gs 138 rfl rfl rfl ?_
 refine .gv 123 rfl rfl (Y.pick rfl rfl rfl) ?_
 refine .vl (Y.pick rfl rfl rfl) ?_
 refine .vl (Y.assign rfl rfl) ?_
 refine AOps.nil ?_
 refine AWp.ret ?_
 exact ⟨_, _, rfl, rfl, (cg1 (fun (z0 : Bool) => X.v (.bool z0)) (df (by (try unfold Plain at *); (try unfold Unary at *); (try unfold Bin at *); (try unfold Seq at *); simp only [Shaped, opArgs, Int.reduceEq, Bool.not_eq_true, false_and, true_and, and_true, and_false, or_false, false_or, ne_eq]; grind) : false = decide (Shaped n ⟨2, op, out, args, num, mem⟩)) : X.v (.bool false) = X.v (.bool (decide (Shaped n ⟨2, op, out, args, num, mem⟩)))), rfl⟩
 refine .gs 118 rfl rfl rfl ?_
 refine .gs 118 rfl rfl rfl ?_
 refine .gv 114 rfl rfl (Y.pick rfl rfl rfl) ?_
 refine .vl (Y.pick rfl rfl rfl) ?_
 refine .vl (Y.move rfl rfl) ?_
 refine .gv 123 rfl rfl (Y.fieldAddr fl39_1 rfl rfl) ?_
 refine .gv 123 rfl rfl (Y.load sh3 rfl rfl rfl rfl) ?_
 refine AOps.guardRun (d := 123) rfl (by decide) rfl ?_
 refine AOps.callP ok119 (plain_spec (w := op)) rfl (.keep rfl rfl .nil) (by decide) rfl ?_
 refine .gv 123 rfl rfl (Y.move rfl rfl) ?_
 refine AOps.splitD (d := 127) rfl (fun c127 => ?_) (fun c127 => ?_)
 refine .gv 127 rfl rfl (Y.fieldAddr fl39_1 rfl rfl) ?_
 refine .gv 127 rfl rfl (Y.load sh3 rfl rfl rfl rfl) ?_
 refine AOps.guardRun (d := 127) rfl (by decide) rfl ?_
 refine AOps.callP ok118 (unary_spec (w := op)) rfl (.keep rfl rfl .nil) (by decide) rfl ?_
 refine .gv 127 rfl rfl (Y.not rfl) ?_
 refine .gv 123 rfl rfl (Y.pick rfl rfl rfl) ?_
 refine .gv 123 rfl rfl (Y.move rfl rfl) ?_
 refine AOps.split (d := 133) rfl (fun c133 => ?_) (fun c133 => ?_)
 replace c133 : ¬ (Unary op) := by simpa using c133
 refine .gv 133 rfl rfl (Y.fieldAddr fl39_1 rfl rfl) ?_
 refine .gv 133 rfl rfl (Y.load sh3 rfl rfl rfl rfl) ?_
 refine .gv 133 rfl rfl (Y.neq rfl rfl) ?_
 refine .gv 123 rfl rfl (Y.pick rfl rfl rfl) ?_
 refine .gv 123 rfl rfl (Y.move rfl rfl) ?_
 refine AOps.splitD (d := 138) rfl (fun c138 => ?_) (fun c138 => ?_)
 refine .gv 138 rfl rfl (Y.move rfl rfl) ?_
 refine .gv 138 rfl rfl (Y.eql rfl rfl) ?_
 refine .gv 123 rfl rfl (Y.pick rfl rfl rfl) ?_
 refine .vl (Y.pick rfl rfl rfl) ?_
 refine .vl (Y.assign rfl rfl) ?_
 refine AOps.nil ?_
 refine AWp.ret ?_
 exact ⟨_, _, rfl, rfl, (cg1 (fun (z0 : Bool) => X.v (.bool z0)) (dd (by (try unfold Plain at *); (try unfold Unary at *); (try unfold Bin at *); (try unfold Seq at *); simp only [Shaped, opArgs, Int.reduceEq, Bool.not_eq_true, false_and, true_and, and_true, and_false, or_false, false_or, ne_eq]; grind) : (decide (((args.length : Nat) : Int) = 2)) = decide (Shaped n ⟨2, op, out, args, num, mem⟩)) : X.v (.bool (decide (((args.length : Nat) : Int) = 2))) = X.v (.bool (decide (Shaped n ⟨2, op, out, args, num, mem⟩)))), rfl⟩
 refine .gs 138 rfl rfl rfl ?_
 refine .gs 138 rfl rfl rfl ?_
 refine .gv 123 rfl rfl (Y.pick rfl rfl rfl) ?_
 refine .vl (Y.pick rfl rfl rfl) ?_
 refine .vl (Y.assign rfl rfl) ?_
 refine AOps.nil ?_
 refine AWp.ret ?_
 exact ⟨_, _, rfl, rfl, (cg1 (fun (z0 : Bool) => X.v (.bool z0)) (df (by (try unfold Plain at *); (try unfold Unary at *); (try unfold Bin at *); (try unfold Seq at *); simp only [Shaped, opArgs, Int.reduceEq, Bool.not_eq_true, false_and, true_and, and_true, and_false, or_false, false_or, ne_eq]; grind) : false = decide (Shaped n ⟨2, op, out, args, num, mem⟩)) : X.v (.bool false) = X.v (.bool (decide (Shaped n ⟨2, op, out, args, num, mem⟩)))), rfl⟩
 replace c133 : Unary op := by simpa using c133
 refine .gs 133 rfl rfl rfl ?_
 refine .gs 133 rfl rfl rfl ?_
 refine .gs 133 rfl rfl rfl ?_
 refine .gv 123 rfl rfl (Y.pick rfl rfl rfl) ?_
 refine .gv 123 rfl rfl (Y.move rfl rfl) ?_
 refine .gs 138 rfl rfl rfl ?_
 refine .gs 138 rfl rfl rfl ?_
 refine .gv 123 rfl rfl (Y.pick rfl rfl rfl) ?_
 refine .vl (Y.pick rfl rfl rfl) ?_
 refine .vl (Y.assign rfl rfl) ?_
 refine AOps.nil ?_
 refine AWp.ret ?_
 exact ⟨_, _, rfl, rfl, (cg1 (fun (z0 : Bool) => X.v (.bool z0)) (df (by (try unfold Plain at *); (try unfold Unary at *); (try unfold Bin at *); (try unfold Seq at *); simp only [Shaped, opArgs, Int.reduceEq, Bool.not_eq_true, false_and, true_and, and_true, and_false, or_false, false_or, ne_eq]; grind) : false = decide (Shaped n ⟨2, op, out, args, num, mem⟩)) : X.v (.bool false) = X.v (.bool (decide (Shaped n ⟨2, op, out, args, num, mem⟩)))), rfl⟩
 refine .gs 127 rfl rfl rfl ?_
 refine .gs 127 rfl rfl rfl ?_
 refine .gs 127 rfl rfl rfl ?_
 refine .gs 127 rfl rfl rfl ?_
 refine .gv 123 rfl rfl (Y.pick rfl rfl rfl) ?_
 refine .gv 123 rfl rfl (Y.move rfl rfl) ?_
 refine .gs 133 rfl rfl rfl ?_
 refine .gs 133 rfl rfl rfl ?_
 refine .gs 133 rfl rfl rfl ?_
 refine .gv 123 rfl rfl (Y.pick rfl rfl rfl) ?_
 refine .gv 123 rfl rfl (Y.move rfl rfl) ?_
 refine .gs 138 rfl rfl rfl ?_
 refine .gs 138 rfl rfl rfl ?_
 refine .gv 123 rfl rfl (Y.pick rfl rfl rfl) ?_
 refine .vl (Y.pick rfl rfl rfl) ?_
 refine .vl (Y.assign rfl rfl) ?_
 refine AOps.nil ?_
 refine AWp.ret ?_
 exact ⟨_, _, rfl, rfl, (cg1 (fun (z0 : Bool) => X.v (.bool z0)) (df (by (try unfold Plain at *); (try unfold Unary at *); (try unfold Bin at *); (try unfold Seq at *); simp only [Shaped, opArgs, Int.reduceEq, Bool.not_eq_true, false_and, true_and, and_true, and_false, or_false, false_or, ne_eq]; grind) : false = decide (Shaped n ⟨2, op, out, args, num, mem⟩)) : X.v (.bool false) = X.v (.bool (decide (Shaped n ⟨2, op, out, args, num, mem⟩)))), rfl⟩
 refine .gs 110 rfl rfl rfl ?_
 refine .gs 110 rfl rfl rfl ?_
 refine .vl (Y.pick rfl rfl rfl) ?_
 refine .vl (Y.move rfl rfl) ?_
 refine .gv 114 rfl rfl (Y.fieldAddr fl39_1 rfl rfl) ?_
 refine .gv 114 rfl rfl (Y.load sh3 rfl rfl rfl rfl) ?_
 refine .gv 114 rfl rfl (Y.eql rfl rfl) ?_
 refine .gv 114 rfl rfl (Y.move rfl rfl) ?_
 refine AOps.splitD (d := 118) rfl (fun c118 => ?_) (fun c118 => ?_)
 refine .gv 118 rfl rfl (Y.move rfl rfl) ?_
 refine .gv 118 rfl rfl (Y.eql rfl rfl) ?_
 refine .gv 114 rfl rfl (Y.pick rfl rfl rfl) ?_
 refine .vl (Y.pick rfl rfl rfl) ?_
 refine .vl (Y.move rfl rfl) ?_
 refine AOps.splitD (d := 123) rfl (fun c123 => ?_) (fun c123 => ?_)
 refine .gs 123 rfl rfl rfl ?_
 refine .gs 123 rfl rfl rfl ?_
 refine .gs 123 rfl rfl rfl ?_
 refine .gs 123 rfl rfl rfl ?_
 refine .gs 127 rfl rfl rfl ?_
 refine .gs 127 rfl rfl rfl ?_
 refine .gs 127 rfl rfl rfl ?_
 refine .gs 127 rfl rfl rfl ?_
 refine .gs 123 rfl rfl rfl ?_
 refine .gs 123 rfl rfl rfl ?_
 refine .gs 133 rfl rfl rfl ?_
 refine .gs 133 rfl rfl rfl ?_
 refine .gs 133 rfl rfl rfl ?_
 refine .gs 123 rfl rfl rfl ?_
 refine .gs 123 rfl rfl rfl ?_
 refine .gs 138 rfl rfl rfl ?_
 refine .gs 138 rfl rfl rfl ?_
 refine .gs 123 rfl rfl rfl ?_
 refine .vl (Y.pick rfl rfl rfl) ?_
 refine .vl (Y.assign rfl rfl) ?_
 refine AOps.nil ?_
 refine AWp.ret ?_
 exact ⟨_, _, rfl, rfl, (cg1 (fun (z0 : Bool) => X.v (.bool z0)) (dt (by (try unfold Plain at *); (try unfold Unary at *); (try unfold Bin at *); (try unfold Seq at *); simp only [Shaped, opArgs, Int.reduceEq, Bool.not_eq_true, false_and, true_and, and_true, and_false, or_false, false_or, ne_eq]; grind) : true = decide (Shaped n ⟨2, op, out, args, num, mem⟩)) : X.v (.bool true) = X.v (.bool (decide (Shaped n ⟨2, op, out, args, num, mem⟩)))), rfl⟩
 refine .gv 123 rfl rfl (Y.fieldAddr fl39_1 rfl rfl) ?_
 refine .gv 123 rfl rfl (Y.load sh3 rfl rfl rfl rfl) ?_
 refine AOps.guardRun (d := 123) rfl (by decide) rfl ?_
 refine AOps.callP ok119 (plain_spec (w := op)) rfl (.keep rfl rfl .nil) (by decide) rfl ?_
 refine .gv 123 rfl rfl (Y.move rfl rfl) ?_
 refine AOps.splitD (d := 127) rfl (fun c127 => ?_) (fun c127 => ?_)
 refine .gv 127 rfl rfl (Y.fieldAddr fl39_1 rfl rfl) ?_
 refine .gv 127 rfl rfl (Y.load sh3 rfl rfl rfl rfl) ?_
 refine AOps.guardRun (d := 127) rfl (by decide) rfl ?_
 refine AOps.callP ok118 (unary_spec (w := op)) rfl (.keep rfl rfl .nil) (by decide) rfl ?_
 refine .gv 127 rfl rfl (Y.not rfl) ?_
 refine .gv 123 rfl rfl (Y.pick rfl rfl rfl) ?_
 refine .gv 123 rfl rfl (Y.move rfl rfl) ?_
 refine AOps.split (d := 133) rfl (fun c133 => ?_) (fun c133 => ?_)
 replace c133 : ¬ (Unary op) := by simpa using c133
 refine .gv 133 rfl rfl (Y.fieldAddr fl39_1 rfl rfl) ?_
 refine .gv 133 rfl rfl (Y.load sh3 rfl rfl rfl rfl) ?_
 refine .gv 133 rfl rfl (Y.neq rfl rfl) ?_
 refine .gv 123 rfl rfl (Y.pick rfl rfl rfl) ?_
 refine .gv 123 rfl rfl (Y.move rfl rfl) ?_
 refine AOps.splitD (d := 138) rfl (fun c138 => ?_) (fun c138 => ?_)
 refine .gv 138 rfl rfl (Y.move rfl rfl) ?_
 refine .gv 138 rfl rfl (Y.eql rfl rfl) ?_
 refine .gv 123 rfl rfl (Y.pick rfl rfl rfl) ?_
 refine .vl (Y.pick rfl rfl rfl) ?_
 refine .vl (Y.assign rfl rfl) ?_
 refine AOps.nil ?_
 refine AWp.ret ?_
 exact ⟨_, _, rfl, rfl, (cg1 (fun (z0 : Bool) => X.v (.bool z0)) (dd (by (try unfold Plain at *); (try unfold Unary at *); (try unfold Bin at *); (try unfold Seq at *); simp only [Shaped, opArgs, Int.reduceEq, Bool.not_eq_true, false_and, true_and, and_true, and_false, or_false, false_or, ne_eq]; grind) : (decide (((args.length : Nat) : Int) = 2)) = decide (Shaped n ⟨2, op, out, args, num, mem⟩)) : X.v (.bool (decide (((args.length : Nat) : Int) = 2))) = X.v (.bool (decide (Shaped n ⟨2, op, out, args, num, mem⟩)))), rfl⟩
 refine .gs 138 rfl rfl rfl ?_
 refine .gs 138 rfl rfl rfl ?_
 refine .gv 123 rfl rfl (Y.pick rfl rfl rfl) ?_
 refine .vl (Y.pick rfl rfl rfl) ?_
 refine .vl (Y.assign rfl rfl) ?_
 refine AOps.nil ?_
 refine AWp.ret ?_
 exact ⟨_, _, rfl, rfl, (cg1 (fun (z0 : Bool) => X.v (.bool z0)) (df (by (try unfold Plain at *); (try unfold Unary at *); (try unfold Bin at *); (try unfold Seq at *); simp only [Shaped, opArgs, Int.reduceEq, Bool.not_eq_true, false_and, true_and, and_true, and_false, or_false, false_or, ne_eq]; grind) : false = decide (Shaped n ⟨2, op, out, args, num, mem⟩)) : X.v (.bool false) = X.v (.bool (decide (Shaped n ⟨2, op, out, args, num, mem⟩)))), rfl⟩
 replace c133 : Unary op := by simpa using c133
 refine .gs 133 rfl rfl rfl ?_
 refine .gs 133 rfl rfl rfl ?_
 refine .gs 133 rfl rfl rfl ?_
 refine .gv 123 rfl rfl (Y.pick rfl rfl rfl) ?_
 refine .gv 123 rfl rfl (Y.move rfl rfl) ?_
 refine .gs 138 rfl rfl rfl ?_
 refine .gs 138 rfl rfl rfl ?_
 refine .gv 123 rfl rfl (Y.pick rfl rfl rfl) ?_
 refine .vl (Y.pick rfl rfl rfl) ?_
 refine .vl (Y.assign rfl rfl) ?_
 refine AOps.nil ?_
 refine AWp.ret ?_
 exact ⟨_, _, rfl, rfl, (cg1 (fun (z0 : Bool) => X.v (.bool z0)) (df (by (try unfold Plain at *); (try unfold Unary at *); (try unfold Bin at *); (try unfold Seq at *); simp only [Shaped, opArgs, Int.reduceEq, Bool.not_eq_true, false_and, true_and, and_true, and_false, or_false, false_or, ne_eq]; grind) : false = decide (Shaped n ⟨2, op, out, args, num, mem⟩)) : X.v (.bool false) = X.v (.bool (decide (Shaped n ⟨2, op, out, args, num, mem⟩)))), rfl⟩
 refine .gs 127 rfl rfl rfl ?_
 refine .gs 127 rfl rfl rfl ?_
 refine .gs 127 rfl rfl rfl ?_
 refine .gs 127 rfl rfl rfl ?_
 refine .gv 123 rfl rfl (Y.pick rfl rfl rfl) ?_
 refine .gv 123 rfl rfl (Y.move rfl rfl) ?_
 refine .gs 133 rfl rfl rfl ?_
 refine .gs 133 rfl rfl rfl ?_
 refine .gs 133 rfl rfl rfl ?_
 refine .gv 123 rfl rfl (Y.pick rfl rfl rfl) ?_
 refine .gv 123 rfl rfl (Y.move rfl rfl) ?_
 refine .gs 138 rfl rfl rfl ?_
 refine .gs 138 rfl rfl rfl ?_
 refine .gv 123 rfl rfl (Y.pick rfl rfl rfl) ?_
 refine .vl (Y.pick rfl rfl rfl) ?_
 refine .vl (Y.assign rfl rfl) ?_
 refine AOps.nil ?_
 refine AWp.ret ?_
 exact ⟨_, _, rfl, rfl, (cg1 (fun (z0 : Bool) => X.v (.bool z0)) (df (by (try unfold Plain at *); (try unfold Unary at *); (try unfold Bin at *); (try unfold Seq at *); simp only [Shaped, opArgs, Int.reduceEq, Bool.not_eq_true, false_and, true_and, and_true, and_false, or_false, false_or, ne_eq]; grind) : false = decide (Shaped n ⟨2, op, out, args, num, mem⟩)) : X.v (.bool false) = X.v (.bool (decide (Shaped n ⟨2, op, out, args, num, mem⟩)))), rfl⟩
 refine .gs 118 rfl rfl rfl ?_
 refine .gs 118 rfl rfl rfl ?_
 refine .gv 114 rfl rfl (Y.pick rfl rfl rfl) ?_
 refine .vl (Y.pick rfl rfl rfl) ?_
 refine .vl (Y.move rfl rfl) ?_
 refine .gv 123 rfl rfl (Y.fieldAddr fl39_1 rfl rfl) ?_
 refine .gv 123 rfl rfl (Y.load sh3 rfl rfl rfl rfl) ?_
 refine AOps.guardRun (d := 123) rfl (by decide) rfl ?_
 refine AOps.callP ok119 (plain_spec (w := op)) rfl (.keep rfl rfl .nil) (by decide) rfl ?_
 refine .gv 123 rfl rfl (Y.move rfl rfl) ?_
 refine AOps.splitD (d := 127) rfl (fun c127 => ?_) (fun c127 => ?_)
 refine .gv 127 rfl rfl (Y.fieldAddr fl39_1 rfl rfl) ?_
 refine .gv 127 rfl rfl (Y.load sh3 rfl rfl rfl rfl) ?_
 refine AOps.guardRun (d := 127) rfl (by decide) rfl ?_
 refine AOps.callP ok118 (unary_spec (w := op)) rfl (.keep rfl rfl .nil) (by decide) rfl ?_
 refine .gv 127 rfl rfl (Y.not rfl) ?_
 refine .gv 123 rfl rfl (Y.pick rfl rfl rfl) ?_
 refine .gv 123 rfl rfl (Y.move rfl rfl) ?_
 refine AOps.split (d := 133) rfl (fun c133 => ?_) (fun c133 => ?_)
 replace c133 : ¬ (Unary op) := by simpa using c133
 refine .gv 133 rfl rfl (Y.fieldAddr fl39_1 rfl rfl) ?_
 refine .gv 133 rfl rfl (Y.load sh3 rfl rfl rfl rfl) ?_
 refine .gv 133 rfl rfl (Y.neq rfl rfl) ?_
 refine .gv 123 rfl rfl (Y.pick rfl rfl rfl) ?_
 refine .gv 123 rfl rfl (Y.move rfl rfl) ?_
 refine AOps.splitD (d := 138) rfl (fun c138 => ?_) (fun c138 => ?_)
 refine .gv 138 rfl rfl (Y.move rfl rfl) ?_
 refine .gv 138 rfl rfl (Y.eql rfl rfl) ?_
 refine .gv 123 rfl rfl (Y.pick rfl rfl rfl) ?_
 refine .vl (Y.pick rfl rfl rfl) ?_
 refine .vl (Y.assign rfl rfl) ?_
 refine AOps.nil ?_
 refine AWp.ret ?_
 exact ⟨_, _, rfl, rfl, (cg1 (fun (z0 : Bool) => X.v (.bool z0)) (dd (by (try unfold Plain at *); (try unfold Unary at *); (try unfold Bin at *); (try unfold Seq at *); simp only [Shaped, opArgs, Int.reduceEq, Bool.not_eq_true, false_and, true_and, and_true, and_false, or_false, false_or, ne_eq]; grind) : (decide (((args.length : Nat) : Int) = 2)) = decide (Shaped n ⟨2, op, out, args, num, mem⟩)) : X.v (.bool (decide (((args.length : Nat) : Int) = 2))) = X.v (.bool (decide (Shaped n ⟨2, op, out, args, num, mem⟩)))), rfl⟩
 refine .gs 138 rfl rfl rfl ?_
 refine .gs 138 rfl rfl rfl ?_
 refine .gv 123 rfl rfl (Y.pick rfl rfl rfl) ?_
 refine .vl (Y.pick rfl rfl rfl) ?_
 refine .vl (Y.assign rfl rfl) ?_
 refine AOps.nil ?_
 refine AWp.ret ?_
 exact ⟨_, _, rfl, rfl, (cg1 (fun (z0 : Bool) => X.v (.bool z0)) (df (by (try unfold Plain at *); (try unfold Unary at *); (try unfold Bin at *); (try unfold Seq at *); simp only [Shaped, opArgs, Int.reduceEq, Bool.not_eq_true, false_and, true_and, and_true, and_false, or_false, false_or, ne_eq]; grind) : false = decide (Shaped n ⟨2, op, out, args, num, mem⟩)) : X.v (.bool false) = X.v (.bool (decide (Shaped n ⟨2, op, out, args, num, mem⟩)))), rfl⟩
 replace c133 : Unary op := by simpa using c133
 refine .gs 133 rfl rfl rfl ?_
 refine .gs 133 rfl rfl rfl ?_
 refine .gs 133 rfl rfl rfl ?_
 refine .gv 123 rfl rfl (Y.pick rfl rfl rfl) ?_
 refine .gv 123 rfl rfl (Y.move rfl rfl) ?_
 refine .gs 138 rfl rfl rfl ?_
 refine .gs 138 rfl rfl rfl ?_
 refine .gv 123 rfl rfl (Y.pick rfl rfl rfl) ?_
 refine .vl (Y.pick rfl rfl rfl) ?_
 refine .vl (Y.assign rfl rfl) ?_
 refine AOps.nil ?_
 refine AWp.ret ?_
 exact ⟨_, _, rfl, rfl, (cg1 (fun (z0 : Bool) => X.v (.bool z0)) (df (by (try unfold Plain at *); (try unfold Unary at *); (try unfold Bin at *); (try unfold Seq at *); simp only [Shaped, opArgs, Int.reduceEq, Bool.not_eq_true, false_and, true_and, and_true, and_false, or_false, false_or, ne_eq]; grind) : false = decide (Shaped n ⟨2, op, out, args, num, mem⟩)) : X.v (.bool false) = X.v (.bool (decide (Shaped n ⟨2, op, out, args, num, mem⟩)))), rfl⟩
 refine .gs 127 rfl rfl rfl ?_
 refine .gs 127 rfl rfl rfl ?_
 refine .gs 127 rfl rfl rfl ?_
 refine .gs 127 rfl rfl rfl ?_
 refine .gv 123 rfl rfl (Y.pick rfl rfl rfl) ?_
 refine .gv 123 rfl rfl (Y.move rfl rfl) ?_
 refine .gs 133 rfl rfl rfl ?_
 refine .gs 133 rfl rfl rfl ?_
 refine .gs 133 rfl rfl rfl ?_
 refine .gv 123 rfl rfl (Y.pick rfl rfl rfl) ?_
 refine .gv 123 rfl rfl (Y.move rfl rfl) ?_
 refine .gs 138 rfl rfl rfl ?_
 refine .gs 138 rfl rfl rfl ?_
 refine .gv 123 rfl rfl (Y.pick rfl rfl rfl) ?_
 refine .vl (Y.pick rfl rfl rfl) ?_
 refine .vl (Y.assign rfl rfl) ?_
 refine AOps.nil ?_
 refine AWp.ret ?_
 exact ⟨_, _, rfl, rfl, (cg1 (fun (z0 : Bool) => X.v (.bool z0)) (df (by (try unfold Plain at *); (try unfold Unary at *); (try unfold Bin at *); (try unfold Seq at *); simp only [Shaped, opArgs, Int.reduceEq, Bool.not_eq_true, false_and, true_and, and_true, and_false, or_false, false_or, ne_eq]; grind) : false = decide (Shaped n ⟨2, op, out, args, num, mem⟩)) : X.v (.bool false) = X.v (.bool (decide (Shaped n ⟨2, op, out, args, num, mem⟩)))), rfl⟩

set_option maxRecDepth 4000 in
set_option maxHeartbeats 1000000 in
theorem cell_k3 {n : Netlist} {op out mem : Int} {args : List Int} {num : Nat} (hs : n.Small) (hc : args.length ≤ 17592186043904) : ACalls Try.prog 88 [.agg (Netlist.row n), .agg [.v (.int .i64 3), .v (.int .i64 op), .v (.int .i64 out), .fz 1 (args.map irow), .v (.int .u64 ((num : Nat) : Int)), .v (.int .i64 mem)]] [] [] (fun r o => r = .v (.bool (decide (Shaped n ⟨3, op, out, args, num, mem⟩))) ∧ o = []) := by
 refine ACalls.of Try.func88 rfl rfl rfl (n := 207) (by decide) (Nat.le_of_ble_eq_true rfl) ?_
 have hs4 := hs.ins; have hs5 := hs.mems; have hs6 := hs.streams
 refine AWp.sr ?_
 refine AOps.box 102 rfl rfl rfl rfl rfl (by decide) ?_
 refine AOps.box 103 rfl rfl rfl rfl rfl (by decide) ?_
 refine .vl (Y.assign rfl rfl) ?_
 refine AOps.nil ?_
 refine AWp.sr ?_
 refine .vl (Y.fieldAddr fl39_3 rfl rfl) ?_
 refine .vl (Y.load sh22 rfl rfl rfl rfl) ?_
 refine .vl (Y.len (n := args.length) sl22 rfl (congrArg some (List.length_map ..))) ?_
 refine .vl (Y.assign rfl rfl) ?_
 refine AOps.nil ?_
 refine AWp.seq ?_
 refine AWp.sr ?_
 refine .vl (Y.fieldAddr fl39_0 rfl rfl) ?_
 refine .vl (Y.load sh3 rfl rfl rfl rfl) ?_
 refine .vl (Y.neq rfl rfl) ?_
 refine .vl (Y.move rfl rfl) ?_
 refine .gv 14 rfl rfl (Y.fieldAddr fl39_0 rfl rfl) ?_
 refine .gv 14 rfl rfl (Y.load sh3 rfl rfl rfl rfl) ?_
 refine .gv 14 rfl rfl (Y.neq rfl rfl) ?_
 refine .vl (Y.pick rfl rfl rfl) ?_
 refine .vl (Y.move rfl rfl) ?_
 refine .gv 19 rfl rfl (Y.fieldAddr fl39_1 rfl rfl) ?_
 refine .gv 19 rfl rfl (Y.load sh3 rfl rfl rfl rfl) ?_
 refine .gv 19 rfl rfl (Y.neq rfl rfl) ?_
 refine .vl (Y.pick rfl rfl rfl) ?_
 refine AOps.nil ?_
 refine AWp.condD rfl (fun c23 => ?_) (fun c23 => ?_)
 refine AWp.sr ?_
 refine .vl (Y.assign rfl rfl) ?_
 refine AOps.nil ?_
 refine AWp.ret ?_
 exact ⟨_, _, rfl, rfl, (cg1 (fun (z0 : Bool) => X.v (.bool z0)) (df (by (try unfold Seq at *); (try unfold In at *); (simp only [Shaped, Int.reduceEq, Bool.not_eq_true, false_and, true_and, and_true, and_false, or_false, false_or, ne_eq]) <;> (first | omega | grind)) : false = decide (Shaped n ⟨3, op, out, args, num, mem⟩)) : X.v (.bool false) = X.v (.bool (decide (Shaped n ⟨3, op, out, args, num, mem⟩)))), rfl⟩
 refine AWp.skip ?_
 refine AWp.sr ?_
 refine .vl (Y.fieldAddr fl39_0 rfl rfl) ?_
 refine .vl (Y.load sh3 rfl rfl rfl rfl) ?_
 refine .vl (Y.eql rfl rfl) ?_
 refine .vl (Y.move rfl rfl) ?_
 refine .gv 27 rfl rfl (Y.fieldAddr fl39_0 rfl rfl) ?_
 refine .gv 27 rfl rfl (Y.load sh3 rfl rfl rfl rfl) ?_
 refine .gv 27 rfl rfl (Y.eql rfl rfl) ?_
 refine .vl (Y.pick rfl rfl rfl) ?_
 refine .vl (Y.assign rfl rfl) ?_
 refine AOps.nil ?_
 refine AWp.sr ?_
 refine .vl (Y.fieldAddr fl39_0 rfl rfl) ?_
 refine .vl (Y.load sh3 rfl rfl rfl rfl) ?_
 refine .vl (Y.eql rfl rfl) ?_
 refine .vl (Y.move rfl rfl) ?_
 refine .gv 35 rfl rfl (Y.fieldAddr fl39_0 rfl rfl) ?_
 refine .gv 35 rfl rfl (Y.load sh3 rfl rfl rfl rfl) ?_
 refine .gv 35 rfl rfl (Y.eql rfl rfl) ?_
 refine .vl (Y.pick rfl rfl rfl) ?_
 refine .vl (Y.assign rfl rfl) ?_
 refine AOps.nil ?_
 refine AWp.seq ?_
 refine AWp.sr ?_
 refine .vl (Y.move rfl rfl) ?_
 refine .vl (Y.not rfl) ?_
 refine .vl (Y.move rfl rfl) ?_
 refine .gv 42 rfl rfl (Y.move rfl rfl) ?_
 refine .gv 42 rfl rfl (Y.not rfl) ?_
 refine .vl (Y.pick rfl rfl rfl) ?_
 refine .vl (Y.move rfl rfl) ?_
 refine .gv 46 rfl rfl (Y.fieldAddr fl39_5 rfl rfl) ?_
 refine .gv 46 rfl rfl (Y.load sh3 rfl rfl rfl rfl) ?_
 refine .gv 46 rfl rfl (Y.neq rfl rfl) ?_
 refine .vl (Y.pick rfl rfl rfl) ?_
 refine .vl (Y.move rfl rfl) ?_
 refine AOps.splitD (d := 51) rfl (fun c51 => ?_) (fun c51 => ?_)
 refine .gs 51 rfl rfl rfl ?_
 refine .gs 51 rfl rfl rfl ?_
 refine .gs 53 rfl rfl rfl ?_
 refine .gs 53 rfl rfl rfl ?_
 refine .gs 53 rfl rfl rfl ?_
 refine .gs 53 rfl rfl rfl ?_
 refine .gs 53 rfl rfl rfl ?_
 refine .gs 53 rfl rfl rfl ?_
 refine .gs 53 rfl rfl rfl ?_
 refine .gs 51 rfl rfl rfl ?_
 refine .vl (Y.pick rfl rfl rfl) ?_
 refine .vl (Y.move rfl rfl) ?_
 refine .gs 63 rfl rfl rfl ?_
 refine .gs 63 rfl rfl rfl ?_
 refine .gs 65 rfl rfl rfl ?_
 refine .gs 65 rfl rfl rfl ?_
 refine .gs 65 rfl rfl rfl ?_
 refine .gs 65 rfl rfl rfl ?_
 refine .gs 65 rfl rfl rfl ?_
 refine .gs 65 rfl rfl rfl ?_
 refine .gs 65 rfl rfl rfl ?_
 refine .gs 63 rfl rfl rfl ?_
 refine .vl (Y.pick rfl rfl rfl) ?_
 refine AOps.nil ?_
 refine AWp.condT rfl ?_
 refine AWp.sr ?_
 refine .vl (Y.assign rfl rfl) ?_
 refine AOps.nil ?_
 refine AWp.ret ?_
 exact ⟨_, _, rfl, rfl, (cg1 (fun (z0 : Bool) => X.v (.bool z0)) (df (by (try unfold Seq at *); (try unfold In at *); (simp only [Shaped, Int.reduceEq, Bool.not_eq_true, false_and, true_and, and_true, and_false, or_false, false_or, ne_eq]) <;> (first | omega | grind)) : false = decide (Shaped n ⟨3, op, out, args, num, mem⟩)) : X.v (.bool false) = X.v (.bool (decide (Shaped n ⟨3, op, out, args, num, mem⟩)))), rfl⟩
 refine .gv 51 rfl rfl (Y.move rfl rfl) ?_
 refine .gv 51 rfl rfl (Y.move rfl rfl) ?_
 refine .gs 53 rfl rfl rfl ?_
 refine .gs 53 rfl rfl rfl ?_
 refine .gs 53 rfl rfl rfl ?_
 refine .gs 53 rfl rfl rfl ?_
 refine .gs 53 rfl rfl rfl ?_
 refine .gs 53 rfl rfl rfl ?_
 refine .gs 53 rfl rfl rfl ?_
 refine .gv 51 rfl rfl (Y.pick rfl rfl rfl) ?_
 refine .vl (Y.pick rfl rfl rfl) ?_
 refine .vl (Y.move rfl rfl) ?_
 refine .gv 63 rfl rfl (Y.move rfl rfl) ?_
 refine .gv 63 rfl rfl (Y.move rfl rfl) ?_
 refine .gs 65 rfl rfl rfl ?_
 refine .gs 65 rfl rfl rfl ?_
 refine .gs 65 rfl rfl rfl ?_
 refine .gs 65 rfl rfl rfl ?_
 refine .gs 65 rfl rfl rfl ?_
 refine .gs 65 rfl rfl rfl ?_
 refine .gs 65 rfl rfl rfl ?_
 refine .gv 63 rfl rfl (Y.pick rfl rfl rfl) ?_
 refine .vl (Y.pick rfl rfl rfl) ?_
 refine AOps.nil ?_
 refine AWp.condF rfl ?_
 refine AWp.skip ?_
 refine AWp.seq ?_
 refine AWp.sr ?_
 refine .vl (Y.fieldAddr fl39_0 rfl rfl) ?_
 refine .vl (Y.load sh3 rfl rfl rfl rfl) ?_
 refine .vl (Y.neq rfl rfl) ?_
 refine .vl (Y.move rfl rfl) ?_
 refine .gv 78 rfl rfl (Y.fieldAddr fl39_0 rfl rfl) ?_
 refine .gv 78 rfl rfl (Y.load sh3 rfl rfl rfl rfl) ?_
 refine .gv 78 rfl rfl (Y.neq rfl rfl) ?_
 refine .vl (Y.pick rfl rfl rfl) ?_
 refine .vl (Y.move rfl rfl) ?_
 refine .gv 83 rfl rfl (Y.fieldAddr fl39_0 rfl rfl) ?_
 refine .gv 83 rfl rfl (Y.load sh3 rfl rfl rfl rfl) ?_
 refine .gv 83 rfl rfl (Y.neq rfl rfl) ?_
 refine .vl (Y.pick rfl rfl rfl) ?_
 refine .vl (Y.move rfl rfl) ?_
 refine .gv 88 rfl rfl (Y.fieldAddr fl39_0 rfl rfl) ?_
 refine .gv 88 rfl rfl (Y.load sh3 rfl rfl rfl rfl) ?_
 refine .gv 88 rfl rfl (Y.neq rfl rfl) ?_
 refine .vl (Y.pick rfl rfl rfl) ?_
 refine .vl (Y.move rfl rfl) ?_
 refine .gv 93 rfl rfl (Y.fieldAddr fl39_4 rfl rfl) ?_
 refine .gv 93 rfl rfl (Y.load sh37 rfl rfl rfl rfl) ?_
 refine .gv 93 rfl rfl (Y.neq rfl rfl) ?_
 refine .vl (Y.pick rfl rfl rfl) ?_
 refine AOps.nil ?_
 refine AWp.condD rfl (fun c97 => ?_) (fun c97 => ?_)
 refine AWp.sr ?_
 refine .vl (Y.assign rfl rfl) ?_
 refine AOps.nil ?_
 refine AWp.ret ?_
 exact ⟨_, _, rfl, rfl, (cg1 (fun (z0 : Bool) => X.v (.bool z0)) (df (by (try unfold Seq at *); (try unfold In at *); (simp only [Shaped, Int.reduceEq, Bool.not_eq_true, false_and, true_and, and_true, and_false, or_false, false_or, ne_eq]) <;> (first | omega | grind)) : false = decide (Shaped n ⟨3, op, out, args, num, mem⟩)) : X.v (.bool false) = X.v (.bool (decide (Shaped n ⟨3, op, out, args, num, mem⟩)))), rfl⟩
 refine AWp.skip ?_
 refine AWp.seq ?_
 refine AWp.sr ?_
 refine .vl (Y.fieldAddr fl39_0 rfl rfl) ?_
 refine .vl (Y.load sh3 rfl rfl rfl rfl) ?_
 refine AOps.nil ?_
 refine AWp.block ?_
 refine AWp.seq ?_
 refine AWp.sr ?_
 refine .vl (Y.eql rfl rfl) ?_
 refine .vl (Y.assign rfl rfl) ?_
 refine AOps.nil ?_
 refine AWp.condF rfl ?_
 refine AWp.region ?_
 refine .vl (Y.eql rfl rfl) ?_
 refine .vl (Y.assign rfl rfl) ?_
 refine AOps.nil ?_
 refine AWp.condF rfl ?_
 refine AWp.sr ?_
 refine .vl (Y.eql rfl rfl) ?_
 refine .vl (Y.assign rfl rfl) ?_
 refine AOps.nil ?_
 refine AWp.condF rfl ?_
 refine AWp.sr ?_
 refine .vl (Y.eql rfl rfl) ?_
 refine .vl (Y.assign rfl rfl) ?_
 refine AOps.nil ?_
 refine AWp.condT rfl ?_
 refine AWp.sr ?_
 refine .vl (Y.move rfl rfl) ?_
 refine .vl (Y.geq rfl rfl) ?_
 refine .vl (Y.move rfl rfl) ?_
 refine AOps.splitD (d := 147) rfl (fun c147 => ?_) (fun c147 => ?_)
 refine .gv 147 rfl rfl (Y.move rfl rfl) ?_
 refine .gv 147 rfl rfl (Y.remI rfl rfl (by first | omega | (simp [-List.getD_eq_getElem?_getD]; done) | (simp [-List.getD_eq_getElem?_getD]; omega) | (unfold In at *; omega))) ?_
 refine .gv 147 rfl rfl (Y.eql rfl rfl) ?_
 refine .vl (Y.pick rfl rfl rfl) ?_
 refine .vl (Y.assign rfl rfl) ?_
 refine AOps.nil ?_
 refine AWp.ret ?_
 exact ⟨_, _, rfl, rfl, (cg1 (fun (z0 : Bool) => X.v (.bool z0)) (dd (by (try unfold Seq at *); (try unfold In at *); (simp only [Shaped, Int.reduceEq, Bool.not_eq_true, false_and, true_and, and_true, and_false, or_false, false_or, ne_eq]) <;> (first | omega | grind)) : (decide ((((args.length : Nat) : Int) % 2) = 0)) = decide (Shaped n ⟨3, op, out, args, num, mem⟩)) : X.v (.bool (decide ((((args.length : Nat) : Int) % 2) = 0))) = X.v (.bool (decide (Shaped n ⟨3, op, out, args, num, mem⟩)))), rfl⟩
 refine .gs 147 rfl rfl rfl ?_
 refine .gs 147 rfl rfl rfl ?_
 refine .gs 147 rfl rfl rfl ?_
 refine .vl (Y.pick rfl rfl rfl) ?_
 refine .vl (Y.assign rfl rfl) ?_
 refine AOps.nil ?_
 refine AWp.ret ?_
 exact ⟨_, _, rfl, rfl, (cg1 (fun (z0 : Bool) => X.v (.bool z0)) (df (by (try unfold Seq at *); (try unfold In at *); (simp only [Shaped, Int.reduceEq, Bool.not_eq_true, false_and, true_and, and_true, and_false, or_false, false_or, ne_eq]) <;> (first | omega | grind)) : false = decide (Shaped n ⟨3, op, out, args, num, mem⟩)) : X.v (.bool false) = X.v (.bool (decide (Shaped n ⟨3, op, out, args, num, mem⟩)))), rfl⟩

set_option maxRecDepth 4000 in
set_option maxHeartbeats 1000000 in
theorem cell_k4 {n : Netlist} {op out mem : Int} {args : List Int} {num : Nat} (hs : n.Small) (hc : args.length ≤ 17592186043904) : ACalls Try.prog 88 [.agg (Netlist.row n), .agg [.v (.int .i64 4), .v (.int .i64 op), .v (.int .i64 out), .fz 1 (args.map irow), .v (.int .u64 ((num : Nat) : Int)), .v (.int .i64 mem)]] [] [] (fun r o => r = .v (.bool (decide (Shaped n ⟨4, op, out, args, num, mem⟩))) ∧ o = []) := by
 refine ACalls.of Try.func88 rfl rfl rfl (n := 207) (by decide) (Nat.le_of_ble_eq_true rfl) ?_
 have hs4 := hs.ins; have hs5 := hs.mems; have hs6 := hs.streams
 refine AWp.sr ?_
 refine AOps.box 102 rfl rfl rfl rfl rfl (by decide) ?_
 refine AOps.box 103 rfl rfl rfl rfl rfl (by decide) ?_
 refine .vl (Y.assign rfl rfl) ?_
 refine AOps.nil ?_
 refine AWp.sr ?_
 refine .vl (Y.fieldAddr fl39_3 rfl rfl) ?_
 refine .vl (Y.load sh22 rfl rfl rfl rfl) ?_
 refine .vl (Y.len (n := args.length) sl22 rfl (congrArg some (List.length_map ..))) ?_
 refine .vl (Y.assign rfl rfl) ?_
 refine AOps.nil ?_
 refine AWp.seq ?_
 refine AWp.sr ?_
 refine .vl (Y.fieldAddr fl39_0 rfl rfl) ?_
 refine .vl (Y.load sh3 rfl rfl rfl rfl) ?_
 refine .vl (Y.neq rfl rfl) ?_
 refine .vl (Y.move rfl rfl) ?_
 refine .gv 14 rfl rfl (Y.fieldAddr fl39_0 rfl rfl) ?_
 refine .gv 14 rfl rfl (Y.load sh3 rfl rfl rfl rfl) ?_
 refine .gv 14 rfl rfl (Y.neq rfl rfl) ?_
 refine .vl (Y.pick rfl rfl rfl) ?_
 refine .vl (Y.move rfl rfl) ?_
 refine .gv 19 rfl rfl (Y.fieldAddr fl39_1 rfl rfl) ?_
 refine .gv 19 rfl rfl (Y.load sh3 rfl rfl rfl rfl) ?_
 refine .gv 19 rfl rfl (Y.neq rfl rfl) ?_
 refine .vl (Y.pick rfl rfl rfl) ?_
 refine AOps.nil ?_
 refine AWp.condD rfl (fun c23 => ?_) (fun c23 => ?_)
 refine AWp.sr ?_
 refine .vl (Y.assign rfl rfl) ?_
 refine AOps.nil ?_
 refine AWp.ret ?_
 exact ⟨_, _, rfl, rfl, (cg1 (fun (z0 : Bool) => X.v (.bool z0)) (df (by (try unfold Seq at *); (try unfold In at *); (simp only [Shaped, Int.reduceEq, Bool.not_eq_true, false_and, true_and, and_true, and_false, or_false, false_or, ne_eq]) <;> (first | omega | grind)) : false = decide (Shaped n ⟨4, op, out, args, num, mem⟩)) : X.v (.bool false) = X.v (.bool (decide (Shaped n ⟨4, op, out, args, num, mem⟩)))), rfl⟩
 refine AWp.skip ?_
 refine AWp.sr ?_
 refine .vl (Y.fieldAddr fl39_0 rfl rfl) ?_
 refine .vl (Y.load sh3 rfl rfl rfl rfl) ?_
 refine .vl (Y.eql rfl rfl) ?_
 refine .vl (Y.move rfl rfl) ?_
 refine .gv 27 rfl rfl (Y.fieldAddr fl39_0 rfl rfl) ?_
 refine .gv 27 rfl rfl (Y.load sh3 rfl rfl rfl rfl) ?_
 refine .gv 27 rfl rfl (Y.eql rfl rfl) ?_
 refine .vl (Y.pick rfl rfl rfl) ?_
 refine .vl (Y.assign rfl rfl) ?_
 refine AOps.nil ?_
 refine AWp.sr ?_
 refine .vl (Y.fieldAddr fl39_0 rfl rfl) ?_
 refine .vl (Y.load sh3 rfl rfl rfl rfl) ?_
 refine .vl (Y.eql rfl rfl) ?_
 refine .vl (Y.move rfl rfl) ?_
 refine .gv 35 rfl rfl (Y.fieldAddr fl39_0 rfl rfl) ?_
 refine .gv 35 rfl rfl (Y.load sh3 rfl rfl rfl rfl) ?_
 refine .gv 35 rfl rfl (Y.eql rfl rfl) ?_
 refine .vl (Y.pick rfl rfl rfl) ?_
 refine .vl (Y.assign rfl rfl) ?_
 refine AOps.nil ?_
 refine AWp.seq ?_
 refine AWp.sr ?_
 refine .vl (Y.move rfl rfl) ?_
 refine .vl (Y.not rfl) ?_
 refine .vl (Y.move rfl rfl) ?_
 refine .gv 42 rfl rfl (Y.move rfl rfl) ?_
 refine .gv 42 rfl rfl (Y.not rfl) ?_
 refine .vl (Y.pick rfl rfl rfl) ?_
 refine .vl (Y.move rfl rfl) ?_
 refine .gv 46 rfl rfl (Y.fieldAddr fl39_5 rfl rfl) ?_
 refine .gv 46 rfl rfl (Y.load sh3 rfl rfl rfl rfl) ?_
 refine .gv 46 rfl rfl (Y.neq rfl rfl) ?_
 refine .vl (Y.pick rfl rfl rfl) ?_
 refine .vl (Y.move rfl rfl) ?_
 refine AOps.splitD (d := 51) rfl (fun c51 => ?_) (fun c51 => ?_)
 refine .gs 51 rfl rfl rfl ?_
 refine .gs 51 rfl rfl rfl ?_
 refine .gs 53 rfl rfl rfl ?_
 refine .gs 53 rfl rfl rfl ?_
 refine .gs 53 rfl rfl rfl ?_
 refine .gs 53 rfl rfl rfl ?_
 refine .gs 53 rfl rfl rfl ?_
 refine .gs 53 rfl rfl rfl ?_
 refine .gs 53 rfl rfl rfl ?_
 refine .gs 51 rfl rfl rfl ?_
 refine .vl (Y.pick rfl rfl rfl) ?_
 refine .vl (Y.move rfl rfl) ?_
 refine .gs 63 rfl rfl rfl ?_
 refine .gs 63 rfl rfl rfl ?_
 refine .gs 65 rfl rfl rfl ?_
 refine .gs 65 rfl rfl rfl ?_
 refine .gs 65 rfl rfl rfl ?_
 refine .gs 65 rfl rfl rfl ?_
 refine .gs 65 rfl rfl rfl ?_
 refine .gs 65 rfl rfl rfl ?_
 refine .gs 65 rfl rfl rfl ?_
 refine .gs 63 rfl rfl rfl ?_
 refine .vl (Y.pick rfl rfl rfl) ?_
 refine AOps.nil ?_
 refine AWp.condT rfl ?_
 refine AWp.sr ?_
 refine .vl (Y.assign rfl rfl) ?_
 refine AOps.nil ?_
 refine AWp.ret ?_
 exact ⟨_, _, rfl, rfl, (cg1 (fun (z0 : Bool) => X.v (.bool z0)) (df (by (try unfold Seq at *); (try unfold In at *); (simp only [Shaped, Int.reduceEq, Bool.not_eq_true, false_and, true_and, and_true, and_false, or_false, false_or, ne_eq]) <;> (first | omega | grind)) : false = decide (Shaped n ⟨4, op, out, args, num, mem⟩)) : X.v (.bool false) = X.v (.bool (decide (Shaped n ⟨4, op, out, args, num, mem⟩)))), rfl⟩
 refine .gv 51 rfl rfl (Y.move rfl rfl) ?_
 refine .gv 51 rfl rfl (Y.move rfl rfl) ?_
 refine .gs 53 rfl rfl rfl ?_
 refine .gs 53 rfl rfl rfl ?_
 refine .gs 53 rfl rfl rfl ?_
 refine .gs 53 rfl rfl rfl ?_
 refine .gs 53 rfl rfl rfl ?_
 refine .gs 53 rfl rfl rfl ?_
 refine .gs 53 rfl rfl rfl ?_
 refine .gv 51 rfl rfl (Y.pick rfl rfl rfl) ?_
 refine .vl (Y.pick rfl rfl rfl) ?_
 refine .vl (Y.move rfl rfl) ?_
 refine .gv 63 rfl rfl (Y.move rfl rfl) ?_
 refine .gv 63 rfl rfl (Y.move rfl rfl) ?_
 refine .gs 65 rfl rfl rfl ?_
 refine .gs 65 rfl rfl rfl ?_
 refine .gs 65 rfl rfl rfl ?_
 refine .gs 65 rfl rfl rfl ?_
 refine .gs 65 rfl rfl rfl ?_
 refine .gs 65 rfl rfl rfl ?_
 refine .gs 65 rfl rfl rfl ?_
 refine .gv 63 rfl rfl (Y.pick rfl rfl rfl) ?_
 refine .vl (Y.pick rfl rfl rfl) ?_
 refine AOps.nil ?_
 refine AWp.condF rfl ?_
 refine AWp.skip ?_
 refine AWp.seq ?_
 refine AWp.sr ?_
 refine .vl (Y.fieldAddr fl39_0 rfl rfl) ?_
 refine .vl (Y.load sh3 rfl rfl rfl rfl) ?_
 refine .vl (Y.neq rfl rfl) ?_
 refine .vl (Y.move rfl rfl) ?_
 refine .gv 78 rfl rfl (Y.fieldAddr fl39_0 rfl rfl) ?_
 refine .gv 78 rfl rfl (Y.load sh3 rfl rfl rfl rfl) ?_
 refine .gv 78 rfl rfl (Y.neq rfl rfl) ?_
 refine .vl (Y.pick rfl rfl rfl) ?_
 refine .vl (Y.move rfl rfl) ?_
 refine .gs 83 rfl rfl rfl ?_
 refine .gs 83 rfl rfl rfl ?_
 refine .gs 83 rfl rfl rfl ?_
 refine .vl (Y.pick rfl rfl rfl) ?_
 refine .vl (Y.move rfl rfl) ?_
 refine .gs 88 rfl rfl rfl ?_
 refine .gs 88 rfl rfl rfl ?_
 refine .gs 88 rfl rfl rfl ?_
 refine .vl (Y.pick rfl rfl rfl) ?_
 refine .vl (Y.move rfl rfl) ?_
 refine .gs 93 rfl rfl rfl ?_
 refine .gs 93 rfl rfl rfl ?_
 refine .gs 93 rfl rfl rfl ?_
 refine .vl (Y.pick rfl rfl rfl) ?_
 refine AOps.nil ?_
 refine AWp.condF rfl ?_
 refine AWp.skip ?_
 refine AWp.seq ?_
 refine AWp.sr ?_
 refine .vl (Y.fieldAddr fl39_0 rfl rfl) ?_
 refine .vl (Y.load sh3 rfl rfl rfl rfl) ?_
 refine AOps.nil ?_
 refine AWp.block ?_
 refine AWp.seq ?_
 refine AWp.sr ?_
 refine .vl (Y.eql rfl rfl) ?_
 refine .vl (Y.assign rfl rfl) ?_
 refine AOps.nil ?_
 refine AWp.condF rfl ?_
 refine AWp.region ?_
 refine .vl (Y.eql rfl rfl) ?_
 refine .vl (Y.assign rfl rfl) ?_
 refine AOps.nil ?_
 refine AWp.condF rfl ?_
 refine AWp.sr ?_
 refine .vl (Y.eql rfl rfl) ?_
 refine .vl (Y.assign rfl rfl) ?_
 refine AOps.nil ?_
 refine AWp.condF rfl ?_
 refine AWp.sr ?_
 refine .vl (Y.eql rfl rfl) ?_
 refine .vl (Y.assign rfl rfl) ?_
 refine AOps.nil ?_
 refine AWp.condF rfl ?_
 refine AWp.seq ?_
 refine AWp.sr ?_
 refine .vl (Y.eql rfl rfl) ?_
 refine .vl (Y.assign rfl rfl) ?_
 refine AOps.nil ?_
 refine AWp.condT rfl ?_
 refine AWp.skip ?_
 refine AWp.condT rfl ?_
 refine AWp.sr ?_
 refine .vl (Y.move rfl rfl) ?_
 refine .vl (Y.eql rfl rfl) ?_
 refine .vl (Y.assign rfl rfl) ?_
 refine AOps.nil ?_
 refine AWp.ret ?_
 exact ⟨_, _, rfl, rfl, (cg1 (fun (z0 : Bool) => X.v (.bool z0)) (dd (by (try unfold Seq at *); (try unfold In at *); (simp only [Shaped, Int.reduceEq, Bool.not_eq_true, false_and, true_and, and_true, and_false, or_false, false_or, ne_eq]) <;> (first | omega | grind)) : (decide (((args.length : Nat) : Int) = 2)) = decide (Shaped n ⟨4, op, out, args, num, mem⟩)) : X.v (.bool (decide (((args.length : Nat) : Int) = 2))) = X.v (.bool (decide (Shaped n ⟨4, op, out, args, num, mem⟩)))), rfl⟩

set_option maxRecDepth 4000 in
set_option maxHeartbeats 1000000 in
theorem cell_k5 {n : Netlist} {op out mem : Int} {args : List Int} {num : Nat} (hs : n.Small) (hc : args.length ≤ 17592186043904) : ACalls Try.prog 88 [.agg (Netlist.row n), .agg [.v (.int .i64 5), .v (.int .i64 op), .v (.int .i64 out), .fz 1 (args.map irow), .v (.int .u64 ((num : Nat) : Int)), .v (.int .i64 mem)]] [] [] (fun r o => r = .v (.bool (decide (Shaped n ⟨5, op, out, args, num, mem⟩))) ∧ o = []) := by
 refine ACalls.of Try.func88 rfl rfl rfl (n := 207) (by decide) (Nat.le_of_ble_eq_true rfl) ?_
 have hs4 := hs.ins; have hs5 := hs.mems; have hs6 := hs.streams
 refine AWp.sr ?_
 refine AOps.box 102 rfl rfl rfl rfl rfl (by decide) ?_
 refine AOps.box 103 rfl rfl rfl rfl rfl (by decide) ?_
 refine .vl (Y.assign rfl rfl) ?_
 refine AOps.nil ?_
 refine AWp.sr ?_
 refine .vl (Y.fieldAddr fl39_3 rfl rfl) ?_
 refine .vl (Y.load sh22 rfl rfl rfl rfl) ?_
 refine .vl (Y.len (n := args.length) sl22 rfl (congrArg some (List.length_map ..))) ?_
 refine .vl (Y.assign rfl rfl) ?_
 refine AOps.nil ?_
 refine AWp.seq ?_
 refine AWp.sr ?_
 refine .vl (Y.fieldAddr fl39_0 rfl rfl) ?_
 refine .vl (Y.load sh3 rfl rfl rfl rfl) ?_
 refine .vl (Y.neq rfl rfl) ?_
 refine .vl (Y.move rfl rfl) ?_
 refine .gv 14 rfl rfl (Y.fieldAddr fl39_0 rfl rfl) ?_
 refine .gv 14 rfl rfl (Y.load sh3 rfl rfl rfl rfl) ?_
 refine .gv 14 rfl rfl (Y.neq rfl rfl) ?_
 refine .vl (Y.pick rfl rfl rfl) ?_
 refine .vl (Y.move rfl rfl) ?_
 refine .gs 19 rfl rfl rfl ?_
 refine .gs 19 rfl rfl rfl ?_
 refine .gs 19 rfl rfl rfl ?_
 refine .vl (Y.pick rfl rfl rfl) ?_
 refine AOps.nil ?_
 refine AWp.condF rfl ?_
 refine AWp.skip ?_
 refine AWp.sr ?_
 refine .vl (Y.fieldAddr fl39_0 rfl rfl) ?_
 refine .vl (Y.load sh3 rfl rfl rfl rfl) ?_
 refine .vl (Y.eql rfl rfl) ?_
 refine .vl (Y.move rfl rfl) ?_
 refine .gv 27 rfl rfl (Y.fieldAddr fl39_0 rfl rfl) ?_
 refine .gv 27 rfl rfl (Y.load sh3 rfl rfl rfl rfl) ?_
 refine .gv 27 rfl rfl (Y.eql rfl rfl) ?_
 refine .vl (Y.pick rfl rfl rfl) ?_
 refine .vl (Y.assign rfl rfl) ?_
 refine AOps.nil ?_
 refine AWp.sr ?_
 refine .vl (Y.fieldAddr fl39_0 rfl rfl) ?_
 refine .vl (Y.load sh3 rfl rfl rfl rfl) ?_
 refine .vl (Y.eql rfl rfl) ?_
 refine .vl (Y.move rfl rfl) ?_
 refine .gv 35 rfl rfl (Y.fieldAddr fl39_0 rfl rfl) ?_
 refine .gv 35 rfl rfl (Y.load sh3 rfl rfl rfl rfl) ?_
 refine .gv 35 rfl rfl (Y.eql rfl rfl) ?_
 refine .vl (Y.pick rfl rfl rfl) ?_
 refine .vl (Y.assign rfl rfl) ?_
 refine AOps.nil ?_
 refine AWp.seq ?_
 refine AWp.sr ?_
 refine .vl (Y.move rfl rfl) ?_
 refine .vl (Y.not rfl) ?_
 refine .vl (Y.move rfl rfl) ?_
 refine .gv 42 rfl rfl (Y.move rfl rfl) ?_
 refine .gv 42 rfl rfl (Y.not rfl) ?_
 refine .vl (Y.pick rfl rfl rfl) ?_
 refine .vl (Y.move rfl rfl) ?_
 refine .gv 46 rfl rfl (Y.fieldAddr fl39_5 rfl rfl) ?_
 refine .gv 46 rfl rfl (Y.load sh3 rfl rfl rfl rfl) ?_
 refine .gv 46 rfl rfl (Y.neq rfl rfl) ?_
 refine .vl (Y.pick rfl rfl rfl) ?_
 refine .vl (Y.move rfl rfl) ?_
 refine AOps.splitD (d := 51) rfl (fun c51 => ?_) (fun c51 => ?_)
 refine .gs 51 rfl rfl rfl ?_
 refine .gs 51 rfl rfl rfl ?_
 refine .gs 53 rfl rfl rfl ?_
 refine .gs 53 rfl rfl rfl ?_
 refine .gs 53 rfl rfl rfl ?_
 refine .gs 53 rfl rfl rfl ?_
 refine .gs 53 rfl rfl rfl ?_
 refine .gs 53 rfl rfl rfl ?_
 refine .gs 53 rfl rfl rfl ?_
 refine .gs 51 rfl rfl rfl ?_
 refine .vl (Y.pick rfl rfl rfl) ?_
 refine .vl (Y.move rfl rfl) ?_
 refine .gs 63 rfl rfl rfl ?_
 refine .gs 63 rfl rfl rfl ?_
 refine .gs 65 rfl rfl rfl ?_
 refine .gs 65 rfl rfl rfl ?_
 refine .gs 65 rfl rfl rfl ?_
 refine .gs 65 rfl rfl rfl ?_
 refine .gs 65 rfl rfl rfl ?_
 refine .gs 65 rfl rfl rfl ?_
 refine .gs 65 rfl rfl rfl ?_
 refine .gs 63 rfl rfl rfl ?_
 refine .vl (Y.pick rfl rfl rfl) ?_
 refine AOps.nil ?_
 refine AWp.condT rfl ?_
 refine AWp.sr ?_
 refine .vl (Y.assign rfl rfl) ?_
 refine AOps.nil ?_
 refine AWp.ret ?_
 exact ⟨_, _, rfl, rfl, (cg1 (fun (z0 : Bool) => X.v (.bool z0)) (df (by (try unfold Seq at *); (try unfold In at *); (simp only [Shaped, Int.reduceEq, Bool.not_eq_true, false_and, true_and, and_true, and_false, or_false, false_or, ne_eq]) <;> (first | omega | grind)) : false = decide (Shaped n ⟨5, op, out, args, num, mem⟩)) : X.v (.bool false) = X.v (.bool (decide (Shaped n ⟨5, op, out, args, num, mem⟩)))), rfl⟩
 refine .gv 51 rfl rfl (Y.move rfl rfl) ?_
 refine .gv 51 rfl rfl (Y.move rfl rfl) ?_
 refine .gs 53 rfl rfl rfl ?_
 refine .gs 53 rfl rfl rfl ?_
 refine .gs 53 rfl rfl rfl ?_
 refine .gs 53 rfl rfl rfl ?_
 refine .gs 53 rfl rfl rfl ?_
 refine .gs 53 rfl rfl rfl ?_
 refine .gs 53 rfl rfl rfl ?_
 refine .gv 51 rfl rfl (Y.pick rfl rfl rfl) ?_
 refine .vl (Y.pick rfl rfl rfl) ?_
 refine .vl (Y.move rfl rfl) ?_
 refine .gv 63 rfl rfl (Y.move rfl rfl) ?_
 refine .gv 63 rfl rfl (Y.move rfl rfl) ?_
 refine .gs 65 rfl rfl rfl ?_
 refine .gs 65 rfl rfl rfl ?_
 refine .gs 65 rfl rfl rfl ?_
 refine .gs 65 rfl rfl rfl ?_
 refine .gs 65 rfl rfl rfl ?_
 refine .gs 65 rfl rfl rfl ?_
 refine .gs 65 rfl rfl rfl ?_
 refine .gv 63 rfl rfl (Y.pick rfl rfl rfl) ?_
 refine .vl (Y.pick rfl rfl rfl) ?_
 refine AOps.nil ?_
 refine AWp.condF rfl ?_
 refine AWp.skip ?_
 refine AWp.seq ?_
 refine AWp.sr ?_
 refine .vl (Y.fieldAddr fl39_0 rfl rfl) ?_
 refine .vl (Y.load sh3 rfl rfl rfl rfl) ?_
 refine .vl (Y.neq rfl rfl) ?_
 refine .vl (Y.move rfl rfl) ?_
 refine .gv 78 rfl rfl (Y.fieldAddr fl39_0 rfl rfl) ?_
 refine .gv 78 rfl rfl (Y.load sh3 rfl rfl rfl rfl) ?_
 refine .gv 78 rfl rfl (Y.neq rfl rfl) ?_
 refine .vl (Y.pick rfl rfl rfl) ?_
 refine .vl (Y.move rfl rfl) ?_
 refine .gv 83 rfl rfl (Y.fieldAddr fl39_0 rfl rfl) ?_
 refine .gv 83 rfl rfl (Y.load sh3 rfl rfl rfl rfl) ?_
 refine .gv 83 rfl rfl (Y.neq rfl rfl) ?_
 refine .vl (Y.pick rfl rfl rfl) ?_
 refine .vl (Y.move rfl rfl) ?_
 refine .gs 88 rfl rfl rfl ?_
 refine .gs 88 rfl rfl rfl ?_
 refine .gs 88 rfl rfl rfl ?_
 refine .vl (Y.pick rfl rfl rfl) ?_
 refine .vl (Y.move rfl rfl) ?_
 refine .gs 93 rfl rfl rfl ?_
 refine .gs 93 rfl rfl rfl ?_
 refine .gs 93 rfl rfl rfl ?_
 refine .vl (Y.pick rfl rfl rfl) ?_
 refine AOps.nil ?_
 refine AWp.condF rfl ?_
 refine AWp.skip ?_
 refine AWp.seq ?_
 refine AWp.sr ?_
 refine .vl (Y.fieldAddr fl39_0 rfl rfl) ?_
 refine .vl (Y.load sh3 rfl rfl rfl rfl) ?_
 refine AOps.nil ?_
 refine AWp.block ?_
 refine AWp.seq ?_
 refine AWp.sr ?_
 refine .vl (Y.eql rfl rfl) ?_
 refine .vl (Y.assign rfl rfl) ?_
 refine AOps.nil ?_
 refine AWp.condF rfl ?_
 refine AWp.region ?_
 refine .vl (Y.eql rfl rfl) ?_
 refine .vl (Y.assign rfl rfl) ?_
 refine AOps.nil ?_
 refine AWp.condF rfl ?_
 refine AWp.sr ?_
 refine .vl (Y.eql rfl rfl) ?_
 refine .vl (Y.assign rfl rfl) ?_
 refine AOps.nil ?_
 refine AWp.condF rfl ?_
 refine AWp.sr ?_
 refine .vl (Y.eql rfl rfl) ?_
 refine .vl (Y.assign rfl rfl) ?_
 refine AOps.nil ?_
 refine AWp.condF rfl ?_
 refine AWp.seq ?_
 refine AWp.sr ?_
 refine .vl (Y.eql rfl rfl) ?_
 refine .vl (Y.assign rfl rfl) ?_
 refine AOps.nil ?_
 refine AWp.condF rfl ?_
 refine AWp.region ?_
 refine .vl (Y.eql rfl rfl) ?_
 refine .vl (Y.assign rfl rfl) ?_
 refine AOps.nil ?_
 refine AWp.condF rfl ?_
 refine AWp.sr ?_
 refine .vl (Y.eql rfl rfl) ?_
 refine .vl (Y.assign rfl rfl) ?_
 refine AOps.nil ?_
 refine AWp.condT rfl ?_
 refine AWp.sr ?_
 refine .vl (Y.fieldAddr fl39_1 rfl rfl) ?_
 refine .vl (Y.load sh3 rfl rfl rfl rfl) ?_
 refine AOps.callP ok120 (sequential_spec (w := op)) rfl (.keep rfl rfl .nil) (by decide) rfl ?_
 refine .vl (Y.move rfl rfl) ?_
 refine AOps.splitD (d := 162) rfl (fun c162 => ?_) (fun c162 => ?_)
 refine .gv 162 rfl rfl (Y.move rfl rfl) ?_
 refine .gv 162 rfl rfl (Y.eql rfl rfl) ?_
 refine .vl (Y.pick rfl rfl rfl) ?_
 refine .vl (Y.move rfl rfl) ?_
 refine AOps.splitD (d := 166) rfl (fun c166 => ?_) (fun c166 => ?_)
 refine .gv 166 rfl rfl (Y.fieldAddr fl39_4 rfl rfl) ?_
 refine .gv 166 rfl rfl (Y.load sh37 rfl rfl rfl rfl) ?_
 refine .gv 166 rfl rfl (Y.geq rfl rfl) ?_
 refine .vl (Y.pick rfl rfl rfl) ?_
 refine .vl (Y.move rfl rfl) ?_
 refine AOps.splitD (d := 171) rfl (fun c171 => ?_) (fun c171 => ?_)
 refine .gv 171 rfl rfl (Y.fieldAddr fl39_4 rfl rfl) ?_
 refine .gv 171 rfl rfl (Y.load sh37 rfl rfl rfl rfl) ?_
 refine .gv 171 rfl rfl (Y.leq rfl rfl) ?_
 refine .vl (Y.pick rfl rfl rfl) ?_
 refine .vl (Y.assign rfl rfl) ?_
 refine AOps.nil ?_
 refine AWp.ret ?_
 exact ⟨_, _, rfl, rfl, (cg1 (fun (z0 : Bool) => X.v (.bool z0)) (dd (by (try unfold Seq at *); (try unfold In at *); (simp only [Shaped, Int.reduceEq, Bool.not_eq_true, false_and, true_and, and_true, and_false, or_false, false_or, ne_eq]) <;> (first | omega | grind)) : (decide (((num : Nat) : Int) ≤ 4096)) = decide (Shaped n ⟨5, op, out, args, num, mem⟩)) : X.v (.bool (decide (((num : Nat) : Int) ≤ 4096))) = X.v (.bool (decide (Shaped n ⟨5, op, out, args, num, mem⟩)))), rfl⟩
 refine .gs 171 rfl rfl rfl ?_
 refine .gs 171 rfl rfl rfl ?_
 refine .gs 171 rfl rfl rfl ?_
 refine .vl (Y.pick rfl rfl rfl) ?_
 refine .vl (Y.assign rfl rfl) ?_
 refine AOps.nil ?_
 refine AWp.ret ?_
 exact ⟨_, _, rfl, rfl, (cg1 (fun (z0 : Bool) => X.v (.bool z0)) (df (by (try unfold Seq at *); (try unfold In at *); (simp only [Shaped, Int.reduceEq, Bool.not_eq_true, false_and, true_and, and_true, and_false, or_false, false_or, ne_eq]) <;> (first | omega | grind)) : false = decide (Shaped n ⟨5, op, out, args, num, mem⟩)) : X.v (.bool false) = X.v (.bool (decide (Shaped n ⟨5, op, out, args, num, mem⟩)))), rfl⟩
 refine .gs 166 rfl rfl rfl ?_
 refine .gs 166 rfl rfl rfl ?_
 refine .gs 166 rfl rfl rfl ?_
 refine .vl (Y.pick rfl rfl rfl) ?_
 refine .vl (Y.move rfl rfl) ?_
 refine .gs 171 rfl rfl rfl ?_
 refine .gs 171 rfl rfl rfl ?_
 refine .gs 171 rfl rfl rfl ?_
 refine .vl (Y.pick rfl rfl rfl) ?_
 refine .vl (Y.assign rfl rfl) ?_
 refine AOps.nil ?_
 refine AWp.ret ?_
 exact ⟨_, _, rfl, rfl, (cg1 (fun (z0 : Bool) => X.v (.bool z0)) (df (by (try unfold Seq at *); (try unfold In at *); (simp only [Shaped, Int.reduceEq, Bool.not_eq_true, false_and, true_and, and_true, and_false, or_false, false_or, ne_eq]) <;> (first | omega | grind)) : false = decide (Shaped n ⟨5, op, out, args, num, mem⟩)) : X.v (.bool false) = X.v (.bool (decide (Shaped n ⟨5, op, out, args, num, mem⟩)))), rfl⟩
 refine .gs 162 rfl rfl rfl ?_
 refine .gs 162 rfl rfl rfl ?_
 refine .vl (Y.pick rfl rfl rfl) ?_
 refine .vl (Y.move rfl rfl) ?_
 refine .gs 166 rfl rfl rfl ?_
 refine .gs 166 rfl rfl rfl ?_
 refine .gs 166 rfl rfl rfl ?_
 refine .vl (Y.pick rfl rfl rfl) ?_
 refine .vl (Y.move rfl rfl) ?_
 refine .gs 171 rfl rfl rfl ?_
 refine .gs 171 rfl rfl rfl ?_
 refine .gs 171 rfl rfl rfl ?_
 refine .vl (Y.pick rfl rfl rfl) ?_
 refine .vl (Y.assign rfl rfl) ?_
 refine AOps.nil ?_
 refine AWp.ret ?_
 exact ⟨_, _, rfl, rfl, (cg1 (fun (z0 : Bool) => X.v (.bool z0)) (df (by (try unfold Seq at *); (try unfold In at *); (simp only [Shaped, Int.reduceEq, Bool.not_eq_true, false_and, true_and, and_true, and_false, or_false, false_or, ne_eq]) <;> (first | omega | grind)) : false = decide (Shaped n ⟨5, op, out, args, num, mem⟩)) : X.v (.bool false) = X.v (.bool (decide (Shaped n ⟨5, op, out, args, num, mem⟩)))), rfl⟩

set_option maxRecDepth 4000 in
set_option maxHeartbeats 1000000 in
theorem cell_k6 {n : Netlist} {op out mem : Int} {args : List Int} {num : Nat} (hs : n.Small) (hc : args.length ≤ 17592186043904) : ACalls Try.prog 88 [.agg (Netlist.row n), .agg [.v (.int .i64 6), .v (.int .i64 op), .v (.int .i64 out), .fz 1 (args.map irow), .v (.int .u64 ((num : Nat) : Int)), .v (.int .i64 mem)]] [] [] (fun r o => r = .v (.bool (decide (Shaped n ⟨6, op, out, args, num, mem⟩))) ∧ o = []) := by
 refine ACalls.of Try.func88 rfl rfl rfl (n := 207) (by decide) (Nat.le_of_ble_eq_true rfl) ?_
 have hs4 := hs.ins; have hs5 := hs.mems; have hs6 := hs.streams
 refine AWp.sr ?_
 refine AOps.box 102 rfl rfl rfl rfl rfl (by decide) ?_
 refine AOps.box 103 rfl rfl rfl rfl rfl (by decide) ?_
 refine .vl (Y.assign rfl rfl) ?_
 refine AOps.nil ?_
 refine AWp.sr ?_
 refine .vl (Y.fieldAddr fl39_3 rfl rfl) ?_
 refine .vl (Y.load sh22 rfl rfl rfl rfl) ?_
 refine .vl (Y.len (n := args.length) sl22 rfl (congrArg some (List.length_map ..))) ?_
 refine .vl (Y.assign rfl rfl) ?_
 refine AOps.nil ?_
 refine AWp.seq ?_
 refine AWp.sr ?_
 refine .vl (Y.fieldAddr fl39_0 rfl rfl) ?_
 refine .vl (Y.load sh3 rfl rfl rfl rfl) ?_
 refine .vl (Y.neq rfl rfl) ?_
 refine .vl (Y.move rfl rfl) ?_
 refine .gv 14 rfl rfl (Y.fieldAddr fl39_0 rfl rfl) ?_
 refine .gv 14 rfl rfl (Y.load sh3 rfl rfl rfl rfl) ?_
 refine .gv 14 rfl rfl (Y.neq rfl rfl) ?_
 refine .vl (Y.pick rfl rfl rfl) ?_
 refine .vl (Y.move rfl rfl) ?_
 refine .gv 19 rfl rfl (Y.fieldAddr fl39_1 rfl rfl) ?_
 refine .gv 19 rfl rfl (Y.load sh3 rfl rfl rfl rfl) ?_
 refine .gv 19 rfl rfl (Y.neq rfl rfl) ?_
 refine .vl (Y.pick rfl rfl rfl) ?_
 refine AOps.nil ?_
 refine AWp.condD rfl (fun c23 => ?_) (fun c23 => ?_)
 refine AWp.sr ?_
 refine .vl (Y.assign rfl rfl) ?_
 refine AOps.nil ?_
 refine AWp.ret ?_
 exact ⟨_, _, rfl, rfl, (cg1 (fun (z0 : Bool) => X.v (.bool z0)) (df (by (try unfold Seq at *); (try unfold In at *); (simp only [Shaped, Int.reduceEq, Bool.not_eq_true, false_and, true_and, and_true, and_false, or_false, false_or, ne_eq]) <;> (first | omega | grind)) : false = decide (Shaped n ⟨6, op, out, args, num, mem⟩)) : X.v (.bool false) = X.v (.bool (decide (Shaped n ⟨6, op, out, args, num, mem⟩)))), rfl⟩
 refine AWp.skip ?_
 refine AWp.sr ?_
 refine .vl (Y.fieldAddr fl39_0 rfl rfl) ?_
 refine .vl (Y.load sh3 rfl rfl rfl rfl) ?_
 refine .vl (Y.eql rfl rfl) ?_
 refine .vl (Y.move rfl rfl) ?_
 refine .gs 27 rfl rfl rfl ?_
 refine .gs 27 rfl rfl rfl ?_
 refine .gs 27 rfl rfl rfl ?_
 refine .vl (Y.pick rfl rfl rfl) ?_
 refine .vl (Y.assign rfl rfl) ?_
 refine AOps.nil ?_
 refine AWp.sr ?_
 refine .vl (Y.fieldAddr fl39_0 rfl rfl) ?_
 refine .vl (Y.load sh3 rfl rfl rfl rfl) ?_
 refine .vl (Y.eql rfl rfl) ?_
 refine .vl (Y.move rfl rfl) ?_
 refine .gv 35 rfl rfl (Y.fieldAddr fl39_0 rfl rfl) ?_
 refine .gv 35 rfl rfl (Y.load sh3 rfl rfl rfl rfl) ?_
 refine .gv 35 rfl rfl (Y.eql rfl rfl) ?_
 refine .vl (Y.pick rfl rfl rfl) ?_
 refine .vl (Y.assign rfl rfl) ?_
 refine AOps.nil ?_
 refine AWp.seq ?_
 refine AWp.sr ?_
 refine .vl (Y.move rfl rfl) ?_
 refine .vl (Y.not rfl) ?_
 refine .vl (Y.move rfl rfl) ?_
 refine .gs 42 rfl rfl rfl ?_
 refine .gs 42 rfl rfl rfl ?_
 refine .vl (Y.pick rfl rfl rfl) ?_
 refine .vl (Y.move rfl rfl) ?_
 refine .gs 46 rfl rfl rfl ?_
 refine .gs 46 rfl rfl rfl ?_
 refine .gs 46 rfl rfl rfl ?_
 refine .vl (Y.pick rfl rfl rfl) ?_
 refine .vl (Y.move rfl rfl) ?_
 refine .gv 51 rfl rfl (Y.move rfl rfl) ?_
 refine .gv 51 rfl rfl (Y.move rfl rfl) ?_
 refine .gv 53 rfl rfl (Y.fieldAddr fl39_5 rfl rfl) ?_
 refine .gv 53 rfl rfl (Y.load sh3 rfl rfl rfl rfl) ?_
 refine .gv 53 rfl rfl (Y.fieldAddr fl27_4 rfl rfl) ?_
 refine .gv 53 rfl rfl (Y.load sh24 rfl rfl rfl rfl) ?_
 refine .gv 53 rfl rfl (Y.len (n := n.mems.length) sl24 rfl (congrArg some (List.length_map ..))) ?_
 refine AOps.guardRun (d := 53) rfl (by decide) rfl ?_
 refine AOps.callP ok59 (within_spec (i := mem) (n := ((n.mems.length : Nat) : Int))) rfl (.keep rfl rfl (.keep rfl rfl .nil)) (by decide) rfl ?_
 refine .gv 53 rfl rfl (Y.not rfl) ?_
 refine .gv 51 rfl rfl (Y.pick rfl rfl rfl) ?_
 refine .vl (Y.pick rfl rfl rfl) ?_
 refine .vl (Y.move rfl rfl) ?_
 refine AOps.split (d := 63) rfl (fun c63 => ?_) (fun c63 => ?_)
 replace c63 : ¬ (In mem ((n.mems.length : Nat) : Int)) := by simpa using c63
 refine .gs 63 rfl rfl rfl ?_
 refine .gs 63 rfl rfl rfl ?_
 refine .gs 65 rfl rfl rfl ?_
 refine .gs 65 rfl rfl rfl ?_
 refine .gs 65 rfl rfl rfl ?_
 refine .gs 65 rfl rfl rfl ?_
 refine .gs 65 rfl rfl rfl ?_
 refine .gs 65 rfl rfl rfl ?_
 refine .gs 65 rfl rfl rfl ?_
 refine .gs 63 rfl rfl rfl ?_
 refine .vl (Y.pick rfl rfl rfl) ?_
 refine AOps.nil ?_
 refine AWp.condT rfl ?_
 refine AWp.sr ?_
 refine .vl (Y.assign rfl rfl) ?_
 refine AOps.nil ?_
 refine AWp.ret ?_
 exact ⟨_, _, rfl, rfl, (cg1 (fun (z0 : Bool) => X.v (.bool z0)) (df (by (try unfold Seq at *); (try unfold In at *); (simp only [Shaped, Int.reduceEq, Bool.not_eq_true, false_and, true_and, and_true, and_false, or_false, false_or, ne_eq]) <;> (first | omega | grind)) : false = decide (Shaped n ⟨6, op, out, args, num, mem⟩)) : X.v (.bool false) = X.v (.bool (decide (Shaped n ⟨6, op, out, args, num, mem⟩)))), rfl⟩
 replace c63 : In mem ((n.mems.length : Nat) : Int) := by simpa using c63
 refine .gv 63 rfl rfl (Y.move rfl rfl) ?_
 refine .gv 63 rfl rfl (Y.move rfl rfl) ?_
 refine .gs 65 rfl rfl rfl ?_
 refine .gs 65 rfl rfl rfl ?_
 refine .gs 65 rfl rfl rfl ?_
 refine .gs 65 rfl rfl rfl ?_
 refine .gs 65 rfl rfl rfl ?_
 refine .gs 65 rfl rfl rfl ?_
 refine .gs 65 rfl rfl rfl ?_
 refine .gv 63 rfl rfl (Y.pick rfl rfl rfl) ?_
 refine .vl (Y.pick rfl rfl rfl) ?_
 refine AOps.nil ?_
 refine AWp.condF rfl ?_
 refine AWp.skip ?_
 refine AWp.seq ?_
 refine AWp.sr ?_
 refine .vl (Y.fieldAddr fl39_0 rfl rfl) ?_
 refine .vl (Y.load sh3 rfl rfl rfl rfl) ?_
 refine .vl (Y.neq rfl rfl) ?_
 refine .vl (Y.move rfl rfl) ?_
 refine .gv 78 rfl rfl (Y.fieldAddr fl39_0 rfl rfl) ?_
 refine .gv 78 rfl rfl (Y.load sh3 rfl rfl rfl rfl) ?_
 refine .gv 78 rfl rfl (Y.neq rfl rfl) ?_
 refine .vl (Y.pick rfl rfl rfl) ?_
 refine .vl (Y.move rfl rfl) ?_
 refine .gv 83 rfl rfl (Y.fieldAddr fl39_0 rfl rfl) ?_
 refine .gv 83 rfl rfl (Y.load sh3 rfl rfl rfl rfl) ?_
 refine .gv 83 rfl rfl (Y.neq rfl rfl) ?_
 refine .vl (Y.pick rfl rfl rfl) ?_
 refine .vl (Y.move rfl rfl) ?_
 refine .gv 88 rfl rfl (Y.fieldAddr fl39_0 rfl rfl) ?_
 refine .gv 88 rfl rfl (Y.load sh3 rfl rfl rfl rfl) ?_
 refine .gv 88 rfl rfl (Y.neq rfl rfl) ?_
 refine .vl (Y.pick rfl rfl rfl) ?_
 refine .vl (Y.move rfl rfl) ?_
 refine .gv 93 rfl rfl (Y.fieldAddr fl39_4 rfl rfl) ?_
 refine .gv 93 rfl rfl (Y.load sh37 rfl rfl rfl rfl) ?_
 refine .gv 93 rfl rfl (Y.neq rfl rfl) ?_
 refine .vl (Y.pick rfl rfl rfl) ?_
 refine AOps.nil ?_
 refine AWp.condD rfl (fun c97 => ?_) (fun c97 => ?_)
 refine AWp.sr ?_
 refine .vl (Y.assign rfl rfl) ?_
 refine AOps.nil ?_
 refine AWp.ret ?_
 exact ⟨_, _, rfl, rfl, (cg1 (fun (z0 : Bool) => X.v (.bool z0)) (df (by (try unfold Seq at *); (try unfold In at *); (simp only [Shaped, Int.reduceEq, Bool.not_eq_true, false_and, true_and, and_true, and_false, or_false, false_or, ne_eq]) <;> (first | omega | grind)) : false = decide (Shaped n ⟨6, op, out, args, num, mem⟩)) : X.v (.bool false) = X.v (.bool (decide (Shaped n ⟨6, op, out, args, num, mem⟩)))), rfl⟩
 refine AWp.skip ?_
 refine AWp.seq ?_
 refine AWp.sr ?_
 refine .vl (Y.fieldAddr fl39_0 rfl rfl) ?_
 refine .vl (Y.load sh3 rfl rfl rfl rfl) ?_
 refine AOps.nil ?_
 refine AWp.block ?_
 refine AWp.seq ?_
 refine AWp.sr ?_
 refine .vl (Y.eql rfl rfl) ?_
 refine .vl (Y.assign rfl rfl) ?_
 refine AOps.nil ?_
 refine AWp.condF rfl ?_
 refine AWp.region ?_
 refine .vl (Y.eql rfl rfl) ?_
 refine .vl (Y.assign rfl rfl) ?_
 refine AOps.nil ?_
 refine AWp.condF rfl ?_
 refine AWp.sr ?_
 refine .vl (Y.eql rfl rfl) ?_
 refine .vl (Y.assign rfl rfl) ?_
 refine AOps.nil ?_
 refine AWp.condF rfl ?_
 refine AWp.sr ?_
 refine .vl (Y.eql rfl rfl) ?_
 refine .vl (Y.assign rfl rfl) ?_
 refine AOps.nil ?_
 refine AWp.condF rfl ?_
 refine AWp.seq ?_
 refine AWp.sr ?_
 refine .vl (Y.eql rfl rfl) ?_
 refine .vl (Y.assign rfl rfl) ?_
 refine AOps.nil ?_
 refine AWp.condF rfl ?_
 refine AWp.region ?_
 refine .vl (Y.eql rfl rfl) ?_
 refine .vl (Y.assign rfl rfl) ?_
 refine AOps.nil ?_
 refine AWp.condT rfl ?_
 refine AWp.sr ?_
 refine .vl (Y.move rfl rfl) ?_
 refine .vl (Y.eql rfl rfl) ?_
 refine .vl (Y.assign rfl rfl) ?_
 refine AOps.nil ?_
 refine AWp.ret ?_
 exact ⟨_, _, rfl, rfl, (cg1 (fun (z0 : Bool) => X.v (.bool z0)) (dd (by (try unfold Seq at *); (try unfold In at *); (simp only [Shaped, Int.reduceEq, Bool.not_eq_true, false_and, true_and, and_true, and_false, or_false, false_or, ne_eq]) <;> (first | omega | grind)) : (decide (((args.length : Nat) : Int) = 2)) = decide (Shaped n ⟨6, op, out, args, num, mem⟩)) : X.v (.bool (decide (((args.length : Nat) : Int) = 2))) = X.v (.bool (decide (Shaped n ⟨6, op, out, args, num, mem⟩)))), rfl⟩

set_option maxRecDepth 4000 in
set_option maxHeartbeats 1000000 in
theorem cell_k7 {n : Netlist} {op out mem : Int} {args : List Int} {num : Nat} (hs : n.Small) (hc : args.length ≤ 17592186043904) : ACalls Try.prog 88 [.agg (Netlist.row n), .agg [.v (.int .i64 7), .v (.int .i64 op), .v (.int .i64 out), .fz 1 (args.map irow), .v (.int .u64 ((num : Nat) : Int)), .v (.int .i64 mem)]] [] [] (fun r o => r = .v (.bool (decide (Shaped n ⟨7, op, out, args, num, mem⟩))) ∧ o = []) := by
 refine ACalls.of Try.func88 rfl rfl rfl (n := 207) (by decide) (Nat.le_of_ble_eq_true rfl) ?_
 have hs4 := hs.ins; have hs5 := hs.mems; have hs6 := hs.streams
 refine AWp.sr ?_
 refine AOps.box 102 rfl rfl rfl rfl rfl (by decide) ?_
 refine AOps.box 103 rfl rfl rfl rfl rfl (by decide) ?_
 refine .vl (Y.assign rfl rfl) ?_
 refine AOps.nil ?_
 refine AWp.sr ?_
 refine .vl (Y.fieldAddr fl39_3 rfl rfl) ?_
 refine .vl (Y.load sh22 rfl rfl rfl rfl) ?_
 refine .vl (Y.len (n := args.length) sl22 rfl (congrArg some (List.length_map ..))) ?_
 refine .vl (Y.assign rfl rfl) ?_
 refine AOps.nil ?_
 refine AWp.seq ?_
 refine AWp.sr ?_
 refine .vl (Y.fieldAddr fl39_0 rfl rfl) ?_
 refine .vl (Y.load sh3 rfl rfl rfl rfl) ?_
 refine .vl (Y.neq rfl rfl) ?_
 refine .vl (Y.move rfl rfl) ?_
 refine .gv 14 rfl rfl (Y.fieldAddr fl39_0 rfl rfl) ?_
 refine .gv 14 rfl rfl (Y.load sh3 rfl rfl rfl rfl) ?_
 refine .gv 14 rfl rfl (Y.neq rfl rfl) ?_
 refine .vl (Y.pick rfl rfl rfl) ?_
 refine .vl (Y.move rfl rfl) ?_
 refine .gv 19 rfl rfl (Y.fieldAddr fl39_1 rfl rfl) ?_
 refine .gv 19 rfl rfl (Y.load sh3 rfl rfl rfl rfl) ?_
 refine .gv 19 rfl rfl (Y.neq rfl rfl) ?_
 refine .vl (Y.pick rfl rfl rfl) ?_
 refine AOps.nil ?_
 refine AWp.condD rfl (fun c23 => ?_) (fun c23 => ?_)
 refine AWp.sr ?_
 refine .vl (Y.assign rfl rfl) ?_
 refine AOps.nil ?_
 refine AWp.ret ?_
 exact ⟨_, _, rfl, rfl, (cg1 (fun (z0 : Bool) => X.v (.bool z0)) (df (by (try unfold Seq at *); (try unfold In at *); (simp only [Shaped, Int.reduceEq, Bool.not_eq_true, false_and, true_and, and_true, and_false, or_false, false_or, ne_eq]) <;> (first | omega | grind)) : false = decide (Shaped n ⟨7, op, out, args, num, mem⟩)) : X.v (.bool false) = X.v (.bool (decide (Shaped n ⟨7, op, out, args, num, mem⟩)))), rfl⟩
 refine AWp.skip ?_
 refine AWp.sr ?_
 refine .vl (Y.fieldAddr fl39_0 rfl rfl) ?_
 refine .vl (Y.load sh3 rfl rfl rfl rfl) ?_
 refine .vl (Y.eql rfl rfl) ?_
 refine .vl (Y.move rfl rfl) ?_
 refine .gv 27 rfl rfl (Y.fieldAddr fl39_0 rfl rfl) ?_
 refine .gv 27 rfl rfl (Y.load sh3 rfl rfl rfl rfl) ?_
 refine .gv 27 rfl rfl (Y.eql rfl rfl) ?_
 refine .vl (Y.pick rfl rfl rfl) ?_
 refine .vl (Y.assign rfl rfl) ?_
 refine AOps.nil ?_
 refine AWp.sr ?_
 refine .vl (Y.fieldAddr fl39_0 rfl rfl) ?_
 refine .vl (Y.load sh3 rfl rfl rfl rfl) ?_
 refine .vl (Y.eql rfl rfl) ?_
 refine .vl (Y.move rfl rfl) ?_
 refine .gv 35 rfl rfl (Y.fieldAddr fl39_0 rfl rfl) ?_
 refine .gv 35 rfl rfl (Y.load sh3 rfl rfl rfl rfl) ?_
 refine .gv 35 rfl rfl (Y.eql rfl rfl) ?_
 refine .vl (Y.pick rfl rfl rfl) ?_
 refine .vl (Y.assign rfl rfl) ?_
 refine AOps.nil ?_
 refine AWp.seq ?_
 refine AWp.sr ?_
 refine .vl (Y.move rfl rfl) ?_
 refine .vl (Y.not rfl) ?_
 refine .vl (Y.move rfl rfl) ?_
 refine .gs 42 rfl rfl rfl ?_
 refine .gs 42 rfl rfl rfl ?_
 refine .vl (Y.pick rfl rfl rfl) ?_
 refine .vl (Y.move rfl rfl) ?_
 refine .gs 46 rfl rfl rfl ?_
 refine .gs 46 rfl rfl rfl ?_
 refine .gs 46 rfl rfl rfl ?_
 refine .vl (Y.pick rfl rfl rfl) ?_
 refine .vl (Y.move rfl rfl) ?_
 refine .gv 51 rfl rfl (Y.move rfl rfl) ?_
 refine .gv 51 rfl rfl (Y.move rfl rfl) ?_
 refine .gv 53 rfl rfl (Y.fieldAddr fl39_5 rfl rfl) ?_
 refine .gv 53 rfl rfl (Y.load sh3 rfl rfl rfl rfl) ?_
 refine .gv 53 rfl rfl (Y.fieldAddr fl27_4 rfl rfl) ?_
 refine .gv 53 rfl rfl (Y.load sh24 rfl rfl rfl rfl) ?_
 refine .gv 53 rfl rfl (Y.len (n := n.mems.length) sl24 rfl (congrArg some (List.length_map ..))) ?_
 refine AOps.guardRun (d := 53) rfl (by decide) rfl ?_
 refine AOps.callP ok59 (within_spec (i := mem) (n := ((n.mems.length : Nat) : Int))) rfl (.keep rfl rfl (.keep rfl rfl .nil)) (by decide) rfl ?_
 refine .gv 53 rfl rfl (Y.not rfl) ?_
 refine .gv 51 rfl rfl (Y.pick rfl rfl rfl) ?_
 refine .vl (Y.pick rfl rfl rfl) ?_
 refine .vl (Y.move rfl rfl) ?_
 refine AOps.split (d := 63) rfl (fun c63 => ?_) (fun c63 => ?_)
 replace c63 : ¬ (In mem ((n.mems.length : Nat) : Int)) := by simpa using c63
 refine .gs 63 rfl rfl rfl ?_
 refine .gs 63 rfl rfl rfl ?_
 refine .gs 65 rfl rfl rfl ?_
 refine .gs 65 rfl rfl rfl ?_
 refine .gs 65 rfl rfl rfl ?_
 refine .gs 65 rfl rfl rfl ?_
 refine .gs 65 rfl rfl rfl ?_
 refine .gs 65 rfl rfl rfl ?_
 refine .gs 65 rfl rfl rfl ?_
 refine .gs 63 rfl rfl rfl ?_
 refine .vl (Y.pick rfl rfl rfl) ?_
 refine AOps.nil ?_
 refine AWp.condT rfl ?_
 refine AWp.sr ?_
 refine .vl (Y.assign rfl rfl) ?_
 refine AOps.nil ?_
 refine AWp.ret ?_
 exact ⟨_, _, rfl, rfl, (cg1 (fun (z0 : Bool) => X.v (.bool z0)) (df (by (try unfold Seq at *); (try unfold In at *); (simp only [Shaped, Int.reduceEq, Bool.not_eq_true, false_and, true_and, and_true, and_false, or_false, false_or, ne_eq]) <;> (first | omega | grind)) : false = decide (Shaped n ⟨7, op, out, args, num, mem⟩)) : X.v (.bool false) = X.v (.bool (decide (Shaped n ⟨7, op, out, args, num, mem⟩)))), rfl⟩
 replace c63 : In mem ((n.mems.length : Nat) : Int) := by simpa using c63
 refine .gv 63 rfl rfl (Y.move rfl rfl) ?_
 refine .gv 63 rfl rfl (Y.move rfl rfl) ?_
 refine .gs 65 rfl rfl rfl ?_
 refine .gs 65 rfl rfl rfl ?_
 refine .gs 65 rfl rfl rfl ?_
 refine .gs 65 rfl rfl rfl ?_
 refine .gs 65 rfl rfl rfl ?_
 refine .gs 65 rfl rfl rfl ?_
 refine .gs 65 rfl rfl rfl ?_
 refine .gv 63 rfl rfl (Y.pick rfl rfl rfl) ?_
 refine .vl (Y.pick rfl rfl rfl) ?_
 refine AOps.nil ?_
 refine AWp.condF rfl ?_
 refine AWp.skip ?_
 refine AWp.seq ?_
 refine AWp.sr ?_
 refine .vl (Y.fieldAddr fl39_0 rfl rfl) ?_
 refine .vl (Y.load sh3 rfl rfl rfl rfl) ?_
 refine .vl (Y.neq rfl rfl) ?_
 refine .vl (Y.move rfl rfl) ?_
 refine .gv 78 rfl rfl (Y.fieldAddr fl39_0 rfl rfl) ?_
 refine .gv 78 rfl rfl (Y.load sh3 rfl rfl rfl rfl) ?_
 refine .gv 78 rfl rfl (Y.neq rfl rfl) ?_
 refine .vl (Y.pick rfl rfl rfl) ?_
 refine .vl (Y.move rfl rfl) ?_
 refine .gv 83 rfl rfl (Y.fieldAddr fl39_0 rfl rfl) ?_
 refine .gv 83 rfl rfl (Y.load sh3 rfl rfl rfl rfl) ?_
 refine .gv 83 rfl rfl (Y.neq rfl rfl) ?_
 refine .vl (Y.pick rfl rfl rfl) ?_
 refine .vl (Y.move rfl rfl) ?_
 refine .gv 88 rfl rfl (Y.fieldAddr fl39_0 rfl rfl) ?_
 refine .gv 88 rfl rfl (Y.load sh3 rfl rfl rfl rfl) ?_
 refine .gv 88 rfl rfl (Y.neq rfl rfl) ?_
 refine .vl (Y.pick rfl rfl rfl) ?_
 refine .vl (Y.move rfl rfl) ?_
 refine .gv 93 rfl rfl (Y.fieldAddr fl39_4 rfl rfl) ?_
 refine .gv 93 rfl rfl (Y.load sh37 rfl rfl rfl rfl) ?_
 refine .gv 93 rfl rfl (Y.neq rfl rfl) ?_
 refine .vl (Y.pick rfl rfl rfl) ?_
 refine AOps.nil ?_
 refine AWp.condD rfl (fun c97 => ?_) (fun c97 => ?_)
 refine AWp.sr ?_
 refine .vl (Y.assign rfl rfl) ?_
 refine AOps.nil ?_
 refine AWp.ret ?_
 exact ⟨_, _, rfl, rfl, (cg1 (fun (z0 : Bool) => X.v (.bool z0)) (df (by (try unfold Seq at *); (try unfold In at *); (simp only [Shaped, Int.reduceEq, Bool.not_eq_true, false_and, true_and, and_true, and_false, or_false, false_or, ne_eq]) <;> (first | omega | grind)) : false = decide (Shaped n ⟨7, op, out, args, num, mem⟩)) : X.v (.bool false) = X.v (.bool (decide (Shaped n ⟨7, op, out, args, num, mem⟩)))), rfl⟩
 refine AWp.skip ?_
 refine AWp.seq ?_
 refine AWp.sr ?_
 refine .vl (Y.fieldAddr fl39_0 rfl rfl) ?_
 refine .vl (Y.load sh3 rfl rfl rfl rfl) ?_
 refine AOps.nil ?_
 refine AWp.block ?_
 refine AWp.seq ?_
 refine AWp.sr ?_
 refine .vl (Y.eql rfl rfl) ?_
 refine .vl (Y.assign rfl rfl) ?_
 refine AOps.nil ?_
 refine AWp.condF rfl ?_
 refine AWp.region ?_
 refine .vl (Y.eql rfl rfl) ?_
 refine .vl (Y.assign rfl rfl) ?_
 refine AOps.nil ?_
 refine AWp.condF rfl ?_
 refine AWp.sr ?_
 refine .vl (Y.eql rfl rfl) ?_
 refine .vl (Y.assign rfl rfl) ?_
 refine AOps.nil ?_
 refine AWp.condF rfl ?_
 refine AWp.sr ?_
 refine .vl (Y.eql rfl rfl) ?_
 refine .vl (Y.assign rfl rfl) ?_
 refine AOps.nil ?_
 refine AWp.condF rfl ?_
 refine AWp.seq ?_
 refine AWp.sr ?_
 refine .vl (Y.eql rfl rfl) ?_
 refine .vl (Y.assign rfl rfl) ?_
 refine AOps.nil ?_
 refine AWp.condF rfl ?_
 refine AWp.region ?_
 refine .vl (Y.eql rfl rfl) ?_
 refine .vl (Y.assign rfl rfl) ?_
 refine AOps.nil ?_
 refine AWp.condF rfl ?_
 refine AWp.sr ?_
 refine .vl (Y.eql rfl rfl) ?_
 refine .vl (Y.assign rfl rfl) ?_
 refine AOps.nil ?_
 refine AWp.condF rfl ?_
 refine AWp.sr ?_
 refine .vl (Y.eql rfl rfl) ?_
 refine .vl (Y.assign rfl rfl) ?_
 refine AOps.nil ?_
 refine AWp.condT rfl ?_
 refine AWp.sr ?_
 refine .vl (Y.move rfl rfl) ?_
 refine .vl (Y.eql rfl rfl) ?_
 refine .vl (Y.assign rfl rfl) ?_
 refine AOps.nil ?_
 refine AWp.ret ?_
 exact ⟨_, _, rfl, rfl, (cg1 (fun (z0 : Bool) => X.v (.bool z0)) (dd (by (try unfold Seq at *); (try unfold In at *); (simp only [Shaped, Int.reduceEq, Bool.not_eq_true, false_and, true_and, and_true, and_false, or_false, false_or, ne_eq]) <;> (first | omega | grind)) : (decide (((args.length : Nat) : Int) = 3)) = decide (Shaped n ⟨7, op, out, args, num, mem⟩)) : X.v (.bool (decide (((args.length : Nat) : Int) = 3))) = X.v (.bool (decide (Shaped n ⟨7, op, out, args, num, mem⟩)))), rfl⟩

set_option maxRecDepth 4000 in
set_option maxHeartbeats 1000000 in
theorem cell_k8 {n : Netlist} {op out mem : Int} {args : List Int} {num : Nat} (hs : n.Small) (hc : args.length ≤ 17592186043904) : ACalls Try.prog 88 [.agg (Netlist.row n), .agg [.v (.int .i64 8), .v (.int .i64 op), .v (.int .i64 out), .fz 1 (args.map irow), .v (.int .u64 ((num : Nat) : Int)), .v (.int .i64 mem)]] [] [] (fun r o => r = .v (.bool (decide (Shaped n ⟨8, op, out, args, num, mem⟩))) ∧ o = []) := by
 refine ACalls.of Try.func88 rfl rfl rfl (n := 207) (by decide) (Nat.le_of_ble_eq_true rfl) ?_
 have hs4 := hs.ins; have hs5 := hs.mems; have hs6 := hs.streams
 refine AWp.sr ?_
 refine AOps.box 102 rfl rfl rfl rfl rfl (by decide) ?_
 refine AOps.box 103 rfl rfl rfl rfl rfl (by decide) ?_
 refine .vl (Y.assign rfl rfl) ?_
 refine AOps.nil ?_
 refine AWp.sr ?_
 refine .vl (Y.fieldAddr fl39_3 rfl rfl) ?_
 refine .vl (Y.load sh22 rfl rfl rfl rfl) ?_
 refine .vl (Y.len (n := args.length) sl22 rfl (congrArg some (List.length_map ..))) ?_
 refine .vl (Y.assign rfl rfl) ?_
 refine AOps.nil ?_
 refine AWp.seq ?_
 refine AWp.sr ?_
 refine .vl (Y.fieldAddr fl39_0 rfl rfl) ?_
 refine .vl (Y.load sh3 rfl rfl rfl rfl) ?_
 refine .vl (Y.neq rfl rfl) ?_
 refine .vl (Y.move rfl rfl) ?_
 refine .gv 14 rfl rfl (Y.fieldAddr fl39_0 rfl rfl) ?_
 refine .gv 14 rfl rfl (Y.load sh3 rfl rfl rfl rfl) ?_
 refine .gv 14 rfl rfl (Y.neq rfl rfl) ?_
 refine .vl (Y.pick rfl rfl rfl) ?_
 refine .vl (Y.move rfl rfl) ?_
 refine .gv 19 rfl rfl (Y.fieldAddr fl39_1 rfl rfl) ?_
 refine .gv 19 rfl rfl (Y.load sh3 rfl rfl rfl rfl) ?_
 refine .gv 19 rfl rfl (Y.neq rfl rfl) ?_
 refine .vl (Y.pick rfl rfl rfl) ?_
 refine AOps.nil ?_
 refine AWp.condD rfl (fun c23 => ?_) (fun c23 => ?_)
 refine AWp.sr ?_
 refine .vl (Y.assign rfl rfl) ?_
 refine AOps.nil ?_
 refine AWp.ret ?_
 exact ⟨_, _, rfl, rfl, (cg1 (fun (z0 : Bool) => X.v (.bool z0)) (df (by (try unfold Seq at *); (try unfold In at *); (simp only [Shaped, Int.reduceEq, Bool.not_eq_true, false_and, true_and, and_true, and_false, or_false, false_or, ne_eq]) <;> (first | omega | grind)) : false = decide (Shaped n ⟨8, op, out, args, num, mem⟩)) : X.v (.bool false) = X.v (.bool (decide (Shaped n ⟨8, op, out, args, num, mem⟩)))), rfl⟩
 refine AWp.skip ?_
 refine AWp.sr ?_
 refine .vl (Y.fieldAddr fl39_0 rfl rfl) ?_
 refine .vl (Y.load sh3 rfl rfl rfl rfl) ?_
 refine .vl (Y.eql rfl rfl) ?_
 refine .vl (Y.move rfl rfl) ?_
 refine .gv 27 rfl rfl (Y.fieldAddr fl39_0 rfl rfl) ?_
 refine .gv 27 rfl rfl (Y.load sh3 rfl rfl rfl rfl) ?_
 refine .gv 27 rfl rfl (Y.eql rfl rfl) ?_
 refine .vl (Y.pick rfl rfl rfl) ?_
 refine .vl (Y.assign rfl rfl) ?_
 refine AOps.nil ?_
 refine AWp.sr ?_
 refine .vl (Y.fieldAddr fl39_0 rfl rfl) ?_
 refine .vl (Y.load sh3 rfl rfl rfl rfl) ?_
 refine .vl (Y.eql rfl rfl) ?_
 refine .vl (Y.move rfl rfl) ?_
 refine .gv 35 rfl rfl (Y.fieldAddr fl39_0 rfl rfl) ?_
 refine .gv 35 rfl rfl (Y.load sh3 rfl rfl rfl rfl) ?_
 refine .gv 35 rfl rfl (Y.eql rfl rfl) ?_
 refine .vl (Y.pick rfl rfl rfl) ?_
 refine .vl (Y.assign rfl rfl) ?_
 refine AOps.nil ?_
 refine AWp.seq ?_
 refine AWp.sr ?_
 refine .vl (Y.move rfl rfl) ?_
 refine .vl (Y.not rfl) ?_
 refine .vl (Y.move rfl rfl) ?_
 refine .gv 42 rfl rfl (Y.move rfl rfl) ?_
 refine .gv 42 rfl rfl (Y.not rfl) ?_
 refine .vl (Y.pick rfl rfl rfl) ?_
 refine .vl (Y.move rfl rfl) ?_
 refine .gv 46 rfl rfl (Y.fieldAddr fl39_5 rfl rfl) ?_
 refine .gv 46 rfl rfl (Y.load sh3 rfl rfl rfl rfl) ?_
 refine .gv 46 rfl rfl (Y.neq rfl rfl) ?_
 refine .vl (Y.pick rfl rfl rfl) ?_
 refine .vl (Y.move rfl rfl) ?_
 refine AOps.splitD (d := 51) rfl (fun c51 => ?_) (fun c51 => ?_)
 refine .gs 51 rfl rfl rfl ?_
 refine .gs 51 rfl rfl rfl ?_
 refine .gs 53 rfl rfl rfl ?_
 refine .gs 53 rfl rfl rfl ?_
 refine .gs 53 rfl rfl rfl ?_
 refine .gs 53 rfl rfl rfl ?_
 refine .gs 53 rfl rfl rfl ?_
 refine .gs 53 rfl rfl rfl ?_
 refine .gs 53 rfl rfl rfl ?_
 refine .gs 51 rfl rfl rfl ?_
 refine .vl (Y.pick rfl rfl rfl) ?_
 refine .vl (Y.move rfl rfl) ?_
 refine .gs 63 rfl rfl rfl ?_
 refine .gs 63 rfl rfl rfl ?_
 refine .gs 65 rfl rfl rfl ?_
 refine .gs 65 rfl rfl rfl ?_
 refine .gs 65 rfl rfl rfl ?_
 refine .gs 65 rfl rfl rfl ?_
 refine .gs 65 rfl rfl rfl ?_
 refine .gs 65 rfl rfl rfl ?_
 refine .gs 65 rfl rfl rfl ?_
 refine .gs 63 rfl rfl rfl ?_
 refine .vl (Y.pick rfl rfl rfl) ?_
 refine AOps.nil ?_
 refine AWp.condT rfl ?_
 refine AWp.sr ?_
 refine .vl (Y.assign rfl rfl) ?_
 refine AOps.nil ?_
 refine AWp.ret ?_
 exact ⟨_, _, rfl, rfl, (cg1 (fun (z0 : Bool) => X.v (.bool z0)) (df (by (try unfold Seq at *); (try unfold In at *); (simp only [Shaped, Int.reduceEq, Bool.not_eq_true, false_and, true_and, and_true, and_false, or_false, false_or, ne_eq]) <;> (first | omega | grind)) : false = decide (Shaped n ⟨8, op, out, args, num, mem⟩)) : X.v (.bool false) = X.v (.bool (decide (Shaped n ⟨8, op, out, args, num, mem⟩)))), rfl⟩
 refine .gv 51 rfl rfl (Y.move rfl rfl) ?_
 refine .gv 51 rfl rfl (Y.move rfl rfl) ?_
 refine .gs 53 rfl rfl rfl ?_
 refine .gs 53 rfl rfl rfl ?_
 refine .gs 53 rfl rfl rfl ?_
 refine .gs 53 rfl rfl rfl ?_
 refine .gs 53 rfl rfl rfl ?_
 refine .gs 53 rfl rfl rfl ?_
 refine .gs 53 rfl rfl rfl ?_
 refine .gv 51 rfl rfl (Y.pick rfl rfl rfl) ?_
 refine .vl (Y.pick rfl rfl rfl) ?_
 refine .vl (Y.move rfl rfl) ?_
 refine .gv 63 rfl rfl (Y.move rfl rfl) ?_
 refine .gv 63 rfl rfl (Y.move rfl rfl) ?_
 refine .gs 65 rfl rfl rfl ?_
 refine .gs 65 rfl rfl rfl ?_
 refine .gs 65 rfl rfl rfl ?_
 refine .gs 65 rfl rfl rfl ?_
 refine .gs 65 rfl rfl rfl ?_
 refine .gs 65 rfl rfl rfl ?_
 refine .gs 65 rfl rfl rfl ?_
 refine .gv 63 rfl rfl (Y.pick rfl rfl rfl) ?_
 refine .vl (Y.pick rfl rfl rfl) ?_
 refine AOps.nil ?_
 refine AWp.condF rfl ?_
 refine AWp.skip ?_
 refine AWp.seq ?_
 refine AWp.sr ?_
 refine .vl (Y.fieldAddr fl39_0 rfl rfl) ?_
 refine .vl (Y.load sh3 rfl rfl rfl rfl) ?_
 refine .vl (Y.neq rfl rfl) ?_
 refine .vl (Y.move rfl rfl) ?_
 refine .gv 78 rfl rfl (Y.fieldAddr fl39_0 rfl rfl) ?_
 refine .gv 78 rfl rfl (Y.load sh3 rfl rfl rfl rfl) ?_
 refine .gv 78 rfl rfl (Y.neq rfl rfl) ?_
 refine .vl (Y.pick rfl rfl rfl) ?_
 refine .vl (Y.move rfl rfl) ?_
 refine .gv 83 rfl rfl (Y.fieldAddr fl39_0 rfl rfl) ?_
 refine .gv 83 rfl rfl (Y.load sh3 rfl rfl rfl rfl) ?_
 refine .gv 83 rfl rfl (Y.neq rfl rfl) ?_
 refine .vl (Y.pick rfl rfl rfl) ?_
 refine .vl (Y.move rfl rfl) ?_
 refine .gv 88 rfl rfl (Y.fieldAddr fl39_0 rfl rfl) ?_
 refine .gv 88 rfl rfl (Y.load sh3 rfl rfl rfl rfl) ?_
 refine .gv 88 rfl rfl (Y.neq rfl rfl) ?_
 refine .vl (Y.pick rfl rfl rfl) ?_
 refine .vl (Y.move rfl rfl) ?_
 refine .gs 93 rfl rfl rfl ?_
 refine .gs 93 rfl rfl rfl ?_
 refine .gs 93 rfl rfl rfl ?_
 refine .vl (Y.pick rfl rfl rfl) ?_
 refine AOps.nil ?_
 refine AWp.condF rfl ?_
 refine AWp.skip ?_
 refine AWp.seq ?_
 refine AWp.sr ?_
 refine .vl (Y.fieldAddr fl39_0 rfl rfl) ?_
 refine .vl (Y.load sh3 rfl rfl rfl rfl) ?_
 refine AOps.nil ?_
 refine AWp.block ?_
 refine AWp.seq ?_
 refine AWp.sr ?_
 refine .vl (Y.eql rfl rfl) ?_
 refine .vl (Y.assign rfl rfl) ?_
 refine AOps.nil ?_
 refine AWp.condF rfl ?_
 refine AWp.region ?_
 refine .vl (Y.eql rfl rfl) ?_
 refine .vl (Y.assign rfl rfl) ?_
 refine AOps.nil ?_
 refine AWp.condF rfl ?_
 refine AWp.sr ?_
 refine .vl (Y.eql rfl rfl) ?_
 refine .vl (Y.assign rfl rfl) ?_
 refine AOps.nil ?_
 refine AWp.condF rfl ?_
 refine AWp.sr ?_
 refine .vl (Y.eql rfl rfl) ?_
 refine .vl (Y.assign rfl rfl) ?_
 refine AOps.nil ?_
 refine AWp.condF rfl ?_
 refine AWp.seq ?_
 refine AWp.sr ?_
 refine .vl (Y.eql rfl rfl) ?_
 refine .vl (Y.assign rfl rfl) ?_
 refine AOps.nil ?_
 refine AWp.condF rfl ?_
 refine AWp.region ?_
 refine .vl (Y.eql rfl rfl) ?_
 refine .vl (Y.assign rfl rfl) ?_
 refine AOps.nil ?_
 refine AWp.condF rfl ?_
 refine AWp.sr ?_
 refine .vl (Y.eql rfl rfl) ?_
 refine .vl (Y.assign rfl rfl) ?_
 refine AOps.nil ?_
 refine AWp.condF rfl ?_
 refine AWp.sr ?_
 refine .vl (Y.eql rfl rfl) ?_
 refine .vl (Y.assign rfl rfl) ?_
 refine AOps.nil ?_
 refine AWp.condF rfl ?_
 refine AWp.sr ?_
 refine .vl (Y.eql rfl rfl) ?_
 refine .vl (Y.assign rfl rfl) ?_
 refine AOps.nil ?_
 refine AWp.condT rfl ?_
 refine AWp.sr ?_
 refine .vl (Y.move rfl rfl) ?_
 refine .vl (Y.eql rfl rfl) ?_
 refine .vl (Y.move rfl rfl) ?_
 refine AOps.splitD (d := 184) rfl (fun c184 => ?_) (fun c184 => ?_)
 refine .gv 184 rfl rfl (Y.fieldAddr fl39_4 rfl rfl) ?_
 refine .gv 184 rfl rfl (Y.load sh37 rfl rfl rfl rfl) ?_
 refine .gv 184 rfl rfl (Y.fieldAddr fl27_3 rfl rfl) ?_
 refine .gv 184 rfl rfl (Y.load sh22 rfl rfl rfl rfl) ?_
 refine .gv 184 rfl rfl (Y.len (n := n.ins.length) sl22 rfl (congrArg some (List.length_map ..))) ?_
 refine .gv 184 rfl rfl (Y.convK ii3 ii37 rfl (by first | rfl | exact IntWalk.u64_in _ (by first | omega | (simp [-List.getD_eq_getElem?_getD]; done) | (simp [-List.getD_eq_getElem?_getD]; omega) | (unfold In at *; omega)))) ?_
 refine .gv 184 rfl rfl (Y.lss rfl rfl) ?_
 refine .vl (Y.pick rfl rfl rfl) ?_
 refine .vl (Y.assign rfl rfl) ?_
 refine AOps.nil ?_
 refine AWp.ret ?_
 exact ⟨_, _, rfl, rfl, (cg1 (fun (z0 : Bool) => X.v (.bool z0)) (dd (by (try unfold Seq at *); (try unfold In at *); (simp only [Shaped, Int.reduceEq, Bool.not_eq_true, false_and, true_and, and_true, and_false, or_false, false_or, ne_eq]) <;> (first | omega | grind)) : (decide (((num : Nat) : Int) < ((n.ins.length : Nat) : Int))) = decide (Shaped n ⟨8, op, out, args, num, mem⟩)) : X.v (.bool (decide (((num : Nat) : Int) < ((n.ins.length : Nat) : Int)))) = X.v (.bool (decide (Shaped n ⟨8, op, out, args, num, mem⟩)))), rfl⟩
 refine .gs 184 rfl rfl rfl ?_
 refine .gs 184 rfl rfl rfl ?_
 refine .gs 184 rfl rfl rfl ?_
 refine .gs 184 rfl rfl rfl ?_
 refine .gs 184 rfl rfl rfl ?_
 refine .gs 184 rfl rfl rfl ?_
 refine .gs 184 rfl rfl rfl ?_
 refine .vl (Y.pick rfl rfl rfl) ?_
 refine .vl (Y.assign rfl rfl) ?_
 refine AOps.nil ?_
 refine AWp.ret ?_
 exact ⟨_, _, rfl, rfl, (cg1 (fun (z0 : Bool) => X.v (.bool z0)) (df (by (try unfold Seq at *); (try unfold In at *); (simp only [Shaped, Int.reduceEq, Bool.not_eq_true, false_and, true_and, and_true, and_false, or_false, false_or, ne_eq]) <;> (first | omega | grind)) : false = decide (Shaped n ⟨8, op, out, args, num, mem⟩)) : X.v (.bool false) = X.v (.bool (decide (Shaped n ⟨8, op, out, args, num, mem⟩)))), rfl⟩

set_option maxRecDepth 4000 in
set_option maxHeartbeats 1000000 in
theorem cell_k9 {n : Netlist} {op out mem : Int} {args : List Int} {num : Nat} (hs : n.Small) (hc : args.length ≤ 17592186043904) : ACalls Try.prog 88 [.agg (Netlist.row n), .agg [.v (.int .i64 9), .v (.int .i64 op), .v (.int .i64 out), .fz 1 (args.map irow), .v (.int .u64 ((num : Nat) : Int)), .v (.int .i64 mem)]] [] [] (fun r o => r = .v (.bool (decide (Shaped n ⟨9, op, out, args, num, mem⟩))) ∧ o = []) := by
 refine ACalls.of Try.func88 rfl rfl rfl (n := 207) (by decide) (Nat.le_of_ble_eq_true rfl) ?_
 have hs4 := hs.ins; have hs5 := hs.mems; have hs6 := hs.streams
 refine AWp.sr ?_
 refine AOps.box 102 rfl rfl rfl rfl rfl (by decide) ?_
 refine AOps.box 103 rfl rfl rfl rfl rfl (by decide) ?_
 refine .vl (Y.assign rfl rfl) ?_
 refine AOps.nil ?_
 refine AWp.sr ?_
 refine .vl (Y.fieldAddr fl39_3 rfl rfl) ?_
 refine .vl (Y.load sh22 rfl rfl rfl rfl) ?_
 refine .vl (Y.len (n := args.length) sl22 rfl (congrArg some (List.length_map ..))) ?_
 refine .vl (Y.assign rfl rfl) ?_
 refine AOps.nil ?_
 refine AWp.seq ?_
 refine AWp.sr ?_
 refine .vl (Y.fieldAddr fl39_0 rfl rfl) ?_
 refine .vl (Y.load sh3 rfl rfl rfl rfl) ?_
 refine .vl (Y.neq rfl rfl) ?_
 refine .vl (Y.move rfl rfl) ?_
 refine .gv 14 rfl rfl (Y.fieldAddr fl39_0 rfl rfl) ?_
 refine .gv 14 rfl rfl (Y.load sh3 rfl rfl rfl rfl) ?_
 refine .gv 14 rfl rfl (Y.neq rfl rfl) ?_
 refine .vl (Y.pick rfl rfl rfl) ?_
 refine .vl (Y.move rfl rfl) ?_
 refine .gv 19 rfl rfl (Y.fieldAddr fl39_1 rfl rfl) ?_
 refine .gv 19 rfl rfl (Y.load sh3 rfl rfl rfl rfl) ?_
 refine .gv 19 rfl rfl (Y.neq rfl rfl) ?_
 refine .vl (Y.pick rfl rfl rfl) ?_
 refine AOps.nil ?_
 refine AWp.condD rfl (fun c23 => ?_) (fun c23 => ?_)
 refine AWp.sr ?_
 refine .vl (Y.assign rfl rfl) ?_
 refine AOps.nil ?_
 refine AWp.ret ?_
 exact ⟨_, _, rfl, rfl, (cg1 (fun (z0 : Bool) => X.v (.bool z0)) (df (by (try unfold Seq at *); (try unfold In at *); (simp only [Shaped, Int.reduceEq, Bool.not_eq_true, false_and, true_and, and_true, and_false, or_false, false_or, ne_eq]) <;> (first | omega | grind)) : false = decide (Shaped n ⟨9, op, out, args, num, mem⟩)) : X.v (.bool false) = X.v (.bool (decide (Shaped n ⟨9, op, out, args, num, mem⟩)))), rfl⟩
 refine AWp.skip ?_
 refine AWp.sr ?_
 refine .vl (Y.fieldAddr fl39_0 rfl rfl) ?_
 refine .vl (Y.load sh3 rfl rfl rfl rfl) ?_
 refine .vl (Y.eql rfl rfl) ?_
 refine .vl (Y.move rfl rfl) ?_
 refine .gv 27 rfl rfl (Y.fieldAddr fl39_0 rfl rfl) ?_
 refine .gv 27 rfl rfl (Y.load sh3 rfl rfl rfl rfl) ?_
 refine .gv 27 rfl rfl (Y.eql rfl rfl) ?_
 refine .vl (Y.pick rfl rfl rfl) ?_
 refine .vl (Y.assign rfl rfl) ?_
 refine AOps.nil ?_
 refine AWp.sr ?_
 refine .vl (Y.fieldAddr fl39_0 rfl rfl) ?_
 refine .vl (Y.load sh3 rfl rfl rfl rfl) ?_
 refine .vl (Y.eql rfl rfl) ?_
 refine .vl (Y.move rfl rfl) ?_
 refine .gs 35 rfl rfl rfl ?_
 refine .gs 35 rfl rfl rfl ?_
 refine .gs 35 rfl rfl rfl ?_
 refine .vl (Y.pick rfl rfl rfl) ?_
 refine .vl (Y.assign rfl rfl) ?_
 refine AOps.nil ?_
 refine AWp.seq ?_
 refine AWp.sr ?_
 refine .vl (Y.move rfl rfl) ?_
 refine .vl (Y.not rfl) ?_
 refine .vl (Y.move rfl rfl) ?_
 refine .gv 42 rfl rfl (Y.move rfl rfl) ?_
 refine .gv 42 rfl rfl (Y.not rfl) ?_
 refine .vl (Y.pick rfl rfl rfl) ?_
 refine .vl (Y.move rfl rfl) ?_
 refine .gs 46 rfl rfl rfl ?_
 refine .gs 46 rfl rfl rfl ?_
 refine .gs 46 rfl rfl rfl ?_
 refine .vl (Y.pick rfl rfl rfl) ?_
 refine .vl (Y.move rfl rfl) ?_
 refine .gv 51 rfl rfl (Y.move rfl rfl) ?_
 refine .gv 51 rfl rfl (Y.move rfl rfl) ?_
 refine .gs 53 rfl rfl rfl ?_
 refine .gs 53 rfl rfl rfl ?_
 refine .gs 53 rfl rfl rfl ?_
 refine .gs 53 rfl rfl rfl ?_
 refine .gs 53 rfl rfl rfl ?_
 refine .gs 53 rfl rfl rfl ?_
 refine .gs 53 rfl rfl rfl ?_
 refine .gv 51 rfl rfl (Y.pick rfl rfl rfl) ?_
 refine .vl (Y.pick rfl rfl rfl) ?_
 refine .vl (Y.move rfl rfl) ?_
 refine .gv 63 rfl rfl (Y.move rfl rfl) ?_
 refine .gv 63 rfl rfl (Y.move rfl rfl) ?_
 refine .gv 65 rfl rfl (Y.fieldAddr fl39_5 rfl rfl) ?_
 refine .gv 65 rfl rfl (Y.load sh3 rfl rfl rfl rfl) ?_
 refine .gv 65 rfl rfl (Y.fieldAddr fl27_5 rfl rfl) ?_
 refine .gv 65 rfl rfl (Y.load sh25 rfl rfl rfl rfl) ?_
 refine .gv 65 rfl rfl (Y.len (n := n.streams.length) sl25 rfl (congrArg some (List.length_map ..))) ?_
 refine AOps.guardRun (d := 65) rfl (by decide) rfl ?_
 refine AOps.callP ok59 (within_spec (i := mem) (n := ((n.streams.length : Nat) : Int))) rfl (.keep rfl rfl (.keep rfl rfl .nil)) (by decide) rfl ?_
 refine .gv 65 rfl rfl (Y.not rfl) ?_
 refine .gv 63 rfl rfl (Y.pick rfl rfl rfl) ?_
 refine .vl (Y.pick rfl rfl rfl) ?_
 refine AOps.nil ?_
 refine AWp.cond rfl (fun c74 => ?_) (fun c74 => ?_)
 replace c74 : ¬ (In mem ((n.streams.length : Nat) : Int)) := by simpa using c74
 refine AWp.sr ?_
 refine .vl (Y.assign rfl rfl) ?_
 refine AOps.nil ?_
 refine AWp.ret ?_
 exact ⟨_, _, rfl, rfl, (cg1 (fun (z0 : Bool) => X.v (.bool z0)) (df (by (try unfold Seq at *); (try unfold In at *); (simp only [Shaped, Int.reduceEq, Bool.not_eq_true, false_and, true_and, and_true, and_false, or_false, false_or, ne_eq]) <;> (first | omega | grind)) : false = decide (Shaped n ⟨9, op, out, args, num, mem⟩)) : X.v (.bool false) = X.v (.bool (decide (Shaped n ⟨9, op, out, args, num, mem⟩)))), rfl⟩
 replace c74 : In mem ((n.streams.length : Nat) : Int) := by simpa using c74
 refine AWp.skip ?_
 refine AWp.seq ?_
 refine AWp.sr ?_
 refine .vl (Y.fieldAddr fl39_0 rfl rfl) ?_
 refine .vl (Y.load sh3 rfl rfl rfl rfl) ?_
 refine .vl (Y.neq rfl rfl) ?_
 refine .vl (Y.move rfl rfl) ?_
 refine .gv 78 rfl rfl (Y.fieldAddr fl39_0 rfl rfl) ?_
 refine .gv 78 rfl rfl (Y.load sh3 rfl rfl rfl rfl) ?_
 refine .gv 78 rfl rfl (Y.neq rfl rfl) ?_
 refine .vl (Y.pick rfl rfl rfl) ?_
 refine .vl (Y.move rfl rfl) ?_
 refine .gv 83 rfl rfl (Y.fieldAddr fl39_0 rfl rfl) ?_
 refine .gv 83 rfl rfl (Y.load sh3 rfl rfl rfl rfl) ?_
 refine .gv 83 rfl rfl (Y.neq rfl rfl) ?_
 refine .vl (Y.pick rfl rfl rfl) ?_
 refine .vl (Y.move rfl rfl) ?_
 refine .gv 88 rfl rfl (Y.fieldAddr fl39_0 rfl rfl) ?_
 refine .gv 88 rfl rfl (Y.load sh3 rfl rfl rfl rfl) ?_
 refine .gv 88 rfl rfl (Y.neq rfl rfl) ?_
 refine .vl (Y.pick rfl rfl rfl) ?_
 refine .vl (Y.move rfl rfl) ?_
 refine .gv 93 rfl rfl (Y.fieldAddr fl39_4 rfl rfl) ?_
 refine .gv 93 rfl rfl (Y.load sh37 rfl rfl rfl rfl) ?_
 refine .gv 93 rfl rfl (Y.neq rfl rfl) ?_
 refine .vl (Y.pick rfl rfl rfl) ?_
 refine AOps.nil ?_
 refine AWp.condD rfl (fun c97 => ?_) (fun c97 => ?_)
 refine AWp.sr ?_
 refine .vl (Y.assign rfl rfl) ?_
 refine AOps.nil ?_
 refine AWp.ret ?_
 exact ⟨_, _, rfl, rfl, (cg1 (fun (z0 : Bool) => X.v (.bool z0)) (df (by (try unfold Seq at *); (try unfold In at *); (simp only [Shaped, Int.reduceEq, Bool.not_eq_true, false_and, true_and, and_true, and_false, or_false, false_or, ne_eq]) <;> (first | omega | grind)) : false = decide (Shaped n ⟨9, op, out, args, num, mem⟩)) : X.v (.bool false) = X.v (.bool (decide (Shaped n ⟨9, op, out, args, num, mem⟩)))), rfl⟩
 refine AWp.skip ?_
 refine AWp.seq ?_
 refine AWp.sr ?_
 refine .vl (Y.fieldAddr fl39_0 rfl rfl) ?_
 refine .vl (Y.load sh3 rfl rfl rfl rfl) ?_
 refine AOps.nil ?_
 refine AWp.block ?_
 refine AWp.seq ?_
 refine AWp.sr ?_
 refine .vl (Y.eql rfl rfl) ?_
 refine .vl (Y.assign rfl rfl) ?_
 refine AOps.nil ?_
 refine AWp.condF rfl ?_
 refine AWp.region ?_
 refine .vl (Y.eql rfl rfl) ?_
 refine .vl (Y.assign rfl rfl) ?_
 refine AOps.nil ?_
 refine AWp.condT rfl ?_
 refine AWp.sr ?_
 refine .vl (Y.move rfl rfl) ?_
 refine .vl (Y.eql rfl rfl) ?_
 refine .vl (Y.assign rfl rfl) ?_
 refine AOps.nil ?_
 refine AWp.ret ?_
 exact ⟨_, _, rfl, rfl, (cg1 (fun (z0 : Bool) => X.v (.bool z0)) (dd (by (try unfold Seq at *); (try unfold In at *); (simp only [Shaped, Int.reduceEq, Bool.not_eq_true, false_and, true_and, and_true, and_false, or_false, false_or, ne_eq]) <;> (first | omega | grind)) : (decide (((args.length : Nat) : Int) = 0)) = decide (Shaped n ⟨9, op, out, args, num, mem⟩)) : X.v (.bool (decide (((args.length : Nat) : Int) = 0))) = X.v (.bool (decide (Shaped n ⟨9, op, out, args, num, mem⟩)))), rfl⟩

set_option maxRecDepth 4000 in
set_option maxHeartbeats 1000000 in
theorem cell_k10 {n : Netlist} {op out mem : Int} {args : List Int} {num : Nat} (hs : n.Small) (hc : args.length ≤ 17592186043904) : ACalls Try.prog 88 [.agg (Netlist.row n), .agg [.v (.int .i64 10), .v (.int .i64 op), .v (.int .i64 out), .fz 1 (args.map irow), .v (.int .u64 ((num : Nat) : Int)), .v (.int .i64 mem)]] [] [] (fun r o => r = .v (.bool (decide (Shaped n ⟨10, op, out, args, num, mem⟩))) ∧ o = []) := by
 refine ACalls.of Try.func88 rfl rfl rfl (n := 207) (by decide) (Nat.le_of_ble_eq_true rfl) ?_
 have hs4 := hs.ins; have hs5 := hs.mems; have hs6 := hs.streams
 refine AWp.sr ?_
 refine AOps.box 102 rfl rfl rfl rfl rfl (by decide) ?_
 refine AOps.box 103 rfl rfl rfl rfl rfl (by decide) ?_
 refine .vl (Y.assign rfl rfl) ?_
 refine AOps.nil ?_
 refine AWp.sr ?_
 refine .vl (Y.fieldAddr fl39_3 rfl rfl) ?_
 refine .vl (Y.load sh22 rfl rfl rfl rfl) ?_
 refine .vl (Y.len (n := args.length) sl22 rfl (congrArg some (List.length_map ..))) ?_
 refine .vl (Y.assign rfl rfl) ?_
 refine AOps.nil ?_
 refine AWp.seq ?_
 refine AWp.sr ?_
 refine .vl (Y.fieldAddr fl39_0 rfl rfl) ?_
 refine .vl (Y.load sh3 rfl rfl rfl rfl) ?_
 refine .vl (Y.neq rfl rfl) ?_
 refine .vl (Y.move rfl rfl) ?_
 refine .gv 14 rfl rfl (Y.fieldAddr fl39_0 rfl rfl) ?_
 refine .gv 14 rfl rfl (Y.load sh3 rfl rfl rfl rfl) ?_
 refine .gv 14 rfl rfl (Y.neq rfl rfl) ?_
 refine .vl (Y.pick rfl rfl rfl) ?_
 refine .vl (Y.move rfl rfl) ?_
 refine .gv 19 rfl rfl (Y.fieldAddr fl39_1 rfl rfl) ?_
 refine .gv 19 rfl rfl (Y.load sh3 rfl rfl rfl rfl) ?_
 refine .gv 19 rfl rfl (Y.neq rfl rfl) ?_
 refine .vl (Y.pick rfl rfl rfl) ?_
 refine AOps.nil ?_
 refine AWp.condD rfl (fun c23 => ?_) (fun c23 => ?_)
 refine AWp.sr ?_
 refine .vl (Y.assign rfl rfl) ?_
 refine AOps.nil ?_
 refine AWp.ret ?_
 exact ⟨_, _, rfl, rfl, (cg1 (fun (z0 : Bool) => X.v (.bool z0)) (df (by (try unfold Seq at *); (try unfold In at *); (simp only [Shaped, Int.reduceEq, Bool.not_eq_true, false_and, true_and, and_true, and_false, or_false, false_or, ne_eq]) <;> (first | omega | grind)) : false = decide (Shaped n ⟨10, op, out, args, num, mem⟩)) : X.v (.bool false) = X.v (.bool (decide (Shaped n ⟨10, op, out, args, num, mem⟩)))), rfl⟩
 refine AWp.skip ?_
 refine AWp.sr ?_
 refine .vl (Y.fieldAddr fl39_0 rfl rfl) ?_
 refine .vl (Y.load sh3 rfl rfl rfl rfl) ?_
 refine .vl (Y.eql rfl rfl) ?_
 refine .vl (Y.move rfl rfl) ?_
 refine .gv 27 rfl rfl (Y.fieldAddr fl39_0 rfl rfl) ?_
 refine .gv 27 rfl rfl (Y.load sh3 rfl rfl rfl rfl) ?_
 refine .gv 27 rfl rfl (Y.eql rfl rfl) ?_
 refine .vl (Y.pick rfl rfl rfl) ?_
 refine .vl (Y.assign rfl rfl) ?_
 refine AOps.nil ?_
 refine AWp.sr ?_
 refine .vl (Y.fieldAddr fl39_0 rfl rfl) ?_
 refine .vl (Y.load sh3 rfl rfl rfl rfl) ?_
 refine .vl (Y.eql rfl rfl) ?_
 refine .vl (Y.move rfl rfl) ?_
 refine .gv 35 rfl rfl (Y.fieldAddr fl39_0 rfl rfl) ?_
 refine .gv 35 rfl rfl (Y.load sh3 rfl rfl rfl rfl) ?_
 refine .gv 35 rfl rfl (Y.eql rfl rfl) ?_
 refine .vl (Y.pick rfl rfl rfl) ?_
 refine .vl (Y.assign rfl rfl) ?_
 refine AOps.nil ?_
 refine AWp.seq ?_
 refine AWp.sr ?_
 refine .vl (Y.move rfl rfl) ?_
 refine .vl (Y.not rfl) ?_
 refine .vl (Y.move rfl rfl) ?_
 refine .gv 42 rfl rfl (Y.move rfl rfl) ?_
 refine .gv 42 rfl rfl (Y.not rfl) ?_
 refine .vl (Y.pick rfl rfl rfl) ?_
 refine .vl (Y.move rfl rfl) ?_
 refine .gs 46 rfl rfl rfl ?_
 refine .gs 46 rfl rfl rfl ?_
 refine .gs 46 rfl rfl rfl ?_
 refine .vl (Y.pick rfl rfl rfl) ?_
 refine .vl (Y.move rfl rfl) ?_
 refine .gv 51 rfl rfl (Y.move rfl rfl) ?_
 refine .gv 51 rfl rfl (Y.move rfl rfl) ?_
 refine .gs 53 rfl rfl rfl ?_
 refine .gs 53 rfl rfl rfl ?_
 refine .gs 53 rfl rfl rfl ?_
 refine .gs 53 rfl rfl rfl ?_
 refine .gs 53 rfl rfl rfl ?_
 refine .gs 53 rfl rfl rfl ?_
 refine .gs 53 rfl rfl rfl ?_
 refine .gv 51 rfl rfl (Y.pick rfl rfl rfl) ?_
 refine .vl (Y.pick rfl rfl rfl) ?_
 refine .vl (Y.move rfl rfl) ?_
 refine .gv 63 rfl rfl (Y.move rfl rfl) ?_
 refine .gv 63 rfl rfl (Y.move rfl rfl) ?_
 refine .gv 65 rfl rfl (Y.fieldAddr fl39_5 rfl rfl) ?_
 refine .gv 65 rfl rfl (Y.load sh3 rfl rfl rfl rfl) ?_
 refine .gv 65 rfl rfl (Y.fieldAddr fl27_5 rfl rfl) ?_
 refine .gv 65 rfl rfl (Y.load sh25 rfl rfl rfl rfl) ?_
 refine .gv 65 rfl rfl (Y.len (n := n.streams.length) sl25 rfl (congrArg some (List.length_map ..))) ?_
 refine AOps.guardRun (d := 65) rfl (by decide) rfl ?_
 refine AOps.callP ok59 (within_spec (i := mem) (n := ((n.streams.length : Nat) : Int))) rfl (.keep rfl rfl (.keep rfl rfl .nil)) (by decide) rfl ?_
 refine .gv 65 rfl rfl (Y.not rfl) ?_
 refine .gv 63 rfl rfl (Y.pick rfl rfl rfl) ?_
 refine .vl (Y.pick rfl rfl rfl) ?_
 refine AOps.nil ?_
 refine AWp.cond rfl (fun c74 => ?_) (fun c74 => ?_)
 replace c74 : ¬ (In mem ((n.streams.length : Nat) : Int)) := by simpa using c74
 refine AWp.sr ?_
 refine .vl (Y.assign rfl rfl) ?_
 refine AOps.nil ?_
 refine AWp.ret ?_
 exact ⟨_, _, rfl, rfl, (cg1 (fun (z0 : Bool) => X.v (.bool z0)) (df (by (try unfold Seq at *); (try unfold In at *); (simp only [Shaped, Int.reduceEq, Bool.not_eq_true, false_and, true_and, and_true, and_false, or_false, false_or, ne_eq]) <;> (first | omega | grind)) : false = decide (Shaped n ⟨10, op, out, args, num, mem⟩)) : X.v (.bool false) = X.v (.bool (decide (Shaped n ⟨10, op, out, args, num, mem⟩)))), rfl⟩
 replace c74 : In mem ((n.streams.length : Nat) : Int) := by simpa using c74
 refine AWp.skip ?_
 refine AWp.seq ?_
 refine AWp.sr ?_
 refine .vl (Y.fieldAddr fl39_0 rfl rfl) ?_
 refine .vl (Y.load sh3 rfl rfl rfl rfl) ?_
 refine .vl (Y.neq rfl rfl) ?_
 refine .vl (Y.move rfl rfl) ?_
 refine .gv 78 rfl rfl (Y.fieldAddr fl39_0 rfl rfl) ?_
 refine .gv 78 rfl rfl (Y.load sh3 rfl rfl rfl rfl) ?_
 refine .gv 78 rfl rfl (Y.neq rfl rfl) ?_
 refine .vl (Y.pick rfl rfl rfl) ?_
 refine .vl (Y.move rfl rfl) ?_
 refine .gv 83 rfl rfl (Y.fieldAddr fl39_0 rfl rfl) ?_
 refine .gv 83 rfl rfl (Y.load sh3 rfl rfl rfl rfl) ?_
 refine .gv 83 rfl rfl (Y.neq rfl rfl) ?_
 refine .vl (Y.pick rfl rfl rfl) ?_
 refine .vl (Y.move rfl rfl) ?_
 refine .gv 88 rfl rfl (Y.fieldAddr fl39_0 rfl rfl) ?_
 refine .gv 88 rfl rfl (Y.load sh3 rfl rfl rfl rfl) ?_
 refine .gv 88 rfl rfl (Y.neq rfl rfl) ?_
 refine .vl (Y.pick rfl rfl rfl) ?_
 refine .vl (Y.move rfl rfl) ?_
 refine .gv 93 rfl rfl (Y.fieldAddr fl39_4 rfl rfl) ?_
 refine .gv 93 rfl rfl (Y.load sh37 rfl rfl rfl rfl) ?_
 refine .gv 93 rfl rfl (Y.neq rfl rfl) ?_
 refine .vl (Y.pick rfl rfl rfl) ?_
 refine AOps.nil ?_
 refine AWp.condD rfl (fun c97 => ?_) (fun c97 => ?_)
 refine AWp.sr ?_
 refine .vl (Y.assign rfl rfl) ?_
 refine AOps.nil ?_
 refine AWp.ret ?_
 exact ⟨_, _, rfl, rfl, (cg1 (fun (z0 : Bool) => X.v (.bool z0)) (df (by (try unfold Seq at *); (try unfold In at *); (simp only [Shaped, Int.reduceEq, Bool.not_eq_true, false_and, true_and, and_true, and_false, or_false, false_or, ne_eq]) <;> (first | omega | grind)) : false = decide (Shaped n ⟨10, op, out, args, num, mem⟩)) : X.v (.bool false) = X.v (.bool (decide (Shaped n ⟨10, op, out, args, num, mem⟩)))), rfl⟩
 refine AWp.skip ?_
 refine AWp.seq ?_
 refine AWp.sr ?_
 refine .vl (Y.fieldAddr fl39_0 rfl rfl) ?_
 refine .vl (Y.load sh3 rfl rfl rfl rfl) ?_
 refine AOps.nil ?_
 refine AWp.block ?_
 refine AWp.seq ?_
 refine AWp.sr ?_
 refine .vl (Y.eql rfl rfl) ?_
 refine .vl (Y.assign rfl rfl) ?_
 refine AOps.nil ?_
 refine AWp.condF rfl ?_
 refine AWp.region ?_
 refine .vl (Y.eql rfl rfl) ?_
 refine .vl (Y.assign rfl rfl) ?_
 refine AOps.nil ?_
 refine AWp.condF rfl ?_
 refine AWp.sr ?_
 refine .vl (Y.eql rfl rfl) ?_
 refine .vl (Y.assign rfl rfl) ?_
 refine AOps.nil ?_
 refine AWp.condF rfl ?_
 refine AWp.sr ?_
 refine .vl (Y.eql rfl rfl) ?_
 refine .vl (Y.assign rfl rfl) ?_
 refine AOps.nil ?_
 refine AWp.condF rfl ?_
 refine AWp.seq ?_
 refine AWp.sr ?_
 refine .vl (Y.eql rfl rfl) ?_
 refine .vl (Y.assign rfl rfl) ?_
 refine AOps.nil ?_
 refine AWp.condF rfl ?_
 refine AWp.region ?_
 refine .vl (Y.eql rfl rfl) ?_
 refine .vl (Y.assign rfl rfl) ?_
 refine AOps.nil ?_
 refine AWp.condF rfl ?_
 refine AWp.sr ?_
 refine .vl (Y.eql rfl rfl) ?_
 refine .vl (Y.assign rfl rfl) ?_
 refine AOps.nil ?_
 refine AWp.condF rfl ?_
 refine AWp.sr ?_
 refine .vl (Y.eql rfl rfl) ?_
 refine .vl (Y.assign rfl rfl) ?_
 refine AOps.nil ?_
 refine AWp.condF rfl ?_
 refine AWp.sr ?_
 refine .vl (Y.eql rfl rfl) ?_
 refine .vl (Y.assign rfl rfl) ?_
 refine AOps.nil ?_
 refine AWp.condF rfl ?_
 refine AWp.sr ?_
 refine .vl (Y.eql rfl rfl) ?_
 refine .vl (Y.assign rfl rfl) ?_
 refine AOps.nil ?_
 refine AWp.condT rfl ?_
 refine AWp.sr ?_
 refine .vl (Y.move rfl rfl) ?_
 refine .vl (Y.eql rfl rfl) ?_
 refine .vl (Y.move rfl rfl) ?_
 refine AOps.splitD (d := 197) rfl (fun c197 => ?_) (fun c197 => ?_)
 refine .gv 197 rfl rfl (Y.fieldAddr fl27_5 rfl rfl) ?_
 refine .gv 197 rfl rfl (Y.load sh25 rfl rfl rfl rfl) ?_
 refine .gv 197 rfl rfl (Y.fieldAddr fl39_5 rfl rfl) ?_
 refine .gv 197 rfl rfl (Y.load sh3 rfl rfl rfl rfl) ?_
 refine .gv 197 rfl rfl (Y.indexF (m := (mem).toNat) sl25 rfl rfl (by first | omega | (simp [-List.getD_eq_getElem?_getD]; done) | (simp [-List.getD_eq_getElem?_getD]; omega) | (unfold In at *; omega)) (row_getD (d := default) (by first | omega | (simp [-List.getD_eq_getElem?_getD]; done) | (simp [-List.getD_eq_getElem?_getD]; omega) | (unfold In at *; omega)))) ?_
 refine .gv 197 rfl rfl (Y.fieldAddr fl83_2 rfl rfl) ?_
 refine .gv 197 rfl rfl (Y.load sh4 rfl rfl rfl rfl) ?_
 refine .gv 197 rfl rfl (Y.not rfl) ?_
 refine .vl (Y.pick rfl rfl rfl) ?_
 refine .vl (Y.assign rfl rfl) ?_
 refine AOps.nil ?_
 refine AWp.ret ?_
 exact ⟨_, _, rfl, rfl, (cg1 (fun (z0 : Bool) => X.v (.bool z0)) (db (by (try unfold Seq at *); (try unfold In at *); (simp only [Shaped, Int.reduceEq, Bool.not_eq_true, false_and, true_and, and_true, and_false, or_false, false_or, ne_eq]) <;> (first | omega | grind)) : (!((n.streams.getD ((mem).toNat) default).out)) = decide (Shaped n ⟨10, op, out, args, num, mem⟩)) : X.v (.bool (!((n.streams.getD ((mem).toNat) default).out))) = X.v (.bool (decide (Shaped n ⟨10, op, out, args, num, mem⟩)))), rfl⟩
 refine .gs 197 rfl rfl rfl ?_
 refine .gs 197 rfl rfl rfl ?_
 refine .gs 197 rfl rfl rfl ?_
 refine .gs 197 rfl rfl rfl ?_
 refine .gs 197 rfl rfl rfl ?_
 refine .gs 197 rfl rfl rfl ?_
 refine .gs 197 rfl rfl rfl ?_
 refine .gs 197 rfl rfl rfl ?_
 refine .vl (Y.pick rfl rfl rfl) ?_
 refine .vl (Y.assign rfl rfl) ?_
 refine AOps.nil ?_
 refine AWp.ret ?_
 exact ⟨_, _, rfl, rfl, (cg1 (fun (z0 : Bool) => X.v (.bool z0)) (df (by (try unfold Seq at *); (try unfold In at *); (simp only [Shaped, Int.reduceEq, Bool.not_eq_true, false_and, true_and, and_true, and_false, or_false, false_or, ne_eq]) <;> (first | omega | grind)) : false = decide (Shaped n ⟨10, op, out, args, num, mem⟩)) : X.v (.bool false) = X.v (.bool (decide (Shaped n ⟨10, op, out, args, num, mem⟩)))), rfl⟩

end Go.Proofs.Ytjnpbojdjipboaa
/- The specification of a cell, whatever its kind. -/
namespace Go.Proofs.Ytjnpbojdjipboaa
open Go Go.AW Go.Proofs
theorem cell_spec {n : Netlist} {c : Cell} (hs : n.Small) (hc : c.args.length ≤ 17592186043904) : ACalls Try.prog 88 [.agg (Netlist.row n), .agg (Cell.row c)] [] [] (fun r o => r = .v (.bool (decide (Shaped n c))) ∧ o = []) := by
  obtain ⟨k, op, out, args, num, mem⟩ := c
  by_cases h : 1 ≤ k ∧ k ≤ 10
  · have : k = 1 ∨ k = 2 ∨ k = 3 ∨ k = 4 ∨ k = 5 ∨ k = 6 ∨ k = 7 ∨ k = 8 ∨ k = 9 ∨ k = 10 := by omega
    rcases this with rfl | rfl | rfl | rfl | rfl | rfl | rfl | rfl | rfl | rfl
    · exact cell_k1 hs hc
    · exact cell_k2 hs hc
    · exact cell_k3 hs hc
    · exact cell_k4 hs hc
    · exact cell_k5 hs hc
    · exact cell_k6 hs hc
    · exact cell_k7 hs hc
    · exact cell_k8 hs hc
    · exact cell_k9 hs hc
    · exact cell_k10 hs hc
  · exact cell_k0 hs hc h
end Go.Proofs.Ytjnpbojdjipboaa
