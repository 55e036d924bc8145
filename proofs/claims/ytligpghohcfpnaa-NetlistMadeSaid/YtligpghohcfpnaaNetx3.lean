/- Walks through Check, and through the specification of a cell. -/
import Derived.Test.YtligpghohcfpnaaNetx0
import Derived.Test.YtligpghohcfpnaaNetx1
import Derived.Test.YtligpghohcfpnaaNetx2
set_option linter.unusedSimpArgs false
set_option linter.unusedVariables false
set_option linter.unusedSectionVars false
set_option maxRecDepth 4000
set_option maxHeartbeats 8000000
namespace Go.Proofs.Ytligpghohcfpnaa
open Go Go.AW Go.Proofs
theorem check_spec {n : Netlist} (hs : n.Small) (hwi : n.widths.length + n.ins.length ≤ 17592186044416) : ACalls Try.prog 16 [.agg (Netlist.row n)] [] [] (fun r o => r = (vi (errOf n)) ∧ o = []) := by
 refine ACalls.of Try.func16 rfl rfl rfl (n := 11) (by decide) (Nat.le_of_ble_eq_true rfl) (AWp.sr (AOps.box 101 rfl rfl rfl rfl rfl (by decide) ?_))
 refine .an ?_
 refine AOps.nil (AWp.sr (.vl (Y.loadA sh27 rfl rfl (Nat.le_of_ble_eq_true rfl) rfl rfl) ?_))
 refine AOps.callV ok20 (order_spec (n := n) hs ((by omega))) rfl (.keep rfl rfl .nil) (by decide) ?_
 rintro _ ⟨l7, e7, ho7, rfl, _⟩
 refine ⟨rfl, ?_⟩
 refine AOps.moveX rfl (by decide) (AOps.extractU rfl rfl (by decide) (.vl (Y.extract rfl rfl rfl) ?_))
 refine AOps.assignX rfl (by decide) (AOps.sh (Sh.freezeE (d := 3) (l7.map irow) rfl (by first | rfl | exact rep_map rfl) (Frees.map irow_frees)) ?_)
 refine .an ?_
 refine AOps.nil (AWp.sr ?_)
 refine .mv ?_
 refine .an ?_
 refine AOps.nil (AWp.ret ?_)
 exact .ri rfl (ho7.err)
theorem cell_k0 {n : Netlist} {op out mem : Int} {args : List Int} {num : Nat} (hs : n.Small) (hc : args.length ≤ 17592186043904) {kind : Int} (hk : ¬ (1 ≤ kind ∧ kind ≤ 10)) : ACalls Try.prog 88 [.agg (Netlist.row n), .agg [vi kind, vi op, vi out, .fz 1 (args.map irow), .v (.int .u64 ((num : Nat) : Int)), vi mem]] [] [] (fun r o => r = .v (.bool (decide (Shaped n ⟨kind, op, out, args, num, mem⟩))) ∧ o = []) := by
 refine ACalls.of Try.func88 rfl rfl rfl (n := 207) (by decide) (Nat.le_of_ble_eq_true rfl) ?_
 have hs4 := hs.ins; have hs5 := hs.mems; have hs6 := hs.streams
 refine AWp.sr (AOps.box 102 rfl rfl rfl rfl rfl (by decide) (AOps.box 103 rfl rfl rfl rfl rfl (by decide) ?_))
 refine .an ?_
 refine AOps.nil (AWp.sr ?_)
 refine .fa fl39_3 ?_
 refine .ld sh22 ?_
 refine .vl (Y.len (n := args.length) sl22 rfl (congrArg some (List.length_map ..))) ?_
 refine .an ?_
 refine AOps.nil ?_
 refine AWp.join0 (⟨[(2, .ptr 102 0 0 0), (3, .ptr 103 0 0 0), (5, vi ((args.length : Nat) : Int))], [(102, .cells (Netlist.row n)), (103, .cells [vi kind, vi op, vi out, .fz 1 (args.map irow), .v (.int .u64 ((num : Nat) : Int)), vi mem])]⟩) (((kind ≠ 2) ∧ (kind ≠ 5) ∧ (¬ (op ≠ 0))) ∨ ((kind ≠ 2) ∧ (¬ (kind ≠ 5))) ∨ ((¬ (kind ≠ 2)))) ?_ (fun hJ4 => ?_)
 refine AWp.sr ?_
 refine .fa fl39_0 ?_
 refine .ld sh3 ?_
 refine .vl (Y.neq rfl rfl) ?_
 refine .mv ?_
 refine AOps.splitD (d := 14) rfl (fun c14 => ?_) (fun c14 => ?_)
 refine .gw 14 (Y.fieldAddr fl39_0 rfl rfl) (.gw 14 (Y.load sh3 rfl rfl rfl rfl) (.gw 14 (Y.neq rfl rfl) ?_))
 refine .pk ?_
 refine .mv ?_
 refine AOps.splitD (d := 19) rfl (fun c19 => ?_) (fun c19 => ?_)
 refine .gw 19 (Y.fieldAddr fl39_1 rfl rfl) (.gw 19 (Y.load sh3 rfl rfl rfl rfl) (.gw 19 (Y.neq rfl rfl) ?_))
 refine .pk ?_
 refine AOps.nil ?_
 refine AWp.condD rfl (fun c23 => ?_) (fun c23 => ?_)
 refine AWp.sr ?_
 refine .an ?_
 refine AOps.nil (AWp.ret ?_)
 exact .rb rfl (df (fun h => hk h.kind))
 refine AWp.skip ?_
 exact ⟨.inl ⟨c14, c19, c23⟩, Le.mk (.c (.c (.c (.nil)))) (.c (.c (.nil)))⟩
 refine .gz 19 (.gz 19 (.gz 19 ?_))
 refine .pk ?_
 refine AOps.nil (AWp.condF rfl (AWp.skip ?_))
 exact ⟨.inr (.inl ⟨c14, c19⟩), Le.mk (.c (.c (.c (.nil)))) (.c (.c (.nil)))⟩
 refine .gz 14 (.gz 14 (.gz 14 ?_))
 refine .pk ?_
 refine .mv ?_
 refine .gz 19 (.gz 19 (.gz 19 ?_))
 refine .pk ?_
 refine AOps.nil (AWp.condF rfl (AWp.skip ?_))
 exact ⟨.inr (.inr (c14)), Le.mk (.c (.c (.c (.nil)))) (.c (.c (.nil)))⟩
 refine AWp.join1 (fun (memory6_j5 : Bool) => ⟨[(2, .ptr 102 0 0 0), (3, .ptr 103 0 0 0), (5, vi ((args.length : Nat) : Int)), (6, .v (.bool memory6_j5))], [(102, .cells (Netlist.row n)), (103, .cells [vi kind, vi op, vi out, .fz 1 (args.map irow), .v (.int .u64 ((num : Nat) : Int)), vi mem])]⟩) (fun (memory6_j5 : Bool) => ((kind = 6) ∧ (memory6_j5 = true)) ∨ ((¬ (kind = 6)) ∧ (memory6_j5 = (decide (kind = 7))))) ?_ (fun memory6_j5 hJ5 => ?_)
 refine AWp.region ?_
 refine .fa fl39_0 ?_
 refine .ld sh3 ?_
 refine .vl (Y.eql rfl rfl) ?_
 refine .mv ?_
 refine AOps.splitD (d := 27) rfl (fun c27 => ?_) (fun c27 => ?_)
 refine .gz 27 (.gz 27 (.gz 27 ?_))
 refine .pk ?_
 refine .an ?_
 refine AOps.nil ?_
 exact ⟨true, .inl ⟨c27, rfl⟩, Le.mk (.c (.c (.c (.cons (look_bool rfl (by first | rfl | simp_all)) (.nil))))) (.c (.c (.nil)))⟩
 refine .gw 27 (Y.fieldAddr fl39_0 rfl rfl) (.gw 27 (Y.load sh3 rfl rfl rfl rfl) (.gw 27 (Y.eql rfl rfl) ?_))
 refine .pk ?_
 refine .an ?_
 refine AOps.nil ?_
 exact ⟨decide (kind = 7), .inr (⟨c27, rfl⟩), Le.mk (.c (.c (.c (.cons (look_bool rfl (by first | rfl | simp_all)) (.nil))))) (.c (.c (.nil)))⟩
 refine AWp.join1 (fun (stream7_j6 : Bool) => ⟨[(2, .ptr 102 0 0 0), (3, .ptr 103 0 0 0), (5, vi ((args.length : Nat) : Int)), (6, .v (.bool memory6_j5)), (7, .v (.bool stream7_j6))], [(102, .cells (Netlist.row n)), (103, .cells [vi kind, vi op, vi out, .fz 1 (args.map irow), .v (.int .u64 ((num : Nat) : Int)), vi mem])]⟩) (fun (stream7_j6 : Bool) => ((kind = 9) ∧ (stream7_j6 = true)) ∨ ((¬ (kind = 9)) ∧ (stream7_j6 = (decide (kind = 10))))) ?_ (fun stream7_j6 hJ6 => ?_)
 refine AWp.region ?_
 refine .fa fl39_0 ?_
 refine .ld sh3 ?_
 refine .vl (Y.eql rfl rfl) ?_
 refine .mv ?_
 refine AOps.splitD (d := 35) rfl (fun c35 => ?_) (fun c35 => ?_)
 refine .gz 35 (.gz 35 (.gz 35 ?_))
 refine .pk ?_
 refine .an ?_
 refine AOps.nil ?_
 exact ⟨true, .inl ⟨c35, rfl⟩, Le.mk (.c (.c (.c (.c (.cons (look_bool rfl (by first | rfl | simp_all)) (.nil)))))) (.c (.c (.nil)))⟩
 refine .gw 35 (Y.fieldAddr fl39_0 rfl rfl) (.gw 35 (Y.load sh3 rfl rfl rfl rfl) (.gw 35 (Y.eql rfl rfl) ?_))
 refine .pk ?_
 refine .an ?_
 refine AOps.nil ?_
 exact ⟨decide (kind = 10), .inr (⟨c35, rfl⟩), Le.mk (.c (.c (.c (.c (.cons (look_bool rfl (by first | rfl | simp_all)) (.nil)))))) (.c (.c (.nil)))⟩
 refine AWp.join0 (⟨[(2, .ptr 102 0 0 0), (3, .ptr 103 0 0 0), (5, vi ((args.length : Nat) : Int))], [(102, .cells (Netlist.row n)), (103, .cells [vi kind, vi op, vi out, .fz 1 (args.map irow), .v (.int .u64 ((num : Nat) : Int)), vi mem])]⟩) (((memory6_j5 = false) ∧ (stream7_j6 = false) ∧ (¬ (mem ≠ 0)) ∧ (memory6_j5 = true) ∧ (In mem ((n.mems.length : Nat) : Int)) ∧ (stream7_j6 = true) ∧ (In mem ((n.streams.length : Nat) : Int))) ∨ ((memory6_j5 = false) ∧ (stream7_j6 = false) ∧ (¬ (mem ≠ 0)) ∧ (memory6_j5 = true) ∧ (In mem ((n.mems.length : Nat) : Int)) ∧ (stream7_j6 = false)) ∨ ((memory6_j5 = false) ∧ (stream7_j6 = false) ∧ (¬ (mem ≠ 0)) ∧ (memory6_j5 = false) ∧ (stream7_j6 = true) ∧ (In mem ((n.streams.length : Nat) : Int))) ∨ ((memory6_j5 = false) ∧ (stream7_j6 = false) ∧ (¬ (mem ≠ 0)) ∧ (memory6_j5 = false) ∧ (stream7_j6 = false)) ∨ ((memory6_j5 = false) ∧ (stream7_j6 = true) ∧ (memory6_j5 = true) ∧ (In mem ((n.mems.length : Nat) : Int)) ∧ (stream7_j6 = true) ∧ (In mem ((n.streams.length : Nat) : Int))) ∨ ((memory6_j5 = false) ∧ (stream7_j6 = true) ∧ (memory6_j5 = true) ∧ (In mem ((n.mems.length : Nat) : Int)) ∧ (stream7_j6 = false)) ∨ ((memory6_j5 = false) ∧ (stream7_j6 = true) ∧ (memory6_j5 = false) ∧ (stream7_j6 = true) ∧ (In mem ((n.streams.length : Nat) : Int))) ∨ ((memory6_j5 = false) ∧ (stream7_j6 = true) ∧ (memory6_j5 = false) ∧ (stream7_j6 = false)) ∨ ((memory6_j5 = true) ∧ (memory6_j5 = true) ∧ (In mem ((n.mems.length : Nat) : Int)) ∧ (stream7_j6 = true) ∧ (In mem ((n.streams.length : Nat) : Int))) ∨ ((memory6_j5 = true) ∧ (memory6_j5 = true) ∧ (In mem ((n.mems.length : Nat) : Int)) ∧ (stream7_j6 = false)) ∨ ((memory6_j5 = true) ∧ (memory6_j5 = false) ∧ (stream7_j6 = true) ∧ (In mem ((n.streams.length : Nat) : Int))) ∨ ((memory6_j5 = true) ∧ (memory6_j5 = false) ∧ (stream7_j6 = false))) ?_ (fun hJ8 => ?_)
 refine AWp.sr ?_
 refine .mv ?_
 refine .vl (Y.not rfl) ?_
 refine .mv ?_
 refine AOps.split (d := 42) rfl (fun c42 => ?_) (fun c42 => ?_)
 replace c42 : memory6_j5 = false := by simpa using c42
 refine .gw 42 (Y.move rfl rfl) (.gw 42 (Y.not rfl) ?_)
 refine .pk ?_
 refine .mv ?_
 refine AOps.split (d := 46) rfl (fun c46 => ?_) (fun c46 => ?_)
 replace c46 : stream7_j6 = false := by simpa using c46
 refine .gw 46 (Y.fieldAddr fl39_5 rfl rfl) (.gw 46 (Y.load sh3 rfl rfl rfl rfl) (.gw 46 (Y.neq rfl rfl) ?_))
 refine .pk ?_
 refine .mv ?_
 refine AOps.splitD (d := 51) rfl (fun c51 => ?_) (fun c51 => ?_)
 refine .gz 51 (.gz 51 (.gz 53 ?_))
 refine .gz 53 (.gz 53 (.gz 53 ?_))
 refine .gz 53 (.gz 53 (.gz 53 ?_))
 refine .gz 51 ?_
 refine .pk ?_
 refine .mv ?_
 refine .gz 63 (.gz 63 (.gz 65 ?_))
 refine .gz 65 (.gz 65 (.gz 65 ?_))
 refine .gz 65 (.gz 65 (.gz 65 ?_))
 refine .gz 63 ?_
 refine .pk ?_
 refine AOps.nil (AWp.condT rfl (AWp.sr ?_))
 refine .an ?_
 refine AOps.nil (AWp.ret ?_)
 exact .rb rfl (df (fun h => hk h.kind))
 refine .gw 51 (Y.move rfl rfl) (.gw 51 (Y.move rfl rfl) ?_)
 refine AOps.split (d := 53) rfl (fun c53 => ?_) (fun c53 => ?_)
 refine .gw 53 (Y.fieldAddr fl39_5 rfl rfl) (.gw 53 (Y.load sh3 rfl rfl rfl rfl) (.gw 53 (Y.fieldAddr fl27_4 rfl rfl) ?_))
 refine .gw 53 (Y.load sh24 rfl rfl rfl rfl) (.gw 53 (Y.len (n := n.mems.length) sl24 rfl (congrArg some (List.length_map ..))) (AOps.guardRun (d := 53) rfl (by decide) rfl ?_))
 refine AOps.callP ok59 (within_spec (i := mem) (n := ((n.mems.length : Nat) : Int))) rfl (.keep rfl rfl (.keep rfl rfl .nil)) (by decide) rfl (.gw 53 (Y.not rfl) (.gw 51 (Y.pick rfl rfl rfl) ?_))
 refine .pk ?_
 refine .mv ?_
 refine AOps.split (d := 63) rfl (fun c63 => ?_) (fun c63 => ?_)
 replace c63 : ¬ (In mem ((n.mems.length : Nat) : Int)) := by simpa using c63
 refine .gz 63 (.gz 63 (.gz 65 ?_))
 refine .gz 65 (.gz 65 (.gz 65 ?_))
 refine .gz 65 (.gz 65 (.gz 65 ?_))
 refine .gz 63 ?_
 refine .pk ?_
 refine AOps.nil (AWp.condT rfl (AWp.sr ?_))
 refine .an ?_
 refine AOps.nil (AWp.ret ?_)
 exact .rb rfl (df (fun h => hk h.kind))
 replace c63 : In mem ((n.mems.length : Nat) : Int) := by simpa using c63
 refine .gw 63 (Y.move rfl rfl) (.gw 63 (Y.move rfl rfl) ?_)
 refine AOps.split (d := 65) rfl (fun c65 => ?_) (fun c65 => ?_)
 refine .gw 65 (Y.fieldAddr fl39_5 rfl rfl) (.gw 65 (Y.load sh3 rfl rfl rfl rfl) (.gw 65 (Y.fieldAddr fl27_5 rfl rfl) ?_))
 refine .gw 65 (Y.load sh25 rfl rfl rfl rfl) (.gw 65 (Y.len (n := n.streams.length) sl25 rfl (congrArg some (List.length_map ..))) (AOps.guardRun (d := 65) rfl (by decide) rfl ?_))
 refine AOps.callP ok59 (within_spec (i := mem) (n := ((n.streams.length : Nat) : Int))) rfl (.keep rfl rfl (.keep rfl rfl .nil)) (by decide) rfl (.gw 65 (Y.not rfl) (.gw 63 (Y.pick rfl rfl rfl) ?_))
 refine .pk ?_
 refine AOps.nil ?_
 refine AWp.cond rfl (fun c74 => ?_) (fun c74 => ?_)
 replace c74 : ¬ (In mem ((n.streams.length : Nat) : Int)) := by simpa using c74
 refine AWp.sr ?_
 refine .an ?_
 refine AOps.nil (AWp.ret ?_)
 exact .rb rfl (df (fun h => hk h.kind))
 replace c74 : In mem ((n.streams.length : Nat) : Int) := by simpa using c74
 refine AWp.skip ?_
 exact ⟨.inl ⟨c42, c46, c51, c53, c63, c65, c74⟩, Le.mk (.c (.c (.c (.nil)))) (.c (.c (.nil)))⟩
 refine .gz 65 (.gz 65 (.gz 65 ?_))
 refine .gz 65 (.gz 65 (.gz 65 ?_))
 refine .gz 65 (.gw 63 (Y.pick rfl rfl rfl) ?_)
 refine .pk ?_
 refine AOps.nil (AWp.condF rfl (AWp.skip ?_))
 exact ⟨.inr (.inl ⟨c42, c46, c51, c53, c63, c65⟩), Le.mk (.c (.c (.c (.nil)))) (.c (.c (.nil)))⟩
 refine .gz 53 (.gz 53 (.gz 53 ?_))
 refine .gz 53 (.gz 53 (.gz 53 ?_))
 refine .gz 53 (.gw 51 (Y.pick rfl rfl rfl) ?_)
 refine .pk ?_
 refine .mv ?_
 refine .gw 63 (Y.move rfl rfl) (.gw 63 (Y.move rfl rfl) ?_)
 refine AOps.split (d := 65) rfl (fun c65 => ?_) (fun c65 => ?_)
 refine .gw 65 (Y.fieldAddr fl39_5 rfl rfl) (.gw 65 (Y.load sh3 rfl rfl rfl rfl) (.gw 65 (Y.fieldAddr fl27_5 rfl rfl) ?_))
 refine .gw 65 (Y.load sh25 rfl rfl rfl rfl) (.gw 65 (Y.len (n := n.streams.length) sl25 rfl (congrArg some (List.length_map ..))) (AOps.guardRun (d := 65) rfl (by decide) rfl ?_))
 refine AOps.callP ok59 (within_spec (i := mem) (n := ((n.streams.length : Nat) : Int))) rfl (.keep rfl rfl (.keep rfl rfl .nil)) (by decide) rfl (.gw 65 (Y.not rfl) (.gw 63 (Y.pick rfl rfl rfl) ?_))
 refine .pk ?_
 refine AOps.nil ?_
 refine AWp.cond rfl (fun c74 => ?_) (fun c74 => ?_)
 replace c74 : ¬ (In mem ((n.streams.length : Nat) : Int)) := by simpa using c74
 refine AWp.sr ?_
 refine .an ?_
 refine AOps.nil (AWp.ret ?_)
 exact .rb rfl (df (fun h => hk h.kind))
 replace c74 : In mem ((n.streams.length : Nat) : Int) := by simpa using c74
 refine AWp.skip ?_
 exact ⟨.inr (.inr (.inl ⟨c42, c46, c51, c53, c65, c74⟩)), Le.mk (.c (.c (.c (.nil)))) (.c (.c (.nil)))⟩
 refine .gz 65 (.gz 65 (.gz 65 ?_))
 refine .gz 65 (.gz 65 (.gz 65 ?_))
 refine .gz 65 (.gw 63 (Y.pick rfl rfl rfl) ?_)
 refine .pk ?_
 refine AOps.nil (AWp.condF rfl (AWp.skip ?_))
 exact ⟨.inr (.inr (.inr (.inl ⟨c42, c46, c51, c53, c65⟩))), Le.mk (.c (.c (.c (.nil)))) (.c (.c (.nil)))⟩
 replace c46 : stream7_j6 = true := by simpa using c46
 refine .gz 46 (.gz 46 (.gz 46 ?_))
 refine .pk ?_
 refine .mv ?_
 refine .gw 51 (Y.move rfl rfl) (.gw 51 (Y.move rfl rfl) ?_)
 refine AOps.split (d := 53) rfl (fun c53 => ?_) (fun c53 => ?_)
 refine .gw 53 (Y.fieldAddr fl39_5 rfl rfl) (.gw 53 (Y.load sh3 rfl rfl rfl rfl) (.gw 53 (Y.fieldAddr fl27_4 rfl rfl) ?_))
 refine .gw 53 (Y.load sh24 rfl rfl rfl rfl) (.gw 53 (Y.len (n := n.mems.length) sl24 rfl (congrArg some (List.length_map ..))) (AOps.guardRun (d := 53) rfl (by decide) rfl ?_))
 refine AOps.callP ok59 (within_spec (i := mem) (n := ((n.mems.length : Nat) : Int))) rfl (.keep rfl rfl (.keep rfl rfl .nil)) (by decide) rfl (.gw 53 (Y.not rfl) (.gw 51 (Y.pick rfl rfl rfl) ?_))
 refine .pk ?_
 refine .mv ?_
 refine AOps.split (d := 63) rfl (fun c63 => ?_) (fun c63 => ?_)
 replace c63 : ¬ (In mem ((n.mems.length : Nat) : Int)) := by simpa using c63
 refine .gz 63 (.gz 63 (.gz 65 ?_))
 refine .gz 65 (.gz 65 (.gz 65 ?_))
 refine .gz 65 (.gz 65 (.gz 65 ?_))
 refine .gz 63 ?_
 refine .pk ?_
 refine AOps.nil (AWp.condT rfl (AWp.sr ?_))
 refine .an ?_
 refine AOps.nil (AWp.ret ?_)
 exact .rb rfl (df (fun h => hk h.kind))
 replace c63 : In mem ((n.mems.length : Nat) : Int) := by simpa using c63
 refine .gw 63 (Y.move rfl rfl) (.gw 63 (Y.move rfl rfl) ?_)
 refine AOps.split (d := 65) rfl (fun c65 => ?_) (fun c65 => ?_)
 refine .gw 65 (Y.fieldAddr fl39_5 rfl rfl) (.gw 65 (Y.load sh3 rfl rfl rfl rfl) (.gw 65 (Y.fieldAddr fl27_5 rfl rfl) ?_))
 refine .gw 65 (Y.load sh25 rfl rfl rfl rfl) (.gw 65 (Y.len (n := n.streams.length) sl25 rfl (congrArg some (List.length_map ..))) (AOps.guardRun (d := 65) rfl (by decide) rfl ?_))
 refine AOps.callP ok59 (within_spec (i := mem) (n := ((n.streams.length : Nat) : Int))) rfl (.keep rfl rfl (.keep rfl rfl .nil)) (by decide) rfl (.gw 65 (Y.not rfl) (.gw 63 (Y.pick rfl rfl rfl) ?_))
 refine .pk ?_
 refine AOps.nil ?_
 refine AWp.cond rfl (fun c74 => ?_) (fun c74 => ?_)
 replace c74 : ¬ (In mem ((n.streams.length : Nat) : Int)) := by simpa using c74
 refine AWp.sr ?_
 refine .an ?_
 refine AOps.nil (AWp.ret ?_)
 exact .rb rfl (df (fun h => hk h.kind))
 replace c74 : In mem ((n.streams.length : Nat) : Int) := by simpa using c74
 refine AWp.skip ?_
 exact ⟨.inr (.inr (.inr (.inr (.inl ⟨c42, c46, c53, c63, c65, c74⟩)))), Le.mk (.c (.c (.c (.nil)))) (.c (.c (.nil)))⟩
 refine .gz 65 (.gz 65 (.gz 65 ?_))
 refine .gz 65 (.gz 65 (.gz 65 ?_))
 refine .gz 65 (.gw 63 (Y.pick rfl rfl rfl) ?_)
 refine .pk ?_
 refine AOps.nil (AWp.condF rfl (AWp.skip ?_))
 exact ⟨.inr (.inr (.inr (.inr (.inr (.inl ⟨c42, c46, c53, c63, c65⟩))))), Le.mk (.c (.c (.c (.nil)))) (.c (.c (.nil)))⟩
 refine .gz 53 (.gz 53 (.gz 53 ?_))
 refine .gz 53 (.gz 53 (.gz 53 ?_))
 refine .gz 53 (.gw 51 (Y.pick rfl rfl rfl) ?_)
 refine .pk ?_
 refine .mv ?_
 refine .gw 63 (Y.move rfl rfl) (.gw 63 (Y.move rfl rfl) ?_)
 refine AOps.split (d := 65) rfl (fun c65 => ?_) (fun c65 => ?_)
 refine .gw 65 (Y.fieldAddr fl39_5 rfl rfl) (.gw 65 (Y.load sh3 rfl rfl rfl rfl) (.gw 65 (Y.fieldAddr fl27_5 rfl rfl) ?_))
 refine .gw 65 (Y.load sh25 rfl rfl rfl rfl) (.gw 65 (Y.len (n := n.streams.length) sl25 rfl (congrArg some (List.length_map ..))) (AOps.guardRun (d := 65) rfl (by decide) rfl ?_))
 refine AOps.callP ok59 (within_spec (i := mem) (n := ((n.streams.length : Nat) : Int))) rfl (.keep rfl rfl (.keep rfl rfl .nil)) (by decide) rfl (.gw 65 (Y.not rfl) (.gw 63 (Y.pick rfl rfl rfl) ?_))
 refine .pk ?_
 refine AOps.nil ?_
 refine AWp.cond rfl (fun c74 => ?_) (fun c74 => ?_)
 replace c74 : ¬ (In mem ((n.streams.length : Nat) : Int)) := by simpa using c74
 refine AWp.sr ?_
 refine .an ?_
 refine AOps.nil (AWp.ret ?_)
 exact .rb rfl (df (fun h => hk h.kind))
 replace c74 : In mem ((n.streams.length : Nat) : Int) := by simpa using c74
 refine AWp.skip ?_
 exact ⟨.inr (.inr (.inr (.inr (.inr (.inr (.inl ⟨c42, c46, c53, c65, c74⟩)))))), Le.mk (.c (.c (.c (.nil)))) (.c (.c (.nil)))⟩
 refine .gz 65 (.gz 65 (.gz 65 ?_))
 refine .gz 65 (.gz 65 (.gz 65 ?_))
 refine .gz 65 (.gw 63 (Y.pick rfl rfl rfl) ?_)
 refine .pk ?_
 refine AOps.nil (AWp.condF rfl (AWp.skip ?_))
 exact ⟨.inr (.inr (.inr (.inr (.inr (.inr (.inr (.inl ⟨c42, c46, c53, c65⟩))))))), Le.mk (.c (.c (.c (.nil)))) (.c (.c (.nil)))⟩
 replace c42 : memory6_j5 = true := by simpa using c42
 refine .gz 42 (.gz 42 ?_)
 refine .pk ?_
 refine .mv ?_
 refine .gz 46 (.gz 46 (.gz 46 ?_))
 refine .pk ?_
 refine .mv ?_
 refine .gw 51 (Y.move rfl rfl) (.gw 51 (Y.move rfl rfl) ?_)
 refine AOps.split (d := 53) rfl (fun c53 => ?_) (fun c53 => ?_)
 refine .gw 53 (Y.fieldAddr fl39_5 rfl rfl) (.gw 53 (Y.load sh3 rfl rfl rfl rfl) (.gw 53 (Y.fieldAddr fl27_4 rfl rfl) ?_))
 refine .gw 53 (Y.load sh24 rfl rfl rfl rfl) (.gw 53 (Y.len (n := n.mems.length) sl24 rfl (congrArg some (List.length_map ..))) (AOps.guardRun (d := 53) rfl (by decide) rfl ?_))
 refine AOps.callP ok59 (within_spec (i := mem) (n := ((n.mems.length : Nat) : Int))) rfl (.keep rfl rfl (.keep rfl rfl .nil)) (by decide) rfl (.gw 53 (Y.not rfl) (.gw 51 (Y.pick rfl rfl rfl) ?_))
 refine .pk ?_
 refine .mv ?_
 refine AOps.split (d := 63) rfl (fun c63 => ?_) (fun c63 => ?_)
 replace c63 : ¬ (In mem ((n.mems.length : Nat) : Int)) := by simpa using c63
 refine .gz 63 (.gz 63 (.gz 65 ?_))
 refine .gz 65 (.gz 65 (.gz 65 ?_))
 refine .gz 65 (.gz 65 (.gz 65 ?_))
 refine .gz 63 ?_
 refine .pk ?_
 refine AOps.nil (AWp.condT rfl (AWp.sr ?_))
 refine .an ?_
 refine AOps.nil (AWp.ret ?_)
 exact .rb rfl (df (fun h => hk h.kind))
 replace c63 : In mem ((n.mems.length : Nat) : Int) := by simpa using c63
 refine .gw 63 (Y.move rfl rfl) (.gw 63 (Y.move rfl rfl) ?_)
 refine AOps.split (d := 65) rfl (fun c65 => ?_) (fun c65 => ?_)
 refine .gw 65 (Y.fieldAddr fl39_5 rfl rfl) (.gw 65 (Y.load sh3 rfl rfl rfl rfl) (.gw 65 (Y.fieldAddr fl27_5 rfl rfl) ?_))
 refine .gw 65 (Y.load sh25 rfl rfl rfl rfl) (.gw 65 (Y.len (n := n.streams.length) sl25 rfl (congrArg some (List.length_map ..))) (AOps.guardRun (d := 65) rfl (by decide) rfl ?_))
 refine AOps.callP ok59 (within_spec (i := mem) (n := ((n.streams.length : Nat) : Int))) rfl (.keep rfl rfl (.keep rfl rfl .nil)) (by decide) rfl (.gw 65 (Y.not rfl) (.gw 63 (Y.pick rfl rfl rfl) ?_))
 refine .pk ?_
 refine AOps.nil ?_
 refine AWp.cond rfl (fun c74 => ?_) (fun c74 => ?_)
 replace c74 : ¬ (In mem ((n.streams.length : Nat) : Int)) := by simpa using c74
 refine AWp.sr ?_
 refine .an ?_
 refine AOps.nil (AWp.ret ?_)
 exact .rb rfl (df (fun h => hk h.kind))
 replace c74 : In mem ((n.streams.length : Nat) : Int) := by simpa using c74
 refine AWp.skip ?_
 exact ⟨.inr (.inr (.inr (.inr (.inr (.inr (.inr (.inr (.inl ⟨c42, c53, c63, c65, c74⟩)))))))), Le.mk (.c (.c (.c (.nil)))) (.c (.c (.nil)))⟩
 refine .gz 65 (.gz 65 (.gz 65 ?_))
 refine .gz 65 (.gz 65 (.gz 65 ?_))
 refine .gz 65 (.gw 63 (Y.pick rfl rfl rfl) ?_)
 refine .pk ?_
 refine AOps.nil (AWp.condF rfl (AWp.skip ?_))
 exact ⟨.inr (.inr (.inr (.inr (.inr (.inr (.inr (.inr (.inr (.inl ⟨c42, c53, c63, c65⟩))))))))), Le.mk (.c (.c (.c (.nil)))) (.c (.c (.nil)))⟩
 refine .gz 53 (.gz 53 (.gz 53 ?_))
 refine .gz 53 (.gz 53 (.gz 53 ?_))
 refine .gz 53 (.gw 51 (Y.pick rfl rfl rfl) ?_)
 refine .pk ?_
 refine .mv ?_
 refine .gw 63 (Y.move rfl rfl) (.gw 63 (Y.move rfl rfl) ?_)
 refine AOps.split (d := 65) rfl (fun c65 => ?_) (fun c65 => ?_)
 refine .gw 65 (Y.fieldAddr fl39_5 rfl rfl) (.gw 65 (Y.load sh3 rfl rfl rfl rfl) (.gw 65 (Y.fieldAddr fl27_5 rfl rfl) ?_))
 refine .gw 65 (Y.load sh25 rfl rfl rfl rfl) (.gw 65 (Y.len (n := n.streams.length) sl25 rfl (congrArg some (List.length_map ..))) (AOps.guardRun (d := 65) rfl (by decide) rfl ?_))
 refine AOps.callP ok59 (within_spec (i := mem) (n := ((n.streams.length : Nat) : Int))) rfl (.keep rfl rfl (.keep rfl rfl .nil)) (by decide) rfl (.gw 65 (Y.not rfl) (.gw 63 (Y.pick rfl rfl rfl) ?_))
 refine .pk ?_
 refine AOps.nil ?_
 refine AWp.cond rfl (fun c74 => ?_) (fun c74 => ?_)
 replace c74 : ¬ (In mem ((n.streams.length : Nat) : Int)) := by simpa using c74
 refine AWp.sr ?_
 refine .an ?_
 refine AOps.nil (AWp.ret ?_)
 exact .rb rfl (df (fun h => hk h.kind))
 replace c74 : In mem ((n.streams.length : Nat) : Int) := by simpa using c74
 refine AWp.skip ?_
 exact ⟨.inr (.inr (.inr (.inr (.inr (.inr (.inr (.inr (.inr (.inr (.inl ⟨c42, c53, c65, c74⟩)))))))))), Le.mk (.c (.c (.c (.nil)))) (.c (.c (.nil)))⟩
 refine .gz 65 (.gz 65 (.gz 65 ?_))
 refine .gz 65 (.gz 65 (.gz 65 ?_))
 refine .gz 65 (.gw 63 (Y.pick rfl rfl rfl) ?_)
 refine .pk ?_
 refine AOps.nil (AWp.condF rfl (AWp.skip ?_))
 exact ⟨.inr (.inr (.inr (.inr (.inr (.inr (.inr (.inr (.inr (.inr (.inr (⟨c42, c53, c65⟩))))))))))), Le.mk (.c (.c (.c (.nil)))) (.c (.c (.nil)))⟩
 refine AWp.join0 (⟨[(2, .ptr 102 0 0 0), (3, .ptr 103 0 0 0), (5, vi ((args.length : Nat) : Int))], [(102, .cells (Netlist.row n)), (103, .cells [vi kind, vi op, vi out, .fz 1 (args.map irow), .v (.int .u64 ((num : Nat) : Int)), vi mem])]⟩) (((kind ≠ 1) ∧ (kind ≠ 4) ∧ (kind ≠ 5) ∧ (kind ≠ 8) ∧ (¬ (((num : Nat) : Int) ≠ 0))) ∨ ((kind ≠ 1) ∧ (kind ≠ 4) ∧ (kind ≠ 5) ∧ (¬ (kind ≠ 8))) ∨ ((kind ≠ 1) ∧ (kind ≠ 4) ∧ (¬ (kind ≠ 5))) ∨ ((kind ≠ 1) ∧ (¬ (kind ≠ 4))) ∨ ((¬ (kind ≠ 1)))) ?_ (fun hJ10 => ?_)
 refine AWp.sr ?_
 refine .fa fl39_0 ?_
 refine .ld sh3 ?_
 refine .vl (Y.neq rfl rfl) ?_
 refine .mv ?_
 refine AOps.splitD (d := 78) rfl (fun c78 => ?_) (fun c78 => ?_)
 refine .gw 78 (Y.fieldAddr fl39_0 rfl rfl) (.gw 78 (Y.load sh3 rfl rfl rfl rfl) (.gw 78 (Y.neq rfl rfl) ?_))
 refine .pk ?_
 refine .mv ?_
 refine AOps.splitD (d := 83) rfl (fun c83 => ?_) (fun c83 => ?_)
 refine .gw 83 (Y.fieldAddr fl39_0 rfl rfl) (.gw 83 (Y.load sh3 rfl rfl rfl rfl) (.gw 83 (Y.neq rfl rfl) ?_))
 refine .pk ?_
 refine .mv ?_
 refine AOps.splitD (d := 88) rfl (fun c88 => ?_) (fun c88 => ?_)
 refine .gw 88 (Y.fieldAddr fl39_0 rfl rfl) (.gw 88 (Y.load sh3 rfl rfl rfl rfl) (.gw 88 (Y.neq rfl rfl) ?_))
 refine .pk ?_
 refine .mv ?_
 refine AOps.splitD (d := 93) rfl (fun c93 => ?_) (fun c93 => ?_)
 refine .gw 93 (Y.fieldAddr fl39_4 rfl rfl) (.gw 93 (Y.load sh37 rfl rfl rfl rfl) (.gw 93 (Y.neq rfl rfl) ?_))
 refine .pk ?_
 refine AOps.nil ?_
 refine AWp.condD rfl (fun c97 => ?_) (fun c97 => ?_)
 refine AWp.sr ?_
 refine .an ?_
 refine AOps.nil (AWp.ret ?_)
 exact .rb rfl (df (fun h => hk h.kind))
 refine AWp.skip ?_
 exact ⟨.inl ⟨c78, c83, c88, c93, c97⟩, Le.mk (.c (.c (.c (.nil)))) (.c (.c (.nil)))⟩
 refine .gz 93 (.gz 93 (.gz 93 ?_))
 refine .pk ?_
 refine AOps.nil (AWp.condF rfl (AWp.skip ?_))
 exact ⟨.inr (.inl ⟨c78, c83, c88, c93⟩), Le.mk (.c (.c (.c (.nil)))) (.c (.c (.nil)))⟩
 refine .gz 88 (.gz 88 (.gz 88 ?_))
 refine .pk ?_
 refine .mv ?_
 refine .gz 93 (.gz 93 (.gz 93 ?_))
 refine .pk ?_
 refine AOps.nil (AWp.condF rfl (AWp.skip ?_))
 exact ⟨.inr (.inr (.inl ⟨c78, c83, c88⟩)), Le.mk (.c (.c (.c (.nil)))) (.c (.c (.nil)))⟩
 refine .gz 83 (.gz 83 (.gz 83 ?_))
 refine .pk ?_
 refine .mv ?_
 refine .gz 88 (.gz 88 (.gz 88 ?_))
 refine .pk ?_
 refine .mv ?_
 refine .gz 93 (.gz 93 (.gz 93 ?_))
 refine .pk ?_
 refine AOps.nil (AWp.condF rfl (AWp.skip ?_))
 exact ⟨.inr (.inr (.inr (.inl ⟨c78, c83⟩))), Le.mk (.c (.c (.c (.nil)))) (.c (.c (.nil)))⟩
 refine .gz 78 (.gz 78 (.gz 78 ?_))
 refine .pk ?_
 refine .mv ?_
 refine .gz 83 (.gz 83 (.gz 83 ?_))
 refine .pk ?_
 refine .mv ?_
 refine .gz 88 (.gz 88 (.gz 88 ?_))
 refine .pk ?_
 refine .mv ?_
 refine .gz 93 (.gz 93 (.gz 93 ?_))
 refine .pk ?_
 refine AOps.nil (AWp.condF rfl (AWp.skip ?_))
 exact ⟨.inr (.inr (.inr (.inr (c78)))), Le.mk (.c (.c (.c (.nil)))) (.c (.c (.nil)))⟩
 refine AWp.seq (AWp.sr ?_)
 refine .fa fl39_0 ?_
 refine .ld sh3 ?_
 refine AOps.nil (AWp.block (AWp.seq ?_))
 refine AWp.sr (.vl (Y.eql rfl rfl) ?_)
 refine .an ?_
 refine AOps.nil ?_
 refine AWp.condKD rfl (fun c100 => ?_) (fun c100 => ?_)
 exfalso; omega
 refine AWp.region (.vl (Y.eql rfl rfl) ?_)
 refine .an ?_
 refine AOps.nil ?_
 refine AWp.condKD rfl (fun c100 => ?_) (fun c100 => ?_)
 exfalso; omega
 refine AWp.sr (.vl (Y.eql rfl rfl) ?_)
 refine .an ?_
 refine AOps.nil ?_
 refine AWp.condD rfl (fun c105 => ?_) (fun c105 => ?_)
 exfalso; omega
 refine AWp.sr (.vl (Y.eql rfl rfl) ?_)
 refine .an ?_
 refine AOps.nil ?_
 refine AWp.condD rfl (fun c143 => ?_) (fun c143 => ?_)
 exfalso; omega
 refine AWp.seq (AWp.sr (.vl (Y.eql rfl rfl) ?_))
 refine .an ?_
 refine AOps.nil ?_
 refine AWp.condKD rfl (fun c152 => ?_) (fun c152 => ?_)
 exfalso; omega
 refine AWp.region (.vl (Y.eql rfl rfl) ?_)
 refine .an ?_
 refine AOps.nil ?_
 refine AWp.condKD rfl (fun c152 => ?_) (fun c152 => ?_)
 exfalso; omega
 refine AWp.sr (.vl (Y.eql rfl rfl) ?_)
 refine .an ?_
 refine AOps.nil ?_
 refine AWp.condD rfl (fun c157 => ?_) (fun c157 => ?_)
 exfalso; omega
 refine AWp.sr (.vl (Y.eql rfl rfl) ?_)
 refine .an ?_
 refine AOps.nil ?_
 refine AWp.condD rfl (fun c176 => ?_) (fun c176 => ?_)
 exfalso; omega
 refine AWp.sr (.vl (Y.eql rfl rfl) ?_)
 refine .an ?_
 refine AOps.nil ?_
 refine AWp.condD rfl (fun c180 => ?_) (fun c180 => ?_)
 exfalso; omega
 refine AWp.sr (.vl (Y.eql rfl rfl) ?_)
 refine .an ?_
 refine AOps.nil ?_
 refine AWp.condD rfl (fun c193 => ?_) (fun c193 => ?_)
 exfalso; omega
 refine AWp.skip (AWp.sr ?_)
 refine .an ?_
 refine AOps.nil (AWp.ret ?_)
 exact .rb rfl (df (fun h => hk h.kind))
theorem cell_k1 {n : Netlist} {op out mem : Int} {args : List Int} {num : Nat} (hs : n.Small) (hc : args.length ≤ 17592186043904) : ACalls Try.prog 88 [.agg (Netlist.row n), .agg [vi 1, vi op, vi out, .fz 1 (args.map irow), .v (.int .u64 ((num : Nat) : Int)), vi mem]] [] [] (fun r o => r = .v (.bool (decide (Shaped n ⟨1, op, out, args, num, mem⟩))) ∧ o = []) := by
 refine ACalls.of Try.func88 rfl rfl rfl (n := 207) (by decide) (Nat.le_of_ble_eq_true rfl) ?_
 have hs4 := hs.ins; have hs5 := hs.mems; have hs6 := hs.streams
 refine AWp.sr (AOps.box 102 rfl rfl rfl rfl rfl (by decide) (AOps.box 103 rfl rfl rfl rfl rfl (by decide) ?_))
 refine .an ?_
 refine AOps.nil (AWp.sr ?_)
 refine .fa fl39_3 ?_
 refine .ld sh22 ?_
 refine .vl (Y.len (n := args.length) sl22 rfl (congrArg some (List.length_map ..))) ?_
 refine .an ?_
 refine AOps.nil (AWp.seq (AWp.sr ?_))
 refine .fa fl39_0 ?_
 refine .ld sh3 ?_
 refine .vl (Y.neq rfl rfl) ?_
 refine .mv ?_
 refine .gw 14 (Y.fieldAddr fl39_0 rfl rfl) (.gw 14 (Y.load sh3 rfl rfl rfl rfl) (.gw 14 (Y.neq rfl rfl) ?_))
 refine .pk ?_
 refine .mv ?_
 refine .gw 19 (Y.fieldAddr fl39_1 rfl rfl) (.gw 19 (Y.load sh3 rfl rfl rfl rfl) (.gw 19 (Y.neq rfl rfl) ?_))
 refine .pk ?_
 refine AOps.nil ?_
 refine AWp.condD rfl (fun c23 => ?_) (fun c23 => ?_)
 refine AWp.sr ?_
 refine .an ?_
 refine AOps.nil (AWp.ret ?_)
 exact .rb rfl (df (by (try unfold Seq at *); (try unfold In at *); (simp only [Shaped, Int.reduceEq, Bool.not_eq_true, false_and, true_and, and_true, and_false, or_false, false_or, ne_eq]) <;> (first | omega | grind)))
 refine AWp.skip (AWp.sr ?_)
 refine .fa fl39_0 ?_
 refine .ld sh3 ?_
 refine .vl (Y.eql rfl rfl) ?_
 refine .mv ?_
 refine .gw 27 (Y.fieldAddr fl39_0 rfl rfl) (.gw 27 (Y.load sh3 rfl rfl rfl rfl) (.gw 27 (Y.eql rfl rfl) ?_))
 refine .pk ?_
 refine .an ?_
 refine AOps.nil (AWp.sr ?_)
 refine .fa fl39_0 ?_
 refine .ld sh3 ?_
 refine .vl (Y.eql rfl rfl) ?_
 refine .mv ?_
 refine .gw 35 (Y.fieldAddr fl39_0 rfl rfl) (.gw 35 (Y.load sh3 rfl rfl rfl rfl) (.gw 35 (Y.eql rfl rfl) ?_))
 refine .pk ?_
 refine .an ?_
 refine AOps.nil (AWp.seq (AWp.sr ?_))
 refine .mv ?_
 refine .vl (Y.not rfl) ?_
 refine .mv ?_
 refine .gw 42 (Y.move rfl rfl) (.gw 42 (Y.not rfl) ?_)
 refine .pk ?_
 refine .mv ?_
 refine .gw 46 (Y.fieldAddr fl39_5 rfl rfl) (.gw 46 (Y.load sh3 rfl rfl rfl rfl) (.gw 46 (Y.neq rfl rfl) ?_))
 refine .pk ?_
 refine .mv ?_
 refine AOps.splitD (d := 51) rfl (fun c51 => ?_) (fun c51 => ?_)
 refine .gz 51 (.gz 51 (.gz 53 ?_))
 refine .gz 53 (.gz 53 (.gz 53 ?_))
 refine .gz 53 (.gz 53 (.gz 53 ?_))
 refine .gz 51 ?_
 refine .pk ?_
 refine .mv ?_
 refine .gz 63 (.gz 63 (.gz 65 ?_))
 refine .gz 65 (.gz 65 (.gz 65 ?_))
 refine .gz 65 (.gz 65 (.gz 65 ?_))
 refine .gz 63 ?_
 refine .pk ?_
 refine AOps.nil (AWp.condT rfl (AWp.sr ?_))
 refine .an ?_
 refine AOps.nil (AWp.ret ?_)
 exact .rb rfl (df (by (try unfold Seq at *); (try unfold In at *); (simp only [Shaped, Int.reduceEq, Bool.not_eq_true, false_and, true_and, and_true, and_false, or_false, false_or, ne_eq]) <;> (first | omega | grind)))
 refine .gw 51 (Y.move rfl rfl) (.gw 51 (Y.move rfl rfl) (.gz 53 ?_))
 refine .gz 53 (.gz 53 (.gz 53 ?_))
 refine .gz 53 (.gz 53 (.gz 53 ?_))
 refine .gw 51 (Y.pick rfl rfl rfl) ?_
 refine .pk ?_
 refine .mv ?_
 refine .gw 63 (Y.move rfl rfl) (.gw 63 (Y.move rfl rfl) (.gz 65 ?_))
 refine .gz 65 (.gz 65 (.gz 65 ?_))
 refine .gz 65 (.gz 65 (.gz 65 ?_))
 refine .gw 63 (Y.pick rfl rfl rfl) ?_
 refine .pk ?_
 refine AOps.nil (AWp.condF rfl (AWp.skip ?_))
 refine AWp.seq (AWp.sr ?_)
 refine .fa fl39_0 ?_
 refine .ld sh3 ?_
 refine .vl (Y.neq rfl rfl) ?_
 refine .mv ?_
 refine .gz 78 (.gz 78 (.gz 78 ?_))
 refine .pk ?_
 refine .mv ?_
 refine .gz 83 (.gz 83 (.gz 83 ?_))
 refine .pk ?_
 refine .mv ?_
 refine .gz 88 (.gz 88 (.gz 88 ?_))
 refine .pk ?_
 refine .mv ?_
 refine .gz 93 (.gz 93 (.gz 93 ?_))
 refine .pk ?_
 refine AOps.nil (AWp.condF rfl (AWp.skip ?_))
 refine AWp.seq (AWp.sr ?_)
 refine .fa fl39_0 ?_
 refine .ld sh3 ?_
 refine AOps.nil (AWp.block (AWp.seq ?_))
 refine AWp.sr (.vl (Y.eql rfl rfl) ?_)
 refine .an ?_
 refine AOps.nil (AWp.condT rfl (AWp.skip ?_))
 refine AWp.condT rfl (AWp.sr ?_)
 refine .mv ?_
 refine .vl (Y.eql rfl rfl) ?_
 refine .an ?_
 refine AOps.nil (AWp.ret ?_)
 exact .rb rfl (dd (by (try unfold Seq at *); (try unfold In at *); (simp only [Shaped, Int.reduceEq, Bool.not_eq_true, false_and, true_and, and_true, and_false, or_false, false_or, ne_eq]) <;> (first | omega | grind)))
theorem cell_k2 {n : Netlist} {op out mem : Int} {args : List Int} {num : Nat} (hs : n.Small) (hc : args.length ≤ 17592186043904) : ACalls Try.prog 88 [.agg (Netlist.row n), .agg [vi 2, vi op, vi out, .fz 1 (args.map irow), .v (.int .u64 ((num : Nat) : Int)), vi mem]] [] [] (fun r o => r = .v (.bool (decide (Shaped n ⟨2, op, out, args, num, mem⟩))) ∧ o = []) := by
 refine ACalls.of Try.func88 rfl rfl rfl (n := 207) (by decide) (Nat.le_of_ble_eq_true rfl) ?_
 have hs4 := hs.ins; have hs5 := hs.mems; have hs6 := hs.streams
 refine AWp.sr (AOps.box 102 rfl rfl rfl rfl rfl (by decide) (AOps.box 103 rfl rfl rfl rfl rfl (by decide) ?_))
 refine .an ?_
 refine AOps.nil (AWp.sr ?_)
 refine .fa fl39_3 ?_
 refine .ld sh22 ?_
 refine .vl (Y.len (n := args.length) sl22 rfl (congrArg some (List.length_map ..))) ?_
 refine .an ?_
 refine AOps.nil (AWp.seq (AWp.sr ?_))
 refine .fa fl39_0 ?_
 refine .ld sh3 ?_
 refine .vl (Y.neq rfl rfl) ?_
 refine .mv ?_
 refine .gz 14 (.gz 14 (.gz 14 ?_))
 refine .pk ?_
 refine .mv ?_
 refine .gz 19 (.gz 19 (.gz 19 ?_))
 refine .pk ?_
 refine AOps.nil (AWp.condF rfl (AWp.skip ?_))
 refine AWp.sr ?_
 refine .fa fl39_0 ?_
 refine .ld sh3 ?_
 refine .vl (Y.eql rfl rfl) ?_
 refine .mv ?_
 refine .gw 27 (Y.fieldAddr fl39_0 rfl rfl) (.gw 27 (Y.load sh3 rfl rfl rfl rfl) (.gw 27 (Y.eql rfl rfl) ?_))
 refine .pk ?_
 refine .an ?_
 refine AOps.nil (AWp.sr ?_)
 refine .fa fl39_0 ?_
 refine .ld sh3 ?_
 refine .vl (Y.eql rfl rfl) ?_
 refine .mv ?_
 refine .gw 35 (Y.fieldAddr fl39_0 rfl rfl) (.gw 35 (Y.load sh3 rfl rfl rfl rfl) (.gw 35 (Y.eql rfl rfl) ?_))
 refine .pk ?_
 refine .an ?_
 refine AOps.nil (AWp.seq (AWp.sr ?_))
 refine .mv ?_
 refine .vl (Y.not rfl) ?_
 refine .mv ?_
 refine .gw 42 (Y.move rfl rfl) (.gw 42 (Y.not rfl) ?_)
 refine .pk ?_
 refine .mv ?_
 refine .gw 46 (Y.fieldAddr fl39_5 rfl rfl) (.gw 46 (Y.load sh3 rfl rfl rfl rfl) (.gw 46 (Y.neq rfl rfl) ?_))
 refine .pk ?_
 refine .mv ?_
 refine AOps.splitD (d := 51) rfl (fun c51 => ?_) (fun c51 => ?_)
 refine .gz 51 (.gz 51 (.gz 53 ?_))
 refine .gz 53 (.gz 53 (.gz 53 ?_))
 refine .gz 53 (.gz 53 (.gz 53 ?_))
 refine .gz 51 ?_
 refine .pk ?_
 refine .mv ?_
 refine .gz 63 (.gz 63 (.gz 65 ?_))
 refine .gz 65 (.gz 65 (.gz 65 ?_))
 refine .gz 65 (.gz 65 (.gz 65 ?_))
 refine .gz 63 ?_
 refine .pk ?_
 refine AOps.nil (AWp.condT rfl (AWp.sr ?_))
 refine .an ?_
 refine AOps.nil (AWp.ret ?_)
 exact .rb rfl (df (by (try unfold Plain at *); (try unfold Unary at *); (try unfold Bin at *); (try unfold Seq at *); simp only [Shaped, opArgs, Int.reduceEq, Bool.not_eq_true, false_and, true_and, and_true, and_false, or_false, false_or, ne_eq]; grind))
 refine .gw 51 (Y.move rfl rfl) (.gw 51 (Y.move rfl rfl) (.gz 53 ?_))
 refine .gz 53 (.gz 53 (.gz 53 ?_))
 refine .gz 53 (.gz 53 (.gz 53 ?_))
 refine .gw 51 (Y.pick rfl rfl rfl) ?_
 refine .pk ?_
 refine .mv ?_
 refine .gw 63 (Y.move rfl rfl) (.gw 63 (Y.move rfl rfl) (.gz 65 ?_))
 refine .gz 65 (.gz 65 (.gz 65 ?_))
 refine .gz 65 (.gz 65 (.gz 65 ?_))
 refine .gw 63 (Y.pick rfl rfl rfl) ?_
 refine .pk ?_
 refine AOps.nil (AWp.condF rfl (AWp.skip ?_))
 refine AWp.seq (AWp.sr ?_)
 refine .fa fl39_0 ?_
 refine .ld sh3 ?_
 refine .vl (Y.neq rfl rfl) ?_
 refine .mv ?_
 refine .gw 78 (Y.fieldAddr fl39_0 rfl rfl) (.gw 78 (Y.load sh3 rfl rfl rfl rfl) (.gw 78 (Y.neq rfl rfl) ?_))
 refine .pk ?_
 refine .mv ?_
 refine .gw 83 (Y.fieldAddr fl39_0 rfl rfl) (.gw 83 (Y.load sh3 rfl rfl rfl rfl) (.gw 83 (Y.neq rfl rfl) ?_))
 refine .pk ?_
 refine .mv ?_
 refine .gw 88 (Y.fieldAddr fl39_0 rfl rfl) (.gw 88 (Y.load sh3 rfl rfl rfl rfl) (.gw 88 (Y.neq rfl rfl) ?_))
 refine .pk ?_
 refine .mv ?_
 refine .gw 93 (Y.fieldAddr fl39_4 rfl rfl) (.gw 93 (Y.load sh37 rfl rfl rfl rfl) (.gw 93 (Y.neq rfl rfl) ?_))
 refine .pk ?_
 refine AOps.nil ?_
 refine AWp.condD rfl (fun c97 => ?_) (fun c97 => ?_)
 refine AWp.sr ?_
 refine .an ?_
 refine AOps.nil (AWp.ret ?_)
 exact .rb rfl (df (by (try unfold Plain at *); (try unfold Unary at *); (try unfold Bin at *); (try unfold Seq at *); simp only [Shaped, opArgs, Int.reduceEq, Bool.not_eq_true, false_and, true_and, and_true, and_false, or_false, false_or, ne_eq]; grind))
 refine AWp.skip (AWp.seq (AWp.sr ?_))
 refine .fa fl39_0 ?_
 refine .ld sh3 ?_
 refine AOps.nil (AWp.block (AWp.seq ?_))
 refine AWp.sr (.vl (Y.eql rfl rfl) ?_)
 refine .an ?_
 refine AOps.nil (AWp.condF rfl (AWp.region ?_))
 refine .vl (Y.eql rfl rfl) ?_
 refine .an ?_
 refine AOps.nil (AWp.condF rfl (AWp.sr ?_))
 refine .vl (Y.eql rfl rfl) ?_
 refine .an ?_
 refine AOps.nil (AWp.condT rfl (AWp.sr ?_))
 refine .fa fl39_1 ?_
 refine .ld sh3 ?_
 refine AOps.callP ok118 (unary_spec (w := op)) rfl (.keep rfl rfl .nil) (by decide) rfl ?_
 refine .mv ?_
 refine AOps.splitD (d := 110) rfl (fun c110 => ?_) (fun c110 => ?_)
 refine .gw 110 (Y.move rfl rfl) (.gw 110 (Y.eql rfl rfl) ?_)
 refine .pk ?_
 refine .mv ?_
 refine AOps.splitD (d := 114) rfl (fun c114 => ?_) (fun c114 => ?_)
 refine .gz 114 (.gz 114 (.gz 114 ?_))
 refine .gz 114 (.gz 118 (.gz 118 ?_))
 refine .gz 114 ?_
 refine .pk ?_
 refine .mv ?_
 refine .gz 123 (.gz 123 (.gz 123 ?_))
 refine .gz 123 (.gz 127 (.gz 127 ?_))
 refine .gz 127 (.gz 127 (.gz 123 ?_))
 refine .gz 123 (.gz 133 (.gz 133 ?_))
 refine .gz 133 (.gz 123 (.gz 123 ?_))
 refine .gz 138 (.gz 138 (.gz 123 ?_))
 refine .pk ?_
 refine .an ?_
 refine AOps.nil (AWp.ret ?_)
 exact .rb rfl (dt (by (try unfold Plain at *); (try unfold Unary at *); (try unfold Bin at *); (try unfold Seq at *); simp only [Shaped, opArgs, Int.reduceEq, Bool.not_eq_true, false_and, true_and, and_true, and_false, or_false, false_or, ne_eq]; grind))
 refine .gw 114 (Y.fieldAddr fl39_1 rfl rfl) (.gw 114 (Y.load sh3 rfl rfl rfl rfl) (.gw 114 (Y.eql rfl rfl) ?_))
 refine .gw 114 (Y.move rfl rfl) ?_
 refine AOps.splitD (d := 118) rfl (fun c118 => ?_) (fun c118 => ?_)
 refine .gw 118 (Y.move rfl rfl) (.gw 118 (Y.eql rfl rfl) (.gw 114 (Y.pick rfl rfl rfl) ?_))
 refine .pk ?_
 refine .mv ?_
 refine AOps.splitD (d := 123) rfl (fun c123 => ?_) (fun c123 => ?_)
 refine .gz 123 (.gz 123 (.gz 123 ?_))
 refine .gz 123 (.gz 127 (.gz 127 ?_))
 refine .gz 127 (.gz 127 (.gz 123 ?_))
 refine .gz 123 (.gz 133 (.gz 133 ?_))
 refine .gz 133 (.gz 123 (.gz 123 ?_))
 refine .gz 138 (.gz 138 (.gz 123 ?_))
 refine .pk ?_
 refine .an ?_
 refine AOps.nil (AWp.ret ?_)
 exact .rb rfl (dt (by (try unfold Plain at *); (try unfold Unary at *); (try unfold Bin at *); (try unfold Seq at *); simp only [Shaped, opArgs, Int.reduceEq, Bool.not_eq_true, false_and, true_and, and_true, and_false, or_false, false_or, ne_eq]; grind))
 refine .gw 123 (Y.fieldAddr fl39_1 rfl rfl) (.gw 123 (Y.load sh3 rfl rfl rfl rfl) (AOps.guardRun (d := 123) rfl (by decide) rfl ?_))
 refine AOps.callP ok119 (plain_spec (w := op)) rfl (.keep rfl rfl .nil) (by decide) rfl (.gw 123 (Y.move rfl rfl) ?_)
 refine AOps.splitD (d := 127) rfl (fun c127 => ?_) (fun c127 => ?_)
 refine .gw 127 (Y.fieldAddr fl39_1 rfl rfl) (.gw 127 (Y.load sh3 rfl rfl rfl rfl) (AOps.guardRun (d := 127) rfl (by decide) rfl ?_))
 refine AOps.callP ok118 (unary_spec (w := op)) rfl (.keep rfl rfl .nil) (by decide) rfl (.gw 127 (Y.not rfl) (.gw 123 (Y.pick rfl rfl rfl) ?_))
 refine .gw 123 (Y.move rfl rfl) ?_
 refine AOps.split (d := 133) rfl (fun c133 => ?_) (fun c133 => ?_)
 replace c133 : ¬ (Unary op) := by simpa using c133
 refine .gw 133 (Y.fieldAddr fl39_1 rfl rfl) (.gw 133 (Y.load sh3 rfl rfl rfl rfl) (.gw 133 (Y.neq rfl rfl) ?_))
 refine .gw 123 (Y.pick rfl rfl rfl) (.gw 123 (Y.move rfl rfl) ?_)
 refine AOps.splitD (d := 138) rfl (fun c138 => ?_) (fun c138 => ?_)
 refine .gw 138 (Y.move rfl rfl) (.gw 138 (Y.eql rfl rfl) (.gw 123 (Y.pick rfl rfl rfl) ?_))
 refine .pk ?_
 refine .an ?_
 refine AOps.nil (AWp.ret ?_)
 exact .rb rfl (dd (by (try unfold Plain at *); (try unfold Unary at *); (try unfold Bin at *); (try unfold Seq at *); simp only [Shaped, opArgs, Int.reduceEq, Bool.not_eq_true, false_and, true_and, and_true, and_false, or_false, false_or, ne_eq]; grind))
 refine .gz 138 (.gz 138 (.gw 123 (Y.pick rfl rfl rfl) ?_))
 refine .pk ?_
 refine .an ?_
 refine AOps.nil (AWp.ret ?_)
 exact .rb rfl (df (by (try unfold Plain at *); (try unfold Unary at *); (try unfold Bin at *); (try unfold Seq at *); simp only [Shaped, opArgs, Int.reduceEq, Bool.not_eq_true, false_and, true_and, and_true, and_false, or_false, false_or, ne_eq]; grind))
 replace c133 : Unary op := by simpa using c133
 refine .gz 133 (.gz 133 (.gz 133 ?_))
 refine .gw 123 (Y.pick rfl rfl rfl) (.gw 123 (Y.move rfl rfl) (.gz 138 ?_))
 refine .gz 138 (.gw 123 (Y.pick rfl rfl rfl) ?_)
 refine .pk ?_
 refine .an ?_
 refine AOps.nil (AWp.ret ?_)
 exact .rb rfl (df (by (try unfold Plain at *); (try unfold Unary at *); (try unfold Bin at *); (try unfold Seq at *); simp only [Shaped, opArgs, Int.reduceEq, Bool.not_eq_true, false_and, true_and, and_true, and_false, or_false, false_or, ne_eq]; grind))
 refine .gz 127 (.gz 127 (.gz 127 ?_))
 refine .gz 127 (.gw 123 (Y.pick rfl rfl rfl) (.gw 123 (Y.move rfl rfl) ?_))
 refine .gz 133 (.gz 133 (.gz 133 ?_))
 refine .gw 123 (Y.pick rfl rfl rfl) (.gw 123 (Y.move rfl rfl) (.gz 138 ?_))
 refine .gz 138 (.gw 123 (Y.pick rfl rfl rfl) ?_)
 refine .pk ?_
 refine .an ?_
 refine AOps.nil (AWp.ret ?_)
 exact .rb rfl (df (by (try unfold Plain at *); (try unfold Unary at *); (try unfold Bin at *); (try unfold Seq at *); simp only [Shaped, opArgs, Int.reduceEq, Bool.not_eq_true, false_and, true_and, and_true, and_false, or_false, false_or, ne_eq]; grind))
 refine .gz 118 (.gz 118 (.gw 114 (Y.pick rfl rfl rfl) ?_))
 refine .pk ?_
 refine .mv ?_
 refine .gw 123 (Y.fieldAddr fl39_1 rfl rfl) (.gw 123 (Y.load sh3 rfl rfl rfl rfl) (AOps.guardRun (d := 123) rfl (by decide) rfl ?_))
 refine AOps.callP ok119 (plain_spec (w := op)) rfl (.keep rfl rfl .nil) (by decide) rfl (.gw 123 (Y.move rfl rfl) ?_)
 refine AOps.splitD (d := 127) rfl (fun c127 => ?_) (fun c127 => ?_)
 refine .gw 127 (Y.fieldAddr fl39_1 rfl rfl) (.gw 127 (Y.load sh3 rfl rfl rfl rfl) (AOps.guardRun (d := 127) rfl (by decide) rfl ?_))
 refine AOps.callP ok118 (unary_spec (w := op)) rfl (.keep rfl rfl .nil) (by decide) rfl (.gw 127 (Y.not rfl) (.gw 123 (Y.pick rfl rfl rfl) ?_))
 refine .gw 123 (Y.move rfl rfl) ?_
 refine AOps.split (d := 133) rfl (fun c133 => ?_) (fun c133 => ?_)
 replace c133 : ¬ (Unary op) := by simpa using c133
 refine .gw 133 (Y.fieldAddr fl39_1 rfl rfl) (.gw 133 (Y.load sh3 rfl rfl rfl rfl) (.gw 133 (Y.neq rfl rfl) ?_))
 refine .gw 123 (Y.pick rfl rfl rfl) (.gw 123 (Y.move rfl rfl) ?_)
 refine AOps.splitD (d := 138) rfl (fun c138 => ?_) (fun c138 => ?_)
 refine .gw 138 (Y.move rfl rfl) (.gw 138 (Y.eql rfl rfl) (.gw 123 (Y.pick rfl rfl rfl) ?_))
 refine .pk ?_
 refine .an ?_
 refine AOps.nil (AWp.ret ?_)
 exact .rb rfl (dd (by (try unfold Plain at *); (try unfold Unary at *); (try unfold Bin at *); (try unfold Seq at *); simp only [Shaped, opArgs, Int.reduceEq, Bool.not_eq_true, false_and, true_and, and_true, and_false, or_false, false_or, ne_eq]; grind))
 refine .gz 138 (.gz 138 (.gw 123 (Y.pick rfl rfl rfl) ?_))
 refine .pk ?_
 refine .an ?_
 refine AOps.nil (AWp.ret ?_)
 exact .rb rfl (df (by (try unfold Plain at *); (try unfold Unary at *); (try unfold Bin at *); (try unfold Seq at *); simp only [Shaped, opArgs, Int.reduceEq, Bool.not_eq_true, false_and, true_and, and_true, and_false, or_false, false_or, ne_eq]; grind))
 replace c133 : Unary op := by simpa using c133
 refine .gz 133 (.gz 133 (.gz 133 ?_))
 refine .gw 123 (Y.pick rfl rfl rfl) (.gw 123 (Y.move rfl rfl) (.gz 138 ?_))
 refine .gz 138 (.gw 123 (Y.pick rfl rfl rfl) ?_)
 refine .pk ?_
 refine .an ?_
 refine AOps.nil (AWp.ret ?_)
 exact .rb rfl (df (by (try unfold Plain at *); (try unfold Unary at *); (try unfold Bin at *); (try unfold Seq at *); simp only [Shaped, opArgs, Int.reduceEq, Bool.not_eq_true, false_and, true_and, and_true, and_false, or_false, false_or, ne_eq]; grind))
 refine .gz 127 (.gz 127 (.gz 127 ?_))
 refine .gz 127 (.gw 123 (Y.pick rfl rfl rfl) (.gw 123 (Y.move rfl rfl) ?_))
 refine .gz 133 (.gz 133 (.gz 133 ?_))
 refine .gw 123 (Y.pick rfl rfl rfl) (.gw 123 (Y.move rfl rfl) (.gz 138 ?_))
 refine .gz 138 (.gw 123 (Y.pick rfl rfl rfl) ?_)
 refine .pk ?_
 refine .an ?_
 refine AOps.nil (AWp.ret ?_)
 exact .rb rfl (df (by (try unfold Plain at *); (try unfold Unary at *); (try unfold Bin at *); (try unfold Seq at *); simp only [Shaped, opArgs, Int.reduceEq, Bool.not_eq_true, false_and, true_and, and_true, and_false, or_false, false_or, ne_eq]; grind))
 refine .gz 110 (.gz 110 ?_)
 refine .pk ?_
 refine .mv ?_
 refine .gw 114 (Y.fieldAddr fl39_1 rfl rfl) (.gw 114 (Y.load sh3 rfl rfl rfl rfl) (.gw 114 (Y.eql rfl rfl) ?_))
 refine .gw 114 (Y.move rfl rfl) ?_
 refine AOps.splitD (d := 118) rfl (fun c118 => ?_) (fun c118 => ?_)
 refine .gw 118 (Y.move rfl rfl) (.gw 118 (Y.eql rfl rfl) (.gw 114 (Y.pick rfl rfl rfl) ?_))
 refine .pk ?_
 refine .mv ?_
 refine AOps.splitD (d := 123) rfl (fun c123 => ?_) (fun c123 => ?_)
 refine .gz 123 (.gz 123 (.gz 123 ?_))
 refine .gz 123 (.gz 127 (.gz 127 ?_))
 refine .gz 127 (.gz 127 (.gz 123 ?_))
 refine .gz 123 (.gz 133 (.gz 133 ?_))
 refine .gz 133 (.gz 123 (.gz 123 ?_))
 refine .gz 138 (.gz 138 (.gz 123 ?_))
 refine .pk ?_
 refine .an ?_
 refine AOps.nil (AWp.ret ?_)
 exact .rb rfl (dt (by (try unfold Plain at *); (try unfold Unary at *); (try unfold Bin at *); (try unfold Seq at *); simp only [Shaped, opArgs, Int.reduceEq, Bool.not_eq_true, false_and, true_and, and_true, and_false, or_false, false_or, ne_eq]; grind))
 refine .gw 123 (Y.fieldAddr fl39_1 rfl rfl) (.gw 123 (Y.load sh3 rfl rfl rfl rfl) (AOps.guardRun (d := 123) rfl (by decide) rfl ?_))
 refine AOps.callP ok119 (plain_spec (w := op)) rfl (.keep rfl rfl .nil) (by decide) rfl (.gw 123 (Y.move rfl rfl) ?_)
 refine AOps.splitD (d := 127) rfl (fun c127 => ?_) (fun c127 => ?_)
 refine .gw 127 (Y.fieldAddr fl39_1 rfl rfl) (.gw 127 (Y.load sh3 rfl rfl rfl rfl) (AOps.guardRun (d := 127) rfl (by decide) rfl ?_))
 refine AOps.callP ok118 (unary_spec (w := op)) rfl (.keep rfl rfl .nil) (by decide) rfl (.gw 127 (Y.not rfl) (.gw 123 (Y.pick rfl rfl rfl) ?_))
 refine .gw 123 (Y.move rfl rfl) ?_
 refine AOps.split (d := 133) rfl (fun c133 => ?_) (fun c133 => ?_)
 replace c133 : ¬ (Unary op) := by simpa using c133
 refine .gw 133 (Y.fieldAddr fl39_1 rfl rfl) (.gw 133 (Y.load sh3 rfl rfl rfl rfl) (.gw 133 (Y.neq rfl rfl) ?_))
 refine .gw 123 (Y.pick rfl rfl rfl) (.gw 123 (Y.move rfl rfl) ?_)
 refine AOps.splitD (d := 138) rfl (fun c138 => ?_) (fun c138 => ?_)
 refine .gw 138 (Y.move rfl rfl) (.gw 138 (Y.eql rfl rfl) (.gw 123 (Y.pick rfl rfl rfl) ?_))
 refine .pk ?_
 refine .an ?_
 refine AOps.nil (AWp.ret ?_)
 exact .rb rfl (dd (by (try unfold Plain at *); (try unfold Unary at *); (try unfold Bin at *); (try unfold Seq at *); simp only [Shaped, opArgs, Int.reduceEq, Bool.not_eq_true, false_and, true_and, and_true, and_false, or_false, false_or, ne_eq]; grind))
 refine .gz 138 (.gz 138 (.gw 123 (Y.pick rfl rfl rfl) ?_))
 refine .pk ?_
 refine .an ?_
 refine AOps.nil (AWp.ret ?_)
 exact .rb rfl (df (by (try unfold Plain at *); (try unfold Unary at *); (try unfold Bin at *); (try unfold Seq at *); simp only [Shaped, opArgs, Int.reduceEq, Bool.not_eq_true, false_and, true_and, and_true, and_false, or_false, false_or, ne_eq]; grind))
 replace c133 : Unary op := by simpa using c133
 refine .gz 133 (.gz 133 (.gz 133 ?_))
 refine .gw 123 (Y.pick rfl rfl rfl) (.gw 123 (Y.move rfl rfl) (.gz 138 ?_))
 refine .gz 138 (.gw 123 (Y.pick rfl rfl rfl) ?_)
 refine .pk ?_
 refine .an ?_
 refine AOps.nil (AWp.ret ?_)
 exact .rb rfl (df (by (try unfold Plain at *); (try unfold Unary at *); (try unfold Bin at *); (try unfold Seq at *); simp only [Shaped, opArgs, Int.reduceEq, Bool.not_eq_true, false_and, true_and, and_true, and_false, or_false, false_or, ne_eq]; grind))
 refine .gz 127 (.gz 127 (.gz 127 ?_))
 refine .gz 127 (.gw 123 (Y.pick rfl rfl rfl) (.gw 123 (Y.move rfl rfl) ?_))
 refine .gz 133 (.gz 133 (.gz 133 ?_))
 refine .gw 123 (Y.pick rfl rfl rfl) (.gw 123 (Y.move rfl rfl) (.gz 138 ?_))
 refine .gz 138 (.gw 123 (Y.pick rfl rfl rfl) ?_)
 refine .pk ?_
 refine .an ?_
 refine AOps.nil (AWp.ret ?_)
 exact .rb rfl (df (by (try unfold Plain at *); (try unfold Unary at *); (try unfold Bin at *); (try unfold Seq at *); simp only [Shaped, opArgs, Int.reduceEq, Bool.not_eq_true, false_and, true_and, and_true, and_false, or_false, false_or, ne_eq]; grind))
 refine .gz 118 (.gz 118 (.gw 114 (Y.pick rfl rfl rfl) ?_))
 refine .pk ?_
 refine .mv ?_
 refine .gw 123 (Y.fieldAddr fl39_1 rfl rfl) (.gw 123 (Y.load sh3 rfl rfl rfl rfl) (AOps.guardRun (d := 123) rfl (by decide) rfl ?_))
 refine AOps.callP ok119 (plain_spec (w := op)) rfl (.keep rfl rfl .nil) (by decide) rfl (.gw 123 (Y.move rfl rfl) ?_)
 refine AOps.splitD (d := 127) rfl (fun c127 => ?_) (fun c127 => ?_)
 refine .gw 127 (Y.fieldAddr fl39_1 rfl rfl) (.gw 127 (Y.load sh3 rfl rfl rfl rfl) (AOps.guardRun (d := 127) rfl (by decide) rfl ?_))
 refine AOps.callP ok118 (unary_spec (w := op)) rfl (.keep rfl rfl .nil) (by decide) rfl (.gw 127 (Y.not rfl) (.gw 123 (Y.pick rfl rfl rfl) ?_))
 refine .gw 123 (Y.move rfl rfl) ?_
 refine AOps.split (d := 133) rfl (fun c133 => ?_) (fun c133 => ?_)
 replace c133 : ¬ (Unary op) := by simpa using c133
 refine .gw 133 (Y.fieldAddr fl39_1 rfl rfl) (.gw 133 (Y.load sh3 rfl rfl rfl rfl) (.gw 133 (Y.neq rfl rfl) ?_))
 refine .gw 123 (Y.pick rfl rfl rfl) (.gw 123 (Y.move rfl rfl) ?_)
 refine AOps.splitD (d := 138) rfl (fun c138 => ?_) (fun c138 => ?_)
 refine .gw 138 (Y.move rfl rfl) (.gw 138 (Y.eql rfl rfl) (.gw 123 (Y.pick rfl rfl rfl) ?_))
 refine .pk ?_
 refine .an ?_
 refine AOps.nil (AWp.ret ?_)
 exact .rb rfl (dd (by (try unfold Plain at *); (try unfold Unary at *); (try unfold Bin at *); (try unfold Seq at *); simp only [Shaped, opArgs, Int.reduceEq, Bool.not_eq_true, false_and, true_and, and_true, and_false, or_false, false_or, ne_eq]; grind))
 refine .gz 138 (.gz 138 (.gw 123 (Y.pick rfl rfl rfl) ?_))
 refine .pk ?_
 refine .an ?_
 refine AOps.nil (AWp.ret ?_)
 exact .rb rfl (df (by (try unfold Plain at *); (try unfold Unary at *); (try unfold Bin at *); (try unfold Seq at *); simp only [Shaped, opArgs, Int.reduceEq, Bool.not_eq_true, false_and, true_and, and_true, and_false, or_false, false_or, ne_eq]; grind))
 replace c133 : Unary op := by simpa using c133
 refine .gz 133 (.gz 133 (.gz 133 ?_))
 refine .gw 123 (Y.pick rfl rfl rfl) (.gw 123 (Y.move rfl rfl) (.gz 138 ?_))
 refine .gz 138 (.gw 123 (Y.pick rfl rfl rfl) ?_)
 refine .pk ?_
 refine .an ?_
 refine AOps.nil (AWp.ret ?_)
 exact .rb rfl (df (by (try unfold Plain at *); (try unfold Unary at *); (try unfold Bin at *); (try unfold Seq at *); simp only [Shaped, opArgs, Int.reduceEq, Bool.not_eq_true, false_and, true_and, and_true, and_false, or_false, false_or, ne_eq]; grind))
 refine .gz 127 (.gz 127 (.gz 127 ?_))
 refine .gz 127 (.gw 123 (Y.pick rfl rfl rfl) (.gw 123 (Y.move rfl rfl) ?_))
 refine .gz 133 (.gz 133 (.gz 133 ?_))
 refine .gw 123 (Y.pick rfl rfl rfl) (.gw 123 (Y.move rfl rfl) (.gz 138 ?_))
 refine .gz 138 (.gw 123 (Y.pick rfl rfl rfl) ?_)
 refine .pk ?_
 refine .an ?_
 refine AOps.nil (AWp.ret ?_)
 exact .rb rfl (df (by (try unfold Plain at *); (try unfold Unary at *); (try unfold Bin at *); (try unfold Seq at *); simp only [Shaped, opArgs, Int.reduceEq, Bool.not_eq_true, false_and, true_and, and_true, and_false, or_false, false_or, ne_eq]; grind))
theorem cell_k3 {n : Netlist} {op out mem : Int} {args : List Int} {num : Nat} (hs : n.Small) (hc : args.length ≤ 17592186043904) : ACalls Try.prog 88 [.agg (Netlist.row n), .agg [vi 3, vi op, vi out, .fz 1 (args.map irow), .v (.int .u64 ((num : Nat) : Int)), vi mem]] [] [] (fun r o => r = .v (.bool (decide (Shaped n ⟨3, op, out, args, num, mem⟩))) ∧ o = []) := by
 refine ACalls.of Try.func88 rfl rfl rfl (n := 207) (by decide) (Nat.le_of_ble_eq_true rfl) ?_
 have hs4 := hs.ins; have hs5 := hs.mems; have hs6 := hs.streams
 refine AWp.sr (AOps.box 102 rfl rfl rfl rfl rfl (by decide) (AOps.box 103 rfl rfl rfl rfl rfl (by decide) ?_))
 refine .an ?_
 refine AOps.nil (AWp.sr ?_)
 refine .fa fl39_3 ?_
 refine .ld sh22 ?_
 refine .vl (Y.len (n := args.length) sl22 rfl (congrArg some (List.length_map ..))) ?_
 refine .an ?_
 refine AOps.nil (AWp.seq (AWp.sr ?_))
 refine .fa fl39_0 ?_
 refine .ld sh3 ?_
 refine .vl (Y.neq rfl rfl) ?_
 refine .mv ?_
 refine .gw 14 (Y.fieldAddr fl39_0 rfl rfl) (.gw 14 (Y.load sh3 rfl rfl rfl rfl) (.gw 14 (Y.neq rfl rfl) ?_))
 refine .pk ?_
 refine .mv ?_
 refine .gw 19 (Y.fieldAddr fl39_1 rfl rfl) (.gw 19 (Y.load sh3 rfl rfl rfl rfl) (.gw 19 (Y.neq rfl rfl) ?_))
 refine .pk ?_
 refine AOps.nil ?_
 refine AWp.condD rfl (fun c23 => ?_) (fun c23 => ?_)
 refine AWp.sr ?_
 refine .an ?_
 refine AOps.nil (AWp.ret ?_)
 exact .rb rfl (df (by (try unfold Seq at *); (try unfold In at *); (simp only [Shaped, Int.reduceEq, Bool.not_eq_true, false_and, true_and, and_true, and_false, or_false, false_or, ne_eq]) <;> (first | omega | grind)))
 refine AWp.skip (AWp.sr ?_)
 refine .fa fl39_0 ?_
 refine .ld sh3 ?_
 refine .vl (Y.eql rfl rfl) ?_
 refine .mv ?_
 refine .gw 27 (Y.fieldAddr fl39_0 rfl rfl) (.gw 27 (Y.load sh3 rfl rfl rfl rfl) (.gw 27 (Y.eql rfl rfl) ?_))
 refine .pk ?_
 refine .an ?_
 refine AOps.nil (AWp.sr ?_)
 refine .fa fl39_0 ?_
 refine .ld sh3 ?_
 refine .vl (Y.eql rfl rfl) ?_
 refine .mv ?_
 refine .gw 35 (Y.fieldAddr fl39_0 rfl rfl) (.gw 35 (Y.load sh3 rfl rfl rfl rfl) (.gw 35 (Y.eql rfl rfl) ?_))
 refine .pk ?_
 refine .an ?_
 refine AOps.nil (AWp.seq (AWp.sr ?_))
 refine .mv ?_
 refine .vl (Y.not rfl) ?_
 refine .mv ?_
 refine .gw 42 (Y.move rfl rfl) (.gw 42 (Y.not rfl) ?_)
 refine .pk ?_
 refine .mv ?_
 refine .gw 46 (Y.fieldAddr fl39_5 rfl rfl) (.gw 46 (Y.load sh3 rfl rfl rfl rfl) (.gw 46 (Y.neq rfl rfl) ?_))
 refine .pk ?_
 refine .mv ?_
 refine AOps.splitD (d := 51) rfl (fun c51 => ?_) (fun c51 => ?_)
 refine .gz 51 (.gz 51 (.gz 53 ?_))
 refine .gz 53 (.gz 53 (.gz 53 ?_))
 refine .gz 53 (.gz 53 (.gz 53 ?_))
 refine .gz 51 ?_
 refine .pk ?_
 refine .mv ?_
 refine .gz 63 (.gz 63 (.gz 65 ?_))
 refine .gz 65 (.gz 65 (.gz 65 ?_))
 refine .gz 65 (.gz 65 (.gz 65 ?_))
 refine .gz 63 ?_
 refine .pk ?_
 refine AOps.nil (AWp.condT rfl (AWp.sr ?_))
 refine .an ?_
 refine AOps.nil (AWp.ret ?_)
 exact .rb rfl (df (by (try unfold Seq at *); (try unfold In at *); (simp only [Shaped, Int.reduceEq, Bool.not_eq_true, false_and, true_and, and_true, and_false, or_false, false_or, ne_eq]) <;> (first | omega | grind)))
 refine .gw 51 (Y.move rfl rfl) (.gw 51 (Y.move rfl rfl) (.gz 53 ?_))
 refine .gz 53 (.gz 53 (.gz 53 ?_))
 refine .gz 53 (.gz 53 (.gz 53 ?_))
 refine .gw 51 (Y.pick rfl rfl rfl) ?_
 refine .pk ?_
 refine .mv ?_
 refine .gw 63 (Y.move rfl rfl) (.gw 63 (Y.move rfl rfl) (.gz 65 ?_))
 refine .gz 65 (.gz 65 (.gz 65 ?_))
 refine .gz 65 (.gz 65 (.gz 65 ?_))
 refine .gw 63 (Y.pick rfl rfl rfl) ?_
 refine .pk ?_
 refine AOps.nil (AWp.condF rfl (AWp.skip ?_))
 refine AWp.seq (AWp.sr ?_)
 refine .fa fl39_0 ?_
 refine .ld sh3 ?_
 refine .vl (Y.neq rfl rfl) ?_
 refine .mv ?_
 refine .gw 78 (Y.fieldAddr fl39_0 rfl rfl) (.gw 78 (Y.load sh3 rfl rfl rfl rfl) (.gw 78 (Y.neq rfl rfl) ?_))
 refine .pk ?_
 refine .mv ?_
 refine .gw 83 (Y.fieldAddr fl39_0 rfl rfl) (.gw 83 (Y.load sh3 rfl rfl rfl rfl) (.gw 83 (Y.neq rfl rfl) ?_))
 refine .pk ?_
 refine .mv ?_
 refine .gw 88 (Y.fieldAddr fl39_0 rfl rfl) (.gw 88 (Y.load sh3 rfl rfl rfl rfl) (.gw 88 (Y.neq rfl rfl) ?_))
 refine .pk ?_
 refine .mv ?_
 refine .gw 93 (Y.fieldAddr fl39_4 rfl rfl) (.gw 93 (Y.load sh37 rfl rfl rfl rfl) (.gw 93 (Y.neq rfl rfl) ?_))
 refine .pk ?_
 refine AOps.nil ?_
 refine AWp.condD rfl (fun c97 => ?_) (fun c97 => ?_)
 refine AWp.sr ?_
 refine .an ?_
 refine AOps.nil (AWp.ret ?_)
 exact .rb rfl (df (by (try unfold Seq at *); (try unfold In at *); (simp only [Shaped, Int.reduceEq, Bool.not_eq_true, false_and, true_and, and_true, and_false, or_false, false_or, ne_eq]) <;> (first | omega | grind)))
 refine AWp.skip (AWp.seq (AWp.sr ?_))
 refine .fa fl39_0 ?_
 refine .ld sh3 ?_
 refine AOps.nil (AWp.block (AWp.seq ?_))
 refine AWp.sr (.vl (Y.eql rfl rfl) ?_)
 refine .an ?_
 refine AOps.nil (AWp.condF rfl (AWp.region ?_))
 refine .vl (Y.eql rfl rfl) ?_
 refine .an ?_
 refine AOps.nil (AWp.condF rfl (AWp.sr ?_))
 refine .vl (Y.eql rfl rfl) ?_
 refine .an ?_
 refine AOps.nil (AWp.condF rfl (AWp.sr ?_))
 refine .vl (Y.eql rfl rfl) ?_
 refine .an ?_
 refine AOps.nil (AWp.condT rfl (AWp.sr ?_))
 refine .mv ?_
 refine .vl (Y.geq rfl rfl) ?_
 refine .mv ?_
 refine AOps.splitD (d := 147) rfl (fun c147 => ?_) (fun c147 => ?_)
 refine .gw 147 (Y.move rfl rfl) ?_
 refine .gw 147 (Y.remI rfl rfl (by omega)) ?_
 refine .gw 147 (Y.eql rfl rfl) ?_
 refine .pk ?_
 refine .an ?_
 refine AOps.nil (AWp.ret ?_)
 exact .rb rfl (dd (by (try unfold Seq at *); (try unfold In at *); (simp only [Shaped, Int.reduceEq, Bool.not_eq_true, false_and, true_and, and_true, and_false, or_false, false_or, ne_eq]) <;> (first | omega | grind)))
 refine .gz 147 (.gz 147 (.gz 147 ?_))
 refine .pk ?_
 refine .an ?_
 refine AOps.nil (AWp.ret ?_)
 exact .rb rfl (df (by (try unfold Seq at *); (try unfold In at *); (simp only [Shaped, Int.reduceEq, Bool.not_eq_true, false_and, true_and, and_true, and_false, or_false, false_or, ne_eq]) <;> (first | omega | grind)))
theorem cell_k4 {n : Netlist} {op out mem : Int} {args : List Int} {num : Nat} (hs : n.Small) (hc : args.length ≤ 17592186043904) : ACalls Try.prog 88 [.agg (Netlist.row n), .agg [vi 4, vi op, vi out, .fz 1 (args.map irow), .v (.int .u64 ((num : Nat) : Int)), vi mem]] [] [] (fun r o => r = .v (.bool (decide (Shaped n ⟨4, op, out, args, num, mem⟩))) ∧ o = []) := by
 refine ACalls.of Try.func88 rfl rfl rfl (n := 207) (by decide) (Nat.le_of_ble_eq_true rfl) ?_
 have hs4 := hs.ins; have hs5 := hs.mems; have hs6 := hs.streams
 refine AWp.sr (AOps.box 102 rfl rfl rfl rfl rfl (by decide) (AOps.box 103 rfl rfl rfl rfl rfl (by decide) ?_))
 refine .an ?_
 refine AOps.nil (AWp.sr ?_)
 refine .fa fl39_3 ?_
 refine .ld sh22 ?_
 refine .vl (Y.len (n := args.length) sl22 rfl (congrArg some (List.length_map ..))) ?_
 refine .an ?_
 refine AOps.nil (AWp.seq (AWp.sr ?_))
 refine .fa fl39_0 ?_
 refine .ld sh3 ?_
 refine .vl (Y.neq rfl rfl) ?_
 refine .mv ?_
 refine .gw 14 (Y.fieldAddr fl39_0 rfl rfl) (.gw 14 (Y.load sh3 rfl rfl rfl rfl) (.gw 14 (Y.neq rfl rfl) ?_))
 refine .pk ?_
 refine .mv ?_
 refine .gw 19 (Y.fieldAddr fl39_1 rfl rfl) (.gw 19 (Y.load sh3 rfl rfl rfl rfl) (.gw 19 (Y.neq rfl rfl) ?_))
 refine .pk ?_
 refine AOps.nil ?_
 refine AWp.condD rfl (fun c23 => ?_) (fun c23 => ?_)
 refine AWp.sr ?_
 refine .an ?_
 refine AOps.nil (AWp.ret ?_)
 exact .rb rfl (df (by (try unfold Seq at *); (try unfold In at *); (simp only [Shaped, Int.reduceEq, Bool.not_eq_true, false_and, true_and, and_true, and_false, or_false, false_or, ne_eq]) <;> (first | omega | grind)))
 refine AWp.skip (AWp.sr ?_)
 refine .fa fl39_0 ?_
 refine .ld sh3 ?_
 refine .vl (Y.eql rfl rfl) ?_
 refine .mv ?_
 refine .gw 27 (Y.fieldAddr fl39_0 rfl rfl) (.gw 27 (Y.load sh3 rfl rfl rfl rfl) (.gw 27 (Y.eql rfl rfl) ?_))
 refine .pk ?_
 refine .an ?_
 refine AOps.nil (AWp.sr ?_)
 refine .fa fl39_0 ?_
 refine .ld sh3 ?_
 refine .vl (Y.eql rfl rfl) ?_
 refine .mv ?_
 refine .gw 35 (Y.fieldAddr fl39_0 rfl rfl) (.gw 35 (Y.load sh3 rfl rfl rfl rfl) (.gw 35 (Y.eql rfl rfl) ?_))
 refine .pk ?_
 refine .an ?_
 refine AOps.nil (AWp.seq (AWp.sr ?_))
 refine .mv ?_
 refine .vl (Y.not rfl) ?_
 refine .mv ?_
 refine .gw 42 (Y.move rfl rfl) (.gw 42 (Y.not rfl) ?_)
 refine .pk ?_
 refine .mv ?_
 refine .gw 46 (Y.fieldAddr fl39_5 rfl rfl) (.gw 46 (Y.load sh3 rfl rfl rfl rfl) (.gw 46 (Y.neq rfl rfl) ?_))
 refine .pk ?_
 refine .mv ?_
 refine AOps.splitD (d := 51) rfl (fun c51 => ?_) (fun c51 => ?_)
 refine .gz 51 (.gz 51 (.gz 53 ?_))
 refine .gz 53 (.gz 53 (.gz 53 ?_))
 refine .gz 53 (.gz 53 (.gz 53 ?_))
 refine .gz 51 ?_
 refine .pk ?_
 refine .mv ?_
 refine .gz 63 (.gz 63 (.gz 65 ?_))
 refine .gz 65 (.gz 65 (.gz 65 ?_))
 refine .gz 65 (.gz 65 (.gz 65 ?_))
 refine .gz 63 ?_
 refine .pk ?_
 refine AOps.nil (AWp.condT rfl (AWp.sr ?_))
 refine .an ?_
 refine AOps.nil (AWp.ret ?_)
 exact .rb rfl (df (by (try unfold Seq at *); (try unfold In at *); (simp only [Shaped, Int.reduceEq, Bool.not_eq_true, false_and, true_and, and_true, and_false, or_false, false_or, ne_eq]) <;> (first | omega | grind)))
 refine .gw 51 (Y.move rfl rfl) (.gw 51 (Y.move rfl rfl) (.gz 53 ?_))
 refine .gz 53 (.gz 53 (.gz 53 ?_))
 refine .gz 53 (.gz 53 (.gz 53 ?_))
 refine .gw 51 (Y.pick rfl rfl rfl) ?_
 refine .pk ?_
 refine .mv ?_
 refine .gw 63 (Y.move rfl rfl) (.gw 63 (Y.move rfl rfl) (.gz 65 ?_))
 refine .gz 65 (.gz 65 (.gz 65 ?_))
 refine .gz 65 (.gz 65 (.gz 65 ?_))
 refine .gw 63 (Y.pick rfl rfl rfl) ?_
 refine .pk ?_
 refine AOps.nil (AWp.condF rfl (AWp.skip ?_))
 refine AWp.seq (AWp.sr ?_)
 refine .fa fl39_0 ?_
 refine .ld sh3 ?_
 refine .vl (Y.neq rfl rfl) ?_
 refine .mv ?_
 refine .gw 78 (Y.fieldAddr fl39_0 rfl rfl) (.gw 78 (Y.load sh3 rfl rfl rfl rfl) (.gw 78 (Y.neq rfl rfl) ?_))
 refine .pk ?_
 refine .mv ?_
 refine .gz 83 (.gz 83 (.gz 83 ?_))
 refine .pk ?_
 refine .mv ?_
 refine .gz 88 (.gz 88 (.gz 88 ?_))
 refine .pk ?_
 refine .mv ?_
 refine .gz 93 (.gz 93 (.gz 93 ?_))
 refine .pk ?_
 refine AOps.nil (AWp.condF rfl (AWp.skip ?_))
 refine AWp.seq (AWp.sr ?_)
 refine .fa fl39_0 ?_
 refine .ld sh3 ?_
 refine AOps.nil (AWp.block (AWp.seq ?_))
 refine AWp.sr (.vl (Y.eql rfl rfl) ?_)
 refine .an ?_
 refine AOps.nil (AWp.condF rfl (AWp.region ?_))
 refine .vl (Y.eql rfl rfl) ?_
 refine .an ?_
 refine AOps.nil (AWp.condF rfl (AWp.sr ?_))
 refine .vl (Y.eql rfl rfl) ?_
 refine .an ?_
 refine AOps.nil (AWp.condF rfl (AWp.sr ?_))
 refine .vl (Y.eql rfl rfl) ?_
 refine .an ?_
 refine AOps.nil (AWp.condF rfl (AWp.seq ?_))
 refine AWp.sr (.vl (Y.eql rfl rfl) ?_)
 refine .an ?_
 refine AOps.nil (AWp.condT rfl (AWp.skip ?_))
 refine AWp.condT rfl (AWp.sr ?_)
 refine .mv ?_
 refine .vl (Y.eql rfl rfl) ?_
 refine .an ?_
 refine AOps.nil (AWp.ret ?_)
 exact .rb rfl (dd (by (try unfold Seq at *); (try unfold In at *); (simp only [Shaped, Int.reduceEq, Bool.not_eq_true, false_and, true_and, and_true, and_false, or_false, false_or, ne_eq]) <;> (first | omega | grind)))
theorem cell_k5 {n : Netlist} {op out mem : Int} {args : List Int} {num : Nat} (hs : n.Small) (hc : args.length ≤ 17592186043904) : ACalls Try.prog 88 [.agg (Netlist.row n), .agg [vi 5, vi op, vi out, .fz 1 (args.map irow), .v (.int .u64 ((num : Nat) : Int)), vi mem]] [] [] (fun r o => r = .v (.bool (decide (Shaped n ⟨5, op, out, args, num, mem⟩))) ∧ o = []) := by
 refine ACalls.of Try.func88 rfl rfl rfl (n := 207) (by decide) (Nat.le_of_ble_eq_true rfl) ?_
 have hs4 := hs.ins; have hs5 := hs.mems; have hs6 := hs.streams
 refine AWp.sr (AOps.box 102 rfl rfl rfl rfl rfl (by decide) (AOps.box 103 rfl rfl rfl rfl rfl (by decide) ?_))
 refine .an ?_
 refine AOps.nil (AWp.sr ?_)
 refine .fa fl39_3 ?_
 refine .ld sh22 ?_
 refine .vl (Y.len (n := args.length) sl22 rfl (congrArg some (List.length_map ..))) ?_
 refine .an ?_
 refine AOps.nil (AWp.seq (AWp.sr ?_))
 refine .fa fl39_0 ?_
 refine .ld sh3 ?_
 refine .vl (Y.neq rfl rfl) ?_
 refine .mv ?_
 refine .gw 14 (Y.fieldAddr fl39_0 rfl rfl) (.gw 14 (Y.load sh3 rfl rfl rfl rfl) (.gw 14 (Y.neq rfl rfl) ?_))
 refine .pk ?_
 refine .mv ?_
 refine .gz 19 (.gz 19 (.gz 19 ?_))
 refine .pk ?_
 refine AOps.nil (AWp.condF rfl (AWp.skip ?_))
 refine AWp.sr ?_
 refine .fa fl39_0 ?_
 refine .ld sh3 ?_
 refine .vl (Y.eql rfl rfl) ?_
 refine .mv ?_
 refine .gw 27 (Y.fieldAddr fl39_0 rfl rfl) (.gw 27 (Y.load sh3 rfl rfl rfl rfl) (.gw 27 (Y.eql rfl rfl) ?_))
 refine .pk ?_
 refine .an ?_
 refine AOps.nil (AWp.sr ?_)
 refine .fa fl39_0 ?_
 refine .ld sh3 ?_
 refine .vl (Y.eql rfl rfl) ?_
 refine .mv ?_
 refine .gw 35 (Y.fieldAddr fl39_0 rfl rfl) (.gw 35 (Y.load sh3 rfl rfl rfl rfl) (.gw 35 (Y.eql rfl rfl) ?_))
 refine .pk ?_
 refine .an ?_
 refine AOps.nil (AWp.seq (AWp.sr ?_))
 refine .mv ?_
 refine .vl (Y.not rfl) ?_
 refine .mv ?_
 refine .gw 42 (Y.move rfl rfl) (.gw 42 (Y.not rfl) ?_)
 refine .pk ?_
 refine .mv ?_
 refine .gw 46 (Y.fieldAddr fl39_5 rfl rfl) (.gw 46 (Y.load sh3 rfl rfl rfl rfl) (.gw 46 (Y.neq rfl rfl) ?_))
 refine .pk ?_
 refine .mv ?_
 refine AOps.splitD (d := 51) rfl (fun c51 => ?_) (fun c51 => ?_)
 refine .gz 51 (.gz 51 (.gz 53 ?_))
 refine .gz 53 (.gz 53 (.gz 53 ?_))
 refine .gz 53 (.gz 53 (.gz 53 ?_))
 refine .gz 51 ?_
 refine .pk ?_
 refine .mv ?_
 refine .gz 63 (.gz 63 (.gz 65 ?_))
 refine .gz 65 (.gz 65 (.gz 65 ?_))
 refine .gz 65 (.gz 65 (.gz 65 ?_))
 refine .gz 63 ?_
 refine .pk ?_
 refine AOps.nil (AWp.condT rfl (AWp.sr ?_))
 refine .an ?_
 refine AOps.nil (AWp.ret ?_)
 exact .rb rfl (df (by (try unfold Seq at *); (try unfold In at *); (simp only [Shaped, Int.reduceEq, Bool.not_eq_true, false_and, true_and, and_true, and_false, or_false, false_or, ne_eq]) <;> (first | omega | grind)))
 refine .gw 51 (Y.move rfl rfl) (.gw 51 (Y.move rfl rfl) (.gz 53 ?_))
 refine .gz 53 (.gz 53 (.gz 53 ?_))
 refine .gz 53 (.gz 53 (.gz 53 ?_))
 refine .gw 51 (Y.pick rfl rfl rfl) ?_
 refine .pk ?_
 refine .mv ?_
 refine .gw 63 (Y.move rfl rfl) (.gw 63 (Y.move rfl rfl) (.gz 65 ?_))
 refine .gz 65 (.gz 65 (.gz 65 ?_))
 refine .gz 65 (.gz 65 (.gz 65 ?_))
 refine .gw 63 (Y.pick rfl rfl rfl) ?_
 refine .pk ?_
 refine AOps.nil (AWp.condF rfl (AWp.skip ?_))
 refine AWp.seq (AWp.sr ?_)
 refine .fa fl39_0 ?_
 refine .ld sh3 ?_
 refine .vl (Y.neq rfl rfl) ?_
 refine .mv ?_
 refine .gw 78 (Y.fieldAddr fl39_0 rfl rfl) (.gw 78 (Y.load sh3 rfl rfl rfl rfl) (.gw 78 (Y.neq rfl rfl) ?_))
 refine .pk ?_
 refine .mv ?_
 refine .gw 83 (Y.fieldAddr fl39_0 rfl rfl) (.gw 83 (Y.load sh3 rfl rfl rfl rfl) (.gw 83 (Y.neq rfl rfl) ?_))
 refine .pk ?_
 refine .mv ?_
 refine .gz 88 (.gz 88 (.gz 88 ?_))
 refine .pk ?_
 refine .mv ?_
 refine .gz 93 (.gz 93 (.gz 93 ?_))
 refine .pk ?_
 refine AOps.nil (AWp.condF rfl (AWp.skip ?_))
 refine AWp.seq (AWp.sr ?_)
 refine .fa fl39_0 ?_
 refine .ld sh3 ?_
 refine AOps.nil (AWp.block (AWp.seq ?_))
 refine AWp.sr (.vl (Y.eql rfl rfl) ?_)
 refine .an ?_
 refine AOps.nil (AWp.condF rfl (AWp.region ?_))
 refine .vl (Y.eql rfl rfl) ?_
 refine .an ?_
 refine AOps.nil (AWp.condF rfl (AWp.sr ?_))
 refine .vl (Y.eql rfl rfl) ?_
 refine .an ?_
 refine AOps.nil (AWp.condF rfl (AWp.sr ?_))
 refine .vl (Y.eql rfl rfl) ?_
 refine .an ?_
 refine AOps.nil (AWp.condF rfl (AWp.seq ?_))
 refine AWp.sr (.vl (Y.eql rfl rfl) ?_)
 refine .an ?_
 refine AOps.nil (AWp.condF rfl (AWp.region ?_))
 refine .vl (Y.eql rfl rfl) ?_
 refine .an ?_
 refine AOps.nil (AWp.condF rfl (AWp.sr ?_))
 refine .vl (Y.eql rfl rfl) ?_
 refine .an ?_
 refine AOps.nil (AWp.condT rfl (AWp.sr ?_))
 refine .fa fl39_1 ?_
 refine .ld sh3 ?_
 refine AOps.callP ok120 (sequential_spec (w := op)) rfl (.keep rfl rfl .nil) (by decide) rfl ?_
 refine .mv ?_
 refine AOps.splitD (d := 162) rfl (fun c162 => ?_) (fun c162 => ?_)
 refine .gw 162 (Y.move rfl rfl) (.gw 162 (Y.eql rfl rfl) ?_)
 refine .pk ?_
 refine .mv ?_
 refine AOps.splitD (d := 166) rfl (fun c166 => ?_) (fun c166 => ?_)
 refine .gw 166 (Y.fieldAddr fl39_4 rfl rfl) (.gw 166 (Y.load sh37 rfl rfl rfl rfl) (.gw 166 (Y.geq rfl rfl) ?_))
 refine .pk ?_
 refine .mv ?_
 refine AOps.splitD (d := 171) rfl (fun c171 => ?_) (fun c171 => ?_)
 refine .gw 171 (Y.fieldAddr fl39_4 rfl rfl) (.gw 171 (Y.load sh37 rfl rfl rfl rfl) (.gw 171 (Y.leq rfl rfl) ?_))
 refine .pk ?_
 refine .an ?_
 refine AOps.nil (AWp.ret ?_)
 exact .rb rfl (dd (by (try unfold Seq at *); (try unfold In at *); (simp only [Shaped, Int.reduceEq, Bool.not_eq_true, false_and, true_and, and_true, and_false, or_false, false_or, ne_eq]) <;> (first | omega | grind)))
 refine .gz 171 (.gz 171 (.gz 171 ?_))
 refine .pk ?_
 refine .an ?_
 refine AOps.nil (AWp.ret ?_)
 exact .rb rfl (df (by (try unfold Seq at *); (try unfold In at *); (simp only [Shaped, Int.reduceEq, Bool.not_eq_true, false_and, true_and, and_true, and_false, or_false, false_or, ne_eq]) <;> (first | omega | grind)))
 refine .gz 166 (.gz 166 (.gz 166 ?_))
 refine .pk ?_
 refine .mv ?_
 refine .gz 171 (.gz 171 (.gz 171 ?_))
 refine .pk ?_
 refine .an ?_
 refine AOps.nil (AWp.ret ?_)
 exact .rb rfl (df (by (try unfold Seq at *); (try unfold In at *); (simp only [Shaped, Int.reduceEq, Bool.not_eq_true, false_and, true_and, and_true, and_false, or_false, false_or, ne_eq]) <;> (first | omega | grind)))
 refine .gz 162 (.gz 162 ?_)
 refine .pk ?_
 refine .mv ?_
 refine .gz 166 (.gz 166 (.gz 166 ?_))
 refine .pk ?_
 refine .mv ?_
 refine .gz 171 (.gz 171 (.gz 171 ?_))
 refine .pk ?_
 refine .an ?_
 refine AOps.nil (AWp.ret ?_)
 exact .rb rfl (df (by (try unfold Seq at *); (try unfold In at *); (simp only [Shaped, Int.reduceEq, Bool.not_eq_true, false_and, true_and, and_true, and_false, or_false, false_or, ne_eq]) <;> (first | omega | grind)))
theorem cell_k6 {n : Netlist} {op out mem : Int} {args : List Int} {num : Nat} (hs : n.Small) (hc : args.length ≤ 17592186043904) : ACalls Try.prog 88 [.agg (Netlist.row n), .agg [vi 6, vi op, vi out, .fz 1 (args.map irow), .v (.int .u64 ((num : Nat) : Int)), vi mem]] [] [] (fun r o => r = .v (.bool (decide (Shaped n ⟨6, op, out, args, num, mem⟩))) ∧ o = []) := by
 refine ACalls.of Try.func88 rfl rfl rfl (n := 207) (by decide) (Nat.le_of_ble_eq_true rfl) ?_
 have hs4 := hs.ins; have hs5 := hs.mems; have hs6 := hs.streams
 refine AWp.sr (AOps.box 102 rfl rfl rfl rfl rfl (by decide) (AOps.box 103 rfl rfl rfl rfl rfl (by decide) ?_))
 refine .an ?_
 refine AOps.nil (AWp.sr ?_)
 refine .fa fl39_3 ?_
 refine .ld sh22 ?_
 refine .vl (Y.len (n := args.length) sl22 rfl (congrArg some (List.length_map ..))) ?_
 refine .an ?_
 refine AOps.nil (AWp.seq (AWp.sr ?_))
 refine .fa fl39_0 ?_
 refine .ld sh3 ?_
 refine .vl (Y.neq rfl rfl) ?_
 refine .mv ?_
 refine .gw 14 (Y.fieldAddr fl39_0 rfl rfl) (.gw 14 (Y.load sh3 rfl rfl rfl rfl) (.gw 14 (Y.neq rfl rfl) ?_))
 refine .pk ?_
 refine .mv ?_
 refine .gw 19 (Y.fieldAddr fl39_1 rfl rfl) (.gw 19 (Y.load sh3 rfl rfl rfl rfl) (.gw 19 (Y.neq rfl rfl) ?_))
 refine .pk ?_
 refine AOps.nil ?_
 refine AWp.condD rfl (fun c23 => ?_) (fun c23 => ?_)
 refine AWp.sr ?_
 refine .an ?_
 refine AOps.nil (AWp.ret ?_)
 exact .rb rfl (df (by (try unfold Seq at *); (try unfold In at *); (simp only [Shaped, Int.reduceEq, Bool.not_eq_true, false_and, true_and, and_true, and_false, or_false, false_or, ne_eq]) <;> (first | omega | grind)))
 refine AWp.skip (AWp.sr ?_)
 refine .fa fl39_0 ?_
 refine .ld sh3 ?_
 refine .vl (Y.eql rfl rfl) ?_
 refine .mv ?_
 refine .gz 27 (.gz 27 (.gz 27 ?_))
 refine .pk ?_
 refine .an ?_
 refine AOps.nil (AWp.sr ?_)
 refine .fa fl39_0 ?_
 refine .ld sh3 ?_
 refine .vl (Y.eql rfl rfl) ?_
 refine .mv ?_
 refine .gw 35 (Y.fieldAddr fl39_0 rfl rfl) (.gw 35 (Y.load sh3 rfl rfl rfl rfl) (.gw 35 (Y.eql rfl rfl) ?_))
 refine .pk ?_
 refine .an ?_
 refine AOps.nil (AWp.seq (AWp.sr ?_))
 refine .mv ?_
 refine .vl (Y.not rfl) ?_
 refine .mv ?_
 refine .gz 42 (.gz 42 ?_)
 refine .pk ?_
 refine .mv ?_
 refine .gz 46 (.gz 46 (.gz 46 ?_))
 refine .pk ?_
 refine .mv ?_
 refine .gw 51 (Y.move rfl rfl) (.gw 51 (Y.move rfl rfl) (.gw 53 (Y.fieldAddr fl39_5 rfl rfl) ?_))
 refine .gw 53 (Y.load sh3 rfl rfl rfl rfl) (.gw 53 (Y.fieldAddr fl27_4 rfl rfl) (.gw 53 (Y.load sh24 rfl rfl rfl rfl) ?_))
 refine .gw 53 (Y.len (n := n.mems.length) sl24 rfl (congrArg some (List.length_map ..))) (AOps.guardRun (d := 53) rfl (by decide) rfl (AOps.callP ok59 (within_spec (i := mem) (n := ((n.mems.length : Nat) : Int))) rfl (.keep rfl rfl (.keep rfl rfl .nil)) (by decide) rfl ?_))
 refine .gw 53 (Y.not rfl) (.gw 51 (Y.pick rfl rfl rfl) ?_)
 refine .pk ?_
 refine .mv ?_
 refine AOps.split (d := 63) rfl (fun c63 => ?_) (fun c63 => ?_)
 replace c63 : ¬ (In mem ((n.mems.length : Nat) : Int)) := by simpa using c63
 refine .gz 63 (.gz 63 (.gz 65 ?_))
 refine .gz 65 (.gz 65 (.gz 65 ?_))
 refine .gz 65 (.gz 65 (.gz 65 ?_))
 refine .gz 63 ?_
 refine .pk ?_
 refine AOps.nil (AWp.condT rfl (AWp.sr ?_))
 refine .an ?_
 refine AOps.nil (AWp.ret ?_)
 exact .rb rfl (df (by (try unfold Seq at *); (try unfold In at *); (simp only [Shaped, Int.reduceEq, Bool.not_eq_true, false_and, true_and, and_true, and_false, or_false, false_or, ne_eq]) <;> (first | omega | grind)))
 replace c63 : In mem ((n.mems.length : Nat) : Int) := by simpa using c63
 refine .gw 63 (Y.move rfl rfl) (.gw 63 (Y.move rfl rfl) (.gz 65 ?_))
 refine .gz 65 (.gz 65 (.gz 65 ?_))
 refine .gz 65 (.gz 65 (.gz 65 ?_))
 refine .gw 63 (Y.pick rfl rfl rfl) ?_
 refine .pk ?_
 refine AOps.nil (AWp.condF rfl (AWp.skip ?_))
 refine AWp.seq (AWp.sr ?_)
 refine .fa fl39_0 ?_
 refine .ld sh3 ?_
 refine .vl (Y.neq rfl rfl) ?_
 refine .mv ?_
 refine .gw 78 (Y.fieldAddr fl39_0 rfl rfl) (.gw 78 (Y.load sh3 rfl rfl rfl rfl) (.gw 78 (Y.neq rfl rfl) ?_))
 refine .pk ?_
 refine .mv ?_
 refine .gw 83 (Y.fieldAddr fl39_0 rfl rfl) (.gw 83 (Y.load sh3 rfl rfl rfl rfl) (.gw 83 (Y.neq rfl rfl) ?_))
 refine .pk ?_
 refine .mv ?_
 refine .gw 88 (Y.fieldAddr fl39_0 rfl rfl) (.gw 88 (Y.load sh3 rfl rfl rfl rfl) (.gw 88 (Y.neq rfl rfl) ?_))
 refine .pk ?_
 refine .mv ?_
 refine .gw 93 (Y.fieldAddr fl39_4 rfl rfl) (.gw 93 (Y.load sh37 rfl rfl rfl rfl) (.gw 93 (Y.neq rfl rfl) ?_))
 refine .pk ?_
 refine AOps.nil ?_
 refine AWp.condD rfl (fun c97 => ?_) (fun c97 => ?_)
 refine AWp.sr ?_
 refine .an ?_
 refine AOps.nil (AWp.ret ?_)
 exact .rb rfl (df (by (try unfold Seq at *); (try unfold In at *); (simp only [Shaped, Int.reduceEq, Bool.not_eq_true, false_and, true_and, and_true, and_false, or_false, false_or, ne_eq]) <;> (first | omega | grind)))
 refine AWp.skip (AWp.seq (AWp.sr ?_))
 refine .fa fl39_0 ?_
 refine .ld sh3 ?_
 refine AOps.nil (AWp.block (AWp.seq ?_))
 refine AWp.sr (.vl (Y.eql rfl rfl) ?_)
 refine .an ?_
 refine AOps.nil (AWp.condF rfl (AWp.region ?_))
 refine .vl (Y.eql rfl rfl) ?_
 refine .an ?_
 refine AOps.nil (AWp.condF rfl (AWp.sr ?_))
 refine .vl (Y.eql rfl rfl) ?_
 refine .an ?_
 refine AOps.nil (AWp.condF rfl (AWp.sr ?_))
 refine .vl (Y.eql rfl rfl) ?_
 refine .an ?_
 refine AOps.nil (AWp.condF rfl (AWp.seq ?_))
 refine AWp.sr (.vl (Y.eql rfl rfl) ?_)
 refine .an ?_
 refine AOps.nil (AWp.condF rfl (AWp.region ?_))
 refine .vl (Y.eql rfl rfl) ?_
 refine .an ?_
 refine AOps.nil (AWp.condT rfl (AWp.sr ?_))
 refine .mv ?_
 refine .vl (Y.eql rfl rfl) ?_
 refine .an ?_
 refine AOps.nil (AWp.ret ?_)
 exact .rb rfl (dd (by (try unfold Seq at *); (try unfold In at *); (simp only [Shaped, Int.reduceEq, Bool.not_eq_true, false_and, true_and, and_true, and_false, or_false, false_or, ne_eq]) <;> (first | omega | grind)))
theorem cell_k7 {n : Netlist} {op out mem : Int} {args : List Int} {num : Nat} (hs : n.Small) (hc : args.length ≤ 17592186043904) : ACalls Try.prog 88 [.agg (Netlist.row n), .agg [vi 7, vi op, vi out, .fz 1 (args.map irow), .v (.int .u64 ((num : Nat) : Int)), vi mem]] [] [] (fun r o => r = .v (.bool (decide (Shaped n ⟨7, op, out, args, num, mem⟩))) ∧ o = []) := by
 refine ACalls.of Try.func88 rfl rfl rfl (n := 207) (by decide) (Nat.le_of_ble_eq_true rfl) ?_
 have hs4 := hs.ins; have hs5 := hs.mems; have hs6 := hs.streams
 refine AWp.sr (AOps.box 102 rfl rfl rfl rfl rfl (by decide) (AOps.box 103 rfl rfl rfl rfl rfl (by decide) ?_))
 refine .an ?_
 refine AOps.nil (AWp.sr ?_)
 refine .fa fl39_3 ?_
 refine .ld sh22 ?_
 refine .vl (Y.len (n := args.length) sl22 rfl (congrArg some (List.length_map ..))) ?_
 refine .an ?_
 refine AOps.nil (AWp.seq (AWp.sr ?_))
 refine .fa fl39_0 ?_
 refine .ld sh3 ?_
 refine .vl (Y.neq rfl rfl) ?_
 refine .mv ?_
 refine .gw 14 (Y.fieldAddr fl39_0 rfl rfl) (.gw 14 (Y.load sh3 rfl rfl rfl rfl) (.gw 14 (Y.neq rfl rfl) ?_))
 refine .pk ?_
 refine .mv ?_
 refine .gw 19 (Y.fieldAddr fl39_1 rfl rfl) (.gw 19 (Y.load sh3 rfl rfl rfl rfl) (.gw 19 (Y.neq rfl rfl) ?_))
 refine .pk ?_
 refine AOps.nil ?_
 refine AWp.condD rfl (fun c23 => ?_) (fun c23 => ?_)
 refine AWp.sr ?_
 refine .an ?_
 refine AOps.nil (AWp.ret ?_)
 exact .rb rfl (df (by (try unfold Seq at *); (try unfold In at *); (simp only [Shaped, Int.reduceEq, Bool.not_eq_true, false_and, true_and, and_true, and_false, or_false, false_or, ne_eq]) <;> (first | omega | grind)))
 refine AWp.skip (AWp.sr ?_)
 refine .fa fl39_0 ?_
 refine .ld sh3 ?_
 refine .vl (Y.eql rfl rfl) ?_
 refine .mv ?_
 refine .gw 27 (Y.fieldAddr fl39_0 rfl rfl) (.gw 27 (Y.load sh3 rfl rfl rfl rfl) (.gw 27 (Y.eql rfl rfl) ?_))
 refine .pk ?_
 refine .an ?_
 refine AOps.nil (AWp.sr ?_)
 refine .fa fl39_0 ?_
 refine .ld sh3 ?_
 refine .vl (Y.eql rfl rfl) ?_
 refine .mv ?_
 refine .gw 35 (Y.fieldAddr fl39_0 rfl rfl) (.gw 35 (Y.load sh3 rfl rfl rfl rfl) (.gw 35 (Y.eql rfl rfl) ?_))
 refine .pk ?_
 refine .an ?_
 refine AOps.nil (AWp.seq (AWp.sr ?_))
 refine .mv ?_
 refine .vl (Y.not rfl) ?_
 refine .mv ?_
 refine .gz 42 (.gz 42 ?_)
 refine .pk ?_
 refine .mv ?_
 refine .gz 46 (.gz 46 (.gz 46 ?_))
 refine .pk ?_
 refine .mv ?_
 refine .gw 51 (Y.move rfl rfl) (.gw 51 (Y.move rfl rfl) (.gw 53 (Y.fieldAddr fl39_5 rfl rfl) ?_))
 refine .gw 53 (Y.load sh3 rfl rfl rfl rfl) (.gw 53 (Y.fieldAddr fl27_4 rfl rfl) (.gw 53 (Y.load sh24 rfl rfl rfl rfl) ?_))
 refine .gw 53 (Y.len (n := n.mems.length) sl24 rfl (congrArg some (List.length_map ..))) (AOps.guardRun (d := 53) rfl (by decide) rfl (AOps.callP ok59 (within_spec (i := mem) (n := ((n.mems.length : Nat) : Int))) rfl (.keep rfl rfl (.keep rfl rfl .nil)) (by decide) rfl ?_))
 refine .gw 53 (Y.not rfl) (.gw 51 (Y.pick rfl rfl rfl) ?_)
 refine .pk ?_
 refine .mv ?_
 refine AOps.split (d := 63) rfl (fun c63 => ?_) (fun c63 => ?_)
 replace c63 : ¬ (In mem ((n.mems.length : Nat) : Int)) := by simpa using c63
 refine .gz 63 (.gz 63 (.gz 65 ?_))
 refine .gz 65 (.gz 65 (.gz 65 ?_))
 refine .gz 65 (.gz 65 (.gz 65 ?_))
 refine .gz 63 ?_
 refine .pk ?_
 refine AOps.nil (AWp.condT rfl (AWp.sr ?_))
 refine .an ?_
 refine AOps.nil (AWp.ret ?_)
 exact .rb rfl (df (by (try unfold Seq at *); (try unfold In at *); (simp only [Shaped, Int.reduceEq, Bool.not_eq_true, false_and, true_and, and_true, and_false, or_false, false_or, ne_eq]) <;> (first | omega | grind)))
 replace c63 : In mem ((n.mems.length : Nat) : Int) := by simpa using c63
 refine .gw 63 (Y.move rfl rfl) (.gw 63 (Y.move rfl rfl) (.gz 65 ?_))
 refine .gz 65 (.gz 65 (.gz 65 ?_))
 refine .gz 65 (.gz 65 (.gz 65 ?_))
 refine .gw 63 (Y.pick rfl rfl rfl) ?_
 refine .pk ?_
 refine AOps.nil (AWp.condF rfl (AWp.skip ?_))
 refine AWp.seq (AWp.sr ?_)
 refine .fa fl39_0 ?_
 refine .ld sh3 ?_
 refine .vl (Y.neq rfl rfl) ?_
 refine .mv ?_
 refine .gw 78 (Y.fieldAddr fl39_0 rfl rfl) (.gw 78 (Y.load sh3 rfl rfl rfl rfl) (.gw 78 (Y.neq rfl rfl) ?_))
 refine .pk ?_
 refine .mv ?_
 refine .gw 83 (Y.fieldAddr fl39_0 rfl rfl) (.gw 83 (Y.load sh3 rfl rfl rfl rfl) (.gw 83 (Y.neq rfl rfl) ?_))
 refine .pk ?_
 refine .mv ?_
 refine .gw 88 (Y.fieldAddr fl39_0 rfl rfl) (.gw 88 (Y.load sh3 rfl rfl rfl rfl) (.gw 88 (Y.neq rfl rfl) ?_))
 refine .pk ?_
 refine .mv ?_
 refine .gw 93 (Y.fieldAddr fl39_4 rfl rfl) (.gw 93 (Y.load sh37 rfl rfl rfl rfl) (.gw 93 (Y.neq rfl rfl) ?_))
 refine .pk ?_
 refine AOps.nil ?_
 refine AWp.condD rfl (fun c97 => ?_) (fun c97 => ?_)
 refine AWp.sr ?_
 refine .an ?_
 refine AOps.nil (AWp.ret ?_)
 exact .rb rfl (df (by (try unfold Seq at *); (try unfold In at *); (simp only [Shaped, Int.reduceEq, Bool.not_eq_true, false_and, true_and, and_true, and_false, or_false, false_or, ne_eq]) <;> (first | omega | grind)))
 refine AWp.skip (AWp.seq (AWp.sr ?_))
 refine .fa fl39_0 ?_
 refine .ld sh3 ?_
 refine AOps.nil (AWp.block (AWp.seq ?_))
 refine AWp.sr (.vl (Y.eql rfl rfl) ?_)
 refine .an ?_
 refine AOps.nil (AWp.condF rfl (AWp.region ?_))
 refine .vl (Y.eql rfl rfl) ?_
 refine .an ?_
 refine AOps.nil (AWp.condF rfl (AWp.sr ?_))
 refine .vl (Y.eql rfl rfl) ?_
 refine .an ?_
 refine AOps.nil (AWp.condF rfl (AWp.sr ?_))
 refine .vl (Y.eql rfl rfl) ?_
 refine .an ?_
 refine AOps.nil (AWp.condF rfl (AWp.seq ?_))
 refine AWp.sr (.vl (Y.eql rfl rfl) ?_)
 refine .an ?_
 refine AOps.nil (AWp.condF rfl (AWp.region ?_))
 refine .vl (Y.eql rfl rfl) ?_
 refine .an ?_
 refine AOps.nil (AWp.condF rfl (AWp.sr ?_))
 refine .vl (Y.eql rfl rfl) ?_
 refine .an ?_
 refine AOps.nil (AWp.condF rfl (AWp.sr ?_))
 refine .vl (Y.eql rfl rfl) ?_
 refine .an ?_
 refine AOps.nil (AWp.condT rfl (AWp.sr ?_))
 refine .mv ?_
 refine .vl (Y.eql rfl rfl) ?_
 refine .an ?_
 refine AOps.nil (AWp.ret ?_)
 exact .rb rfl (dd (by (try unfold Seq at *); (try unfold In at *); (simp only [Shaped, Int.reduceEq, Bool.not_eq_true, false_and, true_and, and_true, and_false, or_false, false_or, ne_eq]) <;> (first | omega | grind)))
theorem cell_k8 {n : Netlist} {op out mem : Int} {args : List Int} {num : Nat} (hs : n.Small) (hc : args.length ≤ 17592186043904) : ACalls Try.prog 88 [.agg (Netlist.row n), .agg [vi 8, vi op, vi out, .fz 1 (args.map irow), .v (.int .u64 ((num : Nat) : Int)), vi mem]] [] [] (fun r o => r = .v (.bool (decide (Shaped n ⟨8, op, out, args, num, mem⟩))) ∧ o = []) := by
 refine ACalls.of Try.func88 rfl rfl rfl (n := 207) (by decide) (Nat.le_of_ble_eq_true rfl) ?_
 have hs4 := hs.ins; have hs5 := hs.mems; have hs6 := hs.streams
 refine AWp.sr (AOps.box 102 rfl rfl rfl rfl rfl (by decide) (AOps.box 103 rfl rfl rfl rfl rfl (by decide) ?_))
 refine .an ?_
 refine AOps.nil (AWp.sr ?_)
 refine .fa fl39_3 ?_
 refine .ld sh22 ?_
 refine .vl (Y.len (n := args.length) sl22 rfl (congrArg some (List.length_map ..))) ?_
 refine .an ?_
 refine AOps.nil (AWp.seq (AWp.sr ?_))
 refine .fa fl39_0 ?_
 refine .ld sh3 ?_
 refine .vl (Y.neq rfl rfl) ?_
 refine .mv ?_
 refine .gw 14 (Y.fieldAddr fl39_0 rfl rfl) (.gw 14 (Y.load sh3 rfl rfl rfl rfl) (.gw 14 (Y.neq rfl rfl) ?_))
 refine .pk ?_
 refine .mv ?_
 refine .gw 19 (Y.fieldAddr fl39_1 rfl rfl) (.gw 19 (Y.load sh3 rfl rfl rfl rfl) (.gw 19 (Y.neq rfl rfl) ?_))
 refine .pk ?_
 refine AOps.nil ?_
 refine AWp.condD rfl (fun c23 => ?_) (fun c23 => ?_)
 refine AWp.sr ?_
 refine .an ?_
 refine AOps.nil (AWp.ret ?_)
 exact .rb rfl (df (by (try unfold Seq at *); (try unfold In at *); (simp only [Shaped, Int.reduceEq, Bool.not_eq_true, false_and, true_and, and_true, and_false, or_false, false_or, ne_eq]) <;> (first | omega | grind)))
 refine AWp.skip (AWp.sr ?_)
 refine .fa fl39_0 ?_
 refine .ld sh3 ?_
 refine .vl (Y.eql rfl rfl) ?_
 refine .mv ?_
 refine .gw 27 (Y.fieldAddr fl39_0 rfl rfl) (.gw 27 (Y.load sh3 rfl rfl rfl rfl) (.gw 27 (Y.eql rfl rfl) ?_))
 refine .pk ?_
 refine .an ?_
 refine AOps.nil (AWp.sr ?_)
 refine .fa fl39_0 ?_
 refine .ld sh3 ?_
 refine .vl (Y.eql rfl rfl) ?_
 refine .mv ?_
 refine .gw 35 (Y.fieldAddr fl39_0 rfl rfl) (.gw 35 (Y.load sh3 rfl rfl rfl rfl) (.gw 35 (Y.eql rfl rfl) ?_))
 refine .pk ?_
 refine .an ?_
 refine AOps.nil (AWp.seq (AWp.sr ?_))
 refine .mv ?_
 refine .vl (Y.not rfl) ?_
 refine .mv ?_
 refine .gw 42 (Y.move rfl rfl) (.gw 42 (Y.not rfl) ?_)
 refine .pk ?_
 refine .mv ?_
 refine .gw 46 (Y.fieldAddr fl39_5 rfl rfl) (.gw 46 (Y.load sh3 rfl rfl rfl rfl) (.gw 46 (Y.neq rfl rfl) ?_))
 refine .pk ?_
 refine .mv ?_
 refine AOps.splitD (d := 51) rfl (fun c51 => ?_) (fun c51 => ?_)
 refine .gz 51 (.gz 51 (.gz 53 ?_))
 refine .gz 53 (.gz 53 (.gz 53 ?_))
 refine .gz 53 (.gz 53 (.gz 53 ?_))
 refine .gz 51 ?_
 refine .pk ?_
 refine .mv ?_
 refine .gz 63 (.gz 63 (.gz 65 ?_))
 refine .gz 65 (.gz 65 (.gz 65 ?_))
 refine .gz 65 (.gz 65 (.gz 65 ?_))
 refine .gz 63 ?_
 refine .pk ?_
 refine AOps.nil (AWp.condT rfl (AWp.sr ?_))
 refine .an ?_
 refine AOps.nil (AWp.ret ?_)
 exact .rb rfl (df (by (try unfold Seq at *); (try unfold In at *); (simp only [Shaped, Int.reduceEq, Bool.not_eq_true, false_and, true_and, and_true, and_false, or_false, false_or, ne_eq]) <;> (first | omega | grind)))
 refine .gw 51 (Y.move rfl rfl) (.gw 51 (Y.move rfl rfl) (.gz 53 ?_))
 refine .gz 53 (.gz 53 (.gz 53 ?_))
 refine .gz 53 (.gz 53 (.gz 53 ?_))
 refine .gw 51 (Y.pick rfl rfl rfl) ?_
 refine .pk ?_
 refine .mv ?_
 refine .gw 63 (Y.move rfl rfl) (.gw 63 (Y.move rfl rfl) (.gz 65 ?_))
 refine .gz 65 (.gz 65 (.gz 65 ?_))
 refine .gz 65 (.gz 65 (.gz 65 ?_))
 refine .gw 63 (Y.pick rfl rfl rfl) ?_
 refine .pk ?_
 refine AOps.nil (AWp.condF rfl (AWp.skip ?_))
 refine AWp.seq (AWp.sr ?_)
 refine .fa fl39_0 ?_
 refine .ld sh3 ?_
 refine .vl (Y.neq rfl rfl) ?_
 refine .mv ?_
 refine .gw 78 (Y.fieldAddr fl39_0 rfl rfl) (.gw 78 (Y.load sh3 rfl rfl rfl rfl) (.gw 78 (Y.neq rfl rfl) ?_))
 refine .pk ?_
 refine .mv ?_
 refine .gw 83 (Y.fieldAddr fl39_0 rfl rfl) (.gw 83 (Y.load sh3 rfl rfl rfl rfl) (.gw 83 (Y.neq rfl rfl) ?_))
 refine .pk ?_
 refine .mv ?_
 refine .gw 88 (Y.fieldAddr fl39_0 rfl rfl) (.gw 88 (Y.load sh3 rfl rfl rfl rfl) (.gw 88 (Y.neq rfl rfl) ?_))
 refine .pk ?_
 refine .mv ?_
 refine .gz 93 (.gz 93 (.gz 93 ?_))
 refine .pk ?_
 refine AOps.nil (AWp.condF rfl (AWp.skip ?_))
 refine AWp.seq (AWp.sr ?_)
 refine .fa fl39_0 ?_
 refine .ld sh3 ?_
 refine AOps.nil (AWp.block (AWp.seq ?_))
 refine AWp.sr (.vl (Y.eql rfl rfl) ?_)
 refine .an ?_
 refine AOps.nil (AWp.condF rfl (AWp.region ?_))
 refine .vl (Y.eql rfl rfl) ?_
 refine .an ?_
 refine AOps.nil (AWp.condF rfl (AWp.sr ?_))
 refine .vl (Y.eql rfl rfl) ?_
 refine .an ?_
 refine AOps.nil (AWp.condF rfl (AWp.sr ?_))
 refine .vl (Y.eql rfl rfl) ?_
 refine .an ?_
 refine AOps.nil (AWp.condF rfl (AWp.seq ?_))
 refine AWp.sr (.vl (Y.eql rfl rfl) ?_)
 refine .an ?_
 refine AOps.nil (AWp.condF rfl (AWp.region ?_))
 refine .vl (Y.eql rfl rfl) ?_
 refine .an ?_
 refine AOps.nil (AWp.condF rfl (AWp.sr ?_))
 refine .vl (Y.eql rfl rfl) ?_
 refine .an ?_
 refine AOps.nil (AWp.condF rfl (AWp.sr ?_))
 refine .vl (Y.eql rfl rfl) ?_
 refine .an ?_
 refine AOps.nil (AWp.condF rfl (AWp.sr ?_))
 refine .vl (Y.eql rfl rfl) ?_
 refine .an ?_
 refine AOps.nil (AWp.condT rfl (AWp.sr ?_))
 refine .mv ?_
 refine .vl (Y.eql rfl rfl) ?_
 refine .mv ?_
 refine AOps.splitD (d := 184) rfl (fun c184 => ?_) (fun c184 => ?_)
 refine .gw 184 (Y.fieldAddr fl39_4 rfl rfl) (.gw 184 (Y.load sh37 rfl rfl rfl rfl) (.gw 184 (Y.fieldAddr fl27_3 rfl rfl) ?_))
 refine .gw 184 (Y.load sh22 rfl rfl rfl rfl) (.gw 184 (Y.len (n := n.ins.length) sl22 rfl (congrArg some (List.length_map ..))) ?_)
 refine .gw 184 (Y.convK ii3 ii37 rfl (by first | rfl | exact IntWalk.u64_in _ (by omega))) ?_
 refine .gw 184 (Y.lss rfl rfl) ?_
 refine .pk ?_
 refine .an ?_
 refine AOps.nil (AWp.ret ?_)
 exact .rb rfl (dd (by (try unfold Seq at *); (try unfold In at *); (simp only [Shaped, Int.reduceEq, Bool.not_eq_true, false_and, true_and, and_true, and_false, or_false, false_or, ne_eq]) <;> (first | omega | grind)))
 refine .gz 184 (.gz 184 (.gz 184 ?_))
 refine .gz 184 (.gz 184 (.gz 184 ?_))
 refine .gz 184 ?_
 refine .pk ?_
 refine .an ?_
 refine AOps.nil (AWp.ret ?_)
 exact .rb rfl (df (by (try unfold Seq at *); (try unfold In at *); (simp only [Shaped, Int.reduceEq, Bool.not_eq_true, false_and, true_and, and_true, and_false, or_false, false_or, ne_eq]) <;> (first | omega | grind)))
theorem cell_k9 {n : Netlist} {op out mem : Int} {args : List Int} {num : Nat} (hs : n.Small) (hc : args.length ≤ 17592186043904) : ACalls Try.prog 88 [.agg (Netlist.row n), .agg [vi 9, vi op, vi out, .fz 1 (args.map irow), .v (.int .u64 ((num : Nat) : Int)), vi mem]] [] [] (fun r o => r = .v (.bool (decide (Shaped n ⟨9, op, out, args, num, mem⟩))) ∧ o = []) := by
 refine ACalls.of Try.func88 rfl rfl rfl (n := 207) (by decide) (Nat.le_of_ble_eq_true rfl) ?_
 have hs4 := hs.ins; have hs5 := hs.mems; have hs6 := hs.streams
 refine AWp.sr (AOps.box 102 rfl rfl rfl rfl rfl (by decide) (AOps.box 103 rfl rfl rfl rfl rfl (by decide) ?_))
 refine .an ?_
 refine AOps.nil (AWp.sr ?_)
 refine .fa fl39_3 ?_
 refine .ld sh22 ?_
 refine .vl (Y.len (n := args.length) sl22 rfl (congrArg some (List.length_map ..))) ?_
 refine .an ?_
 refine AOps.nil (AWp.seq (AWp.sr ?_))
 refine .fa fl39_0 ?_
 refine .ld sh3 ?_
 refine .vl (Y.neq rfl rfl) ?_
 refine .mv ?_
 refine .gw 14 (Y.fieldAddr fl39_0 rfl rfl) (.gw 14 (Y.load sh3 rfl rfl rfl rfl) (.gw 14 (Y.neq rfl rfl) ?_))
 refine .pk ?_
 refine .mv ?_
 refine .gw 19 (Y.fieldAddr fl39_1 rfl rfl) (.gw 19 (Y.load sh3 rfl rfl rfl rfl) (.gw 19 (Y.neq rfl rfl) ?_))
 refine .pk ?_
 refine AOps.nil ?_
 refine AWp.condD rfl (fun c23 => ?_) (fun c23 => ?_)
 refine AWp.sr ?_
 refine .an ?_
 refine AOps.nil (AWp.ret ?_)
 exact .rb rfl (df (by (try unfold Seq at *); (try unfold In at *); (simp only [Shaped, Int.reduceEq, Bool.not_eq_true, false_and, true_and, and_true, and_false, or_false, false_or, ne_eq]) <;> (first | omega | grind)))
 refine AWp.skip (AWp.sr ?_)
 refine .fa fl39_0 ?_
 refine .ld sh3 ?_
 refine .vl (Y.eql rfl rfl) ?_
 refine .mv ?_
 refine .gw 27 (Y.fieldAddr fl39_0 rfl rfl) (.gw 27 (Y.load sh3 rfl rfl rfl rfl) (.gw 27 (Y.eql rfl rfl) ?_))
 refine .pk ?_
 refine .an ?_
 refine AOps.nil (AWp.sr ?_)
 refine .fa fl39_0 ?_
 refine .ld sh3 ?_
 refine .vl (Y.eql rfl rfl) ?_
 refine .mv ?_
 refine .gz 35 (.gz 35 (.gz 35 ?_))
 refine .pk ?_
 refine .an ?_
 refine AOps.nil (AWp.seq (AWp.sr ?_))
 refine .mv ?_
 refine .vl (Y.not rfl) ?_
 refine .mv ?_
 refine .gw 42 (Y.move rfl rfl) (.gw 42 (Y.not rfl) ?_)
 refine .pk ?_
 refine .mv ?_
 refine .gz 46 (.gz 46 (.gz 46 ?_))
 refine .pk ?_
 refine .mv ?_
 refine .gw 51 (Y.move rfl rfl) (.gw 51 (Y.move rfl rfl) (.gz 53 ?_))
 refine .gz 53 (.gz 53 (.gz 53 ?_))
 refine .gz 53 (.gz 53 (.gz 53 ?_))
 refine .gw 51 (Y.pick rfl rfl rfl) ?_
 refine .pk ?_
 refine .mv ?_
 refine .gw 63 (Y.move rfl rfl) (.gw 63 (Y.move rfl rfl) (.gw 65 (Y.fieldAddr fl39_5 rfl rfl) ?_))
 refine .gw 65 (Y.load sh3 rfl rfl rfl rfl) (.gw 65 (Y.fieldAddr fl27_5 rfl rfl) (.gw 65 (Y.load sh25 rfl rfl rfl rfl) ?_))
 refine .gw 65 (Y.len (n := n.streams.length) sl25 rfl (congrArg some (List.length_map ..))) (AOps.guardRun (d := 65) rfl (by decide) rfl (AOps.callP ok59 (within_spec (i := mem) (n := ((n.streams.length : Nat) : Int))) rfl (.keep rfl rfl (.keep rfl rfl .nil)) (by decide) rfl ?_))
 refine .gw 65 (Y.not rfl) (.gw 63 (Y.pick rfl rfl rfl) ?_)
 refine .pk ?_
 refine AOps.nil ?_
 refine AWp.cond rfl (fun c74 => ?_) (fun c74 => ?_)
 replace c74 : ¬ (In mem ((n.streams.length : Nat) : Int)) := by simpa using c74
 refine AWp.sr ?_
 refine .an ?_
 refine AOps.nil (AWp.ret ?_)
 exact .rb rfl (df (by (try unfold Seq at *); (try unfold In at *); (simp only [Shaped, Int.reduceEq, Bool.not_eq_true, false_and, true_and, and_true, and_false, or_false, false_or, ne_eq]) <;> (first | omega | grind)))
 replace c74 : In mem ((n.streams.length : Nat) : Int) := by simpa using c74
 refine AWp.skip (AWp.seq (AWp.sr ?_))
 refine .fa fl39_0 ?_
 refine .ld sh3 ?_
 refine .vl (Y.neq rfl rfl) ?_
 refine .mv ?_
 refine .gw 78 (Y.fieldAddr fl39_0 rfl rfl) (.gw 78 (Y.load sh3 rfl rfl rfl rfl) (.gw 78 (Y.neq rfl rfl) ?_))
 refine .pk ?_
 refine .mv ?_
 refine .gw 83 (Y.fieldAddr fl39_0 rfl rfl) (.gw 83 (Y.load sh3 rfl rfl rfl rfl) (.gw 83 (Y.neq rfl rfl) ?_))
 refine .pk ?_
 refine .mv ?_
 refine .gw 88 (Y.fieldAddr fl39_0 rfl rfl) (.gw 88 (Y.load sh3 rfl rfl rfl rfl) (.gw 88 (Y.neq rfl rfl) ?_))
 refine .pk ?_
 refine .mv ?_
 refine .gw 93 (Y.fieldAddr fl39_4 rfl rfl) (.gw 93 (Y.load sh37 rfl rfl rfl rfl) (.gw 93 (Y.neq rfl rfl) ?_))
 refine .pk ?_
 refine AOps.nil ?_
 refine AWp.condD rfl (fun c97 => ?_) (fun c97 => ?_)
 refine AWp.sr ?_
 refine .an ?_
 refine AOps.nil (AWp.ret ?_)
 exact .rb rfl (df (by (try unfold Seq at *); (try unfold In at *); (simp only [Shaped, Int.reduceEq, Bool.not_eq_true, false_and, true_and, and_true, and_false, or_false, false_or, ne_eq]) <;> (first | omega | grind)))
 refine AWp.skip (AWp.seq (AWp.sr ?_))
 refine .fa fl39_0 ?_
 refine .ld sh3 ?_
 refine AOps.nil (AWp.block (AWp.seq ?_))
 refine AWp.sr (.vl (Y.eql rfl rfl) ?_)
 refine .an ?_
 refine AOps.nil (AWp.condF rfl (AWp.region ?_))
 refine .vl (Y.eql rfl rfl) ?_
 refine .an ?_
 refine AOps.nil (AWp.condT rfl (AWp.sr ?_))
 refine .mv ?_
 refine .vl (Y.eql rfl rfl) ?_
 refine .an ?_
 refine AOps.nil (AWp.ret ?_)
 exact .rb rfl (dd (by (try unfold Seq at *); (try unfold In at *); (simp only [Shaped, Int.reduceEq, Bool.not_eq_true, false_and, true_and, and_true, and_false, or_false, false_or, ne_eq]) <;> (first | omega | grind)))
theorem cell_k10 {n : Netlist} {op out mem : Int} {args : List Int} {num : Nat} (hs : n.Small) (hc : args.length ≤ 17592186043904) : ACalls Try.prog 88 [.agg (Netlist.row n), .agg [vi 10, vi op, vi out, .fz 1 (args.map irow), .v (.int .u64 ((num : Nat) : Int)), vi mem]] [] [] (fun r o => r = .v (.bool (decide (Shaped n ⟨10, op, out, args, num, mem⟩))) ∧ o = []) := by
 refine ACalls.of Try.func88 rfl rfl rfl (n := 207) (by decide) (Nat.le_of_ble_eq_true rfl) ?_
 have hs4 := hs.ins; have hs5 := hs.mems; have hs6 := hs.streams
 refine AWp.sr (AOps.box 102 rfl rfl rfl rfl rfl (by decide) (AOps.box 103 rfl rfl rfl rfl rfl (by decide) ?_))
 refine .an ?_
 refine AOps.nil (AWp.sr ?_)
 refine .fa fl39_3 ?_
 refine .ld sh22 ?_
 refine .vl (Y.len (n := args.length) sl22 rfl (congrArg some (List.length_map ..))) ?_
 refine .an ?_
 refine AOps.nil (AWp.seq (AWp.sr ?_))
 refine .fa fl39_0 ?_
 refine .ld sh3 ?_
 refine .vl (Y.neq rfl rfl) ?_
 refine .mv ?_
 refine .gw 14 (Y.fieldAddr fl39_0 rfl rfl) (.gw 14 (Y.load sh3 rfl rfl rfl rfl) (.gw 14 (Y.neq rfl rfl) ?_))
 refine .pk ?_
 refine .mv ?_
 refine .gw 19 (Y.fieldAddr fl39_1 rfl rfl) (.gw 19 (Y.load sh3 rfl rfl rfl rfl) (.gw 19 (Y.neq rfl rfl) ?_))
 refine .pk ?_
 refine AOps.nil ?_
 refine AWp.condD rfl (fun c23 => ?_) (fun c23 => ?_)
 refine AWp.sr ?_
 refine .an ?_
 refine AOps.nil (AWp.ret ?_)
 exact .rb rfl (df (by (try unfold Seq at *); (try unfold In at *); (simp only [Shaped, Int.reduceEq, Bool.not_eq_true, false_and, true_and, and_true, and_false, or_false, false_or, ne_eq]) <;> (first | omega | grind)))
 refine AWp.skip (AWp.sr ?_)
 refine .fa fl39_0 ?_
 refine .ld sh3 ?_
 refine .vl (Y.eql rfl rfl) ?_
 refine .mv ?_
 refine .gw 27 (Y.fieldAddr fl39_0 rfl rfl) (.gw 27 (Y.load sh3 rfl rfl rfl rfl) (.gw 27 (Y.eql rfl rfl) ?_))
 refine .pk ?_
 refine .an ?_
 refine AOps.nil (AWp.sr ?_)
 refine .fa fl39_0 ?_
 refine .ld sh3 ?_
 refine .vl (Y.eql rfl rfl) ?_
 refine .mv ?_
 refine .gw 35 (Y.fieldAddr fl39_0 rfl rfl) (.gw 35 (Y.load sh3 rfl rfl rfl rfl) (.gw 35 (Y.eql rfl rfl) ?_))
 refine .pk ?_
 refine .an ?_
 refine AOps.nil (AWp.seq (AWp.sr ?_))
 refine .mv ?_
 refine .vl (Y.not rfl) ?_
 refine .mv ?_
 refine .gw 42 (Y.move rfl rfl) (.gw 42 (Y.not rfl) ?_)
 refine .pk ?_
 refine .mv ?_
 refine .gz 46 (.gz 46 (.gz 46 ?_))
 refine .pk ?_
 refine .mv ?_
 refine .gw 51 (Y.move rfl rfl) (.gw 51 (Y.move rfl rfl) (.gz 53 ?_))
 refine .gz 53 (.gz 53 (.gz 53 ?_))
 refine .gz 53 (.gz 53 (.gz 53 ?_))
 refine .gw 51 (Y.pick rfl rfl rfl) ?_
 refine .pk ?_
 refine .mv ?_
 refine .gw 63 (Y.move rfl rfl) (.gw 63 (Y.move rfl rfl) (.gw 65 (Y.fieldAddr fl39_5 rfl rfl) ?_))
 refine .gw 65 (Y.load sh3 rfl rfl rfl rfl) (.gw 65 (Y.fieldAddr fl27_5 rfl rfl) (.gw 65 (Y.load sh25 rfl rfl rfl rfl) ?_))
 refine .gw 65 (Y.len (n := n.streams.length) sl25 rfl (congrArg some (List.length_map ..))) (AOps.guardRun (d := 65) rfl (by decide) rfl (AOps.callP ok59 (within_spec (i := mem) (n := ((n.streams.length : Nat) : Int))) rfl (.keep rfl rfl (.keep rfl rfl .nil)) (by decide) rfl ?_))
 refine .gw 65 (Y.not rfl) (.gw 63 (Y.pick rfl rfl rfl) ?_)
 refine .pk ?_
 refine AOps.nil ?_
 refine AWp.cond rfl (fun c74 => ?_) (fun c74 => ?_)
 replace c74 : ¬ (In mem ((n.streams.length : Nat) : Int)) := by simpa using c74
 refine AWp.sr ?_
 refine .an ?_
 refine AOps.nil (AWp.ret ?_)
 exact .rb rfl (df (by (try unfold Seq at *); (try unfold In at *); (simp only [Shaped, Int.reduceEq, Bool.not_eq_true, false_and, true_and, and_true, and_false, or_false, false_or, ne_eq]) <;> (first | omega | grind)))
 replace c74 : In mem ((n.streams.length : Nat) : Int) := by simpa using c74
 refine AWp.skip (AWp.seq (AWp.sr ?_))
 refine .fa fl39_0 ?_
 refine .ld sh3 ?_
 refine .vl (Y.neq rfl rfl) ?_
 refine .mv ?_
 refine .gw 78 (Y.fieldAddr fl39_0 rfl rfl) (.gw 78 (Y.load sh3 rfl rfl rfl rfl) (.gw 78 (Y.neq rfl rfl) ?_))
 refine .pk ?_
 refine .mv ?_
 refine .gw 83 (Y.fieldAddr fl39_0 rfl rfl) (.gw 83 (Y.load sh3 rfl rfl rfl rfl) (.gw 83 (Y.neq rfl rfl) ?_))
 refine .pk ?_
 refine .mv ?_
 refine .gw 88 (Y.fieldAddr fl39_0 rfl rfl) (.gw 88 (Y.load sh3 rfl rfl rfl rfl) (.gw 88 (Y.neq rfl rfl) ?_))
 refine .pk ?_
 refine .mv ?_
 refine .gw 93 (Y.fieldAddr fl39_4 rfl rfl) (.gw 93 (Y.load sh37 rfl rfl rfl rfl) (.gw 93 (Y.neq rfl rfl) ?_))
 refine .pk ?_
 refine AOps.nil ?_
 refine AWp.condD rfl (fun c97 => ?_) (fun c97 => ?_)
 refine AWp.sr ?_
 refine .an ?_
 refine AOps.nil (AWp.ret ?_)
 exact .rb rfl (df (by (try unfold Seq at *); (try unfold In at *); (simp only [Shaped, Int.reduceEq, Bool.not_eq_true, false_and, true_and, and_true, and_false, or_false, false_or, ne_eq]) <;> (first | omega | grind)))
 refine AWp.skip (AWp.seq (AWp.sr ?_))
 refine .fa fl39_0 ?_
 refine .ld sh3 ?_
 refine AOps.nil (AWp.block (AWp.seq ?_))
 refine AWp.sr (.vl (Y.eql rfl rfl) ?_)
 refine .an ?_
 refine AOps.nil (AWp.condF rfl (AWp.region ?_))
 refine .vl (Y.eql rfl rfl) ?_
 refine .an ?_
 refine AOps.nil (AWp.condF rfl (AWp.sr ?_))
 refine .vl (Y.eql rfl rfl) ?_
 refine .an ?_
 refine AOps.nil (AWp.condF rfl (AWp.sr ?_))
 refine .vl (Y.eql rfl rfl) ?_
 refine .an ?_
 refine AOps.nil (AWp.condF rfl (AWp.seq ?_))
 refine AWp.sr (.vl (Y.eql rfl rfl) ?_)
 refine .an ?_
 refine AOps.nil (AWp.condF rfl (AWp.region ?_))
 refine .vl (Y.eql rfl rfl) ?_
 refine .an ?_
 refine AOps.nil (AWp.condF rfl (AWp.sr ?_))
 refine .vl (Y.eql rfl rfl) ?_
 refine .an ?_
 refine AOps.nil (AWp.condF rfl (AWp.sr ?_))
 refine .vl (Y.eql rfl rfl) ?_
 refine .an ?_
 refine AOps.nil (AWp.condF rfl (AWp.sr ?_))
 refine .vl (Y.eql rfl rfl) ?_
 refine .an ?_
 refine AOps.nil (AWp.condF rfl (AWp.sr ?_))
 refine .vl (Y.eql rfl rfl) ?_
 refine .an ?_
 refine AOps.nil (AWp.condT rfl (AWp.sr ?_))
 refine .mv ?_
 refine .vl (Y.eql rfl rfl) ?_
 refine .mv ?_
 refine AOps.splitD (d := 197) rfl (fun c197 => ?_) (fun c197 => ?_)
 refine .gw 197 (Y.fieldAddr fl27_5 rfl rfl) (.gw 197 (Y.load sh25 rfl rfl rfl rfl) (.gw 197 (Y.fieldAddr fl39_5 rfl rfl) ?_))
 refine .gw 197 (Y.load sh3 rfl rfl rfl rfl) ?_
 refine .gw 197 (Y.indexF (m := (mem).toNat) sl25 rfl rfl (by first | omega | (simp [-List.getD_eq_getElem?_getD]; done) | (simp [-List.getD_eq_getElem?_getD]; omega) | (unfold In at *; omega)) (row_getD (d := default) (by first | omega | (simp [-List.getD_eq_getElem?_getD]; done) | (simp [-List.getD_eq_getElem?_getD]; omega) | (unfold In at *; omega)))) ?_
 refine .gw 197 (Y.fieldAddr fl83_2 rfl rfl) (.gw 197 (Y.load sh4 rfl rfl rfl rfl) (.gw 197 (Y.not rfl) ?_))
 refine .pk ?_
 refine .an ?_
 refine AOps.nil (AWp.ret ?_)
 exact .rb rfl (db (by (try unfold Seq at *); (try unfold In at *); (simp only [Shaped, Int.reduceEq, Bool.not_eq_true, false_and, true_and, and_true, and_false, or_false, false_or, ne_eq]) <;> (first | omega | grind)))
 refine .gz 197 (.gz 197 (.gz 197 ?_))
 refine .gz 197 (.gz 197 (.gz 197 ?_))
 refine .gz 197 (.gz 197 ?_)
 refine .pk ?_
 refine .an ?_
 refine AOps.nil (AWp.ret ?_)
 exact .rb rfl (df (by (try unfold Seq at *); (try unfold In at *); (simp only [Shaped, Int.reduceEq, Bool.not_eq_true, false_and, true_and, and_true, and_false, or_false, false_or, ne_eq]) <;> (first | omega | grind)))
end Go.Proofs.Ytligpghohcfpnaa
/- The specification of a cell, whatever its kind. -/
namespace Go.Proofs.Ytligpghohcfpnaa
open Go Go.AW Go.Proofs
theorem cell_spec {n : Netlist} {c : Cell} (hs : n.Small) (hc : c.args.length ≤ 17592186043904) : ACalls Try.prog 88 [.agg (Netlist.row n), .agg (Cell.row c)] [] [] (fun r o => r = .v (.bool (decide (Shaped n c))) ∧ o = []) := by
 obtain ⟨k, op, out, args, num, mem⟩ := c
 by_cases h : 1 ≤ k ∧ k ≤ 10
 ·have : k = 1 ∨ k = 2 ∨ k = 3 ∨ k = 4 ∨ k = 5 ∨ k = 6 ∨ k = 7 ∨ k = 8 ∨ k = 9 ∨ k = 10 := by omega
  rcases this with rfl | rfl | rfl | rfl | rfl | rfl | rfl | rfl | rfl | rfl
  ·exact cell_k1 hs hc
  ·exact cell_k2 hs hc
  ·exact cell_k3 hs hc
  ·exact cell_k4 hs hc
  ·exact cell_k5 hs hc
  ·exact cell_k6 hs hc
  ·exact cell_k7 hs hc
  ·exact cell_k8 hs hc
  ·exact cell_k9 hs hc
  ·exact cell_k10 hs hc
 ·exact cell_k0 hs hc h
end Go.Proofs.Ytligpghohcfpnaa
/- Walks through the specification of well-formed netlists. -/
namespace Go.Proofs.Ytligpghohcfpnaa
open Go Go.AW Go.Proofs
theorem refWidths_spec {l : List Int} (hl : l.length ≤ 17592186043904) : ACalls Try.prog 116 [.fz 1 (l.map irow)] [] [] (fun r o => r = .v (.bool (decide (∀ j, j < l.length → Wide (l.getD j 0)))) ∧ o = []) := by
 refine ACalls.of Try.func116 rfl rfl rfl (n := 16) (by decide) (Nat.le_of_ble_eq_true rfl) (AWp.sr ?_)
 refine .an ?_
 refine AOps.nil (AWp.seq (AWp.sr ?_))
 refine .an ?_
 refine AOps.nil (AWp.block ?_)
 refine AWp.loop1 (fun (i3_2 : Nat) => ⟨[(0, .fz 1 (l.map irow)), (3, vi (i3_2 : Int))], []⟩) (fun (i3_2 : Nat) => ((i3_2 : Int) ≤ ((l.length : Nat) : Int)) ∧ (∀ j, j < i3_2 → Wide (l.getD j 0))) (fun (i3_2 : Nat) => (((l.length : Nat) : Int) - (i3_2 : Int)).toNat) 0 (⟨by omega, fun j hj => by omega⟩) (Le.mk (.c (.cons (look_int rfl (by first | rfl | omega)) (.nil))) (.nil)) (fun i3_2 hI2 => ?_)
 obtain ⟨hb2, hw⟩ := hI2
 refine AWp.seq (AWp.sr ?_)
 refine .mv ?_
 refine .mv ?_
 refine .vl (Y.len (n := l.length) sl22 rfl (congrArg some (List.length_map ..))) (.vl (Y.lss rfl rfl) (AOps.nil ?_))
 refine AWp.condD rfl (fun c7 => ?_) (fun c7 => ?_)
 refine AWp.skip (AWp.seq (AWp.block ?_))
 refine AWp.sr ?_
 refine .mv ?_
 refine .mv ?_
 refine .vl (Y.indexF (m := i3_2) sl22 rfl rfl (by first | rfl | omega) (row_getD (d := 0) (by omega))) ?_
 refine .ld sh3 ?_
 refine AOps.callP ok117 (right_spec (w := (l.getD i3_2 0))) rfl (.keep rfl rfl .nil) (by decide) rfl (.vl (Y.not rfl) (AOps.nil ?_))
 refine AWp.cond rfl (fun c15 => ?_) (fun c15 => ?_)
 replace c15 : ¬ (Wide (l.getD i3_2 0)) := by simpa using c15
 refine AWp.sr ?_
 refine .an ?_
 refine AOps.nil (AWp.ret ?_)
 exact .rb rfl (df (fun h => by have := h i3_2 (by omega); contradiction))
 replace c15 : Wide (l.getD i3_2 0) := by simpa using c15
 refine AWp.skip (AWp.region ?_)
 refine .mv ?_
 refine .vl (Y.addI rfl rfl (by omega)) ?_
 refine .an ?_
 refine AOps.nil ?_
 exact ⟨i3_2 + 1, ⟨by omega, below_succ' hw (by assumption)⟩, by omega, Le.mk (.c (.cons (look_int rfl (by first | rfl | omega)) (.nil))) (.nil)⟩
 refine AWp.exit (AWp.sr ?_)
 refine .an ?_
 refine AOps.nil (AWp.ret ?_)
 exact .rb rfl (dt (fun j hj => hw j (by omega)))
theorem parts_spec {n : Netlist} (hs : n.Small) : ACalls Try.prog 87 [.agg (Netlist.row n)] [] [] (fun r o => r = .v (.bool (decide (Parts n))) ∧ o = []) := by
 refine ACalls.of Try.func87 rfl rfl rfl (n := 170) (by decide) (Nat.le_of_ble_eq_true rfl) ?_
 have hs1 := hs.name; have hs2 := hs.widths; have hs3 := hs.cells; have hs4 := hs.ins; have hs5 := hs.mems; have hs6 := hs.streams; have hs7 := hs.active; have hs8 := hs.data; have hs9 := hs.rets
 refine AWp.sr (AOps.box 101 rfl rfl rfl rfl rfl (by decide) ?_)
 refine .an ?_
 refine AOps.nil (AWp.seq (AWp.sr ?_))
 refine .fa fl27_0 ?_
 refine .ld sh9 ?_
 refine AOps.callP ok115 (refNamed_spec (s := n.name) (by first | assumption | omega)) rfl (.keep rfl rfl .nil) (by decide) rfl (.vl (Y.not rfl) ?_)
 refine .mv ?_
 refine AOps.split (d := 11) rfl (fun c11 => ?_) (fun c11 => ?_)
 replace c11 : ¬ (Named n.name) := by simpa using c11
 refine .gz 11 (.gz 11 (.gz 11 ?_))
 refine .gz 11 ?_
 refine .pk ?_
 refine .mv ?_
 refine .gz 17 (.gz 17 (.gz 17 ?_))
 refine .gz 17 ?_
 refine .pk ?_
 refine .mv ?_
 refine .gz 23 (.gz 23 (.gz 23 ?_))
 refine .gz 23 ?_
 refine .pk ?_
 refine .mv ?_
 refine .gz 29 (.gz 29 (.gz 29 ?_))
 refine .gz 29 ?_
 refine .pk ?_
 refine .mv ?_
 refine .gz 35 (.gz 35 (.gz 35 ?_))
 refine .gz 35 ?_
 refine .pk ?_
 refine .mv ?_
 refine .gz 41 (.gz 41 (.gz 41 ?_))
 refine .gz 41 ?_
 refine .pk ?_
 refine .mv ?_
 refine .gz 47 (.gz 47 (.gz 47 ?_))
 refine .gz 47 (.gz 47 (.gz 47 ?_))
 refine .gz 47 ?_
 refine .pk ?_
 refine .mv ?_
 refine .gz 56 (.gz 56 (.gz 56 ?_))
 refine .gz 56 (.gz 56 (.gz 56 ?_))
 refine .gz 56 ?_
 refine .pk ?_
 refine AOps.nil (AWp.condT rfl (AWp.sr ?_))
 refine .an ?_
 refine AOps.nil (AWp.ret ?_)
 exact .rb rfl (df (fun h => by have h1 := h.name; have h2 := h.ncells; have h3 := h.nwidths; have h4 := h.nmems; have h5 := h.nstreams; have h6 := h.nactive; have h7 := h.ndata; have h8 := h.widths; have h9 := h.ins; first | contradiction | omega))
 replace c11 : Named n.name := by simpa using c11
 refine .gw 11 (Y.fieldAddr fl27_2 rfl rfl) (.gw 11 (Y.load sh23 rfl rfl rfl rfl) (.gw 11 (Y.len (n := n.cells.length) sl23 rfl (congrArg some (List.length_map ..))) ?_))
 refine .gw 11 (Y.gtr rfl rfl) ?_
 refine .pk ?_
 refine .mv ?_
 refine AOps.splitD (d := 17) rfl (fun c17 => ?_) (fun c17 => ?_)
 refine .gz 17 (.gz 17 (.gz 17 ?_))
 refine .gz 17 ?_
 refine .pk ?_
 refine .mv ?_
 refine .gz 23 (.gz 23 (.gz 23 ?_))
 refine .gz 23 ?_
 refine .pk ?_
 refine .mv ?_
 refine .gz 29 (.gz 29 (.gz 29 ?_))
 refine .gz 29 ?_
 refine .pk ?_
 refine .mv ?_
 refine .gz 35 (.gz 35 (.gz 35 ?_))
 refine .gz 35 ?_
 refine .pk ?_
 refine .mv ?_
 refine .gz 41 (.gz 41 (.gz 41 ?_))
 refine .gz 41 ?_
 refine .pk ?_
 refine .mv ?_
 refine .gz 47 (.gz 47 (.gz 47 ?_))
 refine .gz 47 (.gz 47 (.gz 47 ?_))
 refine .gz 47 ?_
 refine .pk ?_
 refine .mv ?_
 refine .gz 56 (.gz 56 (.gz 56 ?_))
 refine .gz 56 (.gz 56 (.gz 56 ?_))
 refine .gz 56 ?_
 refine .pk ?_
 refine AOps.nil (AWp.condT rfl (AWp.sr ?_))
 refine .an ?_
 refine AOps.nil (AWp.ret ?_)
 exact .rb rfl (df (fun h => by have h1 := h.name; have h2 := h.ncells; have h3 := h.nwidths; have h4 := h.nmems; have h5 := h.nstreams; have h6 := h.nactive; have h7 := h.ndata; have h8 := h.widths; have h9 := h.ins; first | contradiction | omega))
 refine .gw 17 (Y.fieldAddr fl27_1 rfl rfl) (.gw 17 (Y.load sh22 rfl rfl rfl rfl) (.gw 17 (Y.len (n := n.widths.length) sl22 rfl (congrArg some (List.length_map ..))) ?_))
 refine .gw 17 (Y.gtr rfl rfl) ?_
 refine .pk ?_
 refine .mv ?_
 refine AOps.splitD (d := 23) rfl (fun c23 => ?_) (fun c23 => ?_)
 refine .gz 23 (.gz 23 (.gz 23 ?_))
 refine .gz 23 ?_
 refine .pk ?_
 refine .mv ?_
 refine .gz 29 (.gz 29 (.gz 29 ?_))
 refine .gz 29 ?_
 refine .pk ?_
 refine .mv ?_
 refine .gz 35 (.gz 35 (.gz 35 ?_))
 refine .gz 35 ?_
 refine .pk ?_
 refine .mv ?_
 refine .gz 41 (.gz 41 (.gz 41 ?_))
 refine .gz 41 ?_
 refine .pk ?_
 refine .mv ?_
 refine .gz 47 (.gz 47 (.gz 47 ?_))
 refine .gz 47 (.gz 47 (.gz 47 ?_))
 refine .gz 47 ?_
 refine .pk ?_
 refine .mv ?_
 refine .gz 56 (.gz 56 (.gz 56 ?_))
 refine .gz 56 (.gz 56 (.gz 56 ?_))
 refine .gz 56 ?_
 refine .pk ?_
 refine AOps.nil (AWp.condT rfl (AWp.sr ?_))
 refine .an ?_
 refine AOps.nil (AWp.ret ?_)
 exact .rb rfl (df (fun h => by have h1 := h.name; have h2 := h.ncells; have h3 := h.nwidths; have h4 := h.nmems; have h5 := h.nstreams; have h6 := h.nactive; have h7 := h.ndata; have h8 := h.widths; have h9 := h.ins; first | contradiction | omega))
 refine .gw 23 (Y.fieldAddr fl27_1 rfl rfl) (.gw 23 (Y.load sh22 rfl rfl rfl rfl) (AOps.guardRun (d := 23) rfl (by decide) rfl ?_))
 refine AOps.callP ok116 (refWidths_spec (l := n.widths) ((by omega))) rfl (.keep rfl rfl .nil) (by decide) rfl ?_
 refine .gw 23 (Y.not rfl) ?_
 refine .pk ?_
 refine .mv ?_
 refine AOps.split (d := 29) rfl (fun c29 => ?_) (fun c29 => ?_)
 replace c29 : ¬ (∀ j, j < n.widths.length → Wide (n.widths.getD j 0)) := by simpa using c29
 refine .gz 29 (.gz 29 (.gz 29 ?_))
 refine .gz 29 ?_
 refine .pk ?_
 refine .mv ?_
 refine .gz 35 (.gz 35 (.gz 35 ?_))
 refine .gz 35 ?_
 refine .pk ?_
 refine .mv ?_
 refine .gz 41 (.gz 41 (.gz 41 ?_))
 refine .gz 41 ?_
 refine .pk ?_
 refine .mv ?_
 refine .gz 47 (.gz 47 (.gz 47 ?_))
 refine .gz 47 (.gz 47 (.gz 47 ?_))
 refine .gz 47 ?_
 refine .pk ?_
 refine .mv ?_
 refine .gz 56 (.gz 56 (.gz 56 ?_))
 refine .gz 56 (.gz 56 (.gz 56 ?_))
 refine .gz 56 ?_
 refine .pk ?_
 refine AOps.nil (AWp.condT rfl (AWp.sr ?_))
 refine .an ?_
 refine AOps.nil (AWp.ret ?_)
 exact .rb rfl (df (fun h => by have h1 := h.name; have h2 := h.ncells; have h3 := h.nwidths; have h4 := h.nmems; have h5 := h.nstreams; have h6 := h.nactive; have h7 := h.ndata; have h8 := h.widths; have h9 := h.ins; first | contradiction | omega))
 replace c29 : ∀ j, j < n.widths.length → Wide (n.widths.getD j 0) := by simpa using c29
 refine .gw 29 (Y.fieldAddr fl27_3 rfl rfl) (.gw 29 (Y.load sh22 rfl rfl rfl rfl) (AOps.guardRun (d := 29) rfl (by decide) rfl ?_))
 refine AOps.callP ok116 (refWidths_spec (l := n.ins) ((by omega))) rfl (.keep rfl rfl .nil) (by decide) rfl ?_
 refine .gw 29 (Y.not rfl) ?_
 refine .pk ?_
 refine .mv ?_
 refine AOps.split (d := 35) rfl (fun c35 => ?_) (fun c35 => ?_)
 replace c35 : ¬ (∀ j, j < n.ins.length → Wide (n.ins.getD j 0)) := by simpa using c35
 refine .gz 35 (.gz 35 (.gz 35 ?_))
 refine .gz 35 ?_
 refine .pk ?_
 refine .mv ?_
 refine .gz 41 (.gz 41 (.gz 41 ?_))
 refine .gz 41 ?_
 refine .pk ?_
 refine .mv ?_
 refine .gz 47 (.gz 47 (.gz 47 ?_))
 refine .gz 47 (.gz 47 (.gz 47 ?_))
 refine .gz 47 ?_
 refine .pk ?_
 refine .mv ?_
 refine .gz 56 (.gz 56 (.gz 56 ?_))
 refine .gz 56 (.gz 56 (.gz 56 ?_))
 refine .gz 56 ?_
 refine .pk ?_
 refine AOps.nil (AWp.condT rfl (AWp.sr ?_))
 refine .an ?_
 refine AOps.nil (AWp.ret ?_)
 exact .rb rfl (df (fun h => by have h1 := h.name; have h2 := h.ncells; have h3 := h.nwidths; have h4 := h.nmems; have h5 := h.nstreams; have h6 := h.nactive; have h7 := h.ndata; have h8 := h.widths; have h9 := h.ins; first | contradiction | omega))
 replace c35 : ∀ j, j < n.ins.length → Wide (n.ins.getD j 0) := by simpa using c35
 refine .gw 35 (Y.fieldAddr fl27_4 rfl rfl) (.gw 35 (Y.load sh24 rfl rfl rfl rfl) (.gw 35 (Y.len (n := n.mems.length) sl24 rfl (congrArg some (List.length_map ..))) ?_))
 refine .gw 35 (Y.gtr rfl rfl) ?_
 refine .pk ?_
 refine .mv ?_
 refine AOps.splitD (d := 41) rfl (fun c41 => ?_) (fun c41 => ?_)
 refine .gz 41 (.gz 41 (.gz 41 ?_))
 refine .gz 41 ?_
 refine .pk ?_
 refine .mv ?_
 refine .gz 47 (.gz 47 (.gz 47 ?_))
 refine .gz 47 (.gz 47 (.gz 47 ?_))
 refine .gz 47 ?_
 refine .pk ?_
 refine .mv ?_
 refine .gz 56 (.gz 56 (.gz 56 ?_))
 refine .gz 56 (.gz 56 (.gz 56 ?_))
 refine .gz 56 ?_
 refine .pk ?_
 refine AOps.nil (AWp.condT rfl (AWp.sr ?_))
 refine .an ?_
 refine AOps.nil (AWp.ret ?_)
 exact .rb rfl (df (fun h => by have h1 := h.name; have h2 := h.ncells; have h3 := h.nwidths; have h4 := h.nmems; have h5 := h.nstreams; have h6 := h.nactive; have h7 := h.ndata; have h8 := h.widths; have h9 := h.ins; first | contradiction | omega))
 refine .gw 41 (Y.fieldAddr fl27_5 rfl rfl) (.gw 41 (Y.load sh25 rfl rfl rfl rfl) (.gw 41 (Y.len (n := n.streams.length) sl25 rfl (congrArg some (List.length_map ..))) ?_))
 refine .gw 41 (Y.gtr rfl rfl) ?_
 refine .pk ?_
 refine .mv ?_
 refine AOps.splitD (d := 47) rfl (fun c47 => ?_) (fun c47 => ?_)
 refine .gz 47 (.gz 47 (.gz 47 ?_))
 refine .gz 47 (.gz 47 (.gz 47 ?_))
 refine .gz 47 ?_
 refine .pk ?_
 refine .mv ?_
 refine .gz 56 (.gz 56 (.gz 56 ?_))
 refine .gz 56 (.gz 56 (.gz 56 ?_))
 refine .gz 56 ?_
 refine .pk ?_
 refine AOps.nil (AWp.condT rfl (AWp.sr ?_))
 refine .an ?_
 refine AOps.nil (AWp.ret ?_)
 exact .rb rfl (df (fun h => by have h1 := h.name; have h2 := h.ncells; have h3 := h.nwidths; have h4 := h.nmems; have h5 := h.nstreams; have h6 := h.nactive; have h7 := h.ndata; have h8 := h.widths; have h9 := h.ins; first | contradiction | omega))
 refine .gw 47 (Y.fieldAddr fl27_6 rfl rfl) (.gw 47 (Y.load sh22 rfl rfl rfl rfl) (.gw 47 (Y.len (n := n.active.length) sl22 rfl (congrArg some (List.length_map ..))) ?_))
 refine .gw 47 (Y.fieldAddr fl27_5 rfl rfl) (.gw 47 (Y.load sh25 rfl rfl rfl rfl) (.gw 47 (Y.len (n := n.streams.length) sl25 rfl (congrArg some (List.length_map ..))) ?_))
 refine .gw 47 (Y.neq rfl rfl) ?_
 refine .pk ?_
 refine .mv ?_
 refine AOps.splitD (d := 56) rfl (fun c56 => ?_) (fun c56 => ?_)
 refine .gz 56 (.gz 56 (.gz 56 ?_))
 refine .gz 56 (.gz 56 (.gz 56 ?_))
 refine .gz 56 ?_
 refine .pk ?_
 refine AOps.nil (AWp.condT rfl (AWp.sr ?_))
 refine .an ?_
 refine AOps.nil (AWp.ret ?_)
 exact .rb rfl (df (fun h => by have h1 := h.name; have h2 := h.ncells; have h3 := h.nwidths; have h4 := h.nmems; have h5 := h.nstreams; have h6 := h.nactive; have h7 := h.ndata; have h8 := h.widths; have h9 := h.ins; first | contradiction | omega))
 refine .gw 56 (Y.fieldAddr fl27_7 rfl rfl) (.gw 56 (Y.load sh22 rfl rfl rfl rfl) (.gw 56 (Y.len (n := n.data.length) sl22 rfl (congrArg some (List.length_map ..))) ?_))
 refine .gw 56 (Y.fieldAddr fl27_5 rfl rfl) (.gw 56 (Y.load sh25 rfl rfl rfl rfl) (.gw 56 (Y.len (n := n.streams.length) sl25 rfl (congrArg some (List.length_map ..))) ?_))
 refine .gw 56 (Y.neq rfl rfl) ?_
 refine .pk ?_
 refine AOps.nil ?_
 refine AWp.condD rfl (fun c64 => ?_) (fun c64 => ?_)
 refine AWp.sr ?_
 refine .an ?_
 refine AOps.nil (AWp.ret ?_)
 exact .rb rfl (df (fun h => by have h1 := h.name; have h2 := h.ncells; have h3 := h.nwidths; have h4 := h.nmems; have h5 := h.nstreams; have h6 := h.nactive; have h7 := h.ndata; have h8 := h.widths; have h9 := h.ins; first | contradiction | omega))
 refine AWp.skip (AWp.seq (AWp.sr ?_))
 refine .an ?_
 refine AOps.nil (AWp.block ?_)
 refine AWp.loop1 (fun (i3_4 : Nat) => ⟨[(1, .ptr 101 0 0 0), (3, vi (i3_4 : Int))], [(101, .cells (Netlist.row n))]⟩) (fun (i3_4 : Nat) => ((i3_4 : Int) ≤ ((n.mems.length : Nat) : Int)) ∧ (∀ j, j < i3_4 → MemOK (n.mems.getD j default))) (fun (i3_4 : Nat) => (((n.mems.length : Nat) : Int) - (i3_4 : Int)).toNat) 0 (⟨by omega, fun j hj => by omega⟩) (Le.mk (.c (.cons (look_int rfl (by first | rfl | omega)) (.nil))) (.c (.nil))) (fun i3_4 hI4 => ?_)
 obtain ⟨hb4, hm⟩ := hI4
 refine AWp.seq (AWp.sr ?_)
 refine .mv ?_
 refine .fa fl27_4 ?_
 refine .ld sh24 ?_
 refine .vl (Y.len (n := n.mems.length) sl24 rfl (congrArg some (List.length_map ..))) (.vl (Y.lss rfl rfl) (AOps.nil ?_))
 refine AWp.condD rfl (fun c69 => ?_) (fun c69 => ?_)
 refine AWp.skip (AWp.seq (AWp.block ?_))
 refine AWp.sr ?_
 refine .fa fl27_4 ?_
 refine .ld sh24 ?_
 refine .mv ?_
 refine .vl (Y.indexF (m := i3_4) sl24 rfl rfl (by first | rfl | omega) (row_getD (d := default) (by omega))) ?_
 refine .vl (Y.loadA sh48 rfl rfl (Nat.le_of_ble_eq_true rfl) rfl rfl) (AOps.alloc 104 ze48 rfl rfl (by decide) (AOps.storeC si48 rfl rfl rfl rfl rfl rfl (Nat.le_of_ble_eq_true rfl) rfl ?_))
 refine AOps.nil (AWp.sr ?_)
 have hmn := hs.memNames _ (getD_mem' (l := n.mems) (i := i3_4) (d := default) (by omega))
 refine .fa fl48_0 ?_
 refine .ld sh9 ?_
 refine AOps.callP ok115 (refNamed_spec (s := ((n.mems.getD i3_4 default).name)) (by first | assumption | omega)) rfl (.keep rfl rfl .nil) (by decide) rfl (.vl (Y.not rfl) ?_)
 refine .mv ?_
 refine AOps.split (d := 81) rfl (fun c81 => ?_) (fun c81 => ?_)
 replace c81 : ¬ (Named ((n.mems.getD i3_4 default).name)) := by simpa using c81
 refine .gz 81 (.gz 81 (.gz 81 ?_))
 refine .gz 81 ?_
 refine .pk ?_
 refine .mv ?_
 refine .gz 87 (.gz 87 (.gz 87 ?_))
 refine .pk ?_
 refine .mv ?_
 refine .gz 92 (.gz 92 (.gz 92 ?_))
 refine .pk ?_
 refine .mv ?_
 refine .gz 97 (.gz 97 (.gz 97 ?_))
 refine .pk ?_
 refine .mv ?_
 refine .gz 102 (.gz 102 (.gz 102 ?_))
 refine .pk ?_
 refine AOps.nil (AWp.condT rfl (AWp.sr ?_))
 refine .an ?_
 refine AOps.nil (AWp.ret ?_)
 exact .rb rfl (df (fun h => by have h1 := h.mems i3_4 (by omega); unfold MemOK at h1; obtain ⟨a1, a2, a3, a4, a5, a6⟩ := h1; first | contradiction | omega))
 replace c81 : Named ((n.mems.getD i3_4 default).name) := by simpa using c81
 refine .gw 81 (Y.fieldAddr fl48_1 rfl rfl) (.gw 81 (Y.load sh3 rfl rfl rfl rfl) (AOps.guardRun (d := 81) rfl (by decide) rfl ?_))
 refine AOps.callP ok117 (right_spec (w := ((n.mems.getD i3_4 default).width))) rfl (.keep rfl rfl .nil) (by decide) rfl (.gw 81 (Y.not rfl) ?_)
 refine .pk ?_
 refine .mv ?_
 refine AOps.split (d := 87) rfl (fun c87 => ?_) (fun c87 => ?_)
 replace c87 : ¬ (Wide ((n.mems.getD i3_4 default).width)) := by simpa using c87
 refine .gz 87 (.gz 87 (.gz 87 ?_))
 refine .pk ?_
 refine .mv ?_
 refine .gz 92 (.gz 92 (.gz 92 ?_))
 refine .pk ?_
 refine .mv ?_
 refine .gz 97 (.gz 97 (.gz 97 ?_))
 refine .pk ?_
 refine .mv ?_
 refine .gz 102 (.gz 102 (.gz 102 ?_))
 refine .pk ?_
 refine AOps.nil (AWp.condT rfl (AWp.sr ?_))
 refine .an ?_
 refine AOps.nil (AWp.ret ?_)
 exact .rb rfl (df (fun h => by have h1 := h.mems i3_4 (by omega); unfold MemOK at h1; obtain ⟨a1, a2, a3, a4, a5, a6⟩ := h1; first | contradiction | omega))
 replace c87 : Wide ((n.mems.getD i3_4 default).width) := by simpa using c87
 refine .gw 87 (Y.fieldAddr fl48_2 rfl rfl) (.gw 87 (Y.load sh3 rfl rfl rfl rfl) (.gw 87 (Y.lss rfl rfl) ?_))
 refine .pk ?_
 refine .mv ?_
 refine AOps.splitD (d := 92) rfl (fun c92 => ?_) (fun c92 => ?_)
 refine .gz 92 (.gz 92 (.gz 92 ?_))
 refine .pk ?_
 refine .mv ?_
 refine .gz 97 (.gz 97 (.gz 97 ?_))
 refine .pk ?_
 refine .mv ?_
 refine .gz 102 (.gz 102 (.gz 102 ?_))
 refine .pk ?_
 refine AOps.nil (AWp.condT rfl (AWp.sr ?_))
 refine .an ?_
 refine AOps.nil (AWp.ret ?_)
 exact .rb rfl (df (fun h => by have h1 := h.mems i3_4 (by omega); unfold MemOK at h1; obtain ⟨a1, a2, a3, a4, a5, a6⟩ := h1; first | contradiction | omega))
 refine .gw 92 (Y.fieldAddr fl48_2 rfl rfl) (.gw 92 (Y.load sh3 rfl rfl rfl rfl) (.gw 92 (Y.gtr rfl rfl) ?_))
 refine .pk ?_
 refine .mv ?_
 refine AOps.splitD (d := 97) rfl (fun c97 => ?_) (fun c97 => ?_)
 refine .gz 97 (.gz 97 (.gz 97 ?_))
 refine .pk ?_
 refine .mv ?_
 refine .gz 102 (.gz 102 (.gz 102 ?_))
 refine .pk ?_
 refine AOps.nil (AWp.condT rfl (AWp.sr ?_))
 refine .an ?_
 refine AOps.nil (AWp.ret ?_)
 exact .rb rfl (df (fun h => by have h1 := h.mems i3_4 (by omega); unfold MemOK at h1; obtain ⟨a1, a2, a3, a4, a5, a6⟩ := h1; first | contradiction | omega))
 refine .gw 97 (Y.fieldAddr fl48_3 rfl rfl) (.gw 97 (Y.load sh3 rfl rfl rfl rfl) (.gw 97 (Y.neq rfl rfl) ?_))
 refine .pk ?_
 refine .mv ?_
 refine AOps.splitD (d := 102) rfl (fun c102 => ?_) (fun c102 => ?_)
 refine .gz 102 (.gz 102 (.gz 102 ?_))
 refine .pk ?_
 refine AOps.nil (AWp.condT rfl (AWp.sr ?_))
 refine .an ?_
 refine AOps.nil (AWp.ret ?_)
 exact .rb rfl (df (fun h => by have h1 := h.mems i3_4 (by omega); unfold MemOK at h1; obtain ⟨a1, a2, a3, a4, a5, a6⟩ := h1; first | contradiction | omega))
 refine .gw 102 (Y.fieldAddr fl48_4 rfl rfl) (.gw 102 (Y.load sh3 rfl rfl rfl rfl) (.gw 102 (Y.neq rfl rfl) ?_))
 refine .pk ?_
 refine AOps.nil ?_
 refine AWp.condD rfl (fun c106 => ?_) (fun c106 => ?_)
 refine AWp.sr ?_
 refine .an ?_
 refine AOps.nil (AWp.ret ?_)
 exact .rb rfl (df (fun h => by have h1 := h.mems i3_4 (by omega); unfold MemOK at h1; obtain ⟨a1, a2, a3, a4, a5, a6⟩ := h1; first | contradiction | omega))
 refine AWp.skip (AWp.region ?_)
 refine .mv ?_
 refine .vl (Y.addI rfl rfl (by omega)) ?_
 refine .an ?_
 refine AOps.nil ?_
 exact ⟨i3_4 + 1, ⟨by omega, below_succ' hm (by unfold MemOK; refine ⟨?_, ?_, ?_, ?_, ?_, ?_⟩ <;> first | assumption | omega)⟩, by omega, Le.mk (.c (.cons (look_int rfl (by first | rfl | omega)) (.nil))) (.c (.nil))⟩
 refine AWp.exit (AWp.seq (AWp.sr ?_))
 refine .an ?_
 refine AOps.nil (AWp.block ?_)
 refine AWp.loop1 (fun (i5_10 : Nat) => ⟨[(1, .ptr 101 0 0 0), (5, vi (i5_10 : Int))], [(101, .cells (Netlist.row n))]⟩) (fun (i5_10 : Nat) => ((i5_10 : Int) ≤ ((n.streams.length : Nat) : Int)) ∧ (∀ j, j < i5_10 → StrOK n j)) (fun (i5_10 : Nat) => (((n.streams.length : Nat) : Int) - (i5_10 : Int)).toNat) 0 (⟨by omega, fun j hj => by omega⟩) (Le.mk (.c (.cons (look_int rfl (by first | rfl | omega)) (.nil))) (.c (.nil))) (fun i5_10 hI10 => ?_)
 obtain ⟨hb10, hst⟩ := hI10
 refine AWp.seq (AWp.sr ?_)
 refine .mv ?_
 refine .fa fl27_5 ?_
 refine .ld sh25 ?_
 refine .vl (Y.len (n := n.streams.length) sl25 rfl (congrArg some (List.length_map ..))) (.vl (Y.lss rfl rfl) (AOps.nil ?_))
 refine AWp.condD rfl (fun c111 => ?_) (fun c111 => ?_)
 refine AWp.skip ?_
 refine AWp.join4 (fun (n144_j11 : Bool) (n155_j11 : Bool) (n161_j11 : Bool) (n168_j11 : Bool) => ⟨[(1, .ptr 101 0 0 0), (5, vi (i5_10 : Int)), (124, .ptr 106 0 0 1), (125, vi ((n.streams.getD i5_10 default).width)), (126, .v (.bool (decide (Wide ((n.streams.getD i5_10 default).width))))), (127, .v (.bool (!decide (Wide ((n.streams.getD i5_10 default).width))))), (130, .ptr 101 0 0 6), (131, .fz 1 (n.active.map irow)), (132, vi (i5_10 : Int)), (133, .fp (irow (n.active.getD i5_10 0)) 0), (134, vi (n.active.getD i5_10 0)), (135, .ptr 101 0 0 1), (136, .fz 1 (n.widths.map irow)), (137, vi ((n.widths.length : Nat) : Int)), (138, .v (.bool (decide (In (n.active.getD i5_10 0) ((n.widths.length : Nat) : Int))))), (139, .v (.bool (!decide (In (n.active.getD i5_10 0) ((n.widths.length : Nat) : Int))))), (142, .ptr 106 0 0 2), (143, .v (.bool ((n.streams.getD i5_10 default).out))), (144, .v (.bool n144_j11)), (155, .v (.bool n155_j11)), (158, .ptr 106 0 0 2), (159, .v (.bool ((n.streams.getD i5_10 default).out))), (160, .v (.bool (!((n.streams.getD i5_10 default).out)))), (161, .v (.bool n161_j11)), (168, .v (.bool n168_j11))], [(101, .cells (Netlist.row n)), (106, .cells [.v (.string ((n.streams.getD i5_10 default).name)), vi ((n.streams.getD i5_10 default).width), .v (.bool ((n.streams.getD i5_10 default).out))])]⟩) (fun (n144_j11 : Bool) (n155_j11 : Bool) (n161_j11 : Bool) (n168_j11 : Bool) => StrOK n i5_10) ?_ (fun n144_j11 n155_j11 n161_j11 n168_j11 hJ11 => ?_)
 refine AWp.block (AWp.sr ?_)
 refine .fa fl27_5 ?_
 refine .ld sh25 ?_
 refine .mv ?_
 refine .vl (Y.indexF (m := i5_10) sl25 rfl rfl (by first | rfl | omega) (row_getD (d := default) (by omega))) ?_
 refine .vl (Y.loadA sh83 rfl rfl (Nat.le_of_ble_eq_true rfl) rfl rfl) (AOps.alloc 106 ze83 rfl rfl (by decide) (AOps.storeC si83 rfl rfl rfl rfl rfl rfl (Nat.le_of_ble_eq_true rfl) rfl ?_))
 refine AOps.nil (AWp.seq ?_)
 have hsn := hs.strNames _ (getD_mem' (l := n.streams) (i := i5_10) (d := default) (by omega))
 refine AWp.regionAny rfl (AAny.quietN (n := 49) [0, 1] [2, 3, 4, 5, 6, 7, 8, 9, 10, 11, 12, 13, 14, 15, 16, 17, 18, 19, 20, 21, 22, 23, 24, 25, 26, 27, 28, 29, 30, 31, 32, 33, 34, 35, 36, 37, 38, 39, 40, 41, 42, 43, 44, 45, 46, 47, 48, 49, 50] 2 rfl (by kernel_rfl) (.cn 0 rfl (Y.fieldAddr fl83_0 rfl rfl) ?_))
 refine .cn 1 rfl (Y.load sh9 rfl rfl rfl rfl) (AQ.nil (AAny.one 2 rfl (by kernel_rfl) ?_))
 refine AOps.callP ok115 (refNamed_spec (s := ((n.streams.getD i5_10 default).name)) (by first | assumption | omega)) rfl (.keep rfl rfl .nil) (by decide) rfl ?_
 refine AOps.nil ⟨rfl, ?_⟩
 refine AAny.quietN (n := 44) [3, 4, 5, 6] [7, 8, 9, 10, 11, 12, 13, 14, 15, 16, 17, 18, 19, 20, 21, 22, 23, 24, 25, 26, 27, 28, 29, 30, 31, 32, 33, 34, 35, 36, 37, 38, 39, 40, 41, 42, 43, 44, 45, 46, 47, 48, 49, 50] 7 rfl (by kernel_rfl) (.cn 3 rfl (Y.not rfl) (.cn 4 rfl (Y.move rfl rfl) ?_))
 refine AQ.split (d := 123) rfl (fun c123 => ?_) (fun c123 => ?_)
 replace c123 : ¬ (Named ((n.streams.getD i5_10 default).name)) := by simpa using c123
 refine .sk 5 rfl rfl rfl rfl (.sk 6 rfl rfl rfl rfl (AQ.nil ?_))
 refine AAny.skipOp 7 rfl (by kernel_rfl) rfl (by decide) (by decide) rfl rfl (AAny.skipOp 8 rfl (by kernel_rfl) rfl (by decide) (by decide) rfl rfl (AAny.quietN (n := 32) [9, 10, 11, 12, 13, 14, 15, 16, 17, 18] [19, 20, 21, 22, 23, 24, 25, 26, 27, 28, 29, 30, 31, 32, 33, 34, 35, 36, 37, 38, 39, 40, 41, 42, 43, 44, 45, 46, 47, 48, 49, 50] 19 rfl (by kernel_rfl) ?_))
 refine .cn 9 rfl (Y.pick rfl rfl rfl) (.cn 10 rfl (Y.move rfl rfl) (.sk 11 rfl rfl rfl rfl ?_))
 refine .sk 12 rfl rfl rfl rfl (.sk 13 rfl rfl rfl rfl (.sk 14 rfl rfl rfl rfl ?_))
 refine .sk 15 rfl rfl rfl rfl (.sk 16 rfl rfl rfl rfl (.sk 17 rfl rfl rfl rfl ?_))
 refine .sk 18 rfl rfl rfl rfl (AQ.nil (AAny.skipOp 19 rfl (by kernel_rfl) rfl (by decide) (by decide) rfl rfl ?_))
 refine AAny.skipOp 20 rfl (by kernel_rfl) rfl (by decide) (by decide) rfl rfl (AAny.quietN (n := 17) [21, 22, 23, 24, 25, 26, 27, 28, 29, 30, 31, 32, 33] [34, 35, 36, 37, 38, 39, 40, 41, 42, 43, 44, 45, 46, 47, 48, 49, 50] 34 rfl (by kernel_rfl) (.cn 21 rfl (Y.pick rfl rfl rfl) ?_))
 refine .cn 22 rfl (Y.move rfl rfl) (.sk 23 rfl rfl rfl rfl (.sk 24 rfl rfl rfl rfl ?_))
 refine .sk 25 rfl rfl rfl rfl (.sk 26 rfl rfl rfl rfl (.sk 27 rfl rfl rfl rfl ?_))
 refine .sk 28 rfl rfl rfl rfl (.sk 29 rfl rfl rfl rfl (.sk 30 rfl rfl rfl rfl ?_))
 refine .sk 31 rfl rfl rfl rfl (.sk 32 rfl rfl rfl rfl (.sk 33 rfl rfl rfl rfl ?_))
 refine AQ.nil (AAny.skipOp 34 rfl (by kernel_rfl) rfl (by decide) (by decide) rfl rfl (AAny.skipOp 35 rfl (by kernel_rfl) rfl (by decide) (by decide) rfl rfl ?_))
 refine AAny.skipOp 36 rfl (by kernel_rfl) rfl (by decide) (by decide) rfl rfl (AAny.quietN (n := 0) [37, 38, 39, 40, 41, 42, 43, 44, 45, 46, 47, 48, 49, 50] [] 0 rfl (by kernel_rfl) (.cn 37 rfl (Y.pick rfl rfl rfl) ?_))
 refine .cn 38 rfl (Y.move rfl rfl) (.sk 39 rfl rfl rfl rfl (.sk 40 rfl rfl rfl rfl ?_))
 refine .sk 41 rfl rfl rfl rfl (.sk 42 rfl rfl rfl rfl (.sk 43 rfl rfl rfl rfl ?_))
 refine .sk 44 rfl rfl rfl rfl (.sk 45 rfl rfl rfl rfl (.sk 46 rfl rfl rfl rfl ?_))
 refine .sk 47 rfl rfl rfl rfl (.sk 48 rfl rfl rfl rfl (.sk 49 rfl rfl rfl rfl ?_))
 refine .cn 50 rfl (Y.pick rfl rfl rfl) (AQ.nil (AAny.done (by kernel_rfl) ?_))
 refine AWp.condT rfl (AWp.sr ?_)
 refine .an ?_
 refine AOps.nil (AWp.ret ?_)
 exact .rb rfl (df (fun h => by have h1 := h.strs i5_10 (by omega); unfold StrOK at h1; obtain ⟨a1, a2, a3, a4, a5⟩ := h1; first | contradiction | grind))
 replace c123 : Named ((n.streams.getD i5_10 default).name) := by simpa using c123
 refine .rn 5 rfl rfl rfl (Y.fieldAddr fl83_1 rfl rfl) (.rn 6 rfl rfl rfl (Y.load sh3 rfl rfl rfl rfl) (AQ.nil ?_))
 refine AAny.one 7 rfl (by kernel_rfl) (AOps.guardRun (d := 123) rfl (by decide) rfl (AOps.callP ok117 (right_spec (w := ((n.streams.getD i5_10 default).width))) rfl (.keep rfl rfl .nil) (by decide) rfl ?_))
 refine AOps.nil ⟨rfl, ?_⟩
 refine AAny.quietN (n := 32) [8, 9, 10, 11, 12, 13, 14, 15, 16, 17, 18] [19, 20, 21, 22, 23, 24, 25, 26, 27, 28, 29, 30, 31, 32, 33, 34, 35, 36, 37, 38, 39, 40, 41, 42, 43, 44, 45, 46, 47, 48, 49, 50] 19 rfl (by kernel_rfl) (.rn 8 rfl rfl rfl (Y.not rfl) (.cn 9 rfl (Y.pick rfl rfl rfl) ?_))
 refine .cn 10 rfl (Y.move rfl rfl) ?_
 refine AQ.split (d := 129) rfl (fun c129 => ?_) (fun c129 => ?_)
 replace c129 : ¬ (Wide ((n.streams.getD i5_10 default).width)) := by simpa using c129
 refine .sk 11 rfl rfl rfl rfl (.sk 12 rfl rfl rfl rfl (.sk 13 rfl rfl rfl rfl ?_))
 refine .sk 14 rfl rfl rfl rfl (.sk 15 rfl rfl rfl rfl (.sk 16 rfl rfl rfl rfl ?_))
 refine .sk 17 rfl rfl rfl rfl (.sk 18 rfl rfl rfl rfl (AQ.nil ?_))
 refine AAny.skipOp 19 rfl (by kernel_rfl) rfl (by decide) (by decide) rfl rfl (AAny.skipOp 20 rfl (by kernel_rfl) rfl (by decide) (by decide) rfl rfl (AAny.quietN (n := 17) [21, 22, 23, 24, 25, 26, 27, 28, 29, 30, 31, 32, 33] [34, 35, 36, 37, 38, 39, 40, 41, 42, 43, 44, 45, 46, 47, 48, 49, 50] 34 rfl (by kernel_rfl) ?_))
 refine .cn 21 rfl (Y.pick rfl rfl rfl) (.cn 22 rfl (Y.move rfl rfl) (.sk 23 rfl rfl rfl rfl ?_))
 refine .sk 24 rfl rfl rfl rfl (.sk 25 rfl rfl rfl rfl (.sk 26 rfl rfl rfl rfl ?_))
 refine .sk 27 rfl rfl rfl rfl (.sk 28 rfl rfl rfl rfl (.sk 29 rfl rfl rfl rfl ?_))
 refine .sk 30 rfl rfl rfl rfl (.sk 31 rfl rfl rfl rfl (.sk 32 rfl rfl rfl rfl ?_))
 refine .sk 33 rfl rfl rfl rfl (AQ.nil (AAny.skipOp 34 rfl (by kernel_rfl) rfl (by decide) (by decide) rfl rfl ?_))
 refine AAny.skipOp 35 rfl (by kernel_rfl) rfl (by decide) (by decide) rfl rfl (AAny.skipOp 36 rfl (by kernel_rfl) rfl (by decide) (by decide) rfl rfl (AAny.quietN (n := 0) [37, 38, 39, 40, 41, 42, 43, 44, 45, 46, 47, 48, 49, 50] [] 0 rfl (by kernel_rfl) ?_))
 refine .cn 37 rfl (Y.pick rfl rfl rfl) (.cn 38 rfl (Y.move rfl rfl) (.sk 39 rfl rfl rfl rfl ?_))
 refine .sk 40 rfl rfl rfl rfl (.sk 41 rfl rfl rfl rfl (.sk 42 rfl rfl rfl rfl ?_))
 refine .sk 43 rfl rfl rfl rfl (.sk 44 rfl rfl rfl rfl (.sk 45 rfl rfl rfl rfl ?_))
 refine .sk 46 rfl rfl rfl rfl (.sk 47 rfl rfl rfl rfl (.sk 48 rfl rfl rfl rfl ?_))
 refine .sk 49 rfl rfl rfl rfl (.cn 50 rfl (Y.pick rfl rfl rfl) (AQ.nil ?_))
 refine AAny.done (by kernel_rfl) (AWp.condT rfl (AWp.sr ?_))
 refine .an ?_
 refine AOps.nil (AWp.ret ?_)
 exact .rb rfl (df (fun h => by have h1 := h.strs i5_10 (by omega); unfold StrOK at h1; obtain ⟨a1, a2, a3, a4, a5⟩ := h1; first | contradiction | grind))
 replace c129 : Wide ((n.streams.getD i5_10 default).width) := by simpa using c129
 refine .rn 11 rfl rfl rfl (Y.fieldAddr fl27_6 rfl rfl) (.rn 12 rfl rfl rfl (Y.load sh22 rfl rfl rfl rfl) (.rn 13 rfl rfl rfl (Y.move rfl rfl) ?_))
 refine .rn 14 rfl rfl rfl (Y.indexF (m := i5_10) sl22 rfl rfl (by first | rfl | omega) (row_getD (d := 0) (by omega))) ?_
 refine .rn 15 rfl rfl rfl (Y.load sh3 rfl rfl rfl rfl) (.rn 16 rfl rfl rfl (Y.fieldAddr fl27_1 rfl rfl) (.rn 17 rfl rfl rfl (Y.load sh22 rfl rfl rfl rfl) ?_))
 refine .rn 18 rfl rfl rfl (Y.len (n := n.widths.length) sl22 rfl (congrArg some (List.length_map ..))) (AQ.nil (AAny.one 19 rfl (by kernel_rfl) ?_))
 refine AOps.guardRun (d := 129) rfl (by decide) rfl (AOps.callP ok59 (within_spec (i := (n.active.getD i5_10 0)) (n := ((n.widths.length : Nat) : Int))) rfl (.keep rfl rfl (.keep rfl rfl .nil)) (by decide) rfl ?_)
 refine AOps.nil ⟨rfl, ?_⟩
 refine AAny.quietN (n := 17) [20, 21, 22, 23, 24, 25, 26, 27, 28, 29, 30, 31, 32, 33] [34, 35, 36, 37, 38, 39, 40, 41, 42, 43, 44, 45, 46, 47, 48, 49, 50] 34 rfl (by kernel_rfl) (.rn 20 rfl rfl rfl (Y.not rfl) (.cn 21 rfl (Y.pick rfl rfl rfl) ?_))
 refine .cn 22 rfl (Y.move rfl rfl) ?_
 refine AQ.split (d := 141) rfl (fun c141 => ?_) (fun c141 => ?_)
 replace c141 : ¬ (In (n.active.getD i5_10 0) ((n.widths.length : Nat) : Int)) := by simpa using c141
 refine .sk 23 rfl rfl rfl rfl (.sk 24 rfl rfl rfl rfl (.sk 25 rfl rfl rfl rfl ?_))
 refine .sk 26 rfl rfl rfl rfl (.sk 27 rfl rfl rfl rfl (.sk 28 rfl rfl rfl rfl ?_))
 refine .sk 29 rfl rfl rfl rfl (.sk 30 rfl rfl rfl rfl (.sk 31 rfl rfl rfl rfl ?_))
 refine .sk 32 rfl rfl rfl rfl (.sk 33 rfl rfl rfl rfl (AQ.nil ?_))
 refine AAny.skipOp 34 rfl (by kernel_rfl) rfl (by decide) (by decide) rfl rfl (AAny.skipOp 35 rfl (by kernel_rfl) rfl (by decide) (by decide) rfl rfl (AAny.skipOp 36 rfl (by kernel_rfl) rfl (by decide) (by decide) rfl rfl ?_))
 refine AAny.quietN (n := 0) [37, 38, 39, 40, 41, 42, 43, 44, 45, 46, 47, 48, 49, 50] [] 0 rfl (by kernel_rfl) (.cn 37 rfl (Y.pick rfl rfl rfl) (.cn 38 rfl (Y.move rfl rfl) ?_))
 refine .sk 39 rfl rfl rfl rfl (.sk 40 rfl rfl rfl rfl (.sk 41 rfl rfl rfl rfl ?_))
 refine .sk 42 rfl rfl rfl rfl (.sk 43 rfl rfl rfl rfl (.sk 44 rfl rfl rfl rfl ?_))
 refine .sk 45 rfl rfl rfl rfl (.sk 46 rfl rfl rfl rfl (.sk 47 rfl rfl rfl rfl ?_))
 refine .sk 48 rfl rfl rfl rfl (.sk 49 rfl rfl rfl rfl (.cn 50 rfl (Y.pick rfl rfl rfl) ?_))
 refine AQ.nil (AAny.done (by kernel_rfl) (AWp.condT rfl ?_))
 refine AWp.sr ?_
 refine .an ?_
 refine AOps.nil (AWp.ret ?_)
 exact .rb rfl (df (fun h => by have h1 := h.strs i5_10 (by omega); unfold StrOK at h1; obtain ⟨a1, a2, a3, a4, a5⟩ := h1; first | contradiction | grind))
 replace c141 : In (n.active.getD i5_10 0) ((n.widths.length : Nat) : Int) := by simpa using c141
 refine .rn 23 rfl rfl rfl (Y.fieldAddr fl83_2 rfl rfl) (.rn 24 rfl rfl rfl (Y.load sh4 rfl rfl rfl rfl) (.rn 25 rfl rfl rfl (Y.move rfl rfl) ?_))
 refine AQ.split (d := 144) rfl (fun c144 => ?_) (fun c144 => ?_)
 refine .rn 26 rfl rfl rfl (Y.fieldAddr fl27_7 rfl rfl) (.rn 27 rfl rfl rfl (Y.load sh22 rfl rfl rfl rfl) (.rn 28 rfl rfl rfl (Y.move rfl rfl) ?_))
 refine .rn 29 rfl rfl rfl (Y.indexF (m := i5_10) sl22 rfl rfl (by first | rfl | omega) (row_getD (d := 0) (by omega))) ?_
 refine .rn 30 rfl rfl rfl (Y.load sh3 rfl rfl rfl rfl) (.rn 31 rfl rfl rfl (Y.fieldAddr fl27_1 rfl rfl) (.rn 32 rfl rfl rfl (Y.load sh22 rfl rfl rfl rfl) ?_))
 refine .rn 33 rfl rfl rfl (Y.len (n := n.widths.length) sl22 rfl (congrArg some (List.length_map ..))) (AQ.nil (AAny.one 34 rfl (by kernel_rfl) ?_))
 refine AOps.guardRun (d := 144) rfl (by decide) rfl (AOps.callP ok59 (within_spec (i := (n.data.getD i5_10 0)) (n := ((n.widths.length : Nat) : Int))) rfl (.keep rfl rfl (.keep rfl rfl .nil)) (by decide) rfl ?_)
 refine AOps.nil ⟨rfl, ?_⟩
 refine AAny.quietN (n := 0) [35, 36, 37, 38, 39, 40, 41, 42, 43, 44, 45, 46, 47, 48, 49, 50] [] 0 rfl (by kernel_rfl) (.rn 35 rfl rfl rfl (Y.not rfl) (.rn 36 rfl rfl rfl (Y.pick rfl rfl rfl) ?_))
 refine .cn 37 rfl (Y.pick rfl rfl rfl) (.cn 38 rfl (Y.move rfl rfl) ?_)
 refine AQ.split (d := 157) rfl (fun c157 => ?_) (fun c157 => ?_)
 replace c157 : ¬ (In (n.data.getD i5_10 0) ((n.widths.length : Nat) : Int)) := by simpa using c157
 refine .sk 39 rfl rfl rfl rfl (.sk 40 rfl rfl rfl rfl (.sk 41 rfl rfl rfl rfl ?_))
 refine .sk 42 rfl rfl rfl rfl (.sk 43 rfl rfl rfl rfl (.sk 44 rfl rfl rfl rfl ?_))
 refine .sk 45 rfl rfl rfl rfl (.sk 46 rfl rfl rfl rfl (.sk 47 rfl rfl rfl rfl ?_))
 refine .sk 48 rfl rfl rfl rfl (.sk 49 rfl rfl rfl rfl (.cn 50 rfl (Y.pick rfl rfl rfl) ?_))
 refine AQ.nil (AAny.done (by kernel_rfl) (AWp.condT rfl ?_))
 refine AWp.sr ?_
 refine .an ?_
 refine AOps.nil (AWp.ret ?_)
 exact .rb rfl (df (fun h => by have h1 := h.strs i5_10 (by omega); unfold StrOK at h1; obtain ⟨a1, a2, a3, a4, a5⟩ := h1; first | contradiction | grind))
 replace c157 : In (n.data.getD i5_10 0) ((n.widths.length : Nat) : Int) := by simpa using c157
 refine .rn 39 rfl rfl rfl (Y.fieldAddr fl83_2 rfl rfl) (.rn 40 rfl rfl rfl (Y.load sh4 rfl rfl rfl rfl) (.rn 41 rfl rfl rfl (Y.not rfl) ?_))
 refine .rn 42 rfl rfl rfl (Y.move rfl rfl) ?_
 refine AQ.split (d := 161) rfl (fun c161 => ?_) (fun c161 => ?_)
 replace c161 : ((n.streams.getD i5_10 default).out) = false := by simpa using c161
 refine .rn 43 rfl rfl rfl (Y.fieldAddr fl27_7 rfl rfl) (.rn 44 rfl rfl rfl (Y.load sh22 rfl rfl rfl rfl) (.rn 45 rfl rfl rfl (Y.move rfl rfl) ?_))
 refine .rn 46 rfl rfl rfl (Y.indexF (m := i5_10) sl22 rfl rfl (by first | rfl | omega) (row_getD (d := 0) (by omega))) ?_
 refine .rn 47 rfl rfl rfl (Y.load sh3 rfl rfl rfl rfl) (.rn 48 rfl rfl rfl (Y.neq rfl rfl) (.rn 49 rfl rfl rfl (Y.pick rfl rfl rfl) ?_))
 refine .cn 50 rfl (Y.pick rfl rfl rfl) (AQ.nil (AAny.done (by kernel_rfl) ?_))
 refine AWp.condD rfl (fun c169 => ?_) (fun c169 => ?_)
 refine AWp.sr ?_
 refine .an ?_
 refine AOps.nil (AWp.ret ?_)
 exact .rb rfl (df (fun h => by have h1 := h.strs i5_10 (by omega); unfold StrOK at h1; obtain ⟨a1, a2, a3, a4, a5⟩ := h1; first | contradiction | grind))
 refine AWp.skip ?_
 exact ⟨true, (!decide (In (n.data.getD i5_10 0) ((n.widths.length : Nat) : Int))), true, decide ((n.data.getD i5_10 0) ≠ (-1)), by unfold StrOK; grind, Le.mk (.c (.c (.c (.c (.c (.c (.c (.c (.c (.c (.c (.c (.c (.c (.c (.c (.c (.c (.cons (look_bool rfl (by first | rfl | simp_all)) (.cons (look_bool rfl (by first | rfl | simp_all)) (.c (.c (.c (.cons (look_bool rfl (by first | rfl | simp_all)) (.cons (look_bool rfl (by first | rfl | simp_all)) (.nil)))))))))))))))))))))))))) (.c (.c (.nil)))⟩
 replace c161 : ((n.streams.getD i5_10 default).out) = true := by simpa using c161
 refine .sk 43 rfl rfl rfl rfl (.sk 44 rfl rfl rfl rfl (.sk 45 rfl rfl rfl rfl ?_))
 refine .sk 46 rfl rfl rfl rfl (.sk 47 rfl rfl rfl rfl (.sk 48 rfl rfl rfl rfl ?_))
 refine .rn 49 rfl rfl rfl (Y.pick rfl rfl rfl) (.cn 50 rfl (Y.pick rfl rfl rfl) (AQ.nil ?_))
 refine AAny.done (by kernel_rfl) (AWp.condF rfl (AWp.skip ?_))
 exact ⟨true, (!decide (In (n.data.getD i5_10 0) ((n.widths.length : Nat) : Int))), false, false, by unfold StrOK; grind, Le.mk (.c (.c (.c (.c (.c (.c (.c (.c (.c (.c (.c (.c (.c (.c (.c (.c (.c (.c (.cons (look_bool rfl (by first | rfl | simp_all)) (.cons (look_bool rfl (by first | rfl | simp_all)) (.c (.c (.c (.cons (look_bool rfl (by first | rfl | simp_all)) (.cons (look_bool rfl (by first | rfl | simp_all)) (.nil)))))))))))))))))))))))))) (.c (.c (.nil)))⟩
 refine .sk 26 rfl rfl rfl rfl (.sk 27 rfl rfl rfl rfl (.sk 28 rfl rfl rfl rfl ?_))
 refine .sk 29 rfl rfl rfl rfl (.sk 30 rfl rfl rfl rfl (.sk 31 rfl rfl rfl rfl ?_))
 refine .sk 32 rfl rfl rfl rfl (.sk 33 rfl rfl rfl rfl (AQ.nil ?_))
 refine AAny.skipOp 34 rfl (by kernel_rfl) rfl (by decide) (by decide) rfl rfl (AAny.skipOp 35 rfl (by kernel_rfl) rfl (by decide) (by decide) rfl rfl (AAny.quietN (n := 0) [36, 37, 38, 39, 40, 41, 42, 43, 44, 45, 46, 47, 48, 49, 50] [] 0 rfl (by kernel_rfl) ?_))
 refine .rn 36 rfl rfl rfl (Y.pick rfl rfl rfl) (.cn 37 rfl (Y.pick rfl rfl rfl) (.cn 38 rfl (Y.move rfl rfl) ?_))
 refine .rn 39 rfl rfl rfl (Y.fieldAddr fl83_2 rfl rfl) (.rn 40 rfl rfl rfl (Y.load sh4 rfl rfl rfl rfl) (.rn 41 rfl rfl rfl (Y.not rfl) ?_))
 refine .rn 42 rfl rfl rfl (Y.move rfl rfl) ?_
 refine AQ.split (d := 161) rfl (fun c161 => ?_) (fun c161 => ?_)
 replace c161 : ((n.streams.getD i5_10 default).out) = false := by simpa using c161
 refine .rn 43 rfl rfl rfl (Y.fieldAddr fl27_7 rfl rfl) (.rn 44 rfl rfl rfl (Y.load sh22 rfl rfl rfl rfl) (.rn 45 rfl rfl rfl (Y.move rfl rfl) ?_))
 refine .rn 46 rfl rfl rfl (Y.indexF (m := i5_10) sl22 rfl rfl (by first | rfl | omega) (row_getD (d := 0) (by omega))) ?_
 refine .rn 47 rfl rfl rfl (Y.load sh3 rfl rfl rfl rfl) (.rn 48 rfl rfl rfl (Y.neq rfl rfl) (.rn 49 rfl rfl rfl (Y.pick rfl rfl rfl) ?_))
 refine .cn 50 rfl (Y.pick rfl rfl rfl) (AQ.nil (AAny.done (by kernel_rfl) ?_))
 refine AWp.condD rfl (fun c169 => ?_) (fun c169 => ?_)
 refine AWp.sr ?_
 refine .an ?_
 refine AOps.nil (AWp.ret ?_)
 exact .rb rfl (df (fun h => by have h1 := h.strs i5_10 (by omega); unfold StrOK at h1; obtain ⟨a1, a2, a3, a4, a5⟩ := h1; first | contradiction | grind))
 refine AWp.skip ?_
 exact ⟨false, false, true, decide ((n.data.getD i5_10 0) ≠ (-1)), by unfold StrOK; grind, Le.mk (.c (.c (.c (.c (.c (.c (.c (.c (.c (.c (.c (.c (.c (.c (.c (.c (.c (.c (.cons (look_bool rfl (by first | rfl | simp_all)) (.cons (look_bool rfl (by first | rfl | simp_all)) (.c (.c (.c (.cons (look_bool rfl (by first | rfl | simp_all)) (.cons (look_bool rfl (by first | rfl | simp_all)) (.nil)))))))))))))))))))))))))) (.c (.c (.nil)))⟩
 replace c161 : ((n.streams.getD i5_10 default).out) = true := by simpa using c161
 refine .sk 43 rfl rfl rfl rfl (.sk 44 rfl rfl rfl rfl (.sk 45 rfl rfl rfl rfl ?_))
 refine .sk 46 rfl rfl rfl rfl (.sk 47 rfl rfl rfl rfl (.sk 48 rfl rfl rfl rfl ?_))
 refine .rn 49 rfl rfl rfl (Y.pick rfl rfl rfl) (.cn 50 rfl (Y.pick rfl rfl rfl) (AQ.nil ?_))
 refine AAny.done (by kernel_rfl) (AWp.condF rfl (AWp.skip ?_))
 exact ⟨false, false, false, false, by unfold StrOK; grind, Le.mk (.c (.c (.c (.c (.c (.c (.c (.c (.c (.c (.c (.c (.c (.c (.c (.c (.c (.c (.cons (look_bool rfl (by first | rfl | simp_all)) (.cons (look_bool rfl (by first | rfl | simp_all)) (.c (.c (.c (.cons (look_bool rfl (by first | rfl | simp_all)) (.cons (look_bool rfl (by first | rfl | simp_all)) (.nil)))))))))))))))))))))))))) (.c (.c (.nil)))⟩
 refine AWp.region ?_
 refine .mv ?_
 refine .vl (Y.addI rfl rfl (by omega)) ?_
 refine .an ?_
 refine AOps.nil ?_
 exact ⟨i5_10 + 1, ⟨by omega, below_succ' hst hJ11⟩, by omega, Le.mk (.c (.cons (look_int rfl (by first | rfl | omega)) (.nil))) (.c (.nil))⟩
 refine AWp.exit (AWp.sr ?_)
 refine .an ?_
 refine AOps.nil (AWp.ret ?_)
 exact .rb rfl (dt ⟨by assumption, by omega, by omega, by assumption, by assumption, by omega, by omega, by omega, by omega, fun j hj => hm j (by omega), fun j hj => hst j (by omega)⟩)
theorem refFormed_spec {n : Netlist} (hs : n.Small) : ACalls Try.prog 50 [.agg (Netlist.row n)] [] [] (fun r o => r = .v (.bool (decide (Formed n))) ∧ o = []) := by
 refine ACalls.of Try.func50 rfl rfl rfl (n := 115) (by decide) (Nat.le_of_ble_eq_true rfl) ?_
 have hs2 := hs.widths; have hs3 := hs.cells; have hs9 := hs.rets
 refine AWp.sr (AOps.box 101 rfl rfl rfl rfl rfl (by decide) ?_)
 refine .an ?_
 refine AOps.nil (AWp.seq (AWp.sr ?_))
 refine .vl (Y.loadA sh27 rfl rfl (Nat.le_of_ble_eq_true rfl) rfl rfl) (AOps.callP ok87 (parts_spec (n := n) hs) rfl (.keep rfl rfl .nil) (by decide) rfl (.vl (Y.not rfl) ?_))
 refine .mv ?_
 refine AOps.split (d := 12) rfl (fun c12 => ?_) (fun c12 => ?_)
 replace c12 : ¬ (Parts n) := by simpa using c12
 refine .gz 12 (.gz 12 (.gz 12 ?_))
 refine .gz 12 (.gz 12 (.gz 12 ?_))
 refine .gz 12 ?_
 refine .pk ?_
 refine .mv ?_
 refine .gz 21 (.gz 21 (.gz 21 ?_))
 refine .gz 21 (.gz 21 (.gz 21 ?_))
 refine .gz 21 ?_
 refine .pk ?_
 refine AOps.nil (AWp.condT rfl (AWp.sr ?_))
 refine .an ?_
 refine AOps.nil (AWp.ret ?_)
 exact .rb rfl (df (fun h => by have h1 := h.parts; have h2 := h.freeze; have h3 := h.done; contradiction))
 replace c12 : Parts n := by simpa using c12
 refine .gw 12 (Y.fieldAddr fl27_8 rfl rfl) (.gw 12 (Y.load sh3 rfl rfl rfl rfl) (.gw 12 (Y.fieldAddr fl27_1 rfl rfl) ?_))
 refine .gw 12 (Y.load sh22 rfl rfl rfl rfl) (.gw 12 (Y.len (n := n.widths.length) sl22 rfl (congrArg some (List.length_map ..))) (AOps.guardRun (d := 12) rfl (by decide) rfl ?_))
 refine AOps.callP ok59 (within_spec (i := n.freeze) (n := ((n.widths.length : Nat) : Int))) rfl (.keep rfl rfl (.keep rfl rfl .nil)) (by decide) rfl (.gw 12 (Y.not rfl) ?_)
 refine .pk ?_
 refine .mv ?_
 refine AOps.split (d := 21) rfl (fun c21 => ?_) (fun c21 => ?_)
 replace c21 : ¬ (In n.freeze ((n.widths.length : Nat) : Int)) := by simpa using c21
 refine .gz 21 (.gz 21 (.gz 21 ?_))
 refine .gz 21 (.gz 21 (.gz 21 ?_))
 refine .gz 21 ?_
 refine .pk ?_
 refine AOps.nil (AWp.condT rfl (AWp.sr ?_))
 refine .an ?_
 refine AOps.nil (AWp.ret ?_)
 exact .rb rfl (df (fun h => by have h1 := h.parts; have h2 := h.freeze; have h3 := h.done; contradiction))
 replace c21 : In n.freeze ((n.widths.length : Nat) : Int) := by simpa using c21
 refine .gw 21 (Y.fieldAddr fl27_9 rfl rfl) (.gw 21 (Y.load sh3 rfl rfl rfl rfl) (.gw 21 (Y.fieldAddr fl27_1 rfl rfl) ?_))
 refine .gw 21 (Y.load sh22 rfl rfl rfl rfl) (.gw 21 (Y.len (n := n.widths.length) sl22 rfl (congrArg some (List.length_map ..))) (AOps.guardRun (d := 21) rfl (by decide) rfl ?_))
 refine AOps.callP ok59 (within_spec (i := n.done) (n := ((n.widths.length : Nat) : Int))) rfl (.keep rfl rfl (.keep rfl rfl .nil)) (by decide) rfl (.gw 21 (Y.not rfl) ?_)
 refine .pk ?_
 refine AOps.nil ?_
 refine AWp.cond rfl (fun c29 => ?_) (fun c29 => ?_)
 replace c29 : ¬ (In n.done ((n.widths.length : Nat) : Int)) := by simpa using c29
 refine AWp.sr ?_
 refine .an ?_
 refine AOps.nil (AWp.ret ?_)
 exact .rb rfl (df (fun h => by have h1 := h.parts; have h2 := h.freeze; have h3 := h.done; contradiction))
 replace c29 : In n.done ((n.widths.length : Nat) : Int) := by simpa using c29
 refine AWp.skip (AWp.seq (AWp.sr ?_))
 refine .an ?_
 refine AOps.nil (AWp.block ?_)
 refine AWp.loop1 (fun (i3_4 : Nat) => ⟨[(1, .ptr 101 0 0 0), (3, vi (i3_4 : Int))], [(101, .cells (Netlist.row n))]⟩) (fun (i3_4 : Nat) => ((i3_4 : Int) ≤ ((n.rets.length : Nat) : Int)) ∧ (∀ j, j < i3_4 → In (n.rets.getD j 0) n.widths.length)) (fun (i3_4 : Nat) => (((n.rets.length : Nat) : Int) - (i3_4 : Int)).toNat) 0 (⟨by omega, fun j hj => by omega⟩) (Le.mk (.c (.cons (look_int rfl (by first | rfl | omega)) (.nil))) (.c (.nil))) (fun i3_4 hI4 => ?_)
 obtain ⟨hb4, hr⟩ := hI4
 refine AWp.seq (AWp.sr ?_)
 refine .mv ?_
 refine .fa fl27_10 ?_
 refine .ld sh22 ?_
 refine .vl (Y.len (n := n.rets.length) sl22 rfl (congrArg some (List.length_map ..))) (.vl (Y.lss rfl rfl) (AOps.nil ?_))
 refine AWp.condD rfl (fun c34 => ?_) (fun c34 => ?_)
 refine AWp.skip (AWp.seq (AWp.block ?_))
 refine AWp.seq (AWp.regionT 8 rfl (by kernel_rfl) (AHead.val (Y.fieldAddr fl27_10 rfl rfl) (by decide) ?_))
 refine AHead.val (Y.load sh22 rfl rfl rfl rfl) (by decide) (AHead.val (Y.move rfl rfl) (by decide) ?_)
 refine AHead.val (Y.indexF (m := i3_4) sl22 rfl rfl (by first | rfl | omega) (row_getD (d := 0) (by omega))) (by decide) ?_
 refine AHead.val (Y.load sh3 rfl rfl rfl rfl) (by decide) (AHead.val (Y.fieldAddr fl27_1 rfl rfl) (by decide) (AHead.val (Y.load sh22 rfl rfl rfl rfl) (by decide) ?_))
 refine AHead.val (Y.len (n := n.widths.length) sl22 rfl (congrArg some (List.length_map ..))) (by decide) (AHead.nil (AOps.callP ok59 (within_spec (i := (n.rets.getD i3_4 0)) (n := ((n.widths.length : Nat) : Int))) rfl (.keep rfl rfl (.keep rfl rfl .nil)) (by decide) rfl ?_))
 refine .vl (Y.not rfl) (AOps.nil ?_)
 refine AWp.cond rfl (fun c46 => ?_) (fun c46 => ?_)
 replace c46 : ¬ (In (n.rets.getD i3_4 0) ((n.widths.length : Nat) : Int)) := by simpa using c46
 refine AWp.sr ?_
 refine .an ?_
 refine AOps.nil (AWp.ret ?_)
 exact .rb rfl (df (fun h => absurd (h.rets _ (getD_mem (i := i3_4) (by omega))) (by assumption)))
 replace c46 : In (n.rets.getD i3_4 0) ((n.widths.length : Nat) : Int) := by simpa using c46
 refine AWp.skip (AWp.region ?_)
 refine .mv ?_
 refine .vl (Y.addI rfl rfl (by omega)) ?_
 refine .an ?_
 refine AOps.nil ?_
 exact ⟨i3_4 + 1, ⟨by omega, below_succ' hr (by assumption)⟩, by omega, Le.mk (.c (.cons (look_int rfl (by first | rfl | omega)) (.nil))) (.c (.nil))⟩
 refine AWp.exit (AWp.sr ?_)
 refine .fa fl27_1 ?_
 refine .ld sh22 ?_
 refine .vl (Y.len (n := n.widths.length) sl22 rfl (congrArg some (List.length_map ..))) ?_
 refine AOps.makeSlice (n := n.widths.length) sl22 ze3 rfl rfl rfl rfl (by omega) (by omega) (by decide) ?_
 refine AOps.assignX rfl (by decide) (AOps.sh (Sh.adoptE (d := 4) (n := n.widths.length) 104 ((List.replicate n.widths.length 0).map irow) rfl (by first | rfl | exact rep_map rfl) (len_map (by simp)) (by decide)) (AOps.nil ?_))
 refine AWp.seq (AWp.sr ?_)
 refine .an ?_
 refine AOps.nil (AWp.block ?_)
 refine AWp.loop2 (fun (i5_10 : Nat) (driven4_10 : List Int) => ⟨[(1, .ptr 101 0 0 0), (4, .slc 104 1 0 n.widths.length), (5, vi (i5_10 : Int))], [(101, .cells (Netlist.row n)), (104, .rows 1 (driven4_10.map irow))]⟩) (fun (i5_10 : Nat) (driven4_10 : List Int) => (driven4_10.length = n.widths.length) ∧ ((i5_10 : Int) ≤ ((n.cells.length : Nat) : Int)) ∧ (Drn n i5_10 driven4_10) ∧ (∀ j, j < i5_10 → CellOK n (n.cells.getD j default))) (fun (i5_10 : Nat) (driven4_10 : List Int) => (((n.cells.length : Nat) : Int) - (i5_10 : Int)).toNat) 0 (List.replicate n.widths.length 0) (⟨by first | omega | (simp [-List.getD_eq_getElem?_getD]; done) | (simp [-List.getD_eq_getElem?_getD]; omega) | (unfold In at *; omega), by first | omega | (simp [-List.getD_eq_getElem?_getD]; done) | (simp [-List.getD_eq_getElem?_getD]; omega) | (unfold In at *; omega), Drn.init n, fun j hj => by omega⟩) (Le.mk (.c (.c (.cons (look_int rfl (by first | rfl | omega)) (.nil)))) (.c (.c (.nil)))) (fun i5_10 driven4_10 hI10 => ?_)
 obtain ⟨hl104, hb10, hd, hc⟩ := hI10
 refine AWp.seq (AWp.sr ?_)
 refine .mv ?_
 refine .fa fl27_2 ?_
 refine .ld sh23 ?_
 refine .vl (Y.len (n := n.cells.length) sl23 rfl (congrArg some (List.length_map ..))) (.vl (Y.lss rfl rfl) (AOps.nil ?_))
 refine AWp.condD rfl (fun c55 => ?_) (fun c55 => ?_)
 refine AWp.skip ?_
 refine AWp.join1 (fun (driven4_j11 : List Int) => ⟨[(1, .ptr 101 0 0 0), (4, .slc 104 1 0 n.widths.length), (5, vi (i5_10 : Int))], [(101, .cells (Netlist.row n)), (104, .rows 1 (driven4_j11.map irow))]⟩) (fun (driven4_j11 : List Int) => (driven4_j11.length = n.widths.length) ∧ (CellOK n (n.cells.getD i5_10 default) ∧ Drn n (i5_10 + 1) driven4_j11)) ?_ (fun driven4_j11 hJx11 => ?_)
 refine AWp.block (AWp.sr ?_)
 refine .fa fl27_2 ?_
 refine .ld sh23 ?_
 refine .mv ?_
 refine .vl (Y.indexF (m := i5_10) sl23 rfl rfl (by first | rfl | omega) (row_getD (d := default) (by omega))) ?_
 refine .vl (Y.loadA sh39 rfl rfl (Nat.le_of_ble_eq_true rfl) rfl rfl) (AOps.alloc 106 ze39 rfl rfl (by decide) (AOps.storeC si39 rfl rfl rfl rfl rfl rfl (Nat.le_of_ble_eq_true rfl) rfl ?_))
 refine AOps.nil (AWp.seq (AWp.sr ?_))
 have hca := hs.args (n.cells.getD i5_10 default) (getD_mem' (by omega))
 refine .vl (Y.loadA sh27 rfl rfl (Nat.le_of_ble_eq_true rfl) rfl rfl) (.vl (Y.loadA sh39 rfl rfl (Nat.le_of_ble_eq_true rfl) rfl rfl) (AOps.callP ok88 (cell_spec (n := n) (c := (n.cells.getD i5_10 default)) hs (by first | assumption | omega)) rfl (.keep rfl rfl (.keep rfl rfl .nil)) (by decide) rfl ?_))
 refine .vl (Y.not rfl) (AOps.nil ?_)
 refine AWp.cond rfl (fun c66 => ?_) (fun c66 => ?_)
 replace c66 : ¬ (Shaped n (n.cells.getD i5_10 default)) := by simpa using c66
 refine AWp.sr ?_
 refine .an ?_
 refine AOps.nil (AWp.ret ?_)
 exact .rb rfl (df (fun h => by have h1 := h.cells i5_10 (by omega); obtain ⟨a1, a2, a3, a4⟩ := h1; first | contradiction | (have := a3 (by assumption); contradiction) | (have := a4 (by assumption); contradiction)))
 replace c66 : Shaped n (n.cells.getD i5_10 default) := by simpa using c66
 refine AWp.skip (AWp.seq (AWp.sr ?_))
 refine .an ?_
 refine AOps.nil (AWp.block ?_)
 refine AWp.loop1 (fun (k7_16 : Nat) => ⟨[(1, .ptr 101 0 0 0), (4, .slc 104 1 0 n.widths.length), (5, vi (i5_10 : Int)), (6, .ptr 106 0 0 0), (7, vi (k7_16 : Int))], [(101, .cells (Netlist.row n)), (104, .rows 1 (driven4_10.map irow)), (106, .cells [vi ((n.cells.getD i5_10 default).kind), vi ((n.cells.getD i5_10 default).op), vi ((n.cells.getD i5_10 default).out), .fz 1 (((n.cells.getD i5_10 default).args).map irow), .v (.int .u64 (((n.cells.getD i5_10 default).num : Nat) : Int)), vi ((n.cells.getD i5_10 default).mem)])]⟩) (fun (k7_16 : Nat) => ((k7_16 : Int) ≤ ((((n.cells.getD i5_10 default).args).length : Nat) : Int)) ∧ (∀ j, j < k7_16 → In ((n.cells.getD i5_10 default).args.getD j 0) n.widths.length)) (fun (k7_16 : Nat) => (((((n.cells.getD i5_10 default).args).length : Nat) : Int) - (k7_16 : Int)).toNat) 0 (⟨by omega, fun j hj => by omega⟩) (Le.mk (.c (.c (.c (.c (.cons (look_int rfl (by first | rfl | omega)) (.nil)))))) (.c (.c (.c (.nil))))) (fun k7_16 hI16 => ?_)
 obtain ⟨hb16, ha⟩ := hI16
 refine AWp.seq (AWp.sr ?_)
 refine .mv ?_
 refine .fa fl39_3 ?_
 refine .ld sh22 ?_
 refine .vl (Y.len (n := ((n.cells.getD i5_10 default).args).length) sl22 rfl (congrArg some (List.length_map ..))) (.vl (Y.lss rfl rfl) (AOps.nil ?_))
 refine AWp.condD rfl (fun c71 => ?_) (fun c71 => ?_)
 refine AWp.skip (AWp.seq (AWp.block ?_))
 refine AWp.seq (AWp.regionT 8 rfl (by kernel_rfl) (AHead.val (Y.fieldAddr fl39_3 rfl rfl) (by decide) ?_))
 refine AHead.val (Y.load sh22 rfl rfl rfl rfl) (by decide) (AHead.val (Y.move rfl rfl) (by decide) ?_)
 refine AHead.val (Y.indexF (m := k7_16) sl22 rfl rfl (by first | rfl | omega) (row_getD (d := 0) (by omega))) (by decide) ?_
 refine AHead.val (Y.load sh3 rfl rfl rfl rfl) (by decide) (AHead.val (Y.fieldAddr fl27_1 rfl rfl) (by decide) (AHead.val (Y.load sh22 rfl rfl rfl rfl) (by decide) ?_))
 refine AHead.val (Y.len (n := n.widths.length) sl22 rfl (congrArg some (List.length_map ..))) (by decide) (AHead.nil (AOps.callP ok59 (within_spec (i := (((n.cells.getD i5_10 default).args).getD k7_16 0)) (n := ((n.widths.length : Nat) : Int))) rfl (.keep rfl rfl (.keep rfl rfl .nil)) (by decide) rfl ?_))
 refine .vl (Y.not rfl) (AOps.nil ?_)
 refine AWp.cond rfl (fun c83 => ?_) (fun c83 => ?_)
 replace c83 : ¬ (In (((n.cells.getD i5_10 default).args).getD k7_16 0) ((n.widths.length : Nat) : Int)) := by simpa using c83
 refine AWp.sr ?_
 refine .an ?_
 refine AOps.nil (AWp.ret ?_)
 exact .rb rfl (df (fun h => absurd ((h.cells i5_10 (by omega)).1 _ (getD_mem (i := k7_16) (by omega))) (by assumption)))
 replace c83 : In (((n.cells.getD i5_10 default).args).getD k7_16 0) ((n.widths.length : Nat) : Int) := by simpa using c83
 refine AWp.skip (AWp.region ?_)
 refine .mv ?_
 refine .vl (Y.addI rfl rfl (by omega)) ?_
 refine .an ?_
 refine AOps.nil ?_
 exact ⟨k7_16 + 1, ⟨by omega, below_succ' ha (by assumption)⟩, by omega, Le.mk (.c (.c (.c (.c (.cons (look_int rfl (by first | rfl | omega)) (.nil)))))) (.c (.c (.c (.nil))))⟩
 refine AWp.exit (AWp.seq (AWp.sr ?_))
 refine .fa fl39_0 ?_
 refine .ld sh3 ?_
 refine .vl (Y.eql rfl rfl) (AOps.nil ?_)
 refine AWp.condD rfl (fun c86 => ?_) (fun c86 => ?_)
 refine AWp.seq (AWp.sr ?_)
 refine .fa fl39_2 ?_
 refine .ld sh3 ?_
 refine .vl (Y.neq rfl rfl) (AOps.nil ?_)
 refine AWp.condD rfl (fun c89 => ?_) (fun c89 => ?_)
 refine AWp.sr ?_
 refine .an ?_
 refine AOps.nil (AWp.ret ?_)
 exact .rb rfl (df (fun h => by have h1 := h.cells i5_10 (by omega); obtain ⟨a1, a2, a3, a4⟩ := h1; first | contradiction | (have := a3 (by assumption); contradiction) | (have := a4 (by assumption); contradiction)))
 refine AWp.skip (AWp.exit ?_)
 exact ⟨driven4_10, ⟨by omega, ⟨⟨all_getD.1 (fun j hj => ha j (by omega)), by assumption, fun _ => by omega, fun h => absurd (by assumption) h⟩, hd.skip (by omega) (by assumption)⟩⟩, Le.mk (.c (.c (.c (.nil)))) (.c (.c (.nil)))⟩
 refine AWp.skip (AWp.seq (AWp.sr ?_))
 refine .fa fl39_2 ?_
 refine .ld sh3 ?_
 refine .fa fl27_1 ?_
 refine .ld sh22 ?_
 refine .vl (Y.len (n := n.widths.length) sl22 rfl (congrArg some (List.length_map ..))) (AOps.callP ok59 (within_spec (i := ((n.cells.getD i5_10 default).out)) (n := ((n.widths.length : Nat) : Int))) rfl (.keep rfl rfl (.keep rfl rfl .nil)) (by decide) rfl (.vl (Y.not rfl) ?_))
 refine AOps.nil ?_
 refine AWp.cond rfl (fun c96 => ?_) (fun c96 => ?_)
 replace c96 : ¬ (In ((n.cells.getD i5_10 default).out) ((n.widths.length : Nat) : Int)) := by simpa using c96
 refine AWp.sr ?_
 refine .an ?_
 refine AOps.nil (AWp.ret ?_)
 exact .rb rfl (df (fun h => by have h1 := h.cells i5_10 (by omega); obtain ⟨a1, a2, a3, a4⟩ := h1; first | contradiction | (have := a3 (by assumption); contradiction) | (have := a4 (by assumption); contradiction)))
 replace c96 : In ((n.cells.getD i5_10 default).out) ((n.widths.length : Nat) : Int) := by simpa using c96
 refine AWp.skip (AWp.region ?_)
 have hio : In (n.cells.getD i5_10 default).out n.widths.length := by assumption
 have hio2 := hio; unfold In at hio2
 have hdl := hd.le (w := (n.cells.getD i5_10 default).out.toNat) (by omega)
 refine .mv ?_
 refine .fa fl39_2 ?_
 refine .ld sh3 ?_
 refine .vl (Y.indexO (m := ((n.cells.getD i5_10 default).out).toNat) sl22 rfl rfl (by omega) (by omega)) ?_
 refine .vl (Y.load sh3 rfl (row_getD0 (d := 0) (by first | omega | (simp [-List.getD_eq_getElem?_getD]; done) | (simp [-List.getD_eq_getElem?_getD]; omega) | (unfold In at *; omega))) rfl rfl) ?_
 refine .vl (Y.addI rfl rfl (by omega)) ?_
 refine .vl (Y.indexO (m := ((n.cells.getD i5_10 default).out).toNat) sl22 rfl rfl (by omega) (by omega)) ?_
 refine AOps.storeE ((driven4_10.set (((n.cells.getD i5_10 default).out).toNat) ((driven4_10.getD (((n.cells.getD i5_10 default).out).toNat) 0) + 1)).map irow) si3 rfl rfl rfl rfl rfl rfl rfl (row_getD0 (d := 0) (by omega)) (Nat.le_of_ble_eq_true rfl) (set_map0 rfl) ?_
 refine AOps.nil ?_
 exact ⟨driven4_10.set (((n.cells.getD i5_10 default).out).toNat) ((driven4_10.getD (((n.cells.getD i5_10 default).out).toNat) 0) + 1), ⟨by first | omega | (simp [-List.getD_eq_getElem?_getD]; done) | (simp [-List.getD_eq_getElem?_getD]; omega) | (unfold In at *; omega), ⟨⟨all_getD.1 (fun j hj => ha j (by omega)), by assumption, fun h => absurd h (by assumption), fun _ => by assumption⟩, hd.step (by omega) (by assumption) (by assumption) hl104⟩⟩, Le.mk (.c (.c (.c (.nil)))) (.c (.c (.nil)))⟩
 obtain ⟨hlj11_104, hJ11⟩ := hJx11
 refine AWp.region ?_
 refine .mv ?_
 refine .vl (Y.addI rfl rfl (by omega)) ?_
 refine .an ?_
 refine AOps.nil ?_
 exact ⟨i5_10 + 1, driven4_j11, ⟨by omega, by omega, hJ11.2, below_succ' hc hJ11.1⟩, by omega, Le.mk (.c (.c (.cons (look_int rfl (by first | rfl | omega)) (.nil)))) (.c (.c (.nil)))⟩
 refine AWp.exit (AWp.seq (AWp.seq ?_))
 have hd2 : Drn n n.cells.length driven4_10 := by rw [show n.cells.length = i5_10 by omega]; exact hd
 unfold Drn at hd2; rw [List.take_length] at hd2
 refine AWp.region ?_
 refine .an ?_
 refine AOps.nil (AWp.block ?_)
 refine AWp.loop1 (fun (i8_27 : Nat) => ⟨[(4, .slc 104 1 0 n.widths.length), (8, vi (i8_27 : Int))], [(104, .rows 1 (driven4_10.map irow))]⟩) (fun (i8_27 : Nat) => ((i8_27 : Int) ≤ ((n.widths.length : Nat) : Int)) ∧ (∀ w, w < i8_27 → driven4_10.getD w 0 = 1)) (fun (i8_27 : Nat) => (((n.widths.length : Nat) : Int) - (i8_27 : Int)).toNat) 0 (⟨by omega, fun j hj => by omega⟩) (Le.mk (.c (.cons (look_int rfl (by first | rfl | omega)) (.nil))) (.c (.nil))) (fun i8_27 hI27 => ?_)
 obtain ⟨hb27, h1⟩ := hI27
 refine AWp.seq (AWp.sr ?_)
 refine .mv ?_
 refine .mv ?_
 refine .vl (Y.len (n := n.widths.length) sl22 rfl rfl) (.vl (Y.lss rfl rfl) (AOps.nil ?_))
 refine AWp.condD rfl (fun c107 => ?_) (fun c107 => ?_)
 refine AWp.skip (AWp.seq (AWp.block ?_))
 refine AWp.sr ?_
 refine .mv ?_
 refine .mv ?_
 refine .vl (Y.indexO (m := i8_27) sl22 rfl rfl (by first | rfl | omega) (by omega)) ?_
 refine .vl (Y.load sh3 rfl (row_getD0 (d := 0) (by first | omega | (simp [-List.getD_eq_getElem?_getD]; done) | (simp [-List.getD_eq_getElem?_getD]; omega) | (unfold In at *; omega))) rfl rfl) ?_
 refine .vl (Y.neq rfl rfl) (AOps.nil ?_)
 refine AWp.condD rfl (fun c114 => ?_) (fun c114 => ?_)
 refine AWp.sr ?_
 refine .an ?_
 refine AOps.nil (AWp.ret ?_)
 exact .rb rfl (df (fun h => by have h1 := h.driven i8_27 (by omega); have h2 := hd2 i8_27 (by omega); omega))
 refine AWp.skip (AWp.region ?_)
 refine .mv ?_
 refine .vl (Y.addI rfl rfl (by omega)) ?_
 refine .an ?_
 refine AOps.nil ?_
 exact ⟨i8_27 + 1, ⟨by omega, below_succ' h1 (by omega)⟩, by omega, Le.mk (.c (.cons (look_int rfl (by first | rfl | omega)) (.nil))) (.c (.nil))⟩
 refine AWp.exit (AWp.sr ?_)
 refine .an ?_
 refine AOps.nil (AWp.ret ?_)
 exact .rb rfl (dt (Parts.formed (by assumption) (by assumption) (by assumption) (fun j hj => hr j (by omega)) (fun j hj => hc j (by omega)) (fun w hw => by have h2 := hd2 w hw; have h3 := h1 w (by omega); omega)))
end Go.Proofs.Ytligpghohcfpnaa
