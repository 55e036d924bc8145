/- Walk through shaped. -/
import Derived.Test.YtligpghohcfpnaaNetx0
set_option linter.unusedSimpArgs false
set_option linter.unusedVariables false
set_option linter.unusedSectionVars false
set_option maxRecDepth 4000
set_option maxHeartbeats 8000000
namespace Go.Proofs.Ytligpghohcfpnaa
open Go Go.AW Go.Proofs
theorem shaped_spec {n : Netlist} {c : Cell} (hs : n.Small) (hc : c.args.length ≤ 17592186043904) : ACalls Try.prog 98 [.agg (Netlist.row n), .agg (Cell.row c)] [] [] (fun r o => r = .v (.bool (decide (Shaped n c))) ∧ o = []) := by
 refine ACalls.of Try.func98 rfl rfl rfl (n := 132) (by decide) (Nat.le_of_ble_eq_true rfl) ?_
 have hs4 := hs.ins; have hs5 := hs.mems; have hs6 := hs.streams
 refine AWp.sr (AOps.box 102 rfl rfl rfl rfl rfl (by decide) (AOps.box 103 rfl rfl rfl rfl rfl (by decide) ?_))
 refine .an ?_
 refine AOps.nil (AWp.sr ?_)
 refine .an ?_
 refine .an ?_
 refine .an ?_
 refine .an ?_
 refine AOps.nil (AWp.seq (AWp.sr ?_))
 refine .fa fl39_0 ?_
 refine .ld sh3 ?_
 refine AOps.nil (AWp.block (AWp.sr ?_))
 refine .vl (Y.eql rfl rfl) ?_
 refine .an ?_
 refine AOps.nil ?_
 refine AWp.condD rfl (fun c11 => ?_) (fun c11 => ?_)
 refine AWp.region ?_
 refine .an ?_
 refine AOps.nil ?_
 refine AWp.join0 (⟨[(2, .ptr 102 0 0 0), (3, .ptr 103 0 0 0), (8, vi (-1))], [(102, .cells (Netlist.row n)), (103, .cells (Cell.row c))]⟩) (((¬ (((c.args.length : Nat) : Int) ≠ 0)) ∧ (¬ (c.op ≠ 0)) ∧ (((c.num : Nat) : Int) ≠ 0)) ∨ ((¬ (((c.args.length : Nat) : Int) ≠ 0)) ∧ (¬ (c.op ≠ 0)) ∧ (¬ (((c.num : Nat) : Int) ≠ 0)))) ?_ (fun hJ33 => ?_)
 refine AWp.sr ?_
 refine .fa fl39_3 ?_
 refine .ld sh22 ?_
 refine .vl (Y.len (n := c.args.length) sl22 rfl (congrArg some (List.length_map ..))) ?_
 refine .mv ?_
 refine .vl (Y.neq rfl rfl) ?_
 refine .mv ?_
 refine AOps.splitD (d := 88) rfl (fun c88 => ?_) (fun c88 => ?_)
 refine .gz 88 (.gz 88 (.gz 88 ?_))
 refine .gz 88 ?_
 refine .pk ?_
 refine .mv ?_
 refine .gz 94 (.gz 94 (.gz 94 ?_))
 refine .gz 94 (.gz 98 (.gz 98 ?_))
 refine .gz 94 ?_
 refine .pk ?_
 refine AOps.nil (AWp.condT rfl (AWp.sr ?_))
 refine .an ?_
 refine AOps.nil (AWp.ret ?_)
 exact .rb rfl (df (by (simp only [Shaped, c11, Int.reduceEq, Bool.not_eq_true, false_and, true_and, and_true, and_false, or_false, false_or, ne_eq]) <;> (first | omega | grind)))
 refine .gw 88 (Y.fieldAddr fl39_1 rfl rfl) (.gw 88 (Y.load sh3 rfl rfl rfl rfl) (.gw 88 (Y.move rfl rfl) ?_))
 refine .gw 88 (Y.neq rfl rfl) ?_
 refine .pk ?_
 refine .mv ?_
 refine AOps.splitD (d := 94) rfl (fun c94 => ?_) (fun c94 => ?_)
 refine .gz 94 (.gz 94 (.gz 94 ?_))
 refine .gz 94 (.gz 98 (.gz 98 ?_))
 refine .gz 94 ?_
 refine .pk ?_
 refine AOps.nil (AWp.condT rfl (AWp.sr ?_))
 refine .an ?_
 refine AOps.nil (AWp.ret ?_)
 exact .rb rfl (df (by (simp only [Shaped, c11, Int.reduceEq, Bool.not_eq_true, false_and, true_and, and_true, and_false, or_false, false_or, ne_eq]) <;> (first | omega | grind)))
 refine .gw 94 (Y.fieldAddr fl39_4 rfl rfl) (.gw 94 (Y.load sh37 rfl rfl rfl rfl) (.gw 94 (Y.neq rfl rfl) ?_))
 refine .gw 94 (Y.move rfl rfl) ?_
 refine AOps.splitD (d := 98) rfl (fun c98 => ?_) (fun c98 => ?_)
 refine .gw 98 (Y.move rfl rfl) (.gw 98 (Y.not rfl) (.gw 94 (Y.pick rfl rfl rfl) ?_))
 refine .pk ?_
 refine AOps.nil (AWp.condF rfl (AWp.skip ?_))
 exact ⟨.inl ⟨c88, c94, c98⟩, Le.mk (.c (.c (.c (.nil)))) (.c (.c (.nil)))⟩
 refine .gz 98 (.gz 98 (.gw 94 (Y.pick rfl rfl rfl) ?_))
 refine .pk ?_
 refine AOps.nil (AWp.condF rfl (AWp.skip ?_))
 exact ⟨.inr (⟨c88, c94, c98⟩), Le.mk (.c (.c (.c (.nil)))) (.c (.c (.nil)))⟩
 refine AWp.seq (AWp.sr ?_)
 refine .mv ?_
 refine .vl (Y.lss rfl rfl) (AOps.nil (AWp.condT rfl ?_))
 refine AWp.sr ?_
 refine .fa fl39_5 ?_
 refine .ld sh3 ?_
 refine .vl (Y.eql rfl rfl) ?_
 refine .an ?_
 refine AOps.nil (AWp.ret ?_)
 exact .rb rfl (dd (by (simp only [Shaped, c11, Int.reduceEq, Bool.not_eq_true, false_and, true_and, and_true, and_false, or_false, false_or, ne_eq]) <;> (first | omega | grind)))
 refine AWp.sr (.vl (Y.eql rfl rfl) ?_)
 refine .an ?_
 refine AOps.nil ?_
 refine AWp.condD rfl (fun c13 => ?_) (fun c13 => ?_)
 refine AWp.seq (AWp.regionAny rfl (AAny.blind 0 rfl (by kernel_rfl) (Blind.fieldAddr fl39_1 rfl rfl) (by decide) ?_))
 refine AAny.blind 3 rfl (by kernel_rfl) (Blind.fieldAddr fl39_1 rfl rfl) (by decide) ?_
 refine AAny.two 1 4 rfl rfl (by kernel_rfl) ?_ ?_
 refine .ld sh3 ?_
 refine AOps.nil ⟨rfl, ?_⟩
 refine AAny.two 2 4 rfl rfl (by kernel_rfl) ?_ ?_
 refine AOps.callP ok124 (operands_spec (op := c.op)) rfl (.keep rfl rfl .nil) (by decide) rfl ?_
 refine AOps.nil ⟨rfl, ?_⟩
 refine AAny.quietN (n := 0) [4, 5, 6] [] 0 rfl (by kernel_rfl) (.cn 4 rfl (Y.load sh3 rfl rfl rfl rfl) (.cn 5 rfl (Y.assign rfl rfl) ?_))
 refine .cn 6 rfl (Y.assign rfl rfl) (AQ.nil (AAny.done (by kernel_rfl) ?_))
 refine AWp.sr ?_
 refine .mv ?_
 refine .vl (Y.eql rfl rfl) (AOps.nil ?_)
 refine AWp.condD rfl (fun c21 => ?_) (fun c21 => ?_)
 refine AWp.sr ?_
 refine .an ?_
 refine AOps.nil (AWp.ret ?_)
 exact .rb rfl (df (by (simp only [Shaped, c13, Int.reduceEq, Bool.not_eq_true, false_and, true_and, and_true, and_false, or_false, false_or, ne_eq]) <;> (first | omega | grind)))
 refine AWp.skip (AWp.seq (AWp.sr ?_))
 refine .fa fl39_3 ?_
 refine .ld sh22 ?_
 refine .vl (Y.len (n := c.args.length) sl22 rfl (congrArg some (List.length_map ..))) ?_
 refine .mv ?_
 refine .vl (Y.neq rfl rfl) ?_
 refine .mv ?_
 refine AOps.splitD (d := 88) rfl (fun c88 => ?_) (fun c88 => ?_)
 refine .gz 88 (.gz 88 (.gz 88 ?_))
 refine .gz 88 ?_
 refine .pk ?_
 refine .mv ?_
 refine .gz 94 (.gz 94 (.gz 94 ?_))
 refine .gz 94 (.gz 98 (.gz 98 ?_))
 refine .gz 94 ?_
 refine .pk ?_
 refine AOps.nil (AWp.condT rfl (AWp.sr ?_))
 refine .an ?_
 refine AOps.nil (AWp.ret ?_)
 exact .rb rfl (df (by (simp only [Shaped, c13, Int.reduceEq, Bool.not_eq_true, false_and, true_and, and_true, and_false, or_false, false_or, ne_eq]) <;> (first | omega | grind)))
 refine .gw 88 (Y.fieldAddr fl39_1 rfl rfl) (.gw 88 (Y.load sh3 rfl rfl rfl rfl) (.gw 88 (Y.move rfl rfl) ?_))
 refine .gw 88 (Y.neq rfl rfl) ?_
 refine .pk ?_
 refine .mv ?_
 refine AOps.splitD (d := 94) rfl (fun c94 => ?_) (fun c94 => ?_)
 refine .gz 94 (.gz 94 (.gz 94 ?_))
 refine .gz 94 (.gz 98 (.gz 98 ?_))
 refine .gz 94 ?_
 refine .pk ?_
 refine AOps.nil (AWp.condT rfl (AWp.sr ?_))
 refine .an ?_
 refine AOps.nil (AWp.ret ?_)
 exact .rb rfl (df (by (simp only [Shaped, c13, Int.reduceEq, Bool.not_eq_true, false_and, true_and, and_true, and_false, or_false, false_or, ne_eq]) <;> (first | omega | grind)))
 refine .gw 94 (Y.fieldAddr fl39_4 rfl rfl) (.gw 94 (Y.load sh37 rfl rfl rfl rfl) (.gw 94 (Y.neq rfl rfl) ?_))
 refine .gw 94 (Y.move rfl rfl) ?_
 refine AOps.splitD (d := 98) rfl (fun c98 => ?_) (fun c98 => ?_)
 refine .gw 98 (Y.move rfl rfl) (.gw 98 (Y.not rfl) (.gw 94 (Y.pick rfl rfl rfl) ?_))
 refine .pk ?_
 refine AOps.nil (AWp.condT rfl (AWp.sr ?_))
 refine .an ?_
 refine AOps.nil (AWp.ret ?_)
 exact .rb rfl (df (by (simp only [Shaped, c13, Int.reduceEq, Bool.not_eq_true, false_and, true_and, and_true, and_false, or_false, false_or, ne_eq]) <;> (first | omega | grind)))
 refine .gz 98 (.gz 98 (.gw 94 (Y.pick rfl rfl rfl) ?_))
 refine .pk ?_
 refine AOps.nil (AWp.condF rfl (AWp.skip ?_))
 refine AWp.seq (AWp.sr ?_)
 refine .mv ?_
 refine .vl (Y.lss rfl rfl) (AOps.nil (AWp.condT rfl ?_))
 refine AWp.sr ?_
 refine .fa fl39_5 ?_
 refine .ld sh3 ?_
 refine .vl (Y.eql rfl rfl) ?_
 refine .an ?_
 refine AOps.nil (AWp.ret ?_)
 exact .rb rfl (dd (by (simp only [Shaped, c13, Int.reduceEq, Bool.not_eq_true, false_and, true_and, and_true, and_false, or_false, false_or, ne_eq]) <;> (first | omega | grind)))
 refine .ld sh3 ?_
 refine AOps.nil ⟨rfl, ?_⟩
 refine AAny.one 2 rfl (by kernel_rfl) (AOps.callP ok124 (operands_spec (op := c.op)) rfl (.keep rfl rfl .nil) (by decide) rfl ?_)
 refine AOps.nil ⟨rfl, ?_⟩
 refine AAny.quietN (n := 0) [5, 6] [] 0 rfl (by kernel_rfl) (.cn 5 rfl (Y.assign rfl rfl) (.cn 6 rfl (Y.assign rfl rfl) ?_))
 refine AQ.nil (AAny.done (by kernel_rfl) (AWp.sr ?_))
 refine .mv ?_
 refine .vl (Y.eql rfl rfl) (AOps.nil ?_)
 refine AWp.condD rfl (fun c21 => ?_) (fun c21 => ?_)
 refine AWp.sr ?_
 refine .an ?_
 refine AOps.nil (AWp.ret ?_)
 exact .rb rfl (df (by (simp only [Shaped, c13, Int.reduceEq, Bool.not_eq_true, false_and, true_and, and_true, and_false, or_false, false_or, ne_eq]) <;> (first | omega | grind)))
 refine AWp.skip (AWp.seq (AWp.sr ?_))
 refine .fa fl39_3 ?_
 refine .ld sh22 ?_
 refine .vl (Y.len (n := c.args.length) sl22 rfl (congrArg some (List.length_map ..))) ?_
 refine .mv ?_
 refine .vl (Y.neq rfl rfl) ?_
 refine .mv ?_
 refine AOps.splitD (d := 88) rfl (fun c88 => ?_) (fun c88 => ?_)
 refine .gz 88 (.gz 88 (.gz 88 ?_))
 refine .gz 88 ?_
 refine .pk ?_
 refine .mv ?_
 refine .gz 94 (.gz 94 (.gz 94 ?_))
 refine .gz 94 (.gz 98 (.gz 98 ?_))
 refine .gz 94 ?_
 refine .pk ?_
 refine AOps.nil (AWp.condT rfl (AWp.sr ?_))
 refine .an ?_
 refine AOps.nil (AWp.ret ?_)
 exact .rb rfl (df (by (simp only [Shaped, c13, Int.reduceEq, Bool.not_eq_true, false_and, true_and, and_true, and_false, or_false, false_or, ne_eq]) <;> (first | omega | grind)))
 refine .gw 88 (Y.fieldAddr fl39_1 rfl rfl) (.gw 88 (Y.load sh3 rfl rfl rfl rfl) (.gw 88 (Y.move rfl rfl) ?_))
 refine .gw 88 (Y.neq rfl rfl) ?_
 refine .pk ?_
 refine .mv ?_
 refine AOps.splitD (d := 94) rfl (fun c94 => ?_) (fun c94 => ?_)
 refine .gz 94 (.gz 94 (.gz 94 ?_))
 refine .gz 94 (.gz 98 (.gz 98 ?_))
 refine .gz 94 ?_
 refine .pk ?_
 refine AOps.nil (AWp.condT rfl (AWp.sr ?_))
 refine .an ?_
 refine AOps.nil (AWp.ret ?_)
 exact .rb rfl (df (by (simp only [Shaped, c13, Int.reduceEq, Bool.not_eq_true, false_and, true_and, and_true, and_false, or_false, false_or, ne_eq]) <;> (first | omega | grind)))
 refine .gw 94 (Y.fieldAddr fl39_4 rfl rfl) (.gw 94 (Y.load sh37 rfl rfl rfl rfl) (.gw 94 (Y.neq rfl rfl) ?_))
 refine .gw 94 (Y.move rfl rfl) ?_
 refine AOps.splitD (d := 98) rfl (fun c98 => ?_) (fun c98 => ?_)
 refine .gw 98 (Y.move rfl rfl) (.gw 98 (Y.not rfl) (.gw 94 (Y.pick rfl rfl rfl) ?_))
 refine .pk ?_
 refine AOps.nil (AWp.condT rfl (AWp.sr ?_))
 refine .an ?_
 refine AOps.nil (AWp.ret ?_)
 exact .rb rfl (df (by (simp only [Shaped, c13, Int.reduceEq, Bool.not_eq_true, false_and, true_and, and_true, and_false, or_false, false_or, ne_eq]) <;> (first | omega | grind)))
 refine .gz 98 (.gz 98 (.gw 94 (Y.pick rfl rfl rfl) ?_))
 refine .pk ?_
 refine AOps.nil (AWp.condF rfl (AWp.skip ?_))
 refine AWp.seq (AWp.sr ?_)
 refine .mv ?_
 refine .vl (Y.lss rfl rfl) (AOps.nil (AWp.condT rfl ?_))
 refine AWp.sr ?_
 refine .fa fl39_5 ?_
 refine .ld sh3 ?_
 refine .vl (Y.eql rfl rfl) ?_
 refine .an ?_
 refine AOps.nil (AWp.ret ?_)
 exact .rb rfl (dd (by (simp only [Shaped, c13, Int.reduceEq, Bool.not_eq_true, false_and, true_and, and_true, and_false, or_false, false_or, ne_eq]) <;> (first | omega | grind)))
 refine .ld sh3 ?_
 refine AOps.nil ⟨rfl, ?_⟩
 refine AAny.quietN (n := 3) [1] [2, 5, 6] 2 rfl (by kernel_rfl) (.cn 1 rfl (Y.load sh3 rfl rfl rfl rfl) (AQ.nil ?_))
 refine AAny.one 2 rfl (by kernel_rfl) (AOps.callP ok124 (operands_spec (op := c.op)) rfl (.keep rfl rfl .nil) (by decide) rfl ?_)
 refine AOps.nil ⟨rfl, ?_⟩
 refine AAny.quietN (n := 0) [5, 6] [] 0 rfl (by kernel_rfl) (.cn 5 rfl (Y.assign rfl rfl) (.cn 6 rfl (Y.assign rfl rfl) ?_))
 refine AQ.nil (AAny.done (by kernel_rfl) (AWp.sr ?_))
 refine .mv ?_
 refine .vl (Y.eql rfl rfl) (AOps.nil ?_)
 refine AWp.condD rfl (fun c21 => ?_) (fun c21 => ?_)
 refine AWp.sr ?_
 refine .an ?_
 refine AOps.nil (AWp.ret ?_)
 exact .rb rfl (df (by (simp only [Shaped, c13, Int.reduceEq, Bool.not_eq_true, false_and, true_and, and_true, and_false, or_false, false_or, ne_eq]) <;> (first | omega | grind)))
 refine AWp.skip (AWp.seq (AWp.sr ?_))
 refine .fa fl39_3 ?_
 refine .ld sh22 ?_
 refine .vl (Y.len (n := c.args.length) sl22 rfl (congrArg some (List.length_map ..))) ?_
 refine .mv ?_
 refine .vl (Y.neq rfl rfl) ?_
 refine .mv ?_
 refine AOps.splitD (d := 88) rfl (fun c88 => ?_) (fun c88 => ?_)
 refine .gz 88 (.gz 88 (.gz 88 ?_))
 refine .gz 88 ?_
 refine .pk ?_
 refine .mv ?_
 refine .gz 94 (.gz 94 (.gz 94 ?_))
 refine .gz 94 (.gz 98 (.gz 98 ?_))
 refine .gz 94 ?_
 refine .pk ?_
 refine AOps.nil (AWp.condT rfl (AWp.sr ?_))
 refine .an ?_
 refine AOps.nil (AWp.ret ?_)
 exact .rb rfl (df (by (simp only [Shaped, c13, Int.reduceEq, Bool.not_eq_true, false_and, true_and, and_true, and_false, or_false, false_or, ne_eq]) <;> (first | omega | grind)))
 refine .gw 88 (Y.fieldAddr fl39_1 rfl rfl) (.gw 88 (Y.load sh3 rfl rfl rfl rfl) (.gw 88 (Y.move rfl rfl) ?_))
 refine .gw 88 (Y.neq rfl rfl) ?_
 refine .pk ?_
 refine .mv ?_
 refine AOps.splitD (d := 94) rfl (fun c94 => ?_) (fun c94 => ?_)
 refine .gz 94 (.gz 94 (.gz 94 ?_))
 refine .gz 94 (.gz 98 (.gz 98 ?_))
 refine .gz 94 ?_
 refine .pk ?_
 refine AOps.nil (AWp.condT rfl (AWp.sr ?_))
 refine .an ?_
 refine AOps.nil (AWp.ret ?_)
 exact .rb rfl (df (by (simp only [Shaped, c13, Int.reduceEq, Bool.not_eq_true, false_and, true_and, and_true, and_false, or_false, false_or, ne_eq]) <;> (first | omega | grind)))
 refine .gw 94 (Y.fieldAddr fl39_4 rfl rfl) (.gw 94 (Y.load sh37 rfl rfl rfl rfl) (.gw 94 (Y.neq rfl rfl) ?_))
 refine .gw 94 (Y.move rfl rfl) ?_
 refine AOps.splitD (d := 98) rfl (fun c98 => ?_) (fun c98 => ?_)
 refine .gw 98 (Y.move rfl rfl) (.gw 98 (Y.not rfl) (.gw 94 (Y.pick rfl rfl rfl) ?_))
 refine .pk ?_
 refine AOps.nil (AWp.condT rfl (AWp.sr ?_))
 refine .an ?_
 refine AOps.nil (AWp.ret ?_)
 exact .rb rfl (df (by (simp only [Shaped, c13, Int.reduceEq, Bool.not_eq_true, false_and, true_and, and_true, and_false, or_false, false_or, ne_eq]) <;> (first | omega | grind)))
 refine .gz 98 (.gz 98 (.gw 94 (Y.pick rfl rfl rfl) ?_))
 refine .pk ?_
 refine AOps.nil (AWp.condF rfl (AWp.skip ?_))
 refine AWp.seq (AWp.sr ?_)
 refine .mv ?_
 refine .vl (Y.lss rfl rfl) (AOps.nil (AWp.condT rfl ?_))
 refine AWp.sr ?_
 refine .fa fl39_5 ?_
 refine .ld sh3 ?_
 refine .vl (Y.eql rfl rfl) ?_
 refine .an ?_
 refine AOps.nil (AWp.ret ?_)
 exact .rb rfl (dd (by (simp only [Shaped, c13, Int.reduceEq, Bool.not_eq_true, false_and, true_and, and_true, and_false, or_false, false_or, ne_eq]) <;> (first | omega | grind)))
 refine AWp.sr (.vl (Y.eql rfl rfl) ?_)
 refine .an ?_
 refine AOps.nil ?_
 refine AWp.condD rfl (fun c22 => ?_) (fun c22 => ?_)
 refine AWp.sr ?_
 refine .fa fl39_3 ?_
 refine .ld sh22 ?_
 refine .vl (Y.len (n := c.args.length) sl22 rfl (congrArg some (List.length_map ..))) ?_
 refine .an ?_
 refine AOps.nil (AWp.sr ?_)
 refine .mv ?_
 refine .vl (Y.lss rfl rfl) ?_
 refine .mv ?_
 refine AOps.splitD (d := 29) rfl (fun c29 => ?_) (fun c29 => ?_)
 refine .gz 29 (.gz 29 (.gz 29 ?_))
 refine .pk ?_
 refine AOps.nil (AWp.condT rfl (AWp.sr ?_))
 refine .an ?_
 refine AOps.nil (AWp.ret ?_)
 exact .rb rfl (df (by (simp only [Shaped, c22, Int.reduceEq, Bool.not_eq_true, false_and, true_and, and_true, and_false, or_false, false_or, ne_eq]) <;> (first | omega | grind)))
 refine .gw 29 (Y.move rfl rfl) ?_
 refine .gw 29 (Y.remI rfl rfl (by omega)) ?_
 refine .gw 29 (Y.eql rfl rfl) ?_
 refine .pk ?_
 refine AOps.nil ?_
 refine AWp.condD rfl (fun c33 => ?_) (fun c33 => ?_)
 refine AWp.sr ?_
 refine .an ?_
 refine AOps.nil (AWp.ret ?_)
 exact .rb rfl (df (by (simp only [Shaped, c22, Int.reduceEq, Bool.not_eq_true, false_and, true_and, and_true, and_false, or_false, false_or, ne_eq]) <;> (first | omega | grind)))
 refine AWp.skip (AWp.seq (AWp.sr ?_))
 refine .fa fl39_3 ?_
 refine .ld sh22 ?_
 refine .vl (Y.len (n := c.args.length) sl22 rfl (congrArg some (List.length_map ..))) ?_
 refine .mv ?_
 refine .vl (Y.neq rfl rfl) ?_
 refine .mv ?_
 refine AOps.splitD (d := 88) rfl (fun c88 => ?_) (fun c88 => ?_)
 refine .gz 88 (.gz 88 (.gz 88 ?_))
 refine .gz 88 ?_
 refine .pk ?_
 refine .mv ?_
 refine .gz 94 (.gz 94 (.gz 94 ?_))
 refine .gz 94 (.gz 98 (.gz 98 ?_))
 refine .gz 94 ?_
 refine .pk ?_
 refine AOps.nil (AWp.condT rfl (AWp.sr ?_))
 refine .an ?_
 refine AOps.nil (AWp.ret ?_)
 exact .rb rfl (df (by (simp only [Shaped, c22, Int.reduceEq, Bool.not_eq_true, false_and, true_and, and_true, and_false, or_false, false_or, ne_eq]) <;> (first | omega | grind)))
 refine .gw 88 (Y.fieldAddr fl39_1 rfl rfl) (.gw 88 (Y.load sh3 rfl rfl rfl rfl) (.gw 88 (Y.move rfl rfl) ?_))
 refine .gw 88 (Y.neq rfl rfl) ?_
 refine .pk ?_
 refine .mv ?_
 refine AOps.splitD (d := 94) rfl (fun c94 => ?_) (fun c94 => ?_)
 refine .gz 94 (.gz 94 (.gz 94 ?_))
 refine .gz 94 (.gz 98 (.gz 98 ?_))
 refine .gz 94 ?_
 refine .pk ?_
 refine AOps.nil (AWp.condT rfl (AWp.sr ?_))
 refine .an ?_
 refine AOps.nil (AWp.ret ?_)
 exact .rb rfl (df (by (simp only [Shaped, c22, Int.reduceEq, Bool.not_eq_true, false_and, true_and, and_true, and_false, or_false, false_or, ne_eq]) <;> (first | omega | grind)))
 refine .gw 94 (Y.fieldAddr fl39_4 rfl rfl) (.gw 94 (Y.load sh37 rfl rfl rfl rfl) (.gw 94 (Y.neq rfl rfl) ?_))
 refine .gw 94 (Y.move rfl rfl) ?_
 refine AOps.splitD (d := 98) rfl (fun c98 => ?_) (fun c98 => ?_)
 refine .gw 98 (Y.move rfl rfl) (.gw 98 (Y.not rfl) (.gw 94 (Y.pick rfl rfl rfl) ?_))
 refine .pk ?_
 refine AOps.nil (AWp.condT rfl (AWp.sr ?_))
 refine .an ?_
 refine AOps.nil (AWp.ret ?_)
 exact .rb rfl (df (by (simp only [Shaped, c22, Int.reduceEq, Bool.not_eq_true, false_and, true_and, and_true, and_false, or_false, false_or, ne_eq]) <;> (first | omega | grind)))
 refine .gz 98 (.gz 98 (.gw 94 (Y.pick rfl rfl rfl) ?_))
 refine .pk ?_
 refine AOps.nil (AWp.condF rfl (AWp.skip ?_))
 refine AWp.seq (AWp.sr ?_)
 refine .mv ?_
 refine .vl (Y.lss rfl rfl) (AOps.nil (AWp.condT rfl ?_))
 refine AWp.sr ?_
 refine .fa fl39_5 ?_
 refine .ld sh3 ?_
 refine .vl (Y.eql rfl rfl) ?_
 refine .an ?_
 refine AOps.nil (AWp.ret ?_)
 exact .rb rfl (dd (by (simp only [Shaped, c22, Int.reduceEq, Bool.not_eq_true, false_and, true_and, and_true, and_false, or_false, false_or, ne_eq]) <;> (first | omega | grind)))
 refine AWp.sr (.vl (Y.eql rfl rfl) ?_)
 refine .an ?_
 refine AOps.nil ?_
 refine AWp.condD rfl (fun c34 => ?_) (fun c34 => ?_)
 refine AWp.region ?_
 refine .an ?_
 refine .an ?_
 refine AOps.nil ?_
 refine AWp.join0 (⟨[(2, .ptr 102 0 0 0), (3, .ptr 103 0 0 0), (8, vi (-1))], [(102, .cells (Netlist.row n)), (103, .cells (Cell.row c))]⟩) (((¬ (((c.args.length : Nat) : Int) ≠ 2)) ∧ (¬ (c.op ≠ 0)) ∧ (((c.num : Nat) : Int) ≠ 0)) ∨ ((¬ (((c.args.length : Nat) : Int) ≠ 2)) ∧ (¬ (c.op ≠ 0)) ∧ (¬ (((c.num : Nat) : Int) ≠ 0)))) ?_ (fun hJ33 => ?_)
 refine AWp.sr ?_
 refine .fa fl39_3 ?_
 refine .ld sh22 ?_
 refine .vl (Y.len (n := c.args.length) sl22 rfl (congrArg some (List.length_map ..))) ?_
 refine .mv ?_
 refine .vl (Y.neq rfl rfl) ?_
 refine .mv ?_
 refine AOps.splitD (d := 88) rfl (fun c88 => ?_) (fun c88 => ?_)
 refine .gz 88 (.gz 88 (.gz 88 ?_))
 refine .gz 88 ?_
 refine .pk ?_
 refine .mv ?_
 refine .gz 94 (.gz 94 (.gz 94 ?_))
 refine .gz 94 (.gz 98 (.gz 98 ?_))
 refine .gz 94 ?_
 refine .pk ?_
 refine AOps.nil (AWp.condT rfl (AWp.sr ?_))
 refine .an ?_
 refine AOps.nil (AWp.ret ?_)
 exact .rb rfl (df (by (simp only [Shaped, c34, Int.reduceEq, Bool.not_eq_true, false_and, true_and, and_true, and_false, or_false, false_or, ne_eq]) <;> (first | omega | grind)))
 refine .gw 88 (Y.fieldAddr fl39_1 rfl rfl) (.gw 88 (Y.load sh3 rfl rfl rfl rfl) (.gw 88 (Y.move rfl rfl) ?_))
 refine .gw 88 (Y.neq rfl rfl) ?_
 refine .pk ?_
 refine .mv ?_
 refine AOps.splitD (d := 94) rfl (fun c94 => ?_) (fun c94 => ?_)
 refine .gz 94 (.gz 94 (.gz 94 ?_))
 refine .gz 94 (.gz 98 (.gz 98 ?_))
 refine .gz 94 ?_
 refine .pk ?_
 refine AOps.nil (AWp.condT rfl (AWp.sr ?_))
 refine .an ?_
 refine AOps.nil (AWp.ret ?_)
 exact .rb rfl (df (by (simp only [Shaped, c34, Int.reduceEq, Bool.not_eq_true, false_and, true_and, and_true, and_false, or_false, false_or, ne_eq]) <;> (first | omega | grind)))
 refine .gw 94 (Y.fieldAddr fl39_4 rfl rfl) (.gw 94 (Y.load sh37 rfl rfl rfl rfl) (.gw 94 (Y.neq rfl rfl) ?_))
 refine .gw 94 (Y.move rfl rfl) ?_
 refine AOps.splitD (d := 98) rfl (fun c98 => ?_) (fun c98 => ?_)
 refine .gw 98 (Y.move rfl rfl) (.gw 98 (Y.not rfl) (.gw 94 (Y.pick rfl rfl rfl) ?_))
 refine .pk ?_
 refine AOps.nil (AWp.condF rfl (AWp.skip ?_))
 exact ⟨.inl ⟨c88, c94, c98⟩, Le.mk (.c (.c (.c (.nil)))) (.c (.c (.nil)))⟩
 refine .gz 98 (.gz 98 (.gw 94 (Y.pick rfl rfl rfl) ?_))
 refine .pk ?_
 refine AOps.nil (AWp.condF rfl (AWp.skip ?_))
 exact ⟨.inr (⟨c88, c94, c98⟩), Le.mk (.c (.c (.c (.nil)))) (.c (.c (.nil)))⟩
 refine AWp.seq (AWp.sr ?_)
 refine .mv ?_
 refine .vl (Y.lss rfl rfl) (AOps.nil (AWp.condT rfl ?_))
 refine AWp.sr ?_
 refine .fa fl39_5 ?_
 refine .ld sh3 ?_
 refine .vl (Y.eql rfl rfl) ?_
 refine .an ?_
 refine AOps.nil (AWp.ret ?_)
 exact .rb rfl (dd (by (simp only [Shaped, c34, Int.reduceEq, Bool.not_eq_true, false_and, true_and, and_true, and_false, or_false, false_or, ne_eq]) <;> (first | omega | grind)))
 refine AWp.sr (.vl (Y.eql rfl rfl) ?_)
 refine .an ?_
 refine AOps.nil ?_
 refine AWp.condD rfl (fun c36 => ?_) (fun c36 => ?_)
 refine AWp.seq (AWp.regionS rfl (by kernel_rfl) (AHead.val (Y.fieldAddr fl39_1 rfl rfl) (by decide) ?_))
 refine AHead.val (Y.load sh3 rfl rfl rfl rfl) (by decide) (AHead.val (Y.assign rfl rfl) (by decide) (AHead.val (Y.assign rfl rfl) (by decide) ?_))
 refine AHead.val (Y.assign rfl rfl) (by decide) (AHead.nil (AWp.sr ?_))
 refine .fa fl39_1 ?_
 refine .ld sh3 ?_
 refine .vl (Y.lss rfl rfl) ?_
 refine .mv ?_
 refine AOps.splitD (d := 43) rfl (fun c43 => ?_) (fun c43 => ?_)
 refine .gz 43 (.gz 43 (.gz 43 ?_))
 refine .pk ?_
 refine .mv ?_
 refine .gz 48 (.gz 48 (.gz 48 ?_))
 refine .pk ?_
 refine .mv ?_
 refine .gz 53 (.gz 53 (.gz 53 ?_))
 refine .pk ?_
 refine AOps.nil (AWp.condT rfl (AWp.sr ?_))
 refine .an ?_
 refine AOps.nil (AWp.ret ?_)
 exact .rb rfl (df (by (simp only [Shaped, c36, Int.reduceEq, Bool.not_eq_true, false_and, true_and, and_true, and_false, or_false, false_or, ne_eq]) <;> (first | omega | grind)))
 refine .gw 43 (Y.fieldAddr fl39_1 rfl rfl) (.gw 43 (Y.load sh3 rfl rfl rfl rfl) (.gw 43 (Y.gtr rfl rfl) ?_))
 refine .pk ?_
 refine .mv ?_
 refine AOps.splitD (d := 48) rfl (fun c48 => ?_) (fun c48 => ?_)
 refine .gz 48 (.gz 48 (.gz 48 ?_))
 refine .pk ?_
 refine .mv ?_
 refine .gz 53 (.gz 53 (.gz 53 ?_))
 refine .pk ?_
 refine AOps.nil (AWp.condT rfl (AWp.sr ?_))
 refine .an ?_
 refine AOps.nil (AWp.ret ?_)
 exact .rb rfl (df (by (simp only [Shaped, c36, Int.reduceEq, Bool.not_eq_true, false_and, true_and, and_true, and_false, or_false, false_or, ne_eq]) <;> (first | omega | grind)))
 refine .gw 48 (Y.fieldAddr fl39_4 rfl rfl) (.gw 48 (Y.load sh37 rfl rfl rfl rfl) (.gw 48 (Y.lss rfl rfl) ?_))
 refine .pk ?_
 refine .mv ?_
 refine AOps.splitD (d := 53) rfl (fun c53 => ?_) (fun c53 => ?_)
 refine .gz 53 (.gz 53 (.gz 53 ?_))
 refine .pk ?_
 refine AOps.nil (AWp.condT rfl (AWp.sr ?_))
 refine .an ?_
 refine AOps.nil (AWp.ret ?_)
 exact .rb rfl (df (by (simp only [Shaped, c36, Int.reduceEq, Bool.not_eq_true, false_and, true_and, and_true, and_false, or_false, false_or, ne_eq]) <;> (first | omega | grind)))
 refine .gw 53 (Y.fieldAddr fl39_4 rfl rfl) (.gw 53 (Y.load sh37 rfl rfl rfl rfl) (.gw 53 (Y.gtr rfl rfl) ?_))
 refine .pk ?_
 refine AOps.nil ?_
 refine AWp.condD rfl (fun c57 => ?_) (fun c57 => ?_)
 refine AWp.sr ?_
 refine .an ?_
 refine AOps.nil (AWp.ret ?_)
 exact .rb rfl (df (by (simp only [Shaped, c36, Int.reduceEq, Bool.not_eq_true, false_and, true_and, and_true, and_false, or_false, false_or, ne_eq]) <;> (first | omega | grind)))
 refine AWp.skip ?_
 refine AWp.join0 (⟨[(2, .ptr 102 0 0 0), (3, .ptr 103 0 0 0), (8, vi (-1))], [(102, .cells (Netlist.row n)), (103, .cells (Cell.row c))]⟩) (((¬ (((c.args.length : Nat) : Int) ≠ 2)) ∧ (¬ (c.op ≠ c.op)) ∧ (((c.num : Nat) : Int) ≠ 0)) ∨ ((¬ (((c.args.length : Nat) : Int) ≠ 2)) ∧ (¬ (c.op ≠ c.op)) ∧ (¬ (((c.num : Nat) : Int) ≠ 0)))) ?_ (fun hJ33 => ?_)
 refine AWp.sr ?_
 refine .fa fl39_3 ?_
 refine .ld sh22 ?_
 refine .vl (Y.len (n := c.args.length) sl22 rfl (congrArg some (List.length_map ..))) ?_
 refine .mv ?_
 refine .vl (Y.neq rfl rfl) ?_
 refine .mv ?_
 refine AOps.splitD (d := 88) rfl (fun c88 => ?_) (fun c88 => ?_)
 refine .gz 88 (.gz 88 (.gz 88 ?_))
 refine .gz 88 ?_
 refine .pk ?_
 refine .mv ?_
 refine .gz 94 (.gz 94 (.gz 94 ?_))
 refine .gz 94 (.gz 98 (.gz 98 ?_))
 refine .gz 94 ?_
 refine .pk ?_
 refine AOps.nil (AWp.condT rfl (AWp.sr ?_))
 refine .an ?_
 refine AOps.nil (AWp.ret ?_)
 exact .rb rfl (df (by (simp only [Shaped, c36, Int.reduceEq, Bool.not_eq_true, false_and, true_and, and_true, and_false, or_false, false_or, ne_eq]) <;> (first | omega | grind)))
 refine .gw 88 (Y.fieldAddr fl39_1 rfl rfl) (.gw 88 (Y.load sh3 rfl rfl rfl rfl) (.gw 88 (Y.move rfl rfl) ?_))
 refine .gw 88 (Y.neq rfl rfl) ?_
 refine .pk ?_
 refine .mv ?_
 refine AOps.splitD (d := 94) rfl (fun c94 => ?_) (fun c94 => ?_)
 refine .gz 94 (.gz 94 (.gz 94 ?_))
 refine .gz 94 (.gz 98 (.gz 98 ?_))
 refine .gz 94 ?_
 refine .pk ?_
 refine AOps.nil (AWp.condT rfl (AWp.sr ?_))
 refine .an ?_
 refine AOps.nil (AWp.ret ?_)
 exact .rb rfl (df (by (simp only [Shaped, c36, Int.reduceEq, Bool.not_eq_true, false_and, true_and, and_true, and_false, or_false, false_or, ne_eq]) <;> (first | omega | grind)))
 refine .gw 94 (Y.fieldAddr fl39_4 rfl rfl) (.gw 94 (Y.load sh37 rfl rfl rfl rfl) (.gw 94 (Y.neq rfl rfl) ?_))
 refine .gw 94 (Y.move rfl rfl) ?_
 refine AOps.splitD (d := 98) rfl (fun c98 => ?_) (fun c98 => ?_)
 refine .gw 98 (Y.move rfl rfl) (.gw 98 (Y.not rfl) (.gw 94 (Y.pick rfl rfl rfl) ?_))
 refine .pk ?_
 refine AOps.nil (AWp.condF rfl (AWp.skip ?_))
 exact ⟨.inl ⟨c88, c94, c98⟩, Le.mk (.c (.c (.c (.nil)))) (.c (.c (.nil)))⟩
 refine .gz 98 (.gz 98 (.gw 94 (Y.pick rfl rfl rfl) ?_))
 refine .pk ?_
 refine AOps.nil (AWp.condF rfl (AWp.skip ?_))
 exact ⟨.inr (⟨c88, c94, c98⟩), Le.mk (.c (.c (.c (.nil)))) (.c (.c (.nil)))⟩
 refine AWp.seq (AWp.sr ?_)
 refine .mv ?_
 refine .vl (Y.lss rfl rfl) (AOps.nil (AWp.condT rfl ?_))
 refine AWp.sr ?_
 refine .fa fl39_5 ?_
 refine .ld sh3 ?_
 refine .vl (Y.eql rfl rfl) ?_
 refine .an ?_
 refine AOps.nil (AWp.ret ?_)
 exact .rb rfl (dd (by (simp only [Shaped, c36, Int.reduceEq, Bool.not_eq_true, false_and, true_and, and_true, and_false, or_false, false_or, ne_eq]) <;> (first | omega | grind)))
 refine AWp.sr (.vl (Y.eql rfl rfl) ?_)
 refine .an ?_
 refine AOps.nil ?_
 refine AWp.condD rfl (fun c58 => ?_) (fun c58 => ?_)
 refine AWp.regionS rfl (by kernel_rfl) (AHead.val (Y.fieldAddr fl27_4 rfl rfl) (by decide) (AHead.val (Y.load sh24 rfl rfl rfl rfl) (by decide) ?_))
 refine AHead.val (Y.len (n := n.mems.length) sl24 rfl (congrArg some (List.length_map ..))) (by decide) (AHead.val (Y.assign rfl rfl) (by decide) (AHead.val (Y.assign rfl rfl) (by decide) ?_))
 refine AHead.nil (AWp.seq (AWp.sr ?_))
 refine .fa fl39_3 ?_
 refine .ld sh22 ?_
 refine .vl (Y.len (n := c.args.length) sl22 rfl (congrArg some (List.length_map ..))) ?_
 refine .mv ?_
 refine .vl (Y.neq rfl rfl) ?_
 refine .mv ?_
 refine AOps.splitD (d := 88) rfl (fun c88 => ?_) (fun c88 => ?_)
 refine .gz 88 (.gz 88 (.gz 88 ?_))
 refine .gz 88 ?_
 refine .pk ?_
 refine .mv ?_
 refine .gz 94 (.gz 94 (.gz 94 ?_))
 refine .gz 94 (.gz 98 (.gz 98 ?_))
 refine .gz 94 ?_
 refine .pk ?_
 refine AOps.nil (AWp.condT rfl (AWp.sr ?_))
 refine .an ?_
 refine AOps.nil (AWp.ret ?_)
 exact .rb rfl (df (by (simp only [Shaped, c58, Int.reduceEq, Bool.not_eq_true, false_and, true_and, and_true, and_false, or_false, false_or, ne_eq]) <;> (first | omega | grind)))
 refine .gw 88 (Y.fieldAddr fl39_1 rfl rfl) (.gw 88 (Y.load sh3 rfl rfl rfl rfl) (.gw 88 (Y.move rfl rfl) ?_))
 refine .gw 88 (Y.neq rfl rfl) ?_
 refine .pk ?_
 refine .mv ?_
 refine AOps.splitD (d := 94) rfl (fun c94 => ?_) (fun c94 => ?_)
 refine .gz 94 (.gz 94 (.gz 94 ?_))
 refine .gz 94 (.gz 98 (.gz 98 ?_))
 refine .gz 94 ?_
 refine .pk ?_
 refine AOps.nil (AWp.condT rfl (AWp.sr ?_))
 refine .an ?_
 refine AOps.nil (AWp.ret ?_)
 exact .rb rfl (df (by (simp only [Shaped, c58, Int.reduceEq, Bool.not_eq_true, false_and, true_and, and_true, and_false, or_false, false_or, ne_eq]) <;> (first | omega | grind)))
 refine .gw 94 (Y.fieldAddr fl39_4 rfl rfl) (.gw 94 (Y.load sh37 rfl rfl rfl rfl) (.gw 94 (Y.neq rfl rfl) ?_))
 refine .gw 94 (Y.move rfl rfl) ?_
 refine AOps.splitD (d := 98) rfl (fun c98 => ?_) (fun c98 => ?_)
 refine .gw 98 (Y.move rfl rfl) (.gw 98 (Y.not rfl) (.gw 94 (Y.pick rfl rfl rfl) ?_))
 refine .pk ?_
 refine AOps.nil (AWp.condT rfl (AWp.sr ?_))
 refine .an ?_
 refine AOps.nil (AWp.ret ?_)
 exact .rb rfl (df (by (simp only [Shaped, c58, Int.reduceEq, Bool.not_eq_true, false_and, true_and, and_true, and_false, or_false, false_or, ne_eq]) <;> (first | omega | grind)))
 refine .gz 98 (.gz 98 (.gw 94 (Y.pick rfl rfl rfl) ?_))
 refine .pk ?_
 refine AOps.nil (AWp.condF rfl (AWp.skip ?_))
 refine AWp.seq (AWp.sr ?_)
 refine .mv ?_
 refine .vl (Y.lss rfl rfl) (AOps.nil ?_)
 refine AWp.condD rfl (fun c104 => ?_) (fun c104 => ?_)
 refine AWp.sr ?_
 refine .fa fl39_5 ?_
 refine .ld sh3 ?_
 refine .vl (Y.eql rfl rfl) ?_
 refine .an ?_
 refine AOps.nil (AWp.ret ?_)
 exact .rb rfl (dd (by (simp only [Shaped, c58, Int.reduceEq, Bool.not_eq_true, false_and, true_and, and_true, and_false, or_false, false_or, ne_eq]) <;> (first | omega | grind)))
 refine AWp.skip (AWp.sr ?_)
 refine .fa fl39_5 ?_
 refine .ld sh3 ?_
 refine .vl (Y.geq rfl rfl) ?_
 refine .mv ?_
 refine AOps.splitD (d := 111) rfl (fun c111 => ?_) (fun c111 => ?_)
 refine .gw 111 (Y.fieldAddr fl39_5 rfl rfl) (.gw 111 (Y.load sh3 rfl rfl rfl rfl) (.gw 111 (Y.move rfl rfl) ?_))
 refine .gw 111 (Y.lss rfl rfl) ?_
 refine .pk ?_
 refine .mv ?_
 refine AOps.splitD (d := 117) rfl (fun c117 => ?_) (fun c117 => ?_)
 refine .gw 117 (Y.fieldAddr fl39_0 rfl rfl) (.gw 117 (Y.load sh3 rfl rfl rfl rfl) (.gw 117 (Y.neq rfl rfl) ?_))
 refine .gw 117 (Y.move rfl rfl) ?_
 refine AOps.splitD (d := 121) rfl (fun c121 => ?_) (fun c121 => ?_)
 refine .gz 121 (.gz 121 (.gz 121 ?_))
 refine .gz 121 (.gz 121 (.gz 121 ?_))
 refine .gz 121 (.gz 121 (.gw 117 (Y.pick rfl rfl rfl) ?_))
 refine .pk ?_
 refine .an ?_
 refine AOps.nil (AWp.ret ?_)
 exact .rb rfl (dt (by (simp only [Shaped, c58, Int.reduceEq, Bool.not_eq_true, false_and, true_and, and_true, and_false, or_false, false_or, ne_eq]) <;> (first | omega | grind)))
 refine .gw 121 (Y.fieldAddr fl27_5 rfl rfl) (.gw 121 (Y.load sh25 rfl rfl rfl rfl) (.gw 121 (Y.fieldAddr fl39_5 rfl rfl) ?_))
 refine .gw 121 (Y.load sh3 rfl rfl rfl rfl) ?_
 refine .gw 121 (Y.indexF (m := (c.mem).toNat) sl25 rfl rfl (by omega) (row_getD (d := default) (by omega))) ?_
 refine .gw 121 (Y.fieldAddr fl83_2 rfl rfl) (.gw 121 (Y.load sh4 rfl rfl rfl rfl) (.gw 121 (Y.not rfl) ?_))
 refine .gw 117 (Y.pick rfl rfl rfl) ?_
 refine .pk ?_
 refine .an ?_
 refine AOps.nil (AWp.ret ?_)
 exact .rb rfl (db (by (simp only [Shaped, c58, Int.reduceEq, Bool.not_eq_true, false_and, true_and, and_true, and_false, or_false, false_or, ne_eq]) <;> (first | omega | grind)))
 refine .gz 117 (.gz 117 (.gz 117 ?_))
 refine .gz 117 (.gz 121 (.gz 121 ?_))
 refine .gz 121 (.gz 121 (.gz 121 ?_))
 refine .gz 121 (.gz 121 (.gz 121 ?_))
 refine .gz 117 ?_
 refine .pk ?_
 refine .an ?_
 refine AOps.nil (AWp.ret ?_)
 exact .rb rfl (df (by (simp only [Shaped, c58, Int.reduceEq, Bool.not_eq_true, false_and, true_and, and_true, and_false, or_false, false_or, ne_eq]) <;> (first | omega | grind)))
 refine .gz 111 (.gz 111 (.gz 111 ?_))
 refine .gz 111 ?_
 refine .pk ?_
 refine .mv ?_
 refine .gz 117 (.gz 117 (.gz 117 ?_))
 refine .gz 117 (.gz 121 (.gz 121 ?_))
 refine .gz 121 (.gz 121 (.gz 121 ?_))
 refine .gz 121 (.gz 121 (.gz 121 ?_))
 refine .gz 117 ?_
 refine .pk ?_
 refine .an ?_
 refine AOps.nil (AWp.ret ?_)
 exact .rb rfl (df (by (simp only [Shaped, c58, Int.reduceEq, Bool.not_eq_true, false_and, true_and, and_true, and_false, or_false, false_or, ne_eq]) <;> (first | omega | grind)))
 refine AWp.sr (.vl (Y.eql rfl rfl) ?_)
 refine .an ?_
 refine AOps.nil ?_
 refine AWp.condD rfl (fun c63 => ?_) (fun c63 => ?_)
 refine AWp.regionS rfl (by kernel_rfl) (AHead.val (Y.fieldAddr fl27_4 rfl rfl) (by decide) (AHead.val (Y.load sh24 rfl rfl rfl rfl) (by decide) ?_))
 refine AHead.val (Y.len (n := n.mems.length) sl24 rfl (congrArg some (List.length_map ..))) (by decide) (AHead.val (Y.assign rfl rfl) (by decide) (AHead.val (Y.assign rfl rfl) (by decide) ?_))
 refine AHead.nil (AWp.seq (AWp.sr ?_))
 refine .fa fl39_3 ?_
 refine .ld sh22 ?_
 refine .vl (Y.len (n := c.args.length) sl22 rfl (congrArg some (List.length_map ..))) ?_
 refine .mv ?_
 refine .vl (Y.neq rfl rfl) ?_
 refine .mv ?_
 refine AOps.splitD (d := 88) rfl (fun c88 => ?_) (fun c88 => ?_)
 refine .gz 88 (.gz 88 (.gz 88 ?_))
 refine .gz 88 ?_
 refine .pk ?_
 refine .mv ?_
 refine .gz 94 (.gz 94 (.gz 94 ?_))
 refine .gz 94 (.gz 98 (.gz 98 ?_))
 refine .gz 94 ?_
 refine .pk ?_
 refine AOps.nil (AWp.condT rfl (AWp.sr ?_))
 refine .an ?_
 refine AOps.nil (AWp.ret ?_)
 exact .rb rfl (df (by (simp only [Shaped, c63, Int.reduceEq, Bool.not_eq_true, false_and, true_and, and_true, and_false, or_false, false_or, ne_eq]) <;> (first | omega | grind)))
 refine .gw 88 (Y.fieldAddr fl39_1 rfl rfl) (.gw 88 (Y.load sh3 rfl rfl rfl rfl) (.gw 88 (Y.move rfl rfl) ?_))
 refine .gw 88 (Y.neq rfl rfl) ?_
 refine .pk ?_
 refine .mv ?_
 refine AOps.splitD (d := 94) rfl (fun c94 => ?_) (fun c94 => ?_)
 refine .gz 94 (.gz 94 (.gz 94 ?_))
 refine .gz 94 (.gz 98 (.gz 98 ?_))
 refine .gz 94 ?_
 refine .pk ?_
 refine AOps.nil (AWp.condT rfl (AWp.sr ?_))
 refine .an ?_
 refine AOps.nil (AWp.ret ?_)
 exact .rb rfl (df (by (simp only [Shaped, c63, Int.reduceEq, Bool.not_eq_true, false_and, true_and, and_true, and_false, or_false, false_or, ne_eq]) <;> (first | omega | grind)))
 refine .gw 94 (Y.fieldAddr fl39_4 rfl rfl) (.gw 94 (Y.load sh37 rfl rfl rfl rfl) (.gw 94 (Y.neq rfl rfl) ?_))
 refine .gw 94 (Y.move rfl rfl) ?_
 refine AOps.splitD (d := 98) rfl (fun c98 => ?_) (fun c98 => ?_)
 refine .gw 98 (Y.move rfl rfl) (.gw 98 (Y.not rfl) (.gw 94 (Y.pick rfl rfl rfl) ?_))
 refine .pk ?_
 refine AOps.nil (AWp.condT rfl (AWp.sr ?_))
 refine .an ?_
 refine AOps.nil (AWp.ret ?_)
 exact .rb rfl (df (by (simp only [Shaped, c63, Int.reduceEq, Bool.not_eq_true, false_and, true_and, and_true, and_false, or_false, false_or, ne_eq]) <;> (first | omega | grind)))
 refine .gz 98 (.gz 98 (.gw 94 (Y.pick rfl rfl rfl) ?_))
 refine .pk ?_
 refine AOps.nil (AWp.condF rfl (AWp.skip ?_))
 refine AWp.seq (AWp.sr ?_)
 refine .mv ?_
 refine .vl (Y.lss rfl rfl) (AOps.nil ?_)
 refine AWp.condD rfl (fun c104 => ?_) (fun c104 => ?_)
 refine AWp.sr ?_
 refine .fa fl39_5 ?_
 refine .ld sh3 ?_
 refine .vl (Y.eql rfl rfl) ?_
 refine .an ?_
 refine AOps.nil (AWp.ret ?_)
 exact .rb rfl (dd (by (simp only [Shaped, c63, Int.reduceEq, Bool.not_eq_true, false_and, true_and, and_true, and_false, or_false, false_or, ne_eq]) <;> (first | omega | grind)))
 refine AWp.skip (AWp.sr ?_)
 refine .fa fl39_5 ?_
 refine .ld sh3 ?_
 refine .vl (Y.geq rfl rfl) ?_
 refine .mv ?_
 refine AOps.splitD (d := 111) rfl (fun c111 => ?_) (fun c111 => ?_)
 refine .gw 111 (Y.fieldAddr fl39_5 rfl rfl) (.gw 111 (Y.load sh3 rfl rfl rfl rfl) (.gw 111 (Y.move rfl rfl) ?_))
 refine .gw 111 (Y.lss rfl rfl) ?_
 refine .pk ?_
 refine .mv ?_
 refine AOps.splitD (d := 117) rfl (fun c117 => ?_) (fun c117 => ?_)
 refine .gw 117 (Y.fieldAddr fl39_0 rfl rfl) (.gw 117 (Y.load sh3 rfl rfl rfl rfl) (.gw 117 (Y.neq rfl rfl) ?_))
 refine .gw 117 (Y.move rfl rfl) ?_
 refine AOps.splitD (d := 121) rfl (fun c121 => ?_) (fun c121 => ?_)
 refine .gz 121 (.gz 121 (.gz 121 ?_))
 refine .gz 121 (.gz 121 (.gz 121 ?_))
 refine .gz 121 (.gz 121 (.gw 117 (Y.pick rfl rfl rfl) ?_))
 refine .pk ?_
 refine .an ?_
 refine AOps.nil (AWp.ret ?_)
 exact .rb rfl (dt (by (simp only [Shaped, c63, Int.reduceEq, Bool.not_eq_true, false_and, true_and, and_true, and_false, or_false, false_or, ne_eq]) <;> (first | omega | grind)))
 refine .gw 121 (Y.fieldAddr fl27_5 rfl rfl) (.gw 121 (Y.load sh25 rfl rfl rfl rfl) (.gw 121 (Y.fieldAddr fl39_5 rfl rfl) ?_))
 refine .gw 121 (Y.load sh3 rfl rfl rfl rfl) ?_
 refine .gw 121 (Y.indexF (m := (c.mem).toNat) sl25 rfl rfl (by omega) (row_getD (d := default) (by omega))) ?_
 refine .gw 121 (Y.fieldAddr fl83_2 rfl rfl) (.gw 121 (Y.load sh4 rfl rfl rfl rfl) (.gw 121 (Y.not rfl) ?_))
 refine .gw 117 (Y.pick rfl rfl rfl) ?_
 refine .pk ?_
 refine .an ?_
 refine AOps.nil (AWp.ret ?_)
 exact .rb rfl (db (by (simp only [Shaped, c63, Int.reduceEq, Bool.not_eq_true, false_and, true_and, and_true, and_false, or_false, false_or, ne_eq]) <;> (first | omega | grind)))
 refine .gz 117 (.gz 117 (.gz 117 ?_))
 refine .gz 117 (.gz 121 (.gz 121 ?_))
 refine .gz 121 (.gz 121 (.gz 121 ?_))
 refine .gz 121 (.gz 121 (.gz 121 ?_))
 refine .gz 117 ?_
 refine .pk ?_
 refine .an ?_
 refine AOps.nil (AWp.ret ?_)
 exact .rb rfl (df (by (simp only [Shaped, c63, Int.reduceEq, Bool.not_eq_true, false_and, true_and, and_true, and_false, or_false, false_or, ne_eq]) <;> (first | omega | grind)))
 refine .gz 111 (.gz 111 (.gz 111 ?_))
 refine .gz 111 ?_
 refine .pk ?_
 refine .mv ?_
 refine .gz 117 (.gz 117 (.gz 117 ?_))
 refine .gz 117 (.gz 121 (.gz 121 ?_))
 refine .gz 121 (.gz 121 (.gz 121 ?_))
 refine .gz 121 (.gz 121 (.gz 121 ?_))
 refine .gz 117 ?_
 refine .pk ?_
 refine .an ?_
 refine AOps.nil (AWp.ret ?_)
 exact .rb rfl (df (by (simp only [Shaped, c63, Int.reduceEq, Bool.not_eq_true, false_and, true_and, and_true, and_false, or_false, false_or, ne_eq]) <;> (first | omega | grind)))
 refine AWp.sr (.vl (Y.eql rfl rfl) ?_)
 refine .an ?_
 refine AOps.nil ?_
 refine AWp.condD rfl (fun c68 => ?_) (fun c68 => ?_)
 refine AWp.sr ?_
 refine .an ?_
 refine AOps.nil (AWp.sr ?_)
 refine .fa fl39_4 ?_
 refine .ld sh37 ?_
 refine .fa fl27_3 ?_
 refine .ld sh22 ?_
 refine .vl (Y.len (n := n.ins.length) sl22 rfl (congrArg some (List.length_map ..))) ?_
 refine .vl (Y.convK ii3 ii37 rfl (by first | rfl | exact IntWalk.u64_in _ (by omega))) ?_
 refine .vl (Y.geq rfl rfl) (AOps.nil ?_)
 refine AWp.condD rfl (fun c76 => ?_) (fun c76 => ?_)
 refine AWp.sr ?_
 refine .an ?_
 refine AOps.nil (AWp.ret ?_)
 exact .rb rfl (df (by (simp only [Shaped, c68, Int.reduceEq, Bool.not_eq_true, false_and, true_and, and_true, and_false, or_false, false_or, ne_eq]) <;> (first | omega | grind)))
 refine AWp.skip ?_
 refine AWp.join0 (⟨[(2, .ptr 102 0 0 0), (3, .ptr 103 0 0 0), (8, vi (-1))], [(102, .cells (Netlist.row n)), (103, .cells (Cell.row c))]⟩) (((¬ (((c.args.length : Nat) : Int) ≠ 0)) ∧ (¬ (c.op ≠ 0)) ∧ (((c.num : Nat) : Int) ≠ 0)) ∨ ((¬ (((c.args.length : Nat) : Int) ≠ 0)) ∧ (¬ (c.op ≠ 0)) ∧ (¬ (((c.num : Nat) : Int) ≠ 0)))) ?_ (fun hJ33 => ?_)
 refine AWp.sr ?_
 refine .fa fl39_3 ?_
 refine .ld sh22 ?_
 refine .vl (Y.len (n := c.args.length) sl22 rfl (congrArg some (List.length_map ..))) ?_
 refine .mv ?_
 refine .vl (Y.neq rfl rfl) ?_
 refine .mv ?_
 refine AOps.splitD (d := 88) rfl (fun c88 => ?_) (fun c88 => ?_)
 refine .gz 88 (.gz 88 (.gz 88 ?_))
 refine .gz 88 ?_
 refine .pk ?_
 refine .mv ?_
 refine .gz 94 (.gz 94 (.gz 94 ?_))
 refine .gz 94 (.gz 98 (.gz 98 ?_))
 refine .gz 94 ?_
 refine .pk ?_
 refine AOps.nil (AWp.condT rfl (AWp.sr ?_))
 refine .an ?_
 refine AOps.nil (AWp.ret ?_)
 exact .rb rfl (df (by (simp only [Shaped, c68, Int.reduceEq, Bool.not_eq_true, false_and, true_and, and_true, and_false, or_false, false_or, ne_eq]) <;> (first | omega | grind)))
 refine .gw 88 (Y.fieldAddr fl39_1 rfl rfl) (.gw 88 (Y.load sh3 rfl rfl rfl rfl) (.gw 88 (Y.move rfl rfl) ?_))
 refine .gw 88 (Y.neq rfl rfl) ?_
 refine .pk ?_
 refine .mv ?_
 refine AOps.splitD (d := 94) rfl (fun c94 => ?_) (fun c94 => ?_)
 refine .gz 94 (.gz 94 (.gz 94 ?_))
 refine .gz 94 (.gz 98 (.gz 98 ?_))
 refine .gz 94 ?_
 refine .pk ?_
 refine AOps.nil (AWp.condT rfl (AWp.sr ?_))
 refine .an ?_
 refine AOps.nil (AWp.ret ?_)
 exact .rb rfl (df (by (simp only [Shaped, c68, Int.reduceEq, Bool.not_eq_true, false_and, true_and, and_true, and_false, or_false, false_or, ne_eq]) <;> (first | omega | grind)))
 refine .gw 94 (Y.fieldAddr fl39_4 rfl rfl) (.gw 94 (Y.load sh37 rfl rfl rfl rfl) (.gw 94 (Y.neq rfl rfl) ?_))
 refine .gw 94 (Y.move rfl rfl) ?_
 refine AOps.splitD (d := 98) rfl (fun c98 => ?_) (fun c98 => ?_)
 refine .gw 98 (Y.move rfl rfl) (.gw 98 (Y.not rfl) (.gw 94 (Y.pick rfl rfl rfl) ?_))
 refine .pk ?_
 refine AOps.nil (AWp.condF rfl (AWp.skip ?_))
 exact ⟨.inl ⟨c88, c94, c98⟩, Le.mk (.c (.c (.c (.nil)))) (.c (.c (.nil)))⟩
 refine .gz 98 (.gz 98 (.gw 94 (Y.pick rfl rfl rfl) ?_))
 refine .pk ?_
 refine AOps.nil (AWp.condF rfl (AWp.skip ?_))
 exact ⟨.inr (⟨c88, c94, c98⟩), Le.mk (.c (.c (.c (.nil)))) (.c (.c (.nil)))⟩
 refine AWp.seq (AWp.sr ?_)
 refine .mv ?_
 refine .vl (Y.lss rfl rfl) (AOps.nil (AWp.condT rfl ?_))
 refine AWp.sr ?_
 refine .fa fl39_5 ?_
 refine .ld sh3 ?_
 refine .vl (Y.eql rfl rfl) ?_
 refine .an ?_
 refine AOps.nil (AWp.ret ?_)
 exact .rb rfl (dd (by (simp only [Shaped, c68, Int.reduceEq, Bool.not_eq_true, false_and, true_and, and_true, and_false, or_false, false_or, ne_eq]) <;> (first | omega | grind)))
 refine AWp.seq (AWp.sr (.vl (Y.eql rfl rfl) ?_))
 refine .an ?_
 refine AOps.nil ?_
 refine AWp.condKD rfl (fun c77 => ?_) (fun c77 => ?_)
 refine AWp.skip (AWp.condT rfl (AWp.region ?_))
 refine .fa fl27_5 ?_
 refine .ld sh25 ?_
 refine .vl (Y.len (n := n.streams.length) sl25 rfl (congrArg some (List.length_map ..))) ?_
 refine .an ?_
 refine AOps.nil (AWp.seq (AWp.sr ?_))
 refine .fa fl39_3 ?_
 refine .ld sh22 ?_
 refine .vl (Y.len (n := c.args.length) sl22 rfl (congrArg some (List.length_map ..))) ?_
 refine .mv ?_
 refine .vl (Y.neq rfl rfl) ?_
 refine .mv ?_
 refine AOps.splitD (d := 88) rfl (fun c88 => ?_) (fun c88 => ?_)
 refine .gz 88 (.gz 88 (.gz 88 ?_))
 refine .gz 88 ?_
 refine .pk ?_
 refine .mv ?_
 refine .gz 94 (.gz 94 (.gz 94 ?_))
 refine .gz 94 (.gz 98 (.gz 98 ?_))
 refine .gz 94 ?_
 refine .pk ?_
 refine AOps.nil (AWp.condT rfl (AWp.sr ?_))
 refine .an ?_
 refine AOps.nil (AWp.ret ?_)
 exact .rb rfl (df (by (simp only [Shaped, c77, Int.reduceEq, Bool.not_eq_true, false_and, true_and, and_true, and_false, or_false, false_or, ne_eq]) <;> (first | omega | grind)))
 refine .gw 88 (Y.fieldAddr fl39_1 rfl rfl) (.gw 88 (Y.load sh3 rfl rfl rfl rfl) (.gw 88 (Y.move rfl rfl) ?_))
 refine .gw 88 (Y.neq rfl rfl) ?_
 refine .pk ?_
 refine .mv ?_
 refine AOps.splitD (d := 94) rfl (fun c94 => ?_) (fun c94 => ?_)
 refine .gz 94 (.gz 94 (.gz 94 ?_))
 refine .gz 94 (.gz 98 (.gz 98 ?_))
 refine .gz 94 ?_
 refine .pk ?_
 refine AOps.nil (AWp.condT rfl (AWp.sr ?_))
 refine .an ?_
 refine AOps.nil (AWp.ret ?_)
 exact .rb rfl (df (by (simp only [Shaped, c77, Int.reduceEq, Bool.not_eq_true, false_and, true_and, and_true, and_false, or_false, false_or, ne_eq]) <;> (first | omega | grind)))
 refine .gw 94 (Y.fieldAddr fl39_4 rfl rfl) (.gw 94 (Y.load sh37 rfl rfl rfl rfl) (.gw 94 (Y.neq rfl rfl) ?_))
 refine .gw 94 (Y.move rfl rfl) ?_
 refine AOps.splitD (d := 98) rfl (fun c98 => ?_) (fun c98 => ?_)
 refine .gw 98 (Y.move rfl rfl) (.gw 98 (Y.not rfl) (.gw 94 (Y.pick rfl rfl rfl) ?_))
 refine .pk ?_
 refine AOps.nil (AWp.condT rfl (AWp.sr ?_))
 refine .an ?_
 refine AOps.nil (AWp.ret ?_)
 exact .rb rfl (df (by (simp only [Shaped, c77, Int.reduceEq, Bool.not_eq_true, false_and, true_and, and_true, and_false, or_false, false_or, ne_eq]) <;> (first | omega | grind)))
 refine .gz 98 (.gz 98 (.gw 94 (Y.pick rfl rfl rfl) ?_))
 refine .pk ?_
 refine AOps.nil (AWp.condF rfl (AWp.skip ?_))
 refine AWp.seq (AWp.sr ?_)
 refine .mv ?_
 refine .vl (Y.lss rfl rfl) (AOps.nil ?_)
 refine AWp.condD rfl (fun c104 => ?_) (fun c104 => ?_)
 refine AWp.sr ?_
 refine .fa fl39_5 ?_
 refine .ld sh3 ?_
 refine .vl (Y.eql rfl rfl) ?_
 refine .an ?_
 refine AOps.nil (AWp.ret ?_)
 exact .rb rfl (dd (by (simp only [Shaped, c77, Int.reduceEq, Bool.not_eq_true, false_and, true_and, and_true, and_false, or_false, false_or, ne_eq]) <;> (first | omega | grind)))
 refine AWp.skip (AWp.sr ?_)
 refine .fa fl39_5 ?_
 refine .ld sh3 ?_
 refine .vl (Y.geq rfl rfl) ?_
 refine .mv ?_
 refine AOps.splitD (d := 111) rfl (fun c111 => ?_) (fun c111 => ?_)
 refine .gw 111 (Y.fieldAddr fl39_5 rfl rfl) (.gw 111 (Y.load sh3 rfl rfl rfl rfl) (.gw 111 (Y.move rfl rfl) ?_))
 refine .gw 111 (Y.lss rfl rfl) ?_
 refine .pk ?_
 refine .mv ?_
 refine AOps.splitD (d := 117) rfl (fun c117 => ?_) (fun c117 => ?_)
 refine .gw 117 (Y.fieldAddr fl39_0 rfl rfl) (.gw 117 (Y.load sh3 rfl rfl rfl rfl) (.gw 117 (Y.neq rfl rfl) ?_))
 refine .gw 117 (Y.move rfl rfl) ?_
 refine AOps.splitD (d := 121) rfl (fun c121 => ?_) (fun c121 => ?_)
 refine .gz 121 (.gz 121 (.gz 121 ?_))
 refine .gz 121 (.gz 121 (.gz 121 ?_))
 refine .gz 121 (.gz 121 (.gw 117 (Y.pick rfl rfl rfl) ?_))
 refine .pk ?_
 refine .an ?_
 refine AOps.nil (AWp.ret ?_)
 exact .rb rfl (dt (by (simp only [Shaped, c77, Int.reduceEq, Bool.not_eq_true, false_and, true_and, and_true, and_false, or_false, false_or, ne_eq]) <;> (first | omega | grind)))
 refine .gw 121 (Y.fieldAddr fl27_5 rfl rfl) (.gw 121 (Y.load sh25 rfl rfl rfl rfl) (.gw 121 (Y.fieldAddr fl39_5 rfl rfl) ?_))
 refine .gw 121 (Y.load sh3 rfl rfl rfl rfl) ?_
 refine .gw 121 (Y.indexF (m := (c.mem).toNat) sl25 rfl rfl (by omega) (row_getD (d := default) (by omega))) ?_
 refine .gw 121 (Y.fieldAddr fl83_2 rfl rfl) (.gw 121 (Y.load sh4 rfl rfl rfl rfl) (.gw 121 (Y.not rfl) ?_))
 refine .gw 117 (Y.pick rfl rfl rfl) ?_
 refine .pk ?_
 refine .an ?_
 refine AOps.nil (AWp.ret ?_)
 exact .rb rfl (db (by (simp only [Shaped, c77, Int.reduceEq, Bool.not_eq_true, false_and, true_and, and_true, and_false, or_false, false_or, ne_eq]) <;> (first | omega | grind)))
 refine .gz 117 (.gz 117 (.gz 117 ?_))
 refine .gz 117 (.gz 121 (.gz 121 ?_))
 refine .gz 121 (.gz 121 (.gz 121 ?_))
 refine .gz 121 (.gz 121 (.gz 121 ?_))
 refine .gz 117 ?_
 refine .pk ?_
 refine .an ?_
 refine AOps.nil (AWp.ret ?_)
 exact .rb rfl (df (by (simp only [Shaped, c77, Int.reduceEq, Bool.not_eq_true, false_and, true_and, and_true, and_false, or_false, false_or, ne_eq]) <;> (first | omega | grind)))
 refine .gz 111 (.gz 111 (.gz 111 ?_))
 refine .gz 111 ?_
 refine .pk ?_
 refine .mv ?_
 refine .gz 117 (.gz 117 (.gz 117 ?_))
 refine .gz 117 (.gz 121 (.gz 121 ?_))
 refine .gz 121 (.gz 121 (.gz 121 ?_))
 refine .gz 121 (.gz 121 (.gz 121 ?_))
 refine .gz 117 ?_
 refine .pk ?_
 refine .an ?_
 refine AOps.nil (AWp.ret ?_)
 exact .rb rfl (df (by (simp only [Shaped, c77, Int.reduceEq, Bool.not_eq_true, false_and, true_and, and_true, and_false, or_false, false_or, ne_eq]) <;> (first | omega | grind)))
 refine AWp.region (.vl (Y.eql rfl rfl) ?_)
 refine .an ?_
 refine AOps.nil ?_
 refine AWp.condKD rfl (fun c77 => ?_) (fun c77 => ?_)
 refine AWp.region ?_
 refine .fa fl27_5 ?_
 refine .ld sh25 ?_
 refine .vl (Y.len (n := n.streams.length) sl25 rfl (congrArg some (List.length_map ..))) ?_
 refine .an ?_
 refine AOps.nil (AWp.seq (AWp.sr ?_))
 refine .fa fl39_3 ?_
 refine .ld sh22 ?_
 refine .vl (Y.len (n := c.args.length) sl22 rfl (congrArg some (List.length_map ..))) ?_
 refine .mv ?_
 refine .vl (Y.neq rfl rfl) ?_
 refine .mv ?_
 refine AOps.splitD (d := 88) rfl (fun c88 => ?_) (fun c88 => ?_)
 refine .gz 88 (.gz 88 (.gz 88 ?_))
 refine .gz 88 ?_
 refine .pk ?_
 refine .mv ?_
 refine .gz 94 (.gz 94 (.gz 94 ?_))
 refine .gz 94 (.gz 98 (.gz 98 ?_))
 refine .gz 94 ?_
 refine .pk ?_
 refine AOps.nil (AWp.condT rfl (AWp.sr ?_))
 refine .an ?_
 refine AOps.nil (AWp.ret ?_)
 exact .rb rfl (df (by (simp only [Shaped, c77, Int.reduceEq, Bool.not_eq_true, false_and, true_and, and_true, and_false, or_false, false_or, ne_eq]) <;> (first | omega | grind)))
 refine .gw 88 (Y.fieldAddr fl39_1 rfl rfl) (.gw 88 (Y.load sh3 rfl rfl rfl rfl) (.gw 88 (Y.move rfl rfl) ?_))
 refine .gw 88 (Y.neq rfl rfl) ?_
 refine .pk ?_
 refine .mv ?_
 refine AOps.splitD (d := 94) rfl (fun c94 => ?_) (fun c94 => ?_)
 refine .gz 94 (.gz 94 (.gz 94 ?_))
 refine .gz 94 (.gz 98 (.gz 98 ?_))
 refine .gz 94 ?_
 refine .pk ?_
 refine AOps.nil (AWp.condT rfl (AWp.sr ?_))
 refine .an ?_
 refine AOps.nil (AWp.ret ?_)
 exact .rb rfl (df (by (simp only [Shaped, c77, Int.reduceEq, Bool.not_eq_true, false_and, true_and, and_true, and_false, or_false, false_or, ne_eq]) <;> (first | omega | grind)))
 refine .gw 94 (Y.fieldAddr fl39_4 rfl rfl) (.gw 94 (Y.load sh37 rfl rfl rfl rfl) (.gw 94 (Y.neq rfl rfl) ?_))
 refine .gw 94 (Y.move rfl rfl) ?_
 refine AOps.splitD (d := 98) rfl (fun c98 => ?_) (fun c98 => ?_)
 refine .gw 98 (Y.move rfl rfl) (.gw 98 (Y.not rfl) (.gw 94 (Y.pick rfl rfl rfl) ?_))
 refine .pk ?_
 refine AOps.nil (AWp.condT rfl (AWp.sr ?_))
 refine .an ?_
 refine AOps.nil (AWp.ret ?_)
 exact .rb rfl (df (by (simp only [Shaped, c77, Int.reduceEq, Bool.not_eq_true, false_and, true_and, and_true, and_false, or_false, false_or, ne_eq]) <;> (first | omega | grind)))
 refine .gz 98 (.gz 98 (.gw 94 (Y.pick rfl rfl rfl) ?_))
 refine .pk ?_
 refine AOps.nil (AWp.condF rfl (AWp.skip ?_))
 refine AWp.seq (AWp.sr ?_)
 refine .mv ?_
 refine .vl (Y.lss rfl rfl) (AOps.nil ?_)
 refine AWp.condD rfl (fun c104 => ?_) (fun c104 => ?_)
 refine AWp.sr ?_
 refine .fa fl39_5 ?_
 refine .ld sh3 ?_
 refine .vl (Y.eql rfl rfl) ?_
 refine .an ?_
 refine AOps.nil (AWp.ret ?_)
 exact .rb rfl (dd (by (simp only [Shaped, c77, Int.reduceEq, Bool.not_eq_true, false_and, true_and, and_true, and_false, or_false, false_or, ne_eq]) <;> (first | omega | grind)))
 refine AWp.skip (AWp.sr ?_)
 refine .fa fl39_5 ?_
 refine .ld sh3 ?_
 refine .vl (Y.geq rfl rfl) ?_
 refine .mv ?_
 refine AOps.splitD (d := 111) rfl (fun c111 => ?_) (fun c111 => ?_)
 refine .gw 111 (Y.fieldAddr fl39_5 rfl rfl) (.gw 111 (Y.load sh3 rfl rfl rfl rfl) (.gw 111 (Y.move rfl rfl) ?_))
 refine .gw 111 (Y.lss rfl rfl) ?_
 refine .pk ?_
 refine .mv ?_
 refine AOps.splitD (d := 117) rfl (fun c117 => ?_) (fun c117 => ?_)
 refine .gw 117 (Y.fieldAddr fl39_0 rfl rfl) (.gw 117 (Y.load sh3 rfl rfl rfl rfl) (.gw 117 (Y.neq rfl rfl) ?_))
 refine .gw 117 (Y.move rfl rfl) ?_
 refine AOps.splitD (d := 121) rfl (fun c121 => ?_) (fun c121 => ?_)
 refine .gz 121 (.gz 121 (.gz 121 ?_))
 refine .gz 121 (.gz 121 (.gz 121 ?_))
 refine .gz 121 (.gz 121 (.gw 117 (Y.pick rfl rfl rfl) ?_))
 refine .pk ?_
 refine .an ?_
 refine AOps.nil (AWp.ret ?_)
 exact .rb rfl (dt (by (simp only [Shaped, c77, Int.reduceEq, Bool.not_eq_true, false_and, true_and, and_true, and_false, or_false, false_or, ne_eq]) <;> (first | omega | grind)))
 refine .gw 121 (Y.fieldAddr fl27_5 rfl rfl) (.gw 121 (Y.load sh25 rfl rfl rfl rfl) (.gw 121 (Y.fieldAddr fl39_5 rfl rfl) ?_))
 refine .gw 121 (Y.load sh3 rfl rfl rfl rfl) ?_
 refine .gw 121 (Y.indexF (m := (c.mem).toNat) sl25 rfl rfl (by omega) (row_getD (d := default) (by omega))) ?_
 refine .gw 121 (Y.fieldAddr fl83_2 rfl rfl) (.gw 121 (Y.load sh4 rfl rfl rfl rfl) (.gw 121 (Y.not rfl) ?_))
 refine .gw 117 (Y.pick rfl rfl rfl) ?_
 refine .pk ?_
 refine .an ?_
 refine AOps.nil (AWp.ret ?_)
 exact .rb rfl (db (by (simp only [Shaped, c77, Int.reduceEq, Bool.not_eq_true, false_and, true_and, and_true, and_false, or_false, false_or, ne_eq]) <;> (first | omega | grind)))
 refine .gz 117 (.gz 117 (.gz 117 ?_))
 refine .gz 117 (.gz 121 (.gz 121 ?_))
 refine .gz 121 (.gz 121 (.gz 121 ?_))
 refine .gz 121 (.gz 121 (.gz 121 ?_))
 refine .gz 117 ?_
 refine .pk ?_
 refine .an ?_
 refine AOps.nil (AWp.ret ?_)
 exact .rb rfl (df (by (simp only [Shaped, c77, Int.reduceEq, Bool.not_eq_true, false_and, true_and, and_true, and_false, or_false, false_or, ne_eq]) <;> (first | omega | grind)))
 refine .gz 111 (.gz 111 (.gz 111 ?_))
 refine .gz 111 ?_
 refine .pk ?_
 refine .mv ?_
 refine .gz 117 (.gz 117 (.gz 117 ?_))
 refine .gz 117 (.gz 121 (.gz 121 ?_))
 refine .gz 121 (.gz 121 (.gz 121 ?_))
 refine .gz 121 (.gz 121 (.gz 121 ?_))
 refine .gz 117 ?_
 refine .pk ?_
 refine .an ?_
 refine AOps.nil (AWp.ret ?_)
 exact .rb rfl (df (by (simp only [Shaped, c77, Int.reduceEq, Bool.not_eq_true, false_and, true_and, and_true, and_false, or_false, false_or, ne_eq]) <;> (first | omega | grind)))
 refine AWp.sr ?_
 refine .an ?_
 refine AOps.nil (AWp.ret ?_)
 exact .rb rfl (df (by (simp only [Shaped, c11, c13, c22, c34, c36, c58, c63, c68, c77, c77, Int.reduceEq, Bool.not_eq_true, false_and, true_and, and_true, and_false, or_false, false_or, ne_eq]) <;> (first | omega | grind)))
end Go.Proofs.Ytligpghohcfpnaa
/- Walks through the searches of slices. -/
namespace Go.Proofs.Ytligpghohcfpnaa
open Go Go.AW Go.Proofs
theorem indexFuncInt_spec {l : List Int} {p : Int → Bool} {g : Nat} {row : List X} (hl : l.length ≤ 17592186043904) (hok : callOK Try.prog g = true) (hg : ∀ z ∈ l, ACalls Try.prog g [vi z, .fp row 0] [] [] (fun r o => r = .v (.bool (p z)) ∧ o = [])) : ACalls Try.prog 123 [.fz 1 (l.map irow), .clo (.func g) [] [.fp row 0]] [] [] (fun r o => r = (vi (idxF p l)) ∧ o = []) := by
 refine ACalls.of Try.func123 rfl rfl rfl (n := 19) (by decide) (Nat.le_of_ble_eq_true rfl) (AWp.sr ?_)
 refine .an ?_
 refine AOps.nil (AWp.seq (AWp.sr ?_))
 refine .mv ?_
 refine .vl (Y.len (n := l.length) sl22 rfl (congrArg some (List.length_map ..))) ?_
 refine .mv ?_
 refine AOps.nil (AWp.block ?_)
 refine AWp.loop1 (fun (n8_2 : Nat) => ⟨[(0, .fz 1 (l.map irow)), (1, .clo (.func g) [] [.fp row 0]), (7, vi ((l.length : Nat) : Int)), (8, vi (n8_2 : Int))], []⟩) (fun (n8_2 : Nat) => ((n8_2 : Int) ≤ ((l.length : Nat) : Int)) ∧ (∀ j, j < n8_2 → p (l.getD j 0) = false)) (fun (n8_2 : Nat) => (((l.length : Nat) : Int) - (n8_2 : Int)).toNat) 0 (⟨by omega, fun j hj => by omega⟩) (Le.mk (.c (.c (.c (.cons (look_int rfl (by first | rfl | omega)) (.nil))))) (.nil)) (fun n8_2 hI2 => ?_)
 obtain ⟨hb2, h0⟩ := hI2
 refine AWp.sr (.vl (Y.lss rfl rfl) (AOps.nil ?_))
 refine AWp.seq ?_
 refine AWp.condD rfl (fun c9 => ?_) (fun c9 => ?_)
 refine AWp.skip (AWp.seq (AWp.block ?_))
 refine AWp.sr ?_
 refine .mv ?_
 refine .an ?_
 refine AOps.nil (AWp.sr ?_)
 refine .mv ?_
 refine .mv ?_
 refine .mv ?_
 refine .vl (Y.indexF (m := n8_2) sl22 rfl rfl (by first | rfl | omega) (row_getD (d := 0) (by omega))) ?_
 refine .ld sh3 ?_
 refine AOps.callCP rfl hok (hg _ (getD_mem' (by omega))) rfl (.keep rfl rfl (.keep rfl rfl .nil)) (by decide) rfl (AOps.nil ?_)
 refine AWp.cond rfl (fun c16 => ?_) (fun c16 => ?_)
 refine AWp.sr ?_
 refine .mv ?_
 refine .an ?_
 refine AOps.nil (AWp.ret ?_)
 exact .ri rfl (idxF_found h0 (by omega) c16)
 refine AWp.skip (AWp.region ?_)
 refine .vl (Y.addI rfl rfl (by omega)) ?_
 refine .mv ?_
 refine AOps.nil ?_
 exact ⟨n8_2 + 1, ⟨by omega, below_false h0 c16⟩, by omega, Le.mk (.c (.c (.c (.cons (look_int rfl (by first | rfl | omega)) (.nil))))) (.nil)⟩
 refine AWp.exit (AWp.sr ?_)
 refine .an ?_
 refine AOps.nil (AWp.ret ?_)
 exact .ri rfl (idxF_none (fun j hj => h0 j (by omega)))
theorem containsFuncInt_spec {l : List Int} {p : Int → Bool} {g : Nat} {row : List X} (hl : l.length ≤ 17592186043904) (hok : callOK Try.prog g = true) (hg : ∀ z ∈ l, ACalls Try.prog g [vi z, .fp row 0] [] [] (fun r o => r = .v (.bool (p z)) ∧ o = [])) : ACalls Try.prog 95 [.fz 1 (l.map irow), .clo (.func g) [] [.fp row 0]] [] [] (fun r o => r = .v (.bool (l.any p)) ∧ o = []) := by
 refine ACalls.of Try.func95 rfl rfl rfl (n := 9) (by decide) (Nat.le_of_ble_eq_true rfl) (AWp.sr ?_)
 refine .an ?_
 refine AOps.nil (AWp.sr ?_)
 refine .mv ?_
 refine .mv ?_
 refine AOps.callP ok123 (indexFuncInt_spec (l := l) hl hok hg) rfl (.keep rfl rfl (.keep rfl rfl .nil)) (by decide) rfl (.vl (Y.geq rfl rfl) ?_)
 refine .an ?_
 refine AOps.nil (AWp.ret ?_)
 exact .rb rfl (idxF_any)
theorem indexFuncCell_spec {l : List Cell} {p : Cell → Bool} {g : Nat} {row : List X} (hl : l.length ≤ 17592186043904) (hok : callOK Try.prog g = true) (hg : ∀ z ∈ l, ACalls Try.prog g [.agg (Cell.row z), .fp row 0] [] [] (fun r o => r = .v (.bool (p z)) ∧ o = [])) : ACalls Try.prog 126 [.fz 6 (l.map Cell.row), .clo (.func g) [] [.fp row 0]] [] [] (fun r o => r = (vi (idxF p l)) ∧ o = []) := by
 refine ACalls.of Try.func126 rfl rfl rfl (n := 19) (by decide) (Nat.le_of_ble_eq_true rfl) (AWp.sr ?_)
 refine .an ?_
 refine AOps.nil (AWp.seq (AWp.sr ?_))
 refine .mv ?_
 refine .vl (Y.len (n := l.length) sl23 rfl (congrArg some (List.length_map ..))) ?_
 refine .mv ?_
 refine AOps.nil (AWp.block ?_)
 refine AWp.loop1 (fun (n8_2 : Nat) => ⟨[(0, .fz 6 (l.map Cell.row)), (1, .clo (.func g) [] [.fp row 0]), (7, vi ((l.length : Nat) : Int)), (8, vi (n8_2 : Int))], []⟩) (fun (n8_2 : Nat) => ((n8_2 : Int) ≤ ((l.length : Nat) : Int)) ∧ (∀ j, j < n8_2 → p (l.getD j default) = false)) (fun (n8_2 : Nat) => (((l.length : Nat) : Int) - (n8_2 : Int)).toNat) 0 (⟨by omega, fun j hj => by omega⟩) (Le.mk (.c (.c (.c (.cons (look_int rfl (by first | rfl | omega)) (.nil))))) (.nil)) (fun n8_2 hI2 => ?_)
 obtain ⟨hb2, h0⟩ := hI2
 refine AWp.sr (.vl (Y.lss rfl rfl) (AOps.nil ?_))
 refine AWp.seq ?_
 refine AWp.condD rfl (fun c9 => ?_) (fun c9 => ?_)
 refine AWp.skip (AWp.seq (AWp.block ?_))
 refine AWp.sr ?_
 refine .mv ?_
 refine .an ?_
 refine AOps.nil (AWp.sr ?_)
 refine .mv ?_
 refine .mv ?_
 refine .mv ?_
 refine .vl (Y.indexF (m := n8_2) sl23 rfl rfl (by first | rfl | omega) (row_getD (d := default) (by omega))) ?_
 refine .vl (Y.loadA sh39 rfl rfl (Nat.le_of_ble_eq_true rfl) rfl rfl) (AOps.callCP rfl hok (hg _ (getD_mem' (by omega))) rfl (.keep rfl rfl (.keep rfl rfl .nil)) (by decide) rfl (AOps.nil ?_))
 refine AWp.cond rfl (fun c16 => ?_) (fun c16 => ?_)
 refine AWp.sr ?_
 refine .mv ?_
 refine .an ?_
 refine AOps.nil (AWp.ret ?_)
 exact .ri rfl (idxF_found h0 (by omega) c16)
 refine AWp.skip (AWp.region ?_)
 refine .vl (Y.addI rfl rfl (by omega)) ?_
 refine .mv ?_
 refine AOps.nil ?_
 exact ⟨n8_2 + 1, ⟨by omega, below_false h0 c16⟩, by omega, Le.mk (.c (.c (.c (.cons (look_int rfl (by first | rfl | omega)) (.nil))))) (.nil)⟩
 refine AWp.exit (AWp.sr ?_)
 refine .an ?_
 refine AOps.nil (AWp.ret ?_)
 exact .ri rfl (idxF_none (fun j hj => h0 j (by omega)))
theorem containsFuncCell_spec {l : List Cell} {p : Cell → Bool} {g : Nat} {row : List X} (hl : l.length ≤ 17592186043904) (hok : callOK Try.prog g = true) (hg : ∀ z ∈ l, ACalls Try.prog g [.agg (Cell.row z), .fp row 0] [] [] (fun r o => r = .v (.bool (p z)) ∧ o = [])) : ACalls Try.prog 100 [.fz 6 (l.map Cell.row), .clo (.func g) [] [.fp row 0]] [] [] (fun r o => r = .v (.bool (l.any p)) ∧ o = []) := by
 refine ACalls.of Try.func100 rfl rfl rfl (n := 9) (by decide) (Nat.le_of_ble_eq_true rfl) (AWp.sr ?_)
 refine .an ?_
 refine AOps.nil (AWp.sr ?_)
 refine .mv ?_
 refine .mv ?_
 refine AOps.callP ok126 (indexFuncCell_spec (l := l) hl hok hg) rfl (.keep rfl rfl (.keep rfl rfl .nil)) (by decide) rfl (.vl (Y.geq rfl rfl) ?_)
 refine .an ?_
 refine AOps.nil (AWp.ret ?_)
 exact .rb rfl (idxF_any)
theorem indexBool_spec {l : List Bool} {b : Bool} (hl : l.length ≤ 140737488351232) : ACalls Try.prog 125 [.fz 1 (l.map brow), .v (.bool b)] [] [] (fun r o => r = (vi (idxF (fun x => b == x) l)) ∧ o = []) := by
 refine ACalls.of Try.func125 rfl rfl rfl (n := 19) (by decide) (Nat.le_of_ble_eq_true rfl) (AWp.sr ?_)
 refine .an ?_
 refine AOps.nil (AWp.seq (AWp.sr ?_))
 refine .mv ?_
 refine .vl (Y.len (n := l.length) sl63 rfl (congrArg some (List.length_map ..))) ?_
 refine .mv ?_
 refine AOps.nil (AWp.block ?_)
 refine AWp.loop1 (fun (n8_2 : Nat) => ⟨[(0, .fz 1 (l.map brow)), (1, .v (.bool b)), (7, vi ((l.length : Nat) : Int)), (8, vi (n8_2 : Int))], []⟩) (fun (n8_2 : Nat) => ((n8_2 : Int) ≤ ((l.length : Nat) : Int)) ∧ (∀ j, j < n8_2 → (fun x => b == x) (l.getD j false) = false)) (fun (n8_2 : Nat) => (((l.length : Nat) : Int) - (n8_2 : Int)).toNat) 0 (⟨by omega, fun j hj => by omega⟩) (Le.mk (.c (.c (.c (.cons (look_int rfl (by first | rfl | omega)) (.nil))))) (.nil)) (fun n8_2 hI2 => ?_)
 obtain ⟨hb2, h0⟩ := hI2
 refine AWp.sr (.vl (Y.lss rfl rfl) (AOps.nil ?_))
 refine AWp.seq ?_
 refine AWp.condD rfl (fun c9 => ?_) (fun c9 => ?_)
 refine AWp.skip (AWp.seq (AWp.block ?_))
 refine AWp.sr ?_
 refine .mv ?_
 refine .an ?_
 refine AOps.nil (AWp.sr ?_)
 refine .mv ?_
 refine .mv ?_
 refine .mv ?_
 refine .vl (Y.indexF (m := n8_2) sl63 rfl rfl (by first | rfl | omega) (row_getD (d := false) (by omega))) ?_
 refine .ld sh4 ?_
 refine .vl (Y.eqlB un4 rfl rfl) (AOps.nil ?_)
 refine AWp.cond rfl (fun c16 => ?_) (fun c16 => ?_)
 refine AWp.sr ?_
 refine .mv ?_
 refine .an ?_
 refine AOps.nil (AWp.ret ?_)
 exact .ri rfl (idxF_found (d := false) h0 (by omega) c16)
 refine AWp.skip (AWp.region ?_)
 refine .vl (Y.addI rfl rfl (by omega)) ?_
 refine .mv ?_
 refine AOps.nil ?_
 exact ⟨n8_2 + 1, ⟨by omega, below_false h0 c16⟩, by omega, Le.mk (.c (.c (.c (.cons (look_int rfl (by first | rfl | omega)) (.nil))))) (.nil)⟩
 refine AWp.exit (AWp.sr ?_)
 refine .an ?_
 refine AOps.nil (AWp.ret ?_)
 exact .ri rfl (idxF_none (d := false) (fun j hj => h0 j (by omega)))
theorem containsBool_spec {l : List Bool} {b : Bool} (hl : l.length ≤ 140737488351232) : ACalls Try.prog 99 [.fz 1 (l.map brow), .v (.bool b)] [] [] (fun r o => r = .v (.bool (l.any (fun x => b == x))) ∧ o = []) := by
 refine ACalls.of Try.func99 rfl rfl rfl (n := 9) (by decide) (Nat.le_of_ble_eq_true rfl) (AWp.sr ?_)
 refine .an ?_
 refine AOps.nil (AWp.sr ?_)
 refine .mv ?_
 refine .mv ?_
 refine AOps.callP ok125 (indexBool_spec (l := l) (b := b) ((by omega))) rfl (.keep rfl rfl (.keep rfl rfl .nil)) (by decide) rfl ?_
 refine .vl (Y.geq rfl rfl) ?_
 refine .an ?_
 refine AOps.nil (AWp.ret ?_)
 exact .rb rfl (idxF_any)
end Go.Proofs.Ytligpghohcfpnaa
/- Walks through slices.Concat. -/
namespace Go.Proofs.Ytligpghohcfpnaa
open Go Go.AW Go.Proofs
theorem grow_spec {n : Nat} (hn : n ≤ 35184372088832) : ACalls Try.prog 108 [.v (.slice none 0 0), vi (n : Int)] [] [] (fun r o => r = .uni 1 (([] : List Int).map irow) ∧ o = []) := by
 refine ACalls.of Try.func108 rfl rfl rfl (n := 27) (by decide) (Nat.le_of_ble_eq_true rfl) (AWp.sr ?_)
 refine .an ?_
 refine AOps.nil (AWp.seq (AWp.sr ?_))
 refine .mv ?_
 refine .vl (Y.lss rfl rfl) (AOps.nil ?_)
 refine AWp.condD rfl (fun c6 => ?_) (fun c6 => ?_)
 exfalso; omega
 refine AWp.skip (AWp.seq (AWp.sr ?_))
 refine .mv ?_
 refine .mv ?_
 refine .vl (Y.capNil sl22 rfl) ?_
 refine .mv ?_
 refine .vl (Y.len (n := 0) sl22 rfl rfl) ?_
 refine .vl (Y.subI rfl rfl (by first | omega | simp [-List.getD_eq_getElem?_getD] <;> omega)) ?_
 refine .vl (Y.subI rfl rfl (by first | omega | simp [-List.getD_eq_getElem?_getD] <;> omega)) ?_
 refine .an ?_
 refine AOps.nil (AWp.sr ?_)
 refine .mv ?_
 refine .vl (Y.gtr rfl rfl) (AOps.nil ?_)
 refine AWp.condD rfl (fun c16 => ?_) (fun c16 => ?_)
 refine AWp.region ?_
 refine .mv ?_
 refine .mv ?_
 refine .vl (Y.capNil sl22 rfl) (.vl (Y.sliceNil sl22 rfl (.none _) (.some rfl)) ?_)
 refine .mv ?_
 refine AOps.appendMake (n := (((n : Int) - (0 - 0)).toNat)) sl22 ze3 rfl rfl ii3 rfl (by first | rfl | (rw [show ((n : Int) - (0 - 0) : Int) = ((((n : Int) - (0 - 0)).toNat : Nat) : Int) by omega]; rfl)) (by omega) (by decide) (by omega) (by omega) (by decide) ?_
 refine .mv ?_
 refine .vl (Y.len (n := 0) sl22 rfl rfl) (AOps.sh (Sh.adoptE (d := 22) (n := (List.replicate (((n : Int) - (0 - 0)).toNat) 0).length) 122 ((List.replicate (((n : Int) - (0 - 0)).toNat) 0).map irow) rfl (by first | rfl | exact rep_map rfl) (len_map rfl) (by decide)) ?_)
 refine .vl (Y.sliceO (l := 0) (h := 0) sl22 rfl (.none _) (.some rfl) (by omega) (by omega)) ?_
 refine .an ?_
 refine AOps.nil (AWp.sr ?_)
 refine .mv ?_
 refine .an ?_
 refine AOps.sh (Sh.trimE (d := 4) (o := 122) (([] : List Int).map irow) rfl rfl (by simp) (by simp) (by decide)) ?_
 refine AOps.sh (Sh.detach (d := 4) (o := 122) rfl rfl (len_map (by first | omega | simp [-List.getD_eq_getElem?_getD] <;> omega)) (by decide)) ?_
 refine AOps.nil (AWp.ret ?_)
 exact ⟨_, _, rfl, rfl, (cg1 (fun (z0 : List Int) => X.uni 1 (z0.map irow)) (rfl : ([] : List Int) = ([] : List Int)) : X.uni 1 (([] : List Int).map irow) = X.uni 1 (([] : List Int).map irow)), rfl⟩
 refine AWp.skip (AWp.sr ?_)
 refine .mv ?_
 refine .an ?_
 refine AOps.nil (AWp.sh (Sh.nilU (d := 4) 1 rfl) (AWp.ret ?_))
 exact ⟨_, _, rfl, rfl, (cg1 (fun (z0 : List Int) => X.uni 1 (z0.map irow)) (rfl : ([] : List Int) = ([] : List Int)) : X.uni 1 (([] : List Int).map irow) = X.uni 1 (([] : List Int).map irow)), rfl⟩
theorem concat_spec {ls : List (List Int)} (h1 : ls.length ≤ 1000) (hn : ls.flatten.length ≤ 17592186044416) : ACalls Try.prog 72 [.fz 1 (ls.map lrow)] [] [] (fun r o => r = .uni 1 (ls.flatten.map irow) ∧ o = []) := by
 refine ACalls.of Try.func72 rfl rfl rfl (n := 36) (by decide) (Nat.le_of_ble_eq_true rfl) (AWp.sr ?_)
 refine .an ?_
 refine AOps.nil (AWp.sr ?_)
 refine .an ?_
 refine AOps.nil (AWp.seq (AWp.sr ?_))
 refine .mv ?_
 refine .vl (Y.len (n := ls.length) sl92 rfl (congrArg some (List.length_map ..))) ?_
 refine .mv ?_
 refine AOps.nil (AWp.block ?_)
 refine AWp.loop2 (fun (size3_3 : Nat) (n11_3 : Nat) => ⟨[(0, .fz 1 (ls.map lrow)), (3, vi (size3_3 : Int)), (9, .fz 1 (ls.map lrow)), (10, vi ((ls.length : Nat) : Int)), (11, vi (n11_3 : Int))], []⟩) (fun (size3_3 : Nat) (n11_3 : Nat) => ((n11_3 : Int) ≤ ((ls.length : Nat) : Int)) ∧ (size3_3 = (ls.take n11_3).flatten.length)) (fun (size3_3 : Nat) (n11_3 : Nat) => (((ls.length : Nat) : Int) - (n11_3 : Int)).toNat) 0 0 (⟨by omega, rfl⟩) (Le.mk (.c (.cons (look_int rfl (by first | rfl | omega)) (.c (.c (.cons (look_int rfl (by first | rfl | omega)) (.nil)))))) (.nil)) (fun size3_3 n11_3 hI3 => ?_)
 obtain ⟨hb3, hs⟩ := hI3
 refine AWp.sr (.vl (Y.lss rfl rfl) (AOps.nil ?_))
 refine AWp.seq ?_
 refine AWp.condD rfl (fun c12 => ?_) (fun c12 => ?_)
 refine AWp.skip (AWp.seq (AWp.block ?_))
 refine AWp.sr ?_
 have hf := congrArg List.length (flat_succ (ls := ls) (i := n11_3) (by omega))
 rw [List.length_append] at hf
 have hf2 := flat_le ls (n11_3 + 1)
 have hf3 := flat_le ls n11_3
 refine .vl (Y.indexF (m := n11_3) sl92 rfl rfl (by first | rfl | omega) (row_getD (d := []) (by omega))) ?_
 refine .ld sh22 ?_
 refine .an ?_
 refine AOps.nil (AWp.sr ?_)
 refine .mv ?_
 refine .mv ?_
 refine .vl (Y.len (n := (ls.getD n11_3 []).length) sl22 rfl (congrArg some (List.length_map ..))) ?_
 refine .vl (Y.addI rfl rfl (by omega)) ?_
 refine .an ?_
 refine AOps.nil (AWp.sr ?_)
 refine .mv ?_
 refine .vl (Y.lss rfl rfl) (AOps.nil ?_)
 refine AWp.condD rfl (fun c20 => ?_) (fun c20 => ?_)
 exfalso; omega
 refine AWp.skip (AWp.region ?_)
 refine .vl (Y.addI rfl rfl (by omega)) ?_
 refine .mv ?_
 refine AOps.nil ?_
 exact ⟨size3_3 + ((ls.getD n11_3 []).length), n11_3 + 1, ⟨by omega, by omega⟩, by omega, Le.mk (.c (.cons (look_int rfl (by first | rfl | omega)) (.c (.c (.cons (look_int rfl (by first | rfl | omega)) (.nil)))))) (.nil)⟩
 refine AWp.exit (AWp.sr ?_)
 have hf3 := flat_le ls n11_3
 refine .mv ?_
 refine AOps.callP ok108 (grow_spec (n := size3_3) ((by omega))) rfl (.keep rfl rfl (.keep rfl rfl .nil)) (by decide) rfl ?_
 refine AOps.assignX rfl (by decide) (AOps.sh (Sh.adoptE (d := 6) (n := ([] : List Int).length) 106 (([] : List Int).map irow) rfl (by first | rfl | exact rep_map rfl) (len_map rfl) (by decide)) (AOps.nil ?_))
 refine AWp.seq (AWp.sr ?_)
 refine .mv ?_
 refine .vl (Y.len (n := ls.length) sl92 rfl (congrArg some (List.length_map ..))) ?_
 refine .mv ?_
 refine AOps.nil (AWp.block ?_)
 refine AWp.loop2 (fun (n27_11 : Nat) (newslice6_11 : List Int) => ⟨[(6, .slc 106 1 0 newslice6_11.length), (25, .fz 1 (ls.map lrow)), (26, vi ((ls.length : Nat) : Int)), (27, vi (n27_11 : Int))], [(106, .rows 1 (newslice6_11.map irow))]⟩) (fun (n27_11 : Nat) (newslice6_11 : List Int) => ((n27_11 : Int) ≤ ((ls.length : Nat) : Int)) ∧ (newslice6_11 = (ls.take n27_11).flatten)) (fun (n27_11 : Nat) (newslice6_11 : List Int) => (((ls.length : Nat) : Int) - (n27_11 : Int)).toNat) 0 ([] : List Int) (⟨by omega, rfl⟩) (Le.mk (.cons (look_slc rfl (by omega)) (.c (.c (.cons (look_int rfl (by first | rfl | omega)) (.nil))))) (.c (.nil))) (fun n27_11 newslice6_11 hI11 => ?_)
 obtain ⟨hb11, ht⟩ := hI11
 refine AWp.sr (.vl (Y.lss rfl rfl) (AOps.nil ?_))
 refine AWp.seq ?_
 refine AWp.condD rfl (fun c28 => ?_) (fun c28 => ?_)
 refine AWp.skip (AWp.seq (AWp.block ?_))
 refine AWp.sr ?_
 have hf := flat_succ (ls := ls) (i := n27_11) (by omega)
 have hf1 := congrArg List.length hf
 rw [List.length_append] at hf1
 have hf2 := flat_le ls (n27_11 + 1)
 have hf3 := flat_le ls n27_11
 have hf4 := congrArg List.length ht
 refine .vl (Y.indexF (m := n27_11) sl92 rfl rfl (by first | rfl | omega) (row_getD (d := []) (by omega))) ?_
 refine .ld sh22 ?_
 refine .an ?_
 refine AOps.nil (AWp.region ?_)
 refine .mv ?_
 refine .mv ?_
 refine AOps.appendFE ((newslice6_11 ++ (ls.getD n27_11 [])).map irow) (newslice6_11 ++ (ls.getD n27_11 [])).length sl22 ze3 rfl rfl rfl rfl (app_le (by first | omega | simp [-List.getD_eq_getElem?_getD] <;> omega)) (app_map (by first | omega | simp [-List.getD_eq_getElem?_getD] <;> omega)) (app_n (by first | omega | simp [-List.getD_eq_getElem?_getD] <;> omega)) (by first | omega | simp [-List.getD_eq_getElem?_getD] <;> omega) (by first | omega | simp [-List.getD_eq_getElem?_getD] <;> omega) (by decide) (by decide) ?_
 refine .an ?_
 refine AOps.nil (AWp.region ?_)
 refine .vl (Y.addI rfl rfl (by omega)) ?_
 refine .mv ?_
 refine AOps.nil ?_
 exact ⟨n27_11 + 1, newslice6_11 ++ (ls.getD n27_11 []), ⟨by omega, by rw [ht]; exact hf.symm⟩, by omega, Le.mk (.cons (look_slc rfl (by omega)) (.c (.c (.cons (look_int rfl (by first | rfl | omega)) (.nil))))) (.c (.nil))⟩
 refine AWp.exit (AWp.sr ?_)
 refine .mv ?_
 refine .an ?_
 refine AOps.sh (Sh.detach (d := 2) (o := 106) rfl rfl (len_map (by omega)) (by decide)) ?_
 refine AOps.nil (AWp.ret ?_)
 exact ⟨_, _, rfl, rfl, (cg1 (fun (z0 : List Int) => X.uni 1 (z0.map irow)) (by rw [ht, List.take_of_length_le (by omega)] : newslice6_11 = ls.flatten) : X.uni 1 (newslice6_11.map irow) = X.uni 1 (ls.flatten.map irow)), rfl⟩
end Go.Proofs.Ytligpghohcfpnaa
/- The walk through formed. -/
namespace Go.Proofs.Ytligpghohcfpnaa
open Go Go.AW Go.Proofs
theorem formed1_spec {i : Int} {n : Netlist} : ACalls Try.prog 94 [vi i, .fp (Netlist.row n) 0] [] [] (fun r o => r = .v (.bool (decide (In i n.widths.length))) ∧ o = []) := by
 refine ACalls.of Try.func94 rfl rfl rfl (n := 13) (by decide) (Nat.le_of_ble_eq_true rfl) (AWp.sr ?_)
 refine .an ?_
 refine AOps.nil (AWp.sr ?_)
 refine .mv ?_
 refine .vl (Y.geq rfl rfl) ?_
 refine .mv ?_
 refine AOps.splitD (d := 6) rfl (fun c6 => ?_) (fun c6 => ?_)
 refine .gw 6 (Y.move rfl rfl) (.gw 6 (Y.fieldAddr fl27_1 rfl rfl) (.gw 6 (Y.load sh22 rfl rfl rfl rfl) ?_))
 refine .gw 6 (Y.len (n := n.widths.length) sl22 rfl (congrArg some (List.length_map ..))) (.gw 6 (Y.lss rfl rfl) ?_)
 refine .pk ?_
 refine .an ?_
 refine AOps.nil (AWp.ret ?_)
 exact .rb rfl (dd (by (simp only [In]) <;> (first | omega | grind)))
 refine .gz 6 (.gz 6 (.gz 6 ?_))
 refine .gz 6 (.gz 6 ?_)
 refine .pk ?_
 refine .an ?_
 refine AOps.nil (AWp.ret ?_)
 exact .rb rfl (df (by (simp only [In]) <;> (first | omega | grind)))
theorem formed2_spec {i : Int} {n : Netlist} : ACalls Try.prog 96 [vi i, .fp ([.clo (.func 94) [] [.fp (Netlist.row n) 0]]) 0] [] [] (fun r o => r = .v (.bool (!decide (In i n.widths.length))) ∧ o = []) := by
 refine ACalls.of Try.func96 rfl rfl rfl (n := 8) (by decide) (Nat.le_of_ble_eq_true rfl) (AWp.sr ?_)
 refine .an ?_
 refine AOps.nil (AWp.sr ?_)
 refine .ld sh45 ?_
 refine .mv ?_
 refine AOps.callCP rfl ok94 (formed1_spec (i := i)) rfl (.keep rfl rfl (.keep rfl rfl .nil)) (by decide) rfl (.vl (Y.not rfl) ?_)
 refine .an ?_
 refine AOps.nil (AWp.ret ?_)
 exact .rb rfl (rfl)
theorem formed3_spec {i : Int} {n : Netlist} : ACalls Try.prog 97 [vi i, .fp ([.clo (.func 94) [] [.fp (Netlist.row n) 0]]) 0] [] [] (fun r o => r = .v (.bool (!decide (In i n.widths.length))) ∧ o = []) := by
 refine ACalls.of Try.func97 rfl rfl rfl (n := 8) (by decide) (Nat.le_of_ble_eq_true rfl) (AWp.sr ?_)
 refine .an ?_
 refine AOps.nil (AWp.sr ?_)
 refine .ld sh45 ?_
 refine .mv ?_
 refine AOps.callCP rfl ok94 (formed1_spec (i := i)) rfl (.keep rfl rfl (.keep rfl rfl .nil)) (by decide) rfl (.vl (Y.not rfl) ?_)
 refine .an ?_
 refine AOps.nil (AWp.ret ?_)
 exact .rb rfl (rfl)
theorem formed_spec {n : Netlist} (hs : n.Small) (hwi : n.widths.length + n.ins.length ≤ 17592186044416) : ACalls Try.prog 57 [.agg (Netlist.row n)] [] [] (fun r o => r = .v (.bool (decide (Formed n))) ∧ o = []) := by
 refine ACalls.of Try.func57 rfl rfl rfl (n := 234) (by decide) (Nat.le_of_ble_eq_true rfl) ?_
 have hs1 := hs.name; have hs2 := hs.widths; have hs3 := hs.cells; have hs4 := hs.ins; have hs5 := hs.mems; have hs6 := hs.streams; have hs7 := hs.active; have hs8 := hs.data; have hs9 := hs.rets
 have hcat : ([n.widths, n.ins] : List (List Int)).flatten = n.widths ++ n.ins := by simp
 have hcl : (([n.widths, n.ins] : List (List Int)).flatten).length = n.widths.length + n.ins.length := by simp
 refine AWp.sr (AOps.box 101 rfl rfl rfl rfl rfl (by decide) ?_)
 refine .an ?_
 refine AOps.nil (AWp.seq (AWp.sr ?_))
 refine .fa fl27_0 ?_
 refine .ld sh9 ?_
 refine AOps.callP ok92 (named_spec (s := n.name) (by first | assumption | omega)) rfl (.keep rfl rfl .nil) (by decide) rfl (.vl (Y.not rfl) ?_)
 refine .mv ?_
 refine AOps.split (d := 17) rfl (fun c17 => ?_) (fun c17 => ?_)
 replace c17 : ¬ (Named n.name) := by simpa using c17
 refine .gz 17 (.gz 17 (.gz 17 ?_))
 refine .gz 17 ?_
 refine .pk ?_
 refine .mv ?_
 refine .gz 23 (.gz 23 (.gz 23 ?_))
 refine .gz 23 ?_
 refine .pk ?_
 refine .mv ?_
 refine .gz 29 (.gz 29 (.gz 29 ?_))
 refine .gz 29 ?_
 refine .pk ?_
 refine .mv ?_
 refine .gz 35 (.gz 35 (.gz 35 ?_))
 refine .gz 35 ?_
 refine .pk ?_
 refine .mv ?_
 refine .gz 41 (.gz 41 (.gz 41 ?_))
 refine .gz 41 (.gz 41 (.gz 41 ?_))
 refine .gz 41 ?_
 refine .pk ?_
 refine .mv ?_
 refine .gz 50 (.gz 50 (.gz 50 ?_))
 refine .gz 50 (.gz 50 (.gz 50 ?_))
 refine .gz 50 ?_
 refine .pk ?_
 refine AOps.nil (AWp.condT rfl (AWp.sr ?_))
 refine .an ?_
 refine AOps.nil (AWp.ret ?_)
 exact .rb rfl (df (fun h => by have h1 := h.name; have h2 := h.ncells; have h3 := h.nwidths; have h4 := h.nmems; have h5 := h.nstreams; have h6 := h.nactive; have h7 := h.ndata; first | omega | contradiction))
 replace c17 : Named n.name := by simpa using c17
 refine .gw 17 (Y.fieldAddr fl27_2 rfl rfl) (.gw 17 (Y.load sh23 rfl rfl rfl rfl) (.gw 17 (Y.len (n := n.cells.length) sl23 rfl (congrArg some (List.length_map ..))) ?_))
 refine .gw 17 (Y.gtr rfl rfl) ?_
 refine .pk ?_
 refine .mv ?_
 refine AOps.splitD (d := 23) rfl (fun c23 => ?_) (fun c23 => ?_)
 refine .gz 23 (.gz 23 (.gz 23 ?_))
 refine .gz 23 ?_
 refine .pk ?_
 refine .mv ?_
 refine .gz 29 (.gz 29 (.gz 29 ?_))
 refine .gz 29 ?_
 refine .pk ?_
 refine .mv ?_
 refine .gz 35 (.gz 35 (.gz 35 ?_))
 refine .gz 35 ?_
 refine .pk ?_
 refine .mv ?_
 refine .gz 41 (.gz 41 (.gz 41 ?_))
 refine .gz 41 (.gz 41 (.gz 41 ?_))
 refine .gz 41 ?_
 refine .pk ?_
 refine .mv ?_
 refine .gz 50 (.gz 50 (.gz 50 ?_))
 refine .gz 50 (.gz 50 (.gz 50 ?_))
 refine .gz 50 ?_
 refine .pk ?_
 refine AOps.nil (AWp.condT rfl (AWp.sr ?_))
 refine .an ?_
 refine AOps.nil (AWp.ret ?_)
 exact .rb rfl (df (fun h => by have h1 := h.name; have h2 := h.ncells; have h3 := h.nwidths; have h4 := h.nmems; have h5 := h.nstreams; have h6 := h.nactive; have h7 := h.ndata; first | omega | contradiction))
 refine .gw 23 (Y.fieldAddr fl27_1 rfl rfl) (.gw 23 (Y.load sh22 rfl rfl rfl rfl) (.gw 23 (Y.len (n := n.widths.length) sl22 rfl (congrArg some (List.length_map ..))) ?_))
 refine .gw 23 (Y.gtr rfl rfl) ?_
 refine .pk ?_
 refine .mv ?_
 refine AOps.splitD (d := 29) rfl (fun c29 => ?_) (fun c29 => ?_)
 refine .gz 29 (.gz 29 (.gz 29 ?_))
 refine .gz 29 ?_
 refine .pk ?_
 refine .mv ?_
 refine .gz 35 (.gz 35 (.gz 35 ?_))
 refine .gz 35 ?_
 refine .pk ?_
 refine .mv ?_
 refine .gz 41 (.gz 41 (.gz 41 ?_))
 refine .gz 41 (.gz 41 (.gz 41 ?_))
 refine .gz 41 ?_
 refine .pk ?_
 refine .mv ?_
 refine .gz 50 (.gz 50 (.gz 50 ?_))
 refine .gz 50 (.gz 50 (.gz 50 ?_))
 refine .gz 50 ?_
 refine .pk ?_
 refine AOps.nil (AWp.condT rfl (AWp.sr ?_))
 refine .an ?_
 refine AOps.nil (AWp.ret ?_)
 exact .rb rfl (df (fun h => by have h1 := h.name; have h2 := h.ncells; have h3 := h.nwidths; have h4 := h.nmems; have h5 := h.nstreams; have h6 := h.nactive; have h7 := h.ndata; first | omega | contradiction))
 refine .gw 29 (Y.fieldAddr fl27_4 rfl rfl) (.gw 29 (Y.load sh24 rfl rfl rfl rfl) (.gw 29 (Y.len (n := n.mems.length) sl24 rfl (congrArg some (List.length_map ..))) ?_))
 refine .gw 29 (Y.gtr rfl rfl) ?_
 refine .pk ?_
 refine .mv ?_
 refine AOps.splitD (d := 35) rfl (fun c35 => ?_) (fun c35 => ?_)
 refine .gz 35 (.gz 35 (.gz 35 ?_))
 refine .gz 35 ?_
 refine .pk ?_
 refine .mv ?_
 refine .gz 41 (.gz 41 (.gz 41 ?_))
 refine .gz 41 (.gz 41 (.gz 41 ?_))
 refine .gz 41 ?_
 refine .pk ?_
 refine .mv ?_
 refine .gz 50 (.gz 50 (.gz 50 ?_))
 refine .gz 50 (.gz 50 (.gz 50 ?_))
 refine .gz 50 ?_
 refine .pk ?_
 refine AOps.nil (AWp.condT rfl (AWp.sr ?_))
 refine .an ?_
 refine AOps.nil (AWp.ret ?_)
 exact .rb rfl (df (fun h => by have h1 := h.name; have h2 := h.ncells; have h3 := h.nwidths; have h4 := h.nmems; have h5 := h.nstreams; have h6 := h.nactive; have h7 := h.ndata; first | omega | contradiction))
 refine .gw 35 (Y.fieldAddr fl27_5 rfl rfl) (.gw 35 (Y.load sh25 rfl rfl rfl rfl) (.gw 35 (Y.len (n := n.streams.length) sl25 rfl (congrArg some (List.length_map ..))) ?_))
 refine .gw 35 (Y.gtr rfl rfl) ?_
 refine .pk ?_
 refine .mv ?_
 refine AOps.splitD (d := 41) rfl (fun c41 => ?_) (fun c41 => ?_)
 refine .gz 41 (.gz 41 (.gz 41 ?_))
 refine .gz 41 (.gz 41 (.gz 41 ?_))
 refine .gz 41 ?_
 refine .pk ?_
 refine .mv ?_
 refine .gz 50 (.gz 50 (.gz 50 ?_))
 refine .gz 50 (.gz 50 (.gz 50 ?_))
 refine .gz 50 ?_
 refine .pk ?_
 refine AOps.nil (AWp.condT rfl (AWp.sr ?_))
 refine .an ?_
 refine AOps.nil (AWp.ret ?_)
 exact .rb rfl (df (fun h => by have h1 := h.name; have h2 := h.ncells; have h3 := h.nwidths; have h4 := h.nmems; have h5 := h.nstreams; have h6 := h.nactive; have h7 := h.ndata; first | omega | contradiction))
 refine .gw 41 (Y.fieldAddr fl27_6 rfl rfl) (.gw 41 (Y.load sh22 rfl rfl rfl rfl) (.gw 41 (Y.len (n := n.active.length) sl22 rfl (congrArg some (List.length_map ..))) ?_))
 refine .gw 41 (Y.fieldAddr fl27_5 rfl rfl) (.gw 41 (Y.load sh25 rfl rfl rfl rfl) (.gw 41 (Y.len (n := n.streams.length) sl25 rfl (congrArg some (List.length_map ..))) ?_))
 refine .gw 41 (Y.neq rfl rfl) ?_
 refine .pk ?_
 refine .mv ?_
 refine AOps.splitD (d := 50) rfl (fun c50 => ?_) (fun c50 => ?_)
 refine .gz 50 (.gz 50 (.gz 50 ?_))
 refine .gz 50 (.gz 50 (.gz 50 ?_))
 refine .gz 50 ?_
 refine .pk ?_
 refine AOps.nil (AWp.condT rfl (AWp.sr ?_))
 refine .an ?_
 refine AOps.nil (AWp.ret ?_)
 exact .rb rfl (df (fun h => by have h1 := h.name; have h2 := h.ncells; have h3 := h.nwidths; have h4 := h.nmems; have h5 := h.nstreams; have h6 := h.nactive; have h7 := h.ndata; first | omega | contradiction))
 refine .gw 50 (Y.fieldAddr fl27_7 rfl rfl) (.gw 50 (Y.load sh22 rfl rfl rfl rfl) (.gw 50 (Y.len (n := n.data.length) sl22 rfl (congrArg some (List.length_map ..))) ?_))
 refine .gw 50 (Y.fieldAddr fl27_5 rfl rfl) (.gw 50 (Y.load sh25 rfl rfl rfl rfl) (.gw 50 (Y.len (n := n.streams.length) sl25 rfl (congrArg some (List.length_map ..))) ?_))
 refine .gw 50 (Y.neq rfl rfl) ?_
 refine .pk ?_
 refine AOps.nil ?_
 refine AWp.condD rfl (fun c58 => ?_) (fun c58 => ?_)
 refine AWp.sr ?_
 refine .an ?_
 refine AOps.nil (AWp.ret ?_)
 exact .rb rfl (df (fun h => by have h1 := h.name; have h2 := h.ncells; have h3 := h.nwidths; have h4 := h.nmems; have h5 := h.nstreams; have h6 := h.nactive; have h7 := h.ndata; first | omega | contradiction))
 refine AWp.skip (AWp.seq (AWp.sr ?_))
 refine .fa fl27_1 ?_
 refine .ld sh22 ?_
 refine .fa fl27_3 ?_
 refine .ld sh22 ?_
 refine AOps.buildSlice (([n.widths, n.ins] : List (List Int)).map lrow) sl92 ze22 rfl rfl rfl rfl rfl (uniform_map (s := 1) (f := lrow) (fun _ => rfl)) rfl rfl rfl (by decide) ?_
 refine AOps.sh (Sh.freezeE (d := 63) (([n.widths, n.ins] : List (List Int)).map lrow) rfl (by first | rfl | exact rep_map rfl) (Frees.map lrow_frees)) (AOps.callP ok72 (concat_spec (ls := ([n.widths, n.ins] : List (List Int))) (by simp) (by simp; omega)) rfl (.keep rfl rfl .nil) (by decide) rfl (.vl (Y.len (n := (([n.widths, n.ins] : List (List Int)).flatten).length) sl22 rfl (congrArg some (List.length_map ..))) ?_))
 refine .mv ?_
 refine AOps.nil (AWp.block (AWp.sh (Sh.freezeE (d := 64) ((([n.widths, n.ins] : List (List Int)).flatten).map irow) rfl (by first | rfl | exact rep_map rfl) (Frees.map irow_frees)) ?_))
 refine AWp.loop1 (fun (n66_4 : Nat) => ⟨[(1, .ptr 101 0 0 0), (64, .fz 1 ((([n.widths, n.ins] : List (List Int)).flatten).map irow)), (65, vi (((([n.widths, n.ins] : List (List Int)).flatten).length : Nat) : Int)), (66, vi (n66_4 : Int))], [(101, .cells (Netlist.row n))]⟩) (fun (n66_4 : Nat) => ((n66_4 : Int) ≤ (((([n.widths, n.ins] : List (List Int)).flatten).length : Nat) : Int)) ∧ (∀ j, j < n66_4 → Wide (([n.widths, n.ins] : List (List Int)).flatten.getD j 0))) (fun (n66_4 : Nat) => ((((([n.widths, n.ins] : List (List Int)).flatten).length : Nat) : Int) - (n66_4 : Int)).toNat) 0 (⟨by omega, fun j hj => by omega⟩) (Le.mk (.c (.c (.c (.cons (look_int rfl (by first | rfl | omega)) (.nil))))) (.c (.nil))) (fun n66_4 hI4 => ?_)
 obtain ⟨hb4, hw⟩ := hI4
 refine AWp.sr (.vl (Y.lss rfl rfl) (AOps.nil ?_))
 refine AWp.seq ?_
 refine AWp.condD rfl (fun c67 => ?_) (fun c67 => ?_)
 refine AWp.skip (AWp.seq (AWp.block ?_))
 refine AWp.sr ?_
 refine .vl (Y.indexF (m := n66_4) sl22 rfl rfl (by first | rfl | omega) (row_getD (d := 0) (by omega))) ?_
 refine .ld sh3 ?_
 refine .an ?_
 refine AOps.nil (AWp.sr ?_)
 refine .mv ?_
 refine AOps.callP ok93 (wide_spec (w := ((([n.widths, n.ins] : List (List Int)).flatten).getD n66_4 0))) rfl (.keep rfl rfl .nil) (by decide) rfl (.vl (Y.not rfl) (AOps.nil ?_))
 refine AWp.cond rfl (fun c72 => ?_) (fun c72 => ?_)
 replace c72 : ¬ (Wide ((([n.widths, n.ins] : List (List Int)).flatten).getD n66_4 0)) := by simpa using c72
 refine AWp.sr ?_
 refine .an ?_
 refine AOps.nil (AWp.ret ?_)
 exact .rb rfl (df (fun h => by have h1 := h.wide n66_4 (by rw [List.length_append]; omega); rw [← hcat] at h1; contradiction))
 replace c72 : Wide ((([n.widths, n.ins] : List (List Int)).flatten).getD n66_4 0) := by simpa using c72
 refine AWp.skip (AWp.region ?_)
 refine .vl (Y.addI rfl rfl (by omega)) ?_
 refine .mv ?_
 refine AOps.nil ?_
 exact ⟨n66_4 + 1, ⟨by omega, below_succ' hw (by assumption)⟩, by omega, Le.mk (.c (.c (.c (.cons (look_int rfl (by first | rfl | omega)) (.nil))))) (.c (.nil))⟩
 refine AWp.exit (AWp.seq (AWp.sr ?_))
 refine .fa fl27_4 ?_
 refine .ld sh24 ?_
 refine .vl (Y.len (n := n.mems.length) sl24 rfl (congrArg some (List.length_map ..))) ?_
 refine .mv ?_
 refine AOps.nil (AWp.block ?_)
 refine AWp.loop1 (fun (n77_10 : Nat) => ⟨[(1, .ptr 101 0 0 0), (75, .fz 5 (n.mems.map Arr.row)), (76, vi ((n.mems.length : Nat) : Int)), (77, vi (n77_10 : Int))], [(101, .cells (Netlist.row n))]⟩) (fun (n77_10 : Nat) => ((n77_10 : Int) ≤ ((n.mems.length : Nat) : Int)) ∧ (∀ j, j < n77_10 → MemOK (n.mems.getD j default))) (fun (n77_10 : Nat) => (((n.mems.length : Nat) : Int) - (n77_10 : Int)).toNat) 0 (⟨by omega, fun j hj => by omega⟩) (Le.mk (.c (.c (.c (.cons (look_int rfl (by first | rfl | omega)) (.nil))))) (.c (.nil))) (fun n77_10 hI10 => ?_)
 obtain ⟨hb10, hm⟩ := hI10
 refine AWp.sr (.vl (Y.lss rfl rfl) (AOps.nil ?_))
 refine AWp.seq ?_
 refine AWp.condD rfl (fun c78 => ?_) (fun c78 => ?_)
 refine AWp.skip (AWp.seq (AWp.block ?_))
 refine AWp.sr ?_
 refine .vl (Y.indexF (m := n77_10) sl24 rfl rfl (by first | rfl | omega) (row_getD (d := default) (by omega))) ?_
 refine .vl (Y.loadA sh48 rfl rfl (Nat.le_of_ble_eq_true rfl) rfl rfl) (AOps.alloc 106 ze48 rfl rfl (by decide) (AOps.storeC si48 rfl rfl rfl rfl rfl rfl (Nat.le_of_ble_eq_true rfl) rfl ?_))
 refine AOps.nil (AWp.sr ?_)
 have hmn := hs.memNames _ (getD_mem' (l := n.mems) (i := n77_10) (d := default) (by omega))
 refine .fa fl48_0 ?_
 refine .ld sh9 ?_
 refine AOps.callP ok92 (named_spec (s := ((n.mems.getD n77_10 default).name)) (by first | assumption | omega)) rfl (.keep rfl rfl .nil) (by decide) rfl (.vl (Y.not rfl) ?_)
 refine .mv ?_
 refine AOps.split (d := 85) rfl (fun c85 => ?_) (fun c85 => ?_)
 replace c85 : ¬ (Named ((n.mems.getD n77_10 default).name)) := by simpa using c85
 refine .gz 85 (.gz 85 (.gz 85 ?_))
 refine .gz 85 ?_
 refine .pk ?_
 refine .mv ?_
 refine .gz 91 (.gz 91 (.gz 91 ?_))
 refine .pk ?_
 refine .mv ?_
 refine .gz 96 (.gz 96 (.gz 96 ?_))
 refine .pk ?_
 refine .mv ?_
 refine .gz 101 (.gz 101 (.gz 101 ?_))
 refine .pk ?_
 refine .mv ?_
 refine .gz 106 (.gz 106 (.gz 106 ?_))
 refine .pk ?_
 refine AOps.nil (AWp.condT rfl (AWp.sr ?_))
 refine .an ?_
 refine AOps.nil (AWp.ret ?_)
 exact .rb rfl (df (fun h => by have h1 := h.mems n77_10 (by omega); unfold MemOK at h1; obtain ⟨a1, a2, a3, a4, a5, a6⟩ := h1; first | contradiction | omega))
 replace c85 : Named ((n.mems.getD n77_10 default).name) := by simpa using c85
 refine .gw 85 (Y.fieldAddr fl48_1 rfl rfl) (.gw 85 (Y.load sh3 rfl rfl rfl rfl) (AOps.guardRun (d := 85) rfl (by decide) rfl ?_))
 refine AOps.callP ok93 (wide_spec (w := ((n.mems.getD n77_10 default).width))) rfl (.keep rfl rfl .nil) (by decide) rfl (.gw 85 (Y.not rfl) ?_)
 refine .pk ?_
 refine .mv ?_
 refine AOps.split (d := 91) rfl (fun c91 => ?_) (fun c91 => ?_)
 replace c91 : ¬ (Wide ((n.mems.getD n77_10 default).width)) := by simpa using c91
 refine .gz 91 (.gz 91 (.gz 91 ?_))
 refine .pk ?_
 refine .mv ?_
 refine .gz 96 (.gz 96 (.gz 96 ?_))
 refine .pk ?_
 refine .mv ?_
 refine .gz 101 (.gz 101 (.gz 101 ?_))
 refine .pk ?_
 refine .mv ?_
 refine .gz 106 (.gz 106 (.gz 106 ?_))
 refine .pk ?_
 refine AOps.nil (AWp.condT rfl (AWp.sr ?_))
 refine .an ?_
 refine AOps.nil (AWp.ret ?_)
 exact .rb rfl (df (fun h => by have h1 := h.mems n77_10 (by omega); unfold MemOK at h1; obtain ⟨a1, a2, a3, a4, a5, a6⟩ := h1; first | contradiction | omega))
 replace c91 : Wide ((n.mems.getD n77_10 default).width) := by simpa using c91
 refine .gw 91 (Y.fieldAddr fl48_2 rfl rfl) (.gw 91 (Y.load sh3 rfl rfl rfl rfl) (.gw 91 (Y.lss rfl rfl) ?_))
 refine .pk ?_
 refine .mv ?_
 refine AOps.splitD (d := 96) rfl (fun c96 => ?_) (fun c96 => ?_)
 refine .gz 96 (.gz 96 (.gz 96 ?_))
 refine .pk ?_
 refine .mv ?_
 refine .gz 101 (.gz 101 (.gz 101 ?_))
 refine .pk ?_
 refine .mv ?_
 refine .gz 106 (.gz 106 (.gz 106 ?_))
 refine .pk ?_
 refine AOps.nil (AWp.condT rfl (AWp.sr ?_))
 refine .an ?_
 refine AOps.nil (AWp.ret ?_)
 exact .rb rfl (df (fun h => by have h1 := h.mems n77_10 (by omega); unfold MemOK at h1; obtain ⟨a1, a2, a3, a4, a5, a6⟩ := h1; first | contradiction | omega))
 refine .gw 96 (Y.fieldAddr fl48_2 rfl rfl) (.gw 96 (Y.load sh3 rfl rfl rfl rfl) (.gw 96 (Y.gtr rfl rfl) ?_))
 refine .pk ?_
 refine .mv ?_
 refine AOps.splitD (d := 101) rfl (fun c101 => ?_) (fun c101 => ?_)
 refine .gz 101 (.gz 101 (.gz 101 ?_))
 refine .pk ?_
 refine .mv ?_
 refine .gz 106 (.gz 106 (.gz 106 ?_))
 refine .pk ?_
 refine AOps.nil (AWp.condT rfl (AWp.sr ?_))
 refine .an ?_
 refine AOps.nil (AWp.ret ?_)
 exact .rb rfl (df (fun h => by have h1 := h.mems n77_10 (by omega); unfold MemOK at h1; obtain ⟨a1, a2, a3, a4, a5, a6⟩ := h1; first | contradiction | omega))
 refine .gw 101 (Y.fieldAddr fl48_3 rfl rfl) (.gw 101 (Y.load sh3 rfl rfl rfl rfl) (.gw 101 (Y.neq rfl rfl) ?_))
 refine .pk ?_
 refine .mv ?_
 refine AOps.splitD (d := 106) rfl (fun c106 => ?_) (fun c106 => ?_)
 refine .gz 106 (.gz 106 (.gz 106 ?_))
 refine .pk ?_
 refine AOps.nil (AWp.condT rfl (AWp.sr ?_))
 refine .an ?_
 refine AOps.nil (AWp.ret ?_)
 exact .rb rfl (df (fun h => by have h1 := h.mems n77_10 (by omega); unfold MemOK at h1; obtain ⟨a1, a2, a3, a4, a5, a6⟩ := h1; first | contradiction | omega))
 refine .gw 106 (Y.fieldAddr fl48_4 rfl rfl) (.gw 106 (Y.load sh3 rfl rfl rfl rfl) (.gw 106 (Y.neq rfl rfl) ?_))
 refine .pk ?_
 refine AOps.nil ?_
 refine AWp.condD rfl (fun c110 => ?_) (fun c110 => ?_)
 refine AWp.sr ?_
 refine .an ?_
 refine AOps.nil (AWp.ret ?_)
 exact .rb rfl (df (fun h => by have h1 := h.mems n77_10 (by omega); unfold MemOK at h1; obtain ⟨a1, a2, a3, a4, a5, a6⟩ := h1; first | contradiction | omega))
 refine AWp.skip (AWp.region ?_)
 refine .vl (Y.addI rfl rfl (by omega)) ?_
 refine .mv ?_
 refine AOps.nil ?_
 exact ⟨n77_10 + 1, ⟨by omega, below_succ' hm (by unfold MemOK; refine ⟨?_, ?_, ?_, ?_, ?_, ?_⟩ <;> first | assumption | omega)⟩, by omega, Le.mk (.c (.c (.c (.cons (look_int rfl (by first | rfl | omega)) (.nil))))) (.c (.nil))⟩
 refine AWp.exit (AWp.sr (AOps.sh (Sh.freezeO 101 rfl rfl) ?_))
 refine .vl (Y.makeFunc rfl rfl rfl rfl) (AOps.alloc 107 ze45 rfl rfl (by decide) (AOps.storeC si45 rfl rfl rfl rfl rfl rfl (Nat.le_of_ble_eq_true rfl) rfl ?_))
 refine AOps.nil (AWp.seq (AWp.seq ?_))
 refine AWp.sh (Sh.freezeO 107 rfl rfl) (AWp.region ?_)
 refine .fa fl27_5 ?_
 refine .ld sh25 ?_
 refine .vl (Y.len (n := n.streams.length) sl25 rfl (congrArg some (List.length_map ..))) ?_
 refine .mv ?_
 refine AOps.nil (AWp.block ?_)
 refine AWp.loop1 (fun (n116_17 : Nat) => ⟨[(1, .fp (Netlist.row n) 0), (7, .fp ([.clo (.func 94) [] [.fp (Netlist.row n) 0]]) 0), (114, .fz 3 (n.streams.map Strm.row)), (115, vi ((n.streams.length : Nat) : Int)), (116, vi (n116_17 : Int))], []⟩) (fun (n116_17 : Nat) => ((n116_17 : Int) ≤ ((n.streams.length : Nat) : Int)) ∧ (∀ j, j < n116_17 → StrOK n j)) (fun (n116_17 : Nat) => (((n.streams.length : Nat) : Int) - (n116_17 : Int)).toNat) 0 (⟨by omega, fun j hj => by omega⟩) (Le.mk (.c (.c (.c (.c (.cons (look_int rfl (by first | rfl | omega)) (.nil)))))) (.nil)) (fun n116_17 hI17 => ?_)
 obtain ⟨hb17, hst⟩ := hI17
 refine AWp.sr (.vl (Y.lss rfl rfl) (AOps.nil ?_))
 refine AWp.seq ?_
 refine AWp.condD rfl (fun c117 => ?_) (fun c117 => ?_)
 refine AWp.skip ?_
 refine AWp.join4 (fun (n144_j21 : Bool) (n153_j21 : Bool) (n159_j21 : Bool) (n166_j21 : Bool) => ⟨[(1, .fp (Netlist.row n) 0), (7, .fp ([.clo (.func 94) [] [.fp (Netlist.row n) 0]]) 0), (114, .fz 3 (n.streams.map Strm.row)), (115, vi ((n.streams.length : Nat) : Int)), (116, vi (n116_17 : Int)), (126, .ptr 109 0 0 1), (127, vi ((n.streams.getD n116_17 default).width)), (128, .v (.bool (decide (Wide ((n.streams.getD n116_17 default).width))))), (129, .v (.bool (!decide (Wide ((n.streams.getD n116_17 default).width))))), (132, .clo (.func 94) [] [.fp (Netlist.row n) 0]), (133, .fp (Netlist.row n) 6), (134, .fz 1 (n.active.map irow)), (135, vi (n116_17 : Int)), (136, .fp (irow (n.active.getD n116_17 0)) 0), (137, vi (n.active.getD n116_17 0)), (138, .v (.bool (decide (In (n.active.getD n116_17 0) n.widths.length)))), (139, .v (.bool (!decide (In (n.active.getD n116_17 0) n.widths.length)))), (142, .ptr 109 0 0 2), (143, .v (.bool ((n.streams.getD n116_17 default).out))), (144, .v (.bool n144_j21)), (153, .v (.bool n153_j21)), (156, .ptr 109 0 0 2), (157, .v (.bool ((n.streams.getD n116_17 default).out))), (158, .v (.bool (!((n.streams.getD n116_17 default).out)))), (159, .v (.bool n159_j21)), (166, .v (.bool n166_j21))], [(109, .cells [.v (.string ((n.streams.getD n116_17 default).name)), vi ((n.streams.getD n116_17 default).width), .v (.bool ((n.streams.getD n116_17 default).out))])]⟩) (fun (n144_j21 : Bool) (n153_j21 : Bool) (n159_j21 : Bool) (n166_j21 : Bool) => StrOK n n116_17) ?_ (fun n144_j21 n153_j21 n159_j21 n166_j21 hJ21 => ?_)
 refine AWp.block (AWp.sr ?_)
 have hsn := hs.strNames _ (getD_mem' (l := n.streams) (i := n116_17) (d := default) (by omega))
 refine .mv ?_
 refine .vl (Y.indexF (m := n116_17) sl25 rfl rfl (by first | rfl | omega) (row_getD (d := default) (by omega))) ?_
 refine .vl (Y.loadA sh83 rfl rfl (Nat.le_of_ble_eq_true rfl) rfl rfl) (AOps.alloc 109 ze83 rfl rfl (by decide) ?_)
 refine .an ?_
 refine AOps.storeC si83 rfl rfl rfl rfl rfl rfl (Nat.le_of_ble_eq_true rfl) rfl (AOps.nil (AWp.seq ?_))
 refine AWp.regionAny rfl (AAny.quietN (n := 45) [0, 1] [2, 3, 4, 5, 6, 7, 8, 9, 10, 11, 12, 13, 14, 15, 16, 17, 18, 19, 20, 21, 22, 23, 24, 25, 26, 27, 28, 29, 30, 31, 32, 33, 34, 35, 36, 37, 38, 39, 40, 41, 42, 43, 44, 45, 46] 2 rfl (by kernel_rfl) (.cn 0 rfl (Y.fieldAddr fl83_0 rfl rfl) ?_))
 refine .cn 1 rfl (Y.load sh9 rfl rfl rfl rfl) (AQ.nil (AAny.one 2 rfl (by kernel_rfl) ?_))
 refine AOps.callP ok92 (named_spec (s := ((n.streams.getD n116_17 default).name)) (by first | assumption | omega)) rfl (.keep rfl rfl .nil) (by decide) rfl ?_
 refine AOps.nil ⟨rfl, ?_⟩
 refine AAny.quietN (n := 40) [3, 4, 5, 6] [7, 8, 9, 10, 11, 12, 13, 14, 15, 16, 17, 18, 19, 20, 21, 22, 23, 24, 25, 26, 27, 28, 29, 30, 31, 32, 33, 34, 35, 36, 37, 38, 39, 40, 41, 42, 43, 44, 45, 46] 7 rfl (by kernel_rfl) (.cn 3 rfl (Y.not rfl) (.cn 4 rfl (Y.move rfl rfl) ?_))
 refine AQ.split (d := 125) rfl (fun c125 => ?_) (fun c125 => ?_)
 replace c125 : ¬ (Named ((n.streams.getD n116_17 default).name)) := by simpa using c125
 refine .sk 5 rfl rfl rfl rfl (.sk 6 rfl rfl rfl rfl (AQ.nil ?_))
 refine AAny.skipOp 7 rfl (by kernel_rfl) rfl (by decide) (by decide) rfl rfl (AAny.skipOp 8 rfl (by kernel_rfl) rfl (by decide) (by decide) rfl rfl (AAny.quietN (n := 30) [9, 10, 11, 12, 13, 14, 15, 16] [17, 18, 19, 20, 21, 22, 23, 24, 25, 26, 27, 28, 29, 30, 31, 32, 33, 34, 35, 36, 37, 38, 39, 40, 41, 42, 43, 44, 45, 46] 17 rfl (by kernel_rfl) ?_))
 refine .cn 9 rfl (Y.pick rfl rfl rfl) (.cn 10 rfl (Y.move rfl rfl) (.sk 11 rfl rfl rfl rfl ?_))
 refine .sk 12 rfl rfl rfl rfl (.sk 13 rfl rfl rfl rfl (.sk 14 rfl rfl rfl rfl ?_))
 refine .sk 15 rfl rfl rfl rfl (.sk 16 rfl rfl rfl rfl (AQ.nil ?_))
 refine AAny.skipOp 17 rfl (by kernel_rfl) rfl (by decide) (by decide) rfl rfl (AAny.skipOp 18 rfl (by kernel_rfl) rfl (by decide) (by decide) rfl rfl (AAny.quietN (n := 17) [19, 20, 21, 22, 23, 24, 25, 26, 27, 28, 29] [30, 31, 32, 33, 34, 35, 36, 37, 38, 39, 40, 41, 42, 43, 44, 45, 46] 30 rfl (by kernel_rfl) ?_))
 refine .cn 19 rfl (Y.pick rfl rfl rfl) (.cn 20 rfl (Y.move rfl rfl) (.sk 21 rfl rfl rfl rfl ?_))
 refine .sk 22 rfl rfl rfl rfl (.sk 23 rfl rfl rfl rfl (.sk 24 rfl rfl rfl rfl ?_))
 refine .sk 25 rfl rfl rfl rfl (.sk 26 rfl rfl rfl rfl (.sk 27 rfl rfl rfl rfl ?_))
 refine .sk 28 rfl rfl rfl rfl (.sk 29 rfl rfl rfl rfl (AQ.nil ?_))
 refine AAny.skipOp 30 rfl (by kernel_rfl) rfl (by decide) (by decide) rfl rfl (AAny.skipOp 31 rfl (by kernel_rfl) rfl (by decide) (by decide) rfl rfl (AAny.skipOp 32 rfl (by kernel_rfl) rfl (by decide) (by decide) rfl rfl ?_))
 refine AAny.quietN (n := 0) [33, 34, 35, 36, 37, 38, 39, 40, 41, 42, 43, 44, 45, 46] [] 0 rfl (by kernel_rfl) (.cn 33 rfl (Y.pick rfl rfl rfl) (.cn 34 rfl (Y.move rfl rfl) ?_))
 refine .sk 35 rfl rfl rfl rfl (.sk 36 rfl rfl rfl rfl (.sk 37 rfl rfl rfl rfl ?_))
 refine .sk 38 rfl rfl rfl rfl (.sk 39 rfl rfl rfl rfl (.sk 40 rfl rfl rfl rfl ?_))
 refine .sk 41 rfl rfl rfl rfl (.sk 42 rfl rfl rfl rfl (.sk 43 rfl rfl rfl rfl ?_))
 refine .sk 44 rfl rfl rfl rfl (.sk 45 rfl rfl rfl rfl (.cn 46 rfl (Y.pick rfl rfl rfl) ?_))
 refine AQ.nil (AAny.done (by kernel_rfl) (AWp.condT rfl ?_))
 refine AWp.sr ?_
 refine .an ?_
 refine AOps.nil (AWp.ret ?_)
 exact .rb rfl (df (fun h => by have h1 := h.strs n116_17 (by omega); unfold StrOK at h1; obtain ⟨a1, a2, a3, a4, a5⟩ := h1; first | contradiction | grind))
 replace c125 : Named ((n.streams.getD n116_17 default).name) := by simpa using c125
 refine .rn 5 rfl rfl rfl (Y.fieldAddr fl83_1 rfl rfl) (.rn 6 rfl rfl rfl (Y.load sh3 rfl rfl rfl rfl) (AQ.nil ?_))
 refine AAny.one 7 rfl (by kernel_rfl) (AOps.guardRun (d := 125) rfl (by decide) rfl (AOps.callP ok93 (wide_spec (w := ((n.streams.getD n116_17 default).width))) rfl (.keep rfl rfl .nil) (by decide) rfl ?_))
 refine AOps.nil ⟨rfl, ?_⟩
 refine AAny.quietN (n := 30) [8, 9, 10, 11, 12, 13, 14, 15, 16] [17, 18, 19, 20, 21, 22, 23, 24, 25, 26, 27, 28, 29, 30, 31, 32, 33, 34, 35, 36, 37, 38, 39, 40, 41, 42, 43, 44, 45, 46] 17 rfl (by kernel_rfl) (.rn 8 rfl rfl rfl (Y.not rfl) (.cn 9 rfl (Y.pick rfl rfl rfl) ?_))
 refine .cn 10 rfl (Y.move rfl rfl) ?_
 refine AQ.split (d := 131) rfl (fun c131 => ?_) (fun c131 => ?_)
 replace c131 : ¬ (Wide ((n.streams.getD n116_17 default).width)) := by simpa using c131
 refine .sk 11 rfl rfl rfl rfl (.sk 12 rfl rfl rfl rfl (.sk 13 rfl rfl rfl rfl ?_))
 refine .sk 14 rfl rfl rfl rfl (.sk 15 rfl rfl rfl rfl (.sk 16 rfl rfl rfl rfl ?_))
 refine AQ.nil (AAny.skipOp 17 rfl (by kernel_rfl) rfl (by decide) (by decide) rfl rfl (AAny.skipOp 18 rfl (by kernel_rfl) rfl (by decide) (by decide) rfl rfl ?_))
 refine AAny.quietN (n := 17) [19, 20, 21, 22, 23, 24, 25, 26, 27, 28, 29] [30, 31, 32, 33, 34, 35, 36, 37, 38, 39, 40, 41, 42, 43, 44, 45, 46] 30 rfl (by kernel_rfl) (.cn 19 rfl (Y.pick rfl rfl rfl) (.cn 20 rfl (Y.move rfl rfl) ?_))
 refine .sk 21 rfl rfl rfl rfl (.sk 22 rfl rfl rfl rfl (.sk 23 rfl rfl rfl rfl ?_))
 refine .sk 24 rfl rfl rfl rfl (.sk 25 rfl rfl rfl rfl (.sk 26 rfl rfl rfl rfl ?_))
 refine .sk 27 rfl rfl rfl rfl (.sk 28 rfl rfl rfl rfl (.sk 29 rfl rfl rfl rfl ?_))
 refine AQ.nil (AAny.skipOp 30 rfl (by kernel_rfl) rfl (by decide) (by decide) rfl rfl (AAny.skipOp 31 rfl (by kernel_rfl) rfl (by decide) (by decide) rfl rfl ?_))
 refine AAny.skipOp 32 rfl (by kernel_rfl) rfl (by decide) (by decide) rfl rfl (AAny.quietN (n := 0) [33, 34, 35, 36, 37, 38, 39, 40, 41, 42, 43, 44, 45, 46] [] 0 rfl (by kernel_rfl) (.cn 33 rfl (Y.pick rfl rfl rfl) ?_))
 refine .cn 34 rfl (Y.move rfl rfl) (.sk 35 rfl rfl rfl rfl (.sk 36 rfl rfl rfl rfl ?_))
 refine .sk 37 rfl rfl rfl rfl (.sk 38 rfl rfl rfl rfl (.sk 39 rfl rfl rfl rfl ?_))
 refine .sk 40 rfl rfl rfl rfl (.sk 41 rfl rfl rfl rfl (.sk 42 rfl rfl rfl rfl ?_))
 refine .sk 43 rfl rfl rfl rfl (.sk 44 rfl rfl rfl rfl (.sk 45 rfl rfl rfl rfl ?_))
 refine .cn 46 rfl (Y.pick rfl rfl rfl) (AQ.nil (AAny.done (by kernel_rfl) ?_))
 refine AWp.condT rfl (AWp.sr ?_)
 refine .an ?_
 refine AOps.nil (AWp.ret ?_)
 exact .rb rfl (df (fun h => by have h1 := h.strs n116_17 (by omega); unfold StrOK at h1; obtain ⟨a1, a2, a3, a4, a5⟩ := h1; first | contradiction | grind))
 replace c131 : Wide ((n.streams.getD n116_17 default).width) := by simpa using c131
 refine .rn 11 rfl rfl rfl (Y.load sh45 rfl rfl rfl rfl) (.rn 12 rfl rfl rfl (Y.fieldAddr fl27_6 rfl rfl) (.rn 13 rfl rfl rfl (Y.load sh22 rfl rfl rfl rfl) ?_))
 refine .rn 14 rfl rfl rfl (Y.move rfl rfl) ?_
 refine .rn 15 rfl rfl rfl (Y.indexF (m := n116_17) sl22 rfl rfl (by first | rfl | omega) (row_getD (d := 0) (by omega))) ?_
 refine .rn 16 rfl rfl rfl (Y.load sh3 rfl rfl rfl rfl) (AQ.nil (AAny.one 17 rfl (by kernel_rfl) ?_))
 refine AOps.guardRun (d := 131) rfl (by decide) rfl (AOps.callCP rfl ok94 (formed1_spec (i := (n.active.getD n116_17 0))) rfl (.keep rfl rfl (.keep rfl rfl .nil)) (by decide) rfl ?_)
 refine AOps.nil ⟨rfl, ?_⟩
 refine AAny.quietN (n := 17) [18, 19, 20, 21, 22, 23, 24, 25, 26, 27, 28, 29] [30, 31, 32, 33, 34, 35, 36, 37, 38, 39, 40, 41, 42, 43, 44, 45, 46] 30 rfl (by kernel_rfl) (.rn 18 rfl rfl rfl (Y.not rfl) (.cn 19 rfl (Y.pick rfl rfl rfl) ?_))
 refine .cn 20 rfl (Y.move rfl rfl) ?_
 refine AQ.split (d := 141) rfl (fun c141 => ?_) (fun c141 => ?_)
 replace c141 : ¬ (In (n.active.getD n116_17 0) n.widths.length) := by simpa using c141
 refine .sk 21 rfl rfl rfl rfl (.sk 22 rfl rfl rfl rfl (.sk 23 rfl rfl rfl rfl ?_))
 refine .sk 24 rfl rfl rfl rfl (.sk 25 rfl rfl rfl rfl (.sk 26 rfl rfl rfl rfl ?_))
 refine .sk 27 rfl rfl rfl rfl (.sk 28 rfl rfl rfl rfl (.sk 29 rfl rfl rfl rfl ?_))
 refine AQ.nil (AAny.skipOp 30 rfl (by kernel_rfl) rfl (by decide) (by decide) rfl rfl (AAny.skipOp 31 rfl (by kernel_rfl) rfl (by decide) (by decide) rfl rfl ?_))
 refine AAny.skipOp 32 rfl (by kernel_rfl) rfl (by decide) (by decide) rfl rfl (AAny.quietN (n := 0) [33, 34, 35, 36, 37, 38, 39, 40, 41, 42, 43, 44, 45, 46] [] 0 rfl (by kernel_rfl) (.cn 33 rfl (Y.pick rfl rfl rfl) ?_))
 refine .cn 34 rfl (Y.move rfl rfl) (.sk 35 rfl rfl rfl rfl (.sk 36 rfl rfl rfl rfl ?_))
 refine .sk 37 rfl rfl rfl rfl (.sk 38 rfl rfl rfl rfl (.sk 39 rfl rfl rfl rfl ?_))
 refine .sk 40 rfl rfl rfl rfl (.sk 41 rfl rfl rfl rfl (.sk 42 rfl rfl rfl rfl ?_))
 refine .sk 43 rfl rfl rfl rfl (.sk 44 rfl rfl rfl rfl (.sk 45 rfl rfl rfl rfl ?_))
 refine .cn 46 rfl (Y.pick rfl rfl rfl) (AQ.nil (AAny.done (by kernel_rfl) ?_))
 refine AWp.condT rfl (AWp.sr ?_)
 refine .an ?_
 refine AOps.nil (AWp.ret ?_)
 exact .rb rfl (df (fun h => by have h1 := h.strs n116_17 (by omega); unfold StrOK at h1; obtain ⟨a1, a2, a3, a4, a5⟩ := h1; first | contradiction | grind))
 replace c141 : In (n.active.getD n116_17 0) n.widths.length := by simpa using c141
 refine .rn 21 rfl rfl rfl (Y.fieldAddr fl83_2 rfl rfl) (.rn 22 rfl rfl rfl (Y.load sh4 rfl rfl rfl rfl) (.rn 23 rfl rfl rfl (Y.move rfl rfl) ?_))
 refine AQ.split (d := 144) rfl (fun c144 => ?_) (fun c144 => ?_)
 refine .rn 24 rfl rfl rfl (Y.load sh45 rfl rfl rfl rfl) (.rn 25 rfl rfl rfl (Y.fieldAddr fl27_7 rfl rfl) (.rn 26 rfl rfl rfl (Y.load sh22 rfl rfl rfl rfl) ?_))
 refine .rn 27 rfl rfl rfl (Y.move rfl rfl) ?_
 refine .rn 28 rfl rfl rfl (Y.indexF (m := n116_17) sl22 rfl rfl (by first | rfl | omega) (row_getD (d := 0) (by omega))) ?_
 refine .rn 29 rfl rfl rfl (Y.load sh3 rfl rfl rfl rfl) (AQ.nil (AAny.one 30 rfl (by kernel_rfl) ?_))
 refine AOps.guardRun (d := 144) rfl (by decide) rfl (AOps.callCP rfl ok94 (formed1_spec (i := (n.data.getD n116_17 0))) rfl (.keep rfl rfl (.keep rfl rfl .nil)) (by decide) rfl ?_)
 refine AOps.nil ⟨rfl, ?_⟩
 refine AAny.quietN (n := 0) [31, 32, 33, 34, 35, 36, 37, 38, 39, 40, 41, 42, 43, 44, 45, 46] [] 0 rfl (by kernel_rfl) (.rn 31 rfl rfl rfl (Y.not rfl) (.rn 32 rfl rfl rfl (Y.pick rfl rfl rfl) ?_))
 refine .cn 33 rfl (Y.pick rfl rfl rfl) (.cn 34 rfl (Y.move rfl rfl) ?_)
 refine AQ.split (d := 155) rfl (fun c155 => ?_) (fun c155 => ?_)
 replace c155 : ¬ (In (n.data.getD n116_17 0) n.widths.length) := by simpa using c155
 refine .sk 35 rfl rfl rfl rfl (.sk 36 rfl rfl rfl rfl (.sk 37 rfl rfl rfl rfl ?_))
 refine .sk 38 rfl rfl rfl rfl (.sk 39 rfl rfl rfl rfl (.sk 40 rfl rfl rfl rfl ?_))
 refine .sk 41 rfl rfl rfl rfl (.sk 42 rfl rfl rfl rfl (.sk 43 rfl rfl rfl rfl ?_))
 refine .sk 44 rfl rfl rfl rfl (.sk 45 rfl rfl rfl rfl (.cn 46 rfl (Y.pick rfl rfl rfl) ?_))
 refine AQ.nil (AAny.done (by kernel_rfl) (AWp.condT rfl ?_))
 refine AWp.sr ?_
 refine .an ?_
 refine AOps.nil (AWp.ret ?_)
 exact .rb rfl (df (fun h => by have h1 := h.strs n116_17 (by omega); unfold StrOK at h1; obtain ⟨a1, a2, a3, a4, a5⟩ := h1; first | contradiction | grind))
 replace c155 : In (n.data.getD n116_17 0) n.widths.length := by simpa using c155
 refine .rn 35 rfl rfl rfl (Y.fieldAddr fl83_2 rfl rfl) (.rn 36 rfl rfl rfl (Y.load sh4 rfl rfl rfl rfl) (.rn 37 rfl rfl rfl (Y.not rfl) ?_))
 refine .rn 38 rfl rfl rfl (Y.move rfl rfl) ?_
 refine AQ.split (d := 159) rfl (fun c159 => ?_) (fun c159 => ?_)
 replace c159 : ((n.streams.getD n116_17 default).out) = false := by simpa using c159
 refine .rn 39 rfl rfl rfl (Y.fieldAddr fl27_7 rfl rfl) (.rn 40 rfl rfl rfl (Y.load sh22 rfl rfl rfl rfl) (.rn 41 rfl rfl rfl (Y.move rfl rfl) ?_))
 refine .rn 42 rfl rfl rfl (Y.indexF (m := n116_17) sl22 rfl rfl (by first | rfl | omega) (row_getD (d := 0) (by omega))) ?_
 refine .rn 43 rfl rfl rfl (Y.load sh3 rfl rfl rfl rfl) (.rn 44 rfl rfl rfl (Y.neq rfl rfl) (.rn 45 rfl rfl rfl (Y.pick rfl rfl rfl) ?_))
 refine .cn 46 rfl (Y.pick rfl rfl rfl) (AQ.nil (AAny.done (by kernel_rfl) ?_))
 refine AWp.condD rfl (fun c167 => ?_) (fun c167 => ?_)
 refine AWp.sr ?_
 refine .an ?_
 refine AOps.nil (AWp.ret ?_)
 exact .rb rfl (df (fun h => by have h1 := h.strs n116_17 (by omega); unfold StrOK at h1; obtain ⟨a1, a2, a3, a4, a5⟩ := h1; first | contradiction | grind))
 refine AWp.skip ?_
 exact ⟨true, (!decide (In (n.data.getD n116_17 0) n.widths.length)), true, decide ((n.data.getD n116_17 0) ≠ (-1)), by unfold StrOK; grind, Le.mk (.c (.c (.c (.c (.c (.c (.c (.c (.c (.c (.c (.c (.c (.c (.c (.c (.c (.c (.c (.cons (look_bool rfl (by first | rfl | simp_all)) (.cons (look_bool rfl (by first | rfl | simp_all)) (.c (.c (.c (.cons (look_bool rfl (by first | rfl | simp_all)) (.cons (look_bool rfl (by first | rfl | simp_all)) (.nil))))))))))))))))))))))))))) (.c (.nil))⟩
 replace c159 : ((n.streams.getD n116_17 default).out) = true := by simpa using c159
 refine .sk 39 rfl rfl rfl rfl (.sk 40 rfl rfl rfl rfl (.sk 41 rfl rfl rfl rfl ?_))
 refine .sk 42 rfl rfl rfl rfl (.sk 43 rfl rfl rfl rfl (.sk 44 rfl rfl rfl rfl ?_))
 refine .rn 45 rfl rfl rfl (Y.pick rfl rfl rfl) (.cn 46 rfl (Y.pick rfl rfl rfl) (AQ.nil ?_))
 refine AAny.done (by kernel_rfl) (AWp.condF rfl (AWp.skip ?_))
 exact ⟨true, (!decide (In (n.data.getD n116_17 0) n.widths.length)), false, false, by unfold StrOK; grind, Le.mk (.c (.c (.c (.c (.c (.c (.c (.c (.c (.c (.c (.c (.c (.c (.c (.c (.c (.c (.c (.cons (look_bool rfl (by first | rfl | simp_all)) (.cons (look_bool rfl (by first | rfl | simp_all)) (.c (.c (.c (.cons (look_bool rfl (by first | rfl | simp_all)) (.cons (look_bool rfl (by first | rfl | simp_all)) (.nil))))))))))))))))))))))))))) (.c (.nil))⟩
 refine .sk 24 rfl rfl rfl rfl (.sk 25 rfl rfl rfl rfl (.sk 26 rfl rfl rfl rfl ?_))
 refine .sk 27 rfl rfl rfl rfl (.sk 28 rfl rfl rfl rfl (.sk 29 rfl rfl rfl rfl ?_))
 refine AQ.nil (AAny.skipOp 30 rfl (by kernel_rfl) rfl (by decide) (by decide) rfl rfl (AAny.skipOp 31 rfl (by kernel_rfl) rfl (by decide) (by decide) rfl rfl ?_))
 refine AAny.quietN (n := 0) [32, 33, 34, 35, 36, 37, 38, 39, 40, 41, 42, 43, 44, 45, 46] [] 0 rfl (by kernel_rfl) (.rn 32 rfl rfl rfl (Y.pick rfl rfl rfl) (.cn 33 rfl (Y.pick rfl rfl rfl) ?_))
 refine .cn 34 rfl (Y.move rfl rfl) (.rn 35 rfl rfl rfl (Y.fieldAddr fl83_2 rfl rfl) (.rn 36 rfl rfl rfl (Y.load sh4 rfl rfl rfl rfl) ?_))
 refine .rn 37 rfl rfl rfl (Y.not rfl) (.rn 38 rfl rfl rfl (Y.move rfl rfl) ?_)
 refine AQ.split (d := 159) rfl (fun c159 => ?_) (fun c159 => ?_)
 replace c159 : ((n.streams.getD n116_17 default).out) = false := by simpa using c159
 refine .rn 39 rfl rfl rfl (Y.fieldAddr fl27_7 rfl rfl) (.rn 40 rfl rfl rfl (Y.load sh22 rfl rfl rfl rfl) (.rn 41 rfl rfl rfl (Y.move rfl rfl) ?_))
 refine .rn 42 rfl rfl rfl (Y.indexF (m := n116_17) sl22 rfl rfl (by first | rfl | omega) (row_getD (d := 0) (by omega))) ?_
 refine .rn 43 rfl rfl rfl (Y.load sh3 rfl rfl rfl rfl) (.rn 44 rfl rfl rfl (Y.neq rfl rfl) (.rn 45 rfl rfl rfl (Y.pick rfl rfl rfl) ?_))
 refine .cn 46 rfl (Y.pick rfl rfl rfl) (AQ.nil (AAny.done (by kernel_rfl) ?_))
 refine AWp.condD rfl (fun c167 => ?_) (fun c167 => ?_)
 refine AWp.sr ?_
 refine .an ?_
 refine AOps.nil (AWp.ret ?_)
 exact .rb rfl (df (fun h => by have h1 := h.strs n116_17 (by omega); unfold StrOK at h1; obtain ⟨a1, a2, a3, a4, a5⟩ := h1; first | contradiction | grind))
 refine AWp.skip ?_
 exact ⟨false, false, true, decide ((n.data.getD n116_17 0) ≠ (-1)), by unfold StrOK; grind, Le.mk (.c (.c (.c (.c (.c (.c (.c (.c (.c (.c (.c (.c (.c (.c (.c (.c (.c (.c (.c (.cons (look_bool rfl (by first | rfl | simp_all)) (.cons (look_bool rfl (by first | rfl | simp_all)) (.c (.c (.c (.cons (look_bool rfl (by first | rfl | simp_all)) (.cons (look_bool rfl (by first | rfl | simp_all)) (.nil))))))))))))))))))))))))))) (.c (.nil))⟩
 replace c159 : ((n.streams.getD n116_17 default).out) = true := by simpa using c159
 refine .sk 39 rfl rfl rfl rfl (.sk 40 rfl rfl rfl rfl (.sk 41 rfl rfl rfl rfl ?_))
 refine .sk 42 rfl rfl rfl rfl (.sk 43 rfl rfl rfl rfl (.sk 44 rfl rfl rfl rfl ?_))
 refine .rn 45 rfl rfl rfl (Y.pick rfl rfl rfl) (.cn 46 rfl (Y.pick rfl rfl rfl) (AQ.nil ?_))
 refine AAny.done (by kernel_rfl) (AWp.condF rfl (AWp.skip ?_))
 exact ⟨false, false, false, false, by unfold StrOK; grind, Le.mk (.c (.c (.c (.c (.c (.c (.c (.c (.c (.c (.c (.c (.c (.c (.c (.c (.c (.c (.c (.cons (look_bool rfl (by first | rfl | simp_all)) (.cons (look_bool rfl (by first | rfl | simp_all)) (.c (.c (.c (.cons (look_bool rfl (by first | rfl | simp_all)) (.cons (look_bool rfl (by first | rfl | simp_all)) (.nil))))))))))))))))))))))))))) (.c (.nil))⟩
 refine AWp.region ?_
 refine .vl (Y.addI rfl rfl (by omega)) ?_
 refine .mv ?_
 refine AOps.nil ?_
 exact ⟨n116_17 + 1, ⟨by omega, below_succ' hst hJ21⟩, by omega, Le.mk (.c (.c (.c (.c (.cons (look_int rfl (by first | rfl | omega)) (.nil)))))) (.nil)⟩
 refine AWp.exit (AWp.seq (AWp.sr ?_))
 refine .ld sh45 ?_
 refine .fa fl27_8 ?_
 refine .ld sh3 ?_
 refine AOps.callCP rfl ok94 (formed1_spec (i := n.freeze)) rfl (.keep rfl rfl (.keep rfl rfl .nil)) (by decide) rfl (.vl (Y.not rfl) ?_)
 refine .mv ?_
 refine AOps.split (d := 174) rfl (fun c174 => ?_) (fun c174 => ?_)
 replace c174 : ¬ (In n.freeze n.widths.length) := by simpa using c174
 refine .gz 174 (.gz 174 (.gz 174 ?_))
 refine .gz 174 (.gz 174 ?_)
 refine .pk ?_
 refine .mv ?_
 refine .gz 181 (.gz 181 (.gz 181 ?_))
 refine .gz 181 ?_
 refine .pk ?_
 refine AOps.nil (AWp.condT rfl (AWp.sr ?_))
 refine .an ?_
 refine AOps.nil (AWp.ret ?_)
 exact .rb rfl (df (fun h => by have h1 := h.freeze; have h2 := h.done; contradiction))
 replace c174 : In n.freeze n.widths.length := by simpa using c174
 refine .gw 174 (Y.load sh45 rfl rfl rfl rfl) (.gw 174 (Y.fieldAddr fl27_9 rfl rfl) (.gw 174 (Y.load sh3 rfl rfl rfl rfl) ?_))
 refine AOps.guardRun (d := 174) rfl (by decide) rfl (AOps.callCP rfl ok94 (formed1_spec (i := n.done)) rfl (.keep rfl rfl (.keep rfl rfl .nil)) (by decide) rfl (.gw 174 (Y.not rfl) ?_))
 refine .pk ?_
 refine .mv ?_
 refine AOps.split (d := 181) rfl (fun c181 => ?_) (fun c181 => ?_)
 replace c181 : ¬ (In n.done n.widths.length) := by simpa using c181
 refine .gz 181 (.gz 181 (.gz 181 ?_))
 refine .gz 181 ?_
 refine .pk ?_
 refine AOps.nil (AWp.condT rfl (AWp.sr ?_))
 refine .an ?_
 refine AOps.nil (AWp.ret ?_)
 exact .rb rfl (df (fun h => by have h1 := h.freeze; have h2 := h.done; contradiction))
 replace c181 : In n.done n.widths.length := by simpa using c181
 refine .gw 181 (Y.fieldAddr fl27_10 rfl rfl) (.gw 181 (Y.load sh22 rfl rfl rfl rfl) (.gw 181 (Y.makeFunc rfl rfl rfl rfl) ?_))
 refine AOps.guardRun (d := 181) rfl (by decide) rfl ?_
 refine AOps.callP ok95 (containsFuncInt_spec (l := n.rets) (p := fun z => !decide (In z n.widths.length)) ((by omega)) ok96 (fun z _ => formed2_spec)) rfl (.keep rfl rfl (.keep rfl rfl .nil)) (by decide) rfl ?_
 refine .pk ?_
 refine AOps.nil ?_
 refine AWp.cond rfl (fun c186 => ?_) (fun c186 => ?_)
 refine AWp.sr ?_
 refine .an ?_
 refine AOps.nil (AWp.ret ?_)
 exact .rb rfl (df (fun h => absurd h.rets (any_not.1 (by assumption))))
 refine AWp.skip (AWp.sr ?_)
 refine .fa fl27_1 ?_
 refine .ld sh22 ?_
 refine .vl (Y.len (n := n.widths.length) sl22 rfl (congrArg some (List.length_map ..))) ?_
 refine AOps.makeSlice (n := n.widths.length) sl63 ze4 rfl rfl rfl rfl (by omega) (by omega) (by decide) ?_
 refine AOps.assignX rfl (by decide) (AOps.sh (Sh.adoptE (d := 10) (n := n.widths.length) 110 ((List.replicate n.widths.length false).map brow) rfl (by first | rfl | exact rep_map rfl) (len_map (by simp)) (by decide)) (AOps.nil ?_))
 refine AWp.seq (AWp.sr ?_)
 refine .fa fl27_2 ?_
 refine .ld sh23 ?_
 refine .vl (Y.len (n := n.cells.length) sl23 rfl (congrArg some (List.length_map ..))) ?_
 refine .mv ?_
 refine AOps.nil (AWp.block ?_)
 refine AWp.loop2 (fun (n194_26 : Nat) (driven10_26 : List Bool) => ⟨[(1, .fp (Netlist.row n) 0), (7, .fp ([.clo (.func 94) [] [.fp (Netlist.row n) 0]]) 0), (10, .slc 110 1 0 n.widths.length), (192, .fz 6 (n.cells.map Cell.row)), (193, vi ((n.cells.length : Nat) : Int)), (194, vi (n194_26 : Int))], [(110, .rows 1 (driven10_26.map brow))]⟩) (fun (n194_26 : Nat) (driven10_26 : List Bool) => (driven10_26.length = n.widths.length) ∧ ((n194_26 : Int) ≤ ((n.cells.length : Nat) : Int)) ∧ (Drv n n194_26 driven10_26) ∧ (∀ j, j < n194_26 → CellOK n (n.cells.getD j default))) (fun (n194_26 : Nat) (driven10_26 : List Bool) => (((n.cells.length : Nat) : Int) - (n194_26 : Int)).toNat) 0 (List.replicate n.widths.length false) (⟨by first | omega | (simp [-List.getD_eq_getElem?_getD]; done) | (simp [-List.getD_eq_getElem?_getD]; omega) | (unfold In at *; omega), by first | omega | (simp [-List.getD_eq_getElem?_getD]; done) | (simp [-List.getD_eq_getElem?_getD]; omega) | (unfold In at *; omega), Drv.init n, fun j hj => by omega⟩) (Le.mk (.c (.c (.c (.c (.c (.cons (look_int rfl (by first | rfl | omega)) (.nil))))))) (.c (.nil))) (fun n194_26 driven10_26 hI26 => ?_)
 obtain ⟨hl110, hb26, hd, hc⟩ := hI26
 refine AWp.sr (.vl (Y.lss rfl rfl) (AOps.nil ?_))
 refine AWp.seq ?_
 refine AWp.condD rfl (fun c195 => ?_) (fun c195 => ?_)
 refine AWp.skip ?_
 refine AWp.join1 (fun (driven10_j36 : List Bool) => ⟨[(1, .fp (Netlist.row n) 0), (7, .fp ([.clo (.func 94) [] [.fp (Netlist.row n) 0]]) 0), (10, .slc 110 1 0 n.widths.length), (192, .fz 6 (n.cells.map Cell.row)), (193, vi ((n.cells.length : Nat) : Int)), (194, vi (n194_26 : Int)), (203, .agg [.v (.string n.name), .fz 1 (n.widths.map irow), .fz 6 (n.cells.map Cell.row), .fz 1 (n.ins.map irow), .fz 5 (n.mems.map Arr.row), .fz 3 (n.streams.map Strm.row), .fz 1 (n.active.map irow), .fz 1 (n.data.map irow), vi n.freeze, vi n.done, .fz 1 (n.rets.map irow)]), (204, .agg [vi ((n.cells.getD n194_26 default).kind), vi ((n.cells.getD n194_26 default).op), vi ((n.cells.getD n194_26 default).out), .fz 1 (((n.cells.getD n194_26 default).args).map irow), .v (.int .u64 (((n.cells.getD n194_26 default).num : Nat) : Int)), vi ((n.cells.getD n194_26 default).mem)]), (205, .v (.bool (decide (Shaped n (n.cells.getD n194_26 default))))), (206, .v (.bool (!decide (Shaped n (n.cells.getD n194_26 default)))))], [(110, .rows 1 (driven10_j36.map brow))]⟩) (fun (driven10_j36 : List Bool) => (driven10_j36.length = n.widths.length) ∧ (CellOK n (n.cells.getD n194_26 default) ∧ Drv n (n194_26 + 1) driven10_j36)) ?_ (fun driven10_j36 hJx36 => ?_)
 refine AWp.block (AWp.sr ?_)
 refine .vl (Y.indexF (m := n194_26) sl23 rfl rfl (by first | rfl | omega) (row_getD (d := default) (by omega))) ?_
 refine .vl (Y.loadA sh39 rfl rfl (Nat.le_of_ble_eq_true rfl) rfl rfl) (AOps.alloc 112 ze39 rfl rfl (by decide) (AOps.storeC si39 rfl rfl rfl rfl rfl rfl (Nat.le_of_ble_eq_true rfl) rfl ?_))
 refine AOps.nil (AWp.seq (AWp.sr ?_))
 have hca := hs.args (n.cells.getD n194_26 default) (getD_mem' (by omega))
 refine .fa fl39_3 ?_
 refine .ld sh22 ?_
 refine .vl (Y.makeFunc rfl rfl rfl rfl) ?_
 refine AOps.callP ok95 (containsFuncInt_spec (l := ((n.cells.getD n194_26 default).args)) (p := fun z => !decide (In z n.widths.length)) ((by omega)) ok97 (fun z _ => formed3_spec)) rfl (.keep rfl rfl (.keep rfl rfl .nil)) (by decide) rfl ?_
 refine .mv ?_
 refine AOps.split (d := 202) rfl (fun c202 => ?_) (fun c202 => ?_)
 refine .gz 202 (.gz 202 (.gz 202 ?_))
 refine .gz 202 ?_
 refine .pk ?_
 refine AOps.nil (AWp.condT rfl (AWp.sr ?_))
 refine .an ?_
 refine AOps.nil (AWp.ret ?_)
 exact .rb rfl (df (fun h => by have h1 := h.cells n194_26 (by omega); obtain ⟨a1, a2, a3, a4⟩ := h1; first | contradiction | exact absurd a1 (any_not.1 (by assumption)) | (have := a3 (by assumption); contradiction) | (have := a4 (by assumption); contradiction)))
 refine .gw 202 (Y.loadA sh27 rfl rfl (Nat.le_of_ble_eq_true rfl) rfl rfl) (.gw 202 (Y.loadA sh39 rfl rfl (Nat.le_of_ble_eq_true rfl) rfl rfl) (AOps.guardRun (d := 202) rfl (by decide) rfl ?_))
 refine AOps.callP ok98 (shaped_spec (n := n) (c := (n.cells.getD n194_26 default)) hs (by first | assumption | omega)) rfl (.keep rfl rfl (.keep rfl rfl .nil)) (by decide) rfl (.gw 202 (Y.not rfl) ?_)
 refine .pk ?_
 refine AOps.nil ?_
 refine AWp.cond rfl (fun c207 => ?_) (fun c207 => ?_)
 replace c207 : ¬ (Shaped n (n.cells.getD n194_26 default)) := by simpa using c207
 refine AWp.sr ?_
 refine .an ?_
 refine AOps.nil (AWp.ret ?_)
 exact .rb rfl (df (fun h => by have h1 := h.cells n194_26 (by omega); obtain ⟨a1, a2, a3, a4⟩ := h1; first | contradiction | exact absurd a1 (any_not.1 (by assumption)) | (have := a3 (by assumption); contradiction) | (have := a4 (by assumption); contradiction)))
 replace c207 : Shaped n (n.cells.getD n194_26 default) := by simpa using c207
 refine AWp.skip (AWp.seq (AWp.sr ?_))
 refine .fa fl39_0 ?_
 refine .ld sh3 ?_
 refine .vl (Y.eql rfl rfl) (AOps.nil ?_)
 refine AWp.condD rfl (fun c210 => ?_) (fun c210 => ?_)
 refine AWp.seq (AWp.sr ?_)
 refine .fa fl39_2 ?_
 refine .ld sh3 ?_
 refine .vl (Y.neq rfl rfl) (AOps.nil ?_)
 refine AWp.condD rfl (fun c213 => ?_) (fun c213 => ?_)
 refine AWp.sr ?_
 refine .an ?_
 refine AOps.nil (AWp.ret ?_)
 exact .rb rfl (df (fun h => by have h1 := h.cells n194_26 (by omega); obtain ⟨a1, a2, a3, a4⟩ := h1; first | contradiction | exact absurd a1 (any_not.1 (by assumption)) | (have := a3 (by assumption); contradiction) | (have := a4 (by assumption); contradiction)))
 refine AWp.skip (AWp.exit ?_)
 exact ⟨driven10_26, ⟨by omega, ⟨⟨any_not_false (by assumption), by assumption, fun _ => by omega, fun h => absurd (by assumption) h⟩, hd.skip (by omega) (by assumption)⟩⟩, Le.mk (.c (.c (.c (.c (.c (.c (.c (.c (.c (.c (.nil))))))))))) (.c (.nil))⟩
 refine AWp.skip (AWp.seq (AWp.sr ?_))
 refine .ld sh45 ?_
 refine .fa fl39_2 ?_
 refine .ld sh3 ?_
 refine AOps.callCP rfl ok94 (formed1_spec (i := ((n.cells.getD n194_26 default).out))) rfl (.keep rfl rfl (.keep rfl rfl .nil)) (by decide) rfl (.vl (Y.not rfl) ?_)
 refine .mv ?_
 refine AOps.split (d := 219) rfl (fun c219 => ?_) (fun c219 => ?_)
 replace c219 : ¬ (In ((n.cells.getD n194_26 default).out) n.widths.length) := by simpa using c219
 refine .gz 219 (.gz 219 (.gz 219 ?_))
 refine .gz 219 (.gz 219 ?_)
 refine .pk ?_
 refine AOps.nil (AWp.condT rfl (AWp.sr ?_))
 refine .an ?_
 refine AOps.nil (AWp.ret ?_)
 exact .rb rfl (df (fun h => by have h1 := h.cells n194_26 (by omega); obtain ⟨a1, a2, a3, a4⟩ := h1; first | contradiction | exact absurd a1 (any_not.1 (by assumption)) | (have := a3 (by assumption); contradiction) | (have := a4 (by assumption); contradiction)))
 replace c219 : In ((n.cells.getD n194_26 default).out) n.widths.length := by simpa using c219
 refine .gw 219 (Y.move rfl rfl) (.gw 219 (Y.fieldAddr fl39_2 rfl rfl) (.gw 219 (Y.load sh3 rfl rfl rfl rfl) ?_))
 refine .gw 219 (Y.indexO (m := ((n.cells.getD n194_26 default).out).toNat) sl63 rfl rfl (by first | omega | (simp [-List.getD_eq_getElem?_getD]; done) | (simp [-List.getD_eq_getElem?_getD]; omega) | (unfold In at *; omega)) (by first | omega | (simp [-List.getD_eq_getElem?_getD]; done) | (simp [-List.getD_eq_getElem?_getD]; omega) | (unfold In at *; omega))) ?_
 refine .gw 219 (Y.load sh4 rfl (row_getD0 (d := false) (by first | omega | (simp [-List.getD_eq_getElem?_getD]; done) | (simp [-List.getD_eq_getElem?_getD]; omega) | (unfold In at *; omega))) rfl rfl) ?_
 refine .pk ?_
 refine AOps.nil ?_
 refine AWp.cond rfl (fun c225 => ?_) (fun c225 => ?_)
 refine AWp.sr ?_
 refine .an ?_
 refine AOps.nil (AWp.ret ?_)
 exact .rb rfl (df (fun h => Drv.dup hd (by omega) (by assumption) (by assumption) (by assumption) h))
 refine AWp.skip (AWp.region ?_)
 refine .mv ?_
 refine .fa fl39_2 ?_
 refine .ld sh3 ?_
 refine .vl (Y.indexO (m := ((n.cells.getD n194_26 default).out).toNat) sl63 rfl rfl (by first | omega | (simp [-List.getD_eq_getElem?_getD]; done) | (simp [-List.getD_eq_getElem?_getD]; omega) | (unfold In at *; omega)) (by first | omega | (simp [-List.getD_eq_getElem?_getD]; done) | (simp [-List.getD_eq_getElem?_getD]; omega) | (unfold In at *; omega))) ?_
 refine AOps.storeE ((driven10_26.set (((n.cells.getD n194_26 default).out).toNat) true).map brow) si4 rfl rfl rfl rfl rfl rfl rfl (row_getD0 (d := false) (by first | omega | (simp [-List.getD_eq_getElem?_getD]; done) | (simp [-List.getD_eq_getElem?_getD]; omega) | (unfold In at *; omega))) (Nat.le_of_ble_eq_true rfl) (set_map0 rfl) ?_
 refine AOps.nil ?_
 exact ⟨driven10_26.set (((n.cells.getD n194_26 default).out).toNat) true, ⟨by first | omega | (simp [-List.getD_eq_getElem?_getD]; done) | (simp [-List.getD_eq_getElem?_getD]; omega) | (unfold In at *; omega), ⟨⟨any_not_false (by assumption), by assumption, fun h => absurd h (by assumption), fun _ => by assumption⟩, hd.step (by omega) (by assumption) (by assumption) hl110 (by assumption)⟩⟩, Le.mk (.c (.c (.c (.c (.c (.c (.c (.c (.c (.c (.nil))))))))))) (.c (.nil))⟩
 obtain ⟨hlj36_110, hJ36⟩ := hJx36
 refine AWp.region ?_
 refine .vl (Y.addI rfl rfl (by omega)) ?_
 refine .mv ?_
 refine AOps.nil ?_
 exact ⟨n194_26 + 1, driven10_j36, ⟨by omega, by omega, hJ36.2, below_succ' hc hJ36.1⟩, by omega, Le.mk (.c (.c (.c (.c (.c (.cons (look_int rfl (by first | rfl | omega)) (.nil))))))) (.c (.nil))⟩
 refine AWp.exit (AWp.sr ?_)
 refine .mv ?_
 refine AOps.callLP [110] ok99 (containsBool_spec (l := driven10_26) (b := false) ((by omega))) rfl (.lend rfl rfl (lend_le (by omega)) (lend_eq (by omega)) (.keep rfl rfl .nil)) (lend1 rfl (owns_map brow_frees)) (by decide) rfl trivial ?_
 refine .vl (Y.not rfl) ?_
 refine .an ?_
 refine AOps.nil (AWp.ret ?_)
 exact .rb rfl (db ((Drv.all (d := driven10_26) (by rw [show n.cells.length = n194_26 by omega]; exact hd) hl110).trans ⟨fun h => ⟨by assumption, by omega, by omega, by omega, by omega, by omega, by omega, fun j hj => by have := hw j (by rw [List.length_append] at hj; omega); rw [hcat] at this; exact this, fun j hj => hm j (by omega), fun j hj => hst j (by omega), by assumption, by assumption, any_not_false (by assumption), fun j hj => hc j (by omega), h⟩, fun h => h.driven⟩))
end Go.Proofs.Ytligpghohcfpnaa
/- The walk through fits. -/
namespace Go.Proofs.Ytligpghohcfpnaa
open Go Go.AW Go.Proofs
theorem fits_spec {n : Netlist} {c : Cell} (hs : n.Small) (hc : c.args.length ≤ 17592186043904) (hn : c.num < 18446744073709551616) (hsh : Shaped n c) (hw : Wired n c) : ACalls Try.prog 102 [.agg (Netlist.row n), .agg (Cell.row c)] [] [] (fun r o => r = .v (.bool (decide (Fits n c))) ∧ o = []) := by
 refine ACalls.of Try.func102 rfl rfl rfl (n := 239) (by decide) (Nat.le_of_ble_eq_true rfl) ?_
 have hs4 := hs.ins; have hs5 := hs.mems; have hs6 := hs.streams; have ho := hw.out; have hs1 := hs.widths
 refine AWp.sr (AOps.box 102 rfl rfl rfl rfl rfl (by decide) (AOps.box 103 rfl rfl rfl rfl rfl (by decide) ?_))
 refine .an ?_
 refine AOps.nil (AWp.sr ?_)
 refine .an ?_
 refine AOps.nil ?_
 refine AWp.join1 (fun (w5_j4 : Int) => ⟨[(2, .ptr 102 0 0 0), (3, .ptr 103 0 0 0), (5, vi w5_j4)], [(102, .cells (Netlist.row n)), (103, .cells (Cell.row c))]⟩) (fun (w5_j4 : Int) => w5_j4 = n.ow c) ?_ (fun w5_j4 hJ4 => ?_)
 refine AWp.sr ?_
 refine .fa fl39_2 ?_
 refine .ld sh3 ?_
 refine .vl (Y.geq rfl rfl) (AOps.nil ?_)
 refine AWp.condD rfl (fun c13 => ?_) (fun c13 => ?_)
 refine AWp.region ?_
 refine .fa fl27_1 ?_
 refine .ld sh22 ?_
 refine .fa fl39_2 ?_
 refine .ld sh3 ?_
 refine .vl (Y.indexF (m := (c.out).toNat) sl22 rfl rfl (by omega) (row_getD (d := 0) (by omega))) ?_
 refine .ld sh3 ?_
 refine .an ?_
 refine AOps.nil ?_
 exact ⟨n.widths.getD ((c.out).toNat) 0, by unfold Netlist.ow Netlist.wd; rw [if_pos c13], Le.mk (.c (.c (.cons (look_int rfl (by first | rfl | omega)) (.nil)))) (.c (.c (.nil)))⟩
 refine AWp.skip ?_
 exact ⟨0, by unfold Netlist.ow; rw [if_neg c13], Le.mk (.c (.c (.cons (look_int rfl (by first | rfl | omega)) (.nil)))) (.c (.c (.nil)))⟩
 refine AWp.sr ?_
 refine .fa fl39_3 ?_
 refine .ld sh22 ?_
 refine .vl (Y.len (n := c.args.length) sl22 rfl (congrArg some (List.length_map ..))) ?_
 refine AOps.makeSlice (n := c.args.length) sl22 ze3 rfl rfl rfl rfl (by omega) (by omega) (by decide) ?_
 refine AOps.assignX rfl (by decide) (AOps.sh (Sh.adoptE (d := 6) (n := c.args.length) 106 ((List.replicate c.args.length 0).map irow) rfl (by first | rfl | exact rep_map rfl) (len_map (by simp)) (by decide)) (AOps.nil ?_))
 refine AWp.seq (AWp.sr ?_)
 refine .fa fl39_3 ?_
 refine .ld sh22 ?_
 refine .vl (Y.len (n := c.args.length) sl22 rfl (congrArg some (List.length_map ..))) ?_
 refine .mv ?_
 refine AOps.nil (AWp.block ?_)
 refine AWp.loop2 (fun (n27_6 : Nat) (a6_6 : List Int) => ⟨[(2, .ptr 102 0 0 0), (3, .ptr 103 0 0 0), (5, vi w5_j4), (6, .slc 106 1 0 c.args.length), (25, .fz 1 (c.args.map irow)), (26, vi ((c.args.length : Nat) : Int)), (27, vi (n27_6 : Int))], [(102, .cells (Netlist.row n)), (103, .cells (Cell.row c)), (106, .rows 1 (a6_6.map irow))]⟩) (fun (n27_6 : Nat) (a6_6 : List Int) => (a6_6.length = c.args.length) ∧ ((n27_6 : Int) ≤ ((c.args.length : Nat) : Int)) ∧ (∀ j, j < n27_6 → a6_6.getD j 0 = n.av c j)) (fun (n27_6 : Nat) (a6_6 : List Int) => (((c.args.length : Nat) : Int) - (n27_6 : Int)).toNat) 0 (List.replicate c.args.length 0) (⟨by first | omega | (simp [-List.getD_eq_getElem?_getD]; done) | (simp [-List.getD_eq_getElem?_getD]; omega), by first | omega | (simp [-List.getD_eq_getElem?_getD]; done) | (simp [-List.getD_eq_getElem?_getD]; omega), fun j hj => by omega⟩) (Le.mk (.c (.c (.c (.c (.c (.c (.cons (look_int rfl (by first | rfl | omega)) (.nil)))))))) (.c (.c (.c (.nil))))) (fun n27_6 a6_6 hI6 => ?_)
 obtain ⟨hl106, hb6, ha⟩ := hI6
 refine AWp.sr (.vl (Y.lss rfl rfl) (AOps.nil ?_))
 refine AWp.seq ?_
 refine AWp.condD rfl (fun c28 => ?_) (fun c28 => ?_)
 refine AWp.skip (AWp.seq (AWp.block ?_))
 refine AWp.sr ?_
 refine .mv ?_
 refine .vl (Y.indexF (m := n27_6) sl22 rfl rfl (by first | rfl | omega) (row_getD (d := 0) (by omega))) ?_
 refine .ld sh3 ?_
 refine .an ?_
 refine .an ?_
 refine AOps.nil (AWp.region ?_)
 have hwa := hw.arg (k := n27_6) (by omega)
 refine .mv ?_
 refine .mv ?_
 refine .fa fl27_1 ?_
 refine .ld sh22 ?_
 refine .mv ?_
 refine .vl (Y.indexF (m := (c.args.getD n27_6 0).toNat) sl22 rfl rfl (by omega) (row_getD (d := 0) (by omega))) ?_
 refine .ld sh3 ?_
 refine .vl (Y.indexO (m := n27_6) sl22 rfl rfl (by first | rfl | omega) (by omega)) ?_
 refine AOps.storeE ((a6_6.set n27_6 (n.widths.getD ((c.args.getD n27_6 0).toNat) 0)).map irow) si3 rfl rfl rfl rfl rfl rfl rfl (row_getD0 (d := 0) (by omega)) (Nat.le_of_ble_eq_true rfl) (set_map0 rfl) ?_
 refine AOps.nil (AWp.region ?_)
 refine .vl (Y.addI rfl rfl (by omega)) ?_
 refine .mv ?_
 refine AOps.nil ?_
 exact ⟨n27_6 + 1, a6_6.set n27_6 (n.widths.getD ((c.args.getD n27_6 0).toNat) 0), ⟨by first | omega | (simp [-List.getD_eq_getElem?_getD]; done) | (simp [-List.getD_eq_getElem?_getD]; omega), by first | omega | (simp [-List.getD_eq_getElem?_getD]; done) | (simp [-List.getD_eq_getElem?_getD]; omega), fill_succ ha rfl (by omega)⟩, by omega, Le.mk (.c (.c (.c (.c (.c (.c (.cons (look_int rfl (by first | rfl | omega)) (.nil)))))))) (.c (.c (.c (.nil))))⟩
 refine AWp.exit (AWp.seq (AWp.seq ?_))
 have ha0 : 0 < c.args.length → a6_6.getD 0 0 = n.av c 0 := fun h => ha 0 (by omega)
 have ha1 : 1 < c.args.length → a6_6.getD 1 0 = n.av c 1 := fun h => ha 1 (by omega)
 have ha2 : 2 < c.args.length → a6_6.getD 2 0 = n.av c 2 := fun h => ha 2 (by omega)
 refine AWp.region ?_
 refine .fa fl39_0 ?_
 refine .ld sh3 ?_
 refine AOps.nil (AWp.block (AWp.sr ?_))
 refine .vl (Y.eql rfl rfl) ?_
 refine .an ?_
 refine AOps.nil ?_
 refine AWp.condD rfl (fun c43 => ?_) (fun c43 => ?_)
 refine AWp.seq (AWp.regionAny rfl (AAny.blind 0 rfl (by kernel_rfl) (Blind.move rfl rfl) (by decide) ?_))
 refine AAny.blind 1 rfl (by kernel_rfl) (Blind.fieldAddr fl39_4 rfl rfl) (by decide) (AAny.blind 4 rfl (by kernel_rfl) (Blind.fieldAddr fl39_4 rfl rfl) (by decide) ?_)
 refine AAny.two 2 5 rfl rfl (by kernel_rfl) ?_ ?_
 refine .ld sh37 ?_
 refine AOps.nil ⟨rfl, ?_⟩
 refine AAny.two 3 5 rfl rfl (by kernel_rfl) ?_ ?_
 refine AOps.callP ok65 (bfit_spec (w := w5_j4) (x := c.num) ((by omega))) rfl (.keep rfl rfl (.keep rfl rfl .nil)) (by decide) rfl ?_
 refine AOps.nil ⟨rfl, ?_⟩
 refine AAny.quietN (n := 0) [5, 6, 7] [] 0 rfl (by kernel_rfl) (.cn 5 rfl (Y.load sh37 rfl rfl rfl rfl) (.cn 6 rfl (Y.eql rfl rfl) ?_))
 refine .cn 7 rfl (Y.assign rfl rfl) (AQ.nil (AAny.done (by kernel_rfl) ?_))
 refine AWp.ret ?_
 exact .rb rfl (dd (by (simp only [Fits, OpFits, Cmp, ← hJ4, c43, Int.reduceEq, Bool.not_eq_true, false_and, true_and, and_true, and_false, or_false, false_or, ne_eq]) <;> omega))
 refine .ld sh37 ?_
 refine AOps.nil ⟨rfl, ?_⟩
 refine AAny.one 3 rfl (by kernel_rfl) ?_
 refine AOps.callP ok65 (bfit_spec (w := w5_j4) (x := c.num) ((by omega))) rfl (.keep rfl rfl (.keep rfl rfl .nil)) (by decide) rfl ?_
 refine AOps.nil ⟨rfl, ?_⟩
 refine AAny.quietN (n := 0) [6, 7] [] 0 rfl (by kernel_rfl) (.cn 6 rfl (Y.eql rfl rfl) (.cn 7 rfl (Y.assign rfl rfl) ?_))
 refine AQ.nil (AAny.done (by kernel_rfl) (AWp.ret ?_))
 exact .rb rfl (dd (by (simp only [Fits, OpFits, Cmp, ← hJ4, c43, Int.reduceEq, Bool.not_eq_true, false_and, true_and, and_true, and_false, or_false, false_or, ne_eq]) <;> omega))
 refine .ld sh37 ?_
 refine AOps.nil ⟨rfl, ?_⟩
 refine AAny.quietN (n := 3) [2] [3, 6, 7] 3 rfl (by kernel_rfl) (.cn 2 rfl (Y.load sh37 rfl rfl rfl rfl) (AQ.nil ?_))
 refine AAny.one 3 rfl (by kernel_rfl) ?_
 refine AOps.callP ok65 (bfit_spec (w := w5_j4) (x := c.num) ((by omega))) rfl (.keep rfl rfl (.keep rfl rfl .nil)) (by decide) rfl ?_
 refine AOps.nil ⟨rfl, ?_⟩
 refine AAny.quietN (n := 0) [6, 7] [] 0 rfl (by kernel_rfl) (.cn 6 rfl (Y.eql rfl rfl) (.cn 7 rfl (Y.assign rfl rfl) ?_))
 refine AQ.nil (AAny.done (by kernel_rfl) (AWp.ret ?_))
 exact .rb rfl (dd (by (simp only [Fits, OpFits, Cmp, ← hJ4, c43, Int.reduceEq, Bool.not_eq_true, false_and, true_and, and_true, and_false, or_false, false_or, ne_eq]) <;> omega))
 refine AWp.sr (.vl (Y.eql rfl rfl) ?_)
 refine .an ?_
 refine AOps.nil ?_
 refine AWp.condD rfl (fun c52 => ?_) (fun c52 => ?_)
 have hk := hsh.k2 c52
 refine AWp.seq (AWp.sr ?_)
 refine .fa fl39_1 ?_
 refine .ld sh3 ?_
 refine AOps.nil (AWp.block (AWp.sr ?_))
 refine .vl (Y.eql rfl rfl) ?_
 refine .an ?_
 refine AOps.nil ?_
 refine AWp.condD rfl (fun c56 => ?_) (fun c56 => ?_)
 refine AWp.sr ?_
 refine .mv ?_
 refine .vl (Y.indexO (m := 0) sl22 rfl rfl (by first | rfl | omega) (by first | omega | simp [-List.getD_eq_getElem?_getD] <;> omega)) ?_
 refine .vl (Y.load sh3 rfl (row_getD0 (d := 0) (by omega)) rfl rfl) ?_
 refine .vl (Y.eql rfl rfl) ?_
 refine .mv ?_
 refine AOps.splitD (d := 62) rfl (fun c62 => ?_) (fun c62 => ?_)
 refine .gw 62 (Y.move rfl rfl) ?_
 refine .gw 62 (Y.indexO (m := 1) sl22 rfl rfl (by first | rfl | omega) (by omega)) ?_
 refine .gw 62 (Y.load sh3 rfl (row_getD0 (d := 0) (by omega)) rfl rfl) ?_
 refine .gw 62 (Y.move rfl rfl) (.gw 62 (Y.eql rfl rfl) ?_)
 refine .pk ?_
 refine .mv ?_
 refine AOps.splitD (d := 69) rfl (fun c69 => ?_) (fun c69 => ?_)
 refine .gw 69 (Y.move rfl rfl) ?_
 refine .gw 69 (Y.indexO (m := 2) sl22 rfl rfl (by first | rfl | omega) (by omega)) ?_
 refine .gw 69 (Y.load sh3 rfl (row_getD0 (d := 0) (by omega)) rfl rfl) ?_
 refine .gw 69 (Y.move rfl rfl) (.gw 69 (Y.eql rfl rfl) ?_)
 refine .pk ?_
 refine .an ?_
 refine AOps.nil (AWp.ret ?_)
 exact .rb rfl (dd (by (simp only [Fits, OpFits, Cmp, ← hJ4, c52, Int.reduceEq, Bool.not_eq_true, false_and, true_and, and_true, and_false, or_false, false_or, ne_eq]) <;> omega))
 refine .gz 69 (.gz 69 (.gz 69 ?_))
 refine .gz 69 (.gz 69 ?_)
 refine .pk ?_
 refine .an ?_
 refine AOps.nil (AWp.ret ?_)
 exact .rb rfl (df (by (simp only [Fits, OpFits, Cmp, ← hJ4, c52, Int.reduceEq, Bool.not_eq_true, false_and, true_and, and_true, and_false, or_false, false_or, ne_eq]) <;> omega))
 refine .gz 62 (.gz 62 (.gz 62 ?_))
 refine .gz 62 (.gz 62 ?_)
 refine .pk ?_
 refine .mv ?_
 refine .gz 69 (.gz 69 (.gz 69 ?_))
 refine .gz 69 (.gz 69 ?_)
 refine .pk ?_
 refine .an ?_
 refine AOps.nil (AWp.ret ?_)
 exact .rb rfl (df (by (simp only [Fits, OpFits, Cmp, ← hJ4, c52, Int.reduceEq, Bool.not_eq_true, false_and, true_and, and_true, and_false, or_false, false_or, ne_eq]) <;> omega))
 refine AWp.seq (AWp.sr (.vl (Y.eql rfl rfl) ?_))
 refine .an ?_
 refine AOps.nil ?_
 refine AWp.condKD rfl (fun c76 => ?_) (fun c76 => ?_)
 refine AWp.skip (AWp.condT rfl (AWp.sr ?_))
 refine .mv ?_
 refine .vl (Y.indexO (m := 0) sl22 rfl rfl (by first | rfl | omega) (by first | omega | simp [-List.getD_eq_getElem?_getD] <;> omega)) ?_
 refine .vl (Y.load sh3 rfl (row_getD0 (d := 0) (by omega)) rfl rfl) ?_
 refine .mv ?_
 refine .vl (Y.leq rfl rfl) ?_
 refine .an ?_
 refine AOps.nil (AWp.ret ?_)
 exact .rb rfl (dd (by (simp only [Fits, OpFits, Cmp, ← hJ4, c52, Int.reduceEq, Bool.not_eq_true, false_and, true_and, and_true, and_false, or_false, false_or, ne_eq]) <;> omega))
 refine AWp.region (.vl (Y.eql rfl rfl) ?_)
 refine .an ?_
 refine AOps.nil ?_
 refine AWp.condKD rfl (fun c76 => ?_) (fun c76 => ?_)
 refine AWp.sr ?_
 refine .mv ?_
 refine .vl (Y.indexO (m := 0) sl22 rfl rfl (by first | rfl | omega) (by first | omega | simp [-List.getD_eq_getElem?_getD] <;> omega)) ?_
 refine .vl (Y.load sh3 rfl (row_getD0 (d := 0) (by omega)) rfl rfl) ?_
 refine .mv ?_
 refine .vl (Y.leq rfl rfl) ?_
 refine .an ?_
 refine AOps.nil (AWp.ret ?_)
 exact .rb rfl (dd (by (simp only [Fits, OpFits, Cmp, ← hJ4, c52, Int.reduceEq, Bool.not_eq_true, false_and, true_and, and_true, and_false, or_false, false_or, ne_eq]) <;> omega))
 refine AWp.sr (.vl (Y.eql rfl rfl) ?_)
 refine .an ?_
 refine AOps.nil ?_
 refine AWp.condD rfl (fun c84 => ?_) (fun c84 => ?_)
 refine AWp.sr ?_
 refine .mv ?_
 refine .vl (Y.indexO (m := 0) sl22 rfl rfl (by first | rfl | omega) (by first | omega | simp [-List.getD_eq_getElem?_getD] <;> omega)) ?_
 refine .vl (Y.load sh3 rfl (row_getD0 (d := 0) (by omega)) rfl rfl) ?_
 refine .mv ?_
 refine .vl (Y.geq rfl rfl) ?_
 refine .an ?_
 refine AOps.nil (AWp.ret ?_)
 exact .rb rfl (dd (by (simp only [Fits, OpFits, Cmp, ← hJ4, c52, Int.reduceEq, Bool.not_eq_true, false_and, true_and, and_true, and_false, or_false, false_or, ne_eq]) <;> omega))
 refine AWp.skip (AWp.seq (AWp.sr ?_))
 refine .fa fl39_1 ?_
 refine .ld sh3 ?_
 refine AOps.callP ok74 (isCompare_spec (w := c.op)) rfl (.keep rfl rfl .nil) (by decide) rfl (AOps.nil ?_)
 refine AWp.condD rfl (fun c93 => ?_) (fun c93 => ?_)
 unfold Cmp at c93
 refine AWp.seq (AWp.regionS rfl (by kernel_rfl) (AHead.val (Y.move rfl rfl) (by decide) ?_))
 refine AHead.val (Y.eql rfl rfl) (by decide) (AHead.val (Y.move rfl rfl) (by decide) ?_)
 refine AHead.splitD (d := 96) rfl (fun c96 => ?_) (fun c96 => ?_)
 refine AHead.guardRun (d := 96) rfl (by decide) rfl (AHead.val (Y.move rfl rfl) (by decide) (AHead.guardRun (d := 96) rfl (by decide) rfl ?_))
 refine AHead.val (Y.indexO (m := 0) sl22 rfl rfl (by first | rfl | omega) (by omega)) (by decide) ?_
 refine AHead.guardRun (d := 96) rfl (by decide) rfl ?_
 refine AHead.val (Y.load sh3 rfl (row_getD0 (d := 0) (by omega)) rfl rfl) (by decide) ?_
 refine AHead.guardRun (d := 96) rfl (by decide) rfl (AHead.val (Y.move rfl rfl) (by decide) (AHead.guardRun (d := 96) rfl (by decide) rfl ?_))
 refine AHead.val (Y.indexO (m := 1) sl22 rfl rfl (by first | rfl | omega) (by omega)) (by decide) ?_
 refine AHead.guardRun (d := 96) rfl (by decide) rfl ?_
 refine AHead.val (Y.load sh3 rfl (row_getD0 (d := 0) (by omega)) rfl rfl) (by decide) ?_
 refine AHead.guardRun (d := 96) rfl (by decide) rfl (AHead.val (Y.eql rfl rfl) (by decide) (AHead.val (Y.pick rfl rfl rfl) (by decide) ?_))
 refine AHead.val (Y.assign rfl rfl) (by decide) (AHead.nil (AWp.ret ?_))
 exact .rb rfl (dd (by (simp only [Fits, OpFits, Cmp, ← hJ4, c52, Int.reduceEq, Bool.not_eq_true, false_and, true_and, and_true, and_false, or_false, false_or, ne_eq]) <;> omega))
 refine AHead.guardSkipV (d := 96) rfl (by decide) (by decide) rfl rfl (AHead.guardSkipV (d := 96) rfl (by decide) (by decide) rfl rfl (AHead.guardSkipV (d := 96) rfl (by decide) (by decide) rfl rfl ?_))
 refine AHead.guardSkipV (d := 96) rfl (by decide) (by decide) rfl rfl (AHead.guardSkipV (d := 96) rfl (by decide) (by decide) rfl rfl (AHead.guardSkipV (d := 96) rfl (by decide) (by decide) rfl rfl ?_))
 refine AHead.guardSkipV (d := 96) rfl (by decide) (by decide) rfl rfl (AHead.val (Y.pick rfl rfl rfl) (by decide) (AHead.val (Y.assign rfl rfl) (by decide) ?_))
 refine AHead.nil (AWp.ret ?_)
 exact .rb rfl (df (by (simp only [Fits, OpFits, Cmp, ← hJ4, c52, Int.reduceEq, Bool.not_eq_true, false_and, true_and, and_true, and_false, or_false, false_or, ne_eq]) <;> omega))
 unfold Cmp at c93
 refine AWp.skip (AWp.sr ?_)
 refine .mv ?_
 refine .vl (Y.indexO (m := 0) sl22 rfl rfl (by first | rfl | omega) (by first | omega | simp [-List.getD_eq_getElem?_getD] <;> omega)) ?_
 refine .vl (Y.load sh3 rfl (row_getD0 (d := 0) (by omega)) rfl rfl) ?_
 refine .mv ?_
 refine .vl (Y.eql rfl rfl) ?_
 refine .mv ?_
 refine AOps.splitD (d := 110) rfl (fun c110 => ?_) (fun c110 => ?_)
 refine .gw 110 (Y.move rfl rfl) ?_
 refine .gw 110 (Y.indexO (m := 1) sl22 rfl rfl (by first | rfl | omega) (by omega)) ?_
 refine .gw 110 (Y.load sh3 rfl (row_getD0 (d := 0) (by omega)) rfl rfl) ?_
 refine .gw 110 (Y.move rfl rfl) (.gw 110 (Y.eql rfl rfl) ?_)
 refine .pk ?_
 refine .an ?_
 refine AOps.nil (AWp.ret ?_)
 exact .rb rfl (dd (by (simp only [Fits, OpFits, Cmp, ← hJ4, c52, Int.reduceEq, Bool.not_eq_true, false_and, true_and, and_true, and_false, or_false, false_or, ne_eq]) <;> omega))
 refine .gz 110 (.gz 110 (.gz 110 ?_))
 refine .gz 110 (.gz 110 ?_)
 refine .pk ?_
 refine .an ?_
 refine AOps.nil (AWp.ret ?_)
 exact .rb rfl (df (by (simp only [Fits, OpFits, Cmp, ← hJ4, c52, Int.reduceEq, Bool.not_eq_true, false_and, true_and, and_true, and_false, or_false, false_or, ne_eq]) <;> omega))
 refine AWp.sr (.vl (Y.eql rfl rfl) ?_)
 refine .an ?_
 refine AOps.nil ?_
 refine AWp.condD rfl (fun c117 => ?_) (fun c117 => ?_)
 have hk := hsh.k3 c117
 refine AWp.seq (AWp.sr ?_)
 refine .mv ?_
 refine .vl (Y.len (n := c.args.length) sl22 rfl rfl) ?_
 refine .mv ?_
 refine AOps.nil (AWp.block ?_)
 refine AWp.loop1 (fun (n121_27 : Nat) => ⟨[(5, vi w5_j4), (119, .slc 106 1 0 c.args.length), (120, vi ((c.args.length : Nat) : Int)), (121, vi (n121_27 : Int))], [(106, .rows 1 (a6_6.map irow))]⟩) (fun (n121_27 : Nat) => ((n121_27 : Int) ≤ ((c.args.length : Nat) : Int)) ∧ (∀ k, k < n121_27 → MuxFit n c k)) (fun (n121_27 : Nat) => (((c.args.length : Nat) : Int) - (n121_27 : Int)).toNat) 0 (⟨by omega, fun k hk => by omega⟩) (Le.mk (.c (.c (.c (.cons (look_int rfl (by first | rfl | omega)) (.nil))))) (.c (.nil))) (fun n121_27 hI27 => ?_)
 obtain ⟨hb27, hm⟩ := hI27
 refine AWp.sr (.vl (Y.lss rfl rfl) (AOps.nil ?_))
 refine AWp.seq ?_
 refine AWp.condD rfl (fun c122 => ?_) (fun c122 => ?_)
 refine AWp.skip ?_
 refine AWp.join2 (fun (n137_j31 : Bool) (n141_j31 : Bool) => ⟨[(5, vi w5_j4), (119, .slc 106 1 0 c.args.length), (120, vi ((c.args.length : Nat) : Int)), (121, vi (n121_27 : Int)), (134, vi (n121_27 : Int)), (135, vi ((n121_27 : Int) % 2)), (136, .v (.bool (decide (((n121_27 : Int) % 2) = 1)))), (137, .v (.bool n137_j31)), (141, .v (.bool n141_j31))], [(106, .rows 1 (a6_6.map irow))]⟩) (fun (n137_j31 : Bool) (n141_j31 : Bool) => ((((n121_27 : Int) % 2) = 0) ∧ (¬ ((a6_6.getD n121_27 0) ≠ 1)) ∧ (((n121_27 : Int) % 2) = 1) ∧ (¬ ((a6_6.getD n121_27 0) ≠ w5_j4)) ∧ (n137_j31 = true) ∧ (n141_j31 = (decide ((a6_6.getD n121_27 0) ≠ w5_j4)))) ∨ ((((n121_27 : Int) % 2) = 0) ∧ (¬ ((a6_6.getD n121_27 0) ≠ 1)) ∧ (¬ (((n121_27 : Int) % 2) = 1)) ∧ (n137_j31 = false) ∧ (n141_j31 = false)) ∨ ((¬ (((n121_27 : Int) % 2) = 0)) ∧ (((n121_27 : Int) % 2) = 1) ∧ (¬ ((a6_6.getD n121_27 0) ≠ w5_j4)) ∧ (n137_j31 = true) ∧ (n141_j31 = (decide ((a6_6.getD n121_27 0) ≠ w5_j4)))) ∨ ((¬ (((n121_27 : Int) % 2) = 0)) ∧ (¬ (((n121_27 : Int) % 2) = 1)) ∧ (n137_j31 = false) ∧ (n141_j31 = false))) ?_ (fun n137_j31 n141_j31 hJ31 => ?_)
 refine AWp.block (AWp.sr ?_)
 refine .mv ?_
 refine .vl (Y.indexO (m := n121_27) sl22 rfl rfl (by first | rfl | omega) (by omega)) ?_
 refine .vl (Y.load sh3 rfl (row_getD0 (d := 0) (by omega)) rfl rfl) ?_
 refine .an ?_
 refine .an ?_
 refine AOps.nil (AWp.sr ?_)
 refine .mv ?_
 refine .vl (Y.remI rfl rfl (by first | omega | simp [-List.getD_eq_getElem?_getD] <;> omega)) ?_
 refine .vl (Y.eql rfl rfl) ?_
 refine .mv ?_
 refine AOps.splitD (d := 129) rfl (fun c129 => ?_) (fun c129 => ?_)
 refine .gw 129 (Y.move rfl rfl) (.gw 129 (Y.neq rfl rfl) ?_)
 refine .pk ?_
 refine .mv ?_
 refine AOps.splitD (d := 133) rfl (fun c133 => ?_) (fun c133 => ?_)
 refine .gz 133 (.gz 133 (.gz 133 ?_))
 refine .gz 133 (.gz 137 (.gz 137 ?_))
 refine .gz 137 (.gz 133 ?_)
 refine .pk ?_
 refine AOps.nil (AWp.condT rfl (AWp.sr ?_))
 refine .an ?_
 refine AOps.nil (AWp.ret ?_)
 exact .rb rfl (df (fun h => by simp only [Fits, c117, Int.reduceEq, Bool.not_eq_true, false_and, true_and, and_true, and_false, or_false, false_or, ne_eq] at h; have h1 := h n121_27 (by omega); have h2 := ha n121_27 (by omega); unfold MuxFit at h1; omega))
 refine .gw 133 (Y.move rfl rfl) ?_
 refine .gw 133 (Y.remI rfl rfl (by omega)) ?_
 refine .gw 133 (Y.eql rfl rfl) (.gw 133 (Y.move rfl rfl) ?_)
 refine AOps.splitD (d := 137) rfl (fun c137 => ?_) (fun c137 => ?_)
 refine .gw 137 (Y.move rfl rfl) (.gw 137 (Y.move rfl rfl) (.gw 137 (Y.neq rfl rfl) ?_))
 refine .gw 133 (Y.pick rfl rfl rfl) ?_
 refine .pk ?_
 refine AOps.nil ?_
 refine AWp.condD rfl (fun c142 => ?_) (fun c142 => ?_)
 refine AWp.sr ?_
 refine .an ?_
 refine AOps.nil (AWp.ret ?_)
 exact .rb rfl (df (fun h => by simp only [Fits, c117, Int.reduceEq, Bool.not_eq_true, false_and, true_and, and_true, and_false, or_false, false_or, ne_eq] at h; have h1 := h n121_27 (by omega); have h2 := ha n121_27 (by omega); unfold MuxFit at h1; omega))
 refine AWp.skip ?_
 exact ⟨true, decide ((a6_6.getD n121_27 0) ≠ w5_j4), .inl ⟨c129, c133, c137, c142, rfl, rfl⟩, Le.mk (.c (.c (.c (.c (.c (.c (.c (.cons (look_bool rfl (by first | rfl | simp_all)) (.cons (look_bool rfl (by first | rfl | simp_all)) (.nil)))))))))) (.c (.nil))⟩
 refine .gz 137 (.gz 137 (.gz 137 ?_))
 refine .gw 133 (Y.pick rfl rfl rfl) ?_
 refine .pk ?_
 refine AOps.nil (AWp.condF rfl (AWp.skip ?_))
 exact ⟨false, false, .inr (.inl ⟨c129, c133, c137, rfl, rfl⟩), Le.mk (.c (.c (.c (.c (.c (.c (.c (.cons (look_bool rfl (by first | rfl | simp_all)) (.cons (look_bool rfl (by first | rfl | simp_all)) (.nil)))))))))) (.c (.nil))⟩
 refine .gz 129 (.gz 129 ?_)
 refine .pk ?_
 refine .mv ?_
 refine .gw 133 (Y.move rfl rfl) ?_
 refine .gw 133 (Y.remI rfl rfl (by omega)) ?_
 refine .gw 133 (Y.eql rfl rfl) (.gw 133 (Y.move rfl rfl) ?_)
 refine AOps.splitD (d := 137) rfl (fun c137 => ?_) (fun c137 => ?_)
 refine .gw 137 (Y.move rfl rfl) (.gw 137 (Y.move rfl rfl) (.gw 137 (Y.neq rfl rfl) ?_))
 refine .gw 133 (Y.pick rfl rfl rfl) ?_
 refine .pk ?_
 refine AOps.nil ?_
 refine AWp.condD rfl (fun c142 => ?_) (fun c142 => ?_)
 refine AWp.sr ?_
 refine .an ?_
 refine AOps.nil (AWp.ret ?_)
 exact .rb rfl (df (fun h => by simp only [Fits, c117, Int.reduceEq, Bool.not_eq_true, false_and, true_and, and_true, and_false, or_false, false_or, ne_eq] at h; have h1 := h n121_27 (by omega); have h2 := ha n121_27 (by omega); unfold MuxFit at h1; omega))
 refine AWp.skip ?_
 exact ⟨true, decide ((a6_6.getD n121_27 0) ≠ w5_j4), .inr (.inr (.inl ⟨c129, c137, c142, rfl, rfl⟩)), Le.mk (.c (.c (.c (.c (.c (.c (.c (.cons (look_bool rfl (by first | rfl | simp_all)) (.cons (look_bool rfl (by first | rfl | simp_all)) (.nil)))))))))) (.c (.nil))⟩
 refine .gz 137 (.gz 137 (.gz 137 ?_))
 refine .gw 133 (Y.pick rfl rfl rfl) ?_
 refine .pk ?_
 refine AOps.nil (AWp.condF rfl (AWp.skip ?_))
 exact ⟨false, false, .inr (.inr (.inr (⟨c129, c137, rfl, rfl⟩))), Le.mk (.c (.c (.c (.c (.c (.c (.c (.cons (look_bool rfl (by first | rfl | simp_all)) (.cons (look_bool rfl (by first | rfl | simp_all)) (.nil)))))))))) (.c (.nil))⟩
 refine AWp.region ?_
 refine .vl (Y.addI rfl rfl (by omega)) ?_
 refine .mv ?_
 refine AOps.nil ?_
 exact ⟨n121_27 + 1, ⟨by omega, mux_succ hm (by have h2 := ha n121_27 (by omega); unfold MuxFit; omega)⟩, by omega, Le.mk (.c (.c (.c (.cons (look_int rfl (by first | rfl | omega)) (.nil))))) (.c (.nil))⟩
 refine AWp.exit (AWp.sr ?_)
 refine .an ?_
 refine AOps.nil (AWp.ret ?_)
 exact .rb rfl (dt (by simp only [Fits, c117, Int.reduceEq, Bool.not_eq_true, false_and, true_and, and_true, and_false, or_false, false_or, ne_eq]; exact fun k hk => hm k (by omega)))
 refine AWp.sr (.vl (Y.eql rfl rfl) ?_)
 refine .an ?_
 refine AOps.nil ?_
 refine AWp.condD rfl (fun c144 => ?_) (fun c144 => ?_)
 have hk := hsh.k4 c144
 refine AWp.seq (AWp.regionAny rfl (AAny.blind 0 rfl (by kernel_rfl) (Blind.move rfl rfl) (by decide) ?_))
 refine AAny.one 1 rfl (by kernel_rfl) ?_
 refine .vl (Y.indexO (m := 0) sl22 rfl rfl (by first | rfl | omega) (by first | omega | simp [-List.getD_eq_getElem?_getD] <;> omega)) ?_
 refine AOps.nil ⟨rfl, ?_⟩
 refine AAny.one 2 rfl (by kernel_rfl) ?_
 refine .vl (Y.load sh3 rfl (row_getD0 (d := 0) (by omega)) rfl rfl) ?_
 refine AOps.nil ⟨rfl, ?_⟩
 refine AAny.one 3 rfl (by kernel_rfl) (.vl (Y.eql rfl rfl) ?_)
 refine AOps.nil ⟨rfl, ?_⟩
 refine AAny.blind 4 rfl (by kernel_rfl) (Blind.move rfl rfl) (by decide) ?_
 refine AAny.splitD (d := 150) rfl (fun c150 => ?_) (fun c150 => ?_)
 refine AAny.blindRun 5 rfl (by kernel_rfl) rfl (by decide) rfl (Blind.move rfl rfl) (by decide) (AAny.blindRun 8 rfl (by kernel_rfl) rfl (by decide) rfl (Blind.move rfl rfl) (by decide) (AAny.one 6 rfl (by kernel_rfl) ?_))
 refine .gw 150 (Y.indexO (m := 1) sl22 rfl rfl (by first | rfl | omega) (by omega)) ?_
 refine AOps.nil ⟨rfl, ?_⟩
 refine AAny.one 7 rfl (by kernel_rfl) ?_
 refine .gw 150 (Y.load sh3 rfl (row_getD0 (d := 0) (by omega)) rfl rfl) ?_
 refine AOps.nil ⟨rfl, ?_⟩
 refine AAny.one 9 rfl (by kernel_rfl) (.gw 150 (Y.eql rfl rfl) ?_)
 refine AOps.nil ⟨rfl, ?_⟩
 refine AAny.one 10 rfl (by kernel_rfl) ?_
 refine .pk ?_
 refine AOps.nil ⟨rfl, ?_⟩
 refine AAny.blind 11 rfl (by kernel_rfl) (Blind.move rfl rfl) (by decide) ?_
 refine AAny.splitD (d := 157) rfl (fun c157 => ?_) (fun c157 => ?_)
 refine AAny.blindRun 12 rfl (by kernel_rfl) rfl (by decide) rfl (Blind.move rfl rfl) (by decide) (AAny.blindRun 13 rfl (by kernel_rfl) rfl (by decide) rfl (Blind.fieldAddr fl39_4 rfl rfl) (by decide) (AAny.blindRun 16 rfl (by kernel_rfl) rfl (by decide) rfl (Blind.fieldAddr fl39_4 rfl rfl) (by decide) ?_))
 refine AAny.two 14 17 rfl rfl (by kernel_rfl) ?_ ?_
 refine .gw 157 (Y.load sh37 rfl rfl rfl rfl) ?_
 refine AOps.nil ⟨rfl, ?_⟩
 refine AAny.two 15 17 rfl rfl (by kernel_rfl) ?_ ?_
 refine AOps.guardRun (d := 157) rfl (by decide) rfl ?_
 refine AOps.callP ok65 (bfit_spec (w := w5_j4) (x := c.num) ((by omega))) rfl (.keep rfl rfl (.keep rfl rfl .nil)) (by decide) rfl ?_
 refine AOps.nil ⟨rfl, ?_⟩
 refine AAny.quietN (n := 0) [17, 18, 19, 20] [] 0 rfl (by kernel_rfl) (.rn 17 rfl rfl rfl (Y.load sh37 rfl rfl rfl rfl) (.rn 18 rfl rfl rfl (Y.eql rfl rfl) ?_))
 refine .cn 19 rfl (Y.pick rfl rfl rfl) (.cn 20 rfl (Y.assign rfl rfl) (AQ.nil ?_))
 refine AAny.done (by kernel_rfl) (AWp.ret ?_)
 exact .rb rfl (dd (by (simp only [Fits, OpFits, Cmp, ← hJ4, c144, Int.reduceEq, Bool.not_eq_true, false_and, true_and, and_true, and_false, or_false, false_or, ne_eq]) <;> omega))
 refine .gw 157 (Y.load sh37 rfl rfl rfl rfl) ?_
 refine AOps.nil ⟨rfl, ?_⟩
 refine AAny.one 15 rfl (by kernel_rfl) (AOps.guardRun (d := 157) rfl (by decide) rfl ?_)
 refine AOps.callP ok65 (bfit_spec (w := w5_j4) (x := c.num) ((by omega))) rfl (.keep rfl rfl (.keep rfl rfl .nil)) (by decide) rfl ?_
 refine AOps.nil ⟨rfl, ?_⟩
 refine AAny.quietN (n := 0) [18, 19, 20] [] 0 rfl (by kernel_rfl) (.rn 18 rfl rfl rfl (Y.eql rfl rfl) (.cn 19 rfl (Y.pick rfl rfl rfl) ?_))
 refine .cn 20 rfl (Y.assign rfl rfl) (AQ.nil (AAny.done (by kernel_rfl) ?_))
 refine AWp.ret ?_
 exact .rb rfl (dd (by (simp only [Fits, OpFits, Cmp, ← hJ4, c144, Int.reduceEq, Bool.not_eq_true, false_and, true_and, and_true, and_false, or_false, false_or, ne_eq]) <;> omega))
 refine .gw 157 (Y.load sh37 rfl rfl rfl rfl) ?_
 refine AOps.nil ⟨rfl, ?_⟩
 refine AAny.quietN (n := 4) [14] [15, 18, 19, 20] 15 rfl (by kernel_rfl) (.rn 14 rfl rfl rfl (Y.load sh37 rfl rfl rfl rfl) (AQ.nil ?_))
 refine AAny.one 15 rfl (by kernel_rfl) (AOps.guardRun (d := 157) rfl (by decide) rfl ?_)
 refine AOps.callP ok65 (bfit_spec (w := w5_j4) (x := c.num) ((by omega))) rfl (.keep rfl rfl (.keep rfl rfl .nil)) (by decide) rfl ?_
 refine AOps.nil ⟨rfl, ?_⟩
 refine AAny.quietN (n := 0) [18, 19, 20] [] 0 rfl (by kernel_rfl) (.rn 18 rfl rfl rfl (Y.eql rfl rfl) (.cn 19 rfl (Y.pick rfl rfl rfl) ?_))
 refine .cn 20 rfl (Y.assign rfl rfl) (AQ.nil (AAny.done (by kernel_rfl) ?_))
 refine AWp.ret ?_
 exact .rb rfl (dd (by (simp only [Fits, OpFits, Cmp, ← hJ4, c144, Int.reduceEq, Bool.not_eq_true, false_and, true_and, and_true, and_false, or_false, false_or, ne_eq]) <;> omega))
 refine AAny.skipOp 12 rfl (by kernel_rfl) rfl (by decide) (by decide) rfl rfl (AAny.skipOp 13 rfl (by kernel_rfl) rfl (by decide) (by decide) rfl rfl (AAny.skipOp 14 rfl (by kernel_rfl) rfl (by decide) (by decide) rfl rfl ?_))
 refine AAny.skipOp 15 rfl (by kernel_rfl) rfl (by decide) (by decide) rfl rfl (AAny.skipOp 16 rfl (by kernel_rfl) rfl (by decide) (by decide) rfl rfl (AAny.skipOp 17 rfl (by kernel_rfl) rfl (by decide) (by decide) rfl rfl ?_))
 refine AAny.skipOp 18 rfl (by kernel_rfl) rfl (by decide) (by decide) rfl rfl (AAny.quietN (n := 0) [19, 20] [] 0 rfl (by kernel_rfl) (.cn 19 rfl (Y.pick rfl rfl rfl) ?_))
 refine .cn 20 rfl (Y.assign rfl rfl) (AQ.nil (AAny.done (by kernel_rfl) ?_))
 refine AWp.ret ?_
 exact .rb rfl (df (by (simp only [Fits, OpFits, Cmp, ← hJ4, c144, Int.reduceEq, Bool.not_eq_true, false_and, true_and, and_true, and_false, or_false, false_or, ne_eq]) <;> omega))
 refine AAny.skipOp 5 rfl (by kernel_rfl) rfl (by decide) (by decide) rfl rfl (AAny.skipOp 6 rfl (by kernel_rfl) rfl (by decide) (by decide) rfl rfl (AAny.skipOp 7 rfl (by kernel_rfl) rfl (by decide) (by decide) rfl rfl ?_))
 refine AAny.skipOp 8 rfl (by kernel_rfl) rfl (by decide) (by decide) rfl rfl (AAny.skipOp 9 rfl (by kernel_rfl) rfl (by decide) (by decide) rfl rfl (AAny.one 10 rfl (by kernel_rfl) ?_))
 refine .pk ?_
 refine AOps.nil ⟨rfl, ?_⟩
 refine AAny.blind 11 rfl (by kernel_rfl) (Blind.move rfl rfl) (by decide) (AAny.skipOp 12 rfl (by kernel_rfl) rfl (by decide) (by decide) rfl rfl (AAny.skipOp 13 rfl (by kernel_rfl) rfl (by decide) (by decide) rfl rfl ?_))
 refine AAny.skipOp 14 rfl (by kernel_rfl) rfl (by decide) (by decide) rfl rfl (AAny.skipOp 15 rfl (by kernel_rfl) rfl (by decide) (by decide) rfl rfl (AAny.skipOp 16 rfl (by kernel_rfl) rfl (by decide) (by decide) rfl rfl ?_))
 refine AAny.skipOp 17 rfl (by kernel_rfl) rfl (by decide) (by decide) rfl rfl (AAny.skipOp 18 rfl (by kernel_rfl) rfl (by decide) (by decide) rfl rfl (AAny.quietN (n := 0) [19, 20] [] 0 rfl (by kernel_rfl) ?_))
 refine .cn 19 rfl (Y.pick rfl rfl rfl) (.cn 20 rfl (Y.assign rfl rfl) (AQ.nil ?_))
 refine AAny.done (by kernel_rfl) (AWp.ret ?_)
 exact .rb rfl (df (by (simp only [Fits, OpFits, Cmp, ← hJ4, c144, Int.reduceEq, Bool.not_eq_true, false_and, true_and, and_true, and_false, or_false, false_or, ne_eq]) <;> omega))
 refine AWp.sr (.vl (Y.eql rfl rfl) ?_)
 refine .an ?_
 refine AOps.nil ?_
 refine AWp.condD rfl (fun c166 => ?_) (fun c166 => ?_)
 have hk := hsh.k5 c166
 refine AWp.sr ?_
 refine .mv ?_
 refine .vl (Y.indexO (m := 0) sl22 rfl rfl (by first | rfl | omega) (by first | omega | simp [-List.getD_eq_getElem?_getD] <;> omega)) ?_
 refine .vl (Y.load sh3 rfl (row_getD0 (d := 0) (by omega)) rfl rfl) ?_
 refine .mv ?_
 refine .vl (Y.eql rfl rfl) ?_
 refine .mv ?_
 refine AOps.splitD (d := 173) rfl (fun c173 => ?_) (fun c173 => ?_)
 refine .gw 173 (Y.move rfl rfl) ?_
 refine .gw 173 (Y.indexO (m := 1) sl22 rfl rfl (by first | rfl | omega) (by omega)) ?_
 refine .gw 173 (Y.load sh3 rfl (row_getD0 (d := 0) (by omega)) rfl rfl) ?_
 refine .gw 173 (Y.move rfl rfl) (.gw 173 (Y.eql rfl rfl) ?_)
 refine .pk ?_
 refine .an ?_
 refine AOps.nil (AWp.ret ?_)
 exact .rb rfl (dd (by (simp only [Fits, OpFits, Cmp, ← hJ4, c166, Int.reduceEq, Bool.not_eq_true, false_and, true_and, and_true, and_false, or_false, false_or, ne_eq]) <;> omega))
 refine .gz 173 (.gz 173 (.gz 173 ?_))
 refine .gz 173 (.gz 173 ?_)
 refine .pk ?_
 refine .an ?_
 refine AOps.nil (AWp.ret ?_)
 exact .rb rfl (df (by (simp only [Fits, OpFits, Cmp, ← hJ4, c166, Int.reduceEq, Bool.not_eq_true, false_and, true_and, and_true, and_false, or_false, false_or, ne_eq]) <;> omega))
 refine AWp.sr (.vl (Y.eql rfl rfl) ?_)
 refine .an ?_
 refine AOps.nil ?_
 refine AWp.condD rfl (fun c180 => ?_) (fun c180 => ?_)
 have hk := hsh.k6 c180
 refine AWp.sr ?_
 refine .mv ?_
 refine .vl (Y.indexO (m := 0) sl22 rfl rfl (by first | rfl | omega) (by first | omega | simp [-List.getD_eq_getElem?_getD] <;> omega)) ?_
 refine .vl (Y.load sh3 rfl (row_getD0 (d := 0) (by omega)) rfl rfl) ?_
 refine .vl (Y.eql rfl rfl) ?_
 refine .mv ?_
 refine AOps.splitD (d := 186) rfl (fun c186 => ?_) (fun c186 => ?_)
 refine .gw 186 (Y.fieldAddr fl27_4 rfl rfl) (.gw 186 (Y.load sh24 rfl rfl rfl rfl) (.gw 186 (Y.fieldAddr fl39_5 rfl rfl) ?_))
 refine .gw 186 (Y.load sh3 rfl rfl rfl rfl) ?_
 refine .gw 186 (Y.indexF (m := (c.mem).toNat) sl24 rfl rfl (by omega) (row_getD (d := default) (by omega))) ?_
 refine .gw 186 (Y.fieldAddr fl48_1 rfl rfl) (.gw 186 (Y.load sh3 rfl rfl rfl rfl) (.gw 186 (Y.move rfl rfl) ?_))
 refine .gw 186 (Y.eql rfl rfl) ?_
 refine .pk ?_
 refine .an ?_
 refine AOps.nil (AWp.ret ?_)
 exact .rb rfl (dd (by (simp only [Fits, OpFits, Cmp, ← hJ4, c180, Int.reduceEq, Bool.not_eq_true, false_and, true_and, and_true, and_false, or_false, false_or, ne_eq]) <;> omega))
 refine .gz 186 (.gz 186 (.gz 186 ?_))
 refine .gz 186 (.gz 186 (.gz 186 ?_))
 refine .gz 186 (.gz 186 (.gz 186 ?_))
 refine .pk ?_
 refine .an ?_
 refine AOps.nil (AWp.ret ?_)
 exact .rb rfl (df (by (simp only [Fits, OpFits, Cmp, ← hJ4, c180, Int.reduceEq, Bool.not_eq_true, false_and, true_and, and_true, and_false, or_false, false_or, ne_eq]) <;> omega))
 refine AWp.sr (.vl (Y.eql rfl rfl) ?_)
 refine .an ?_
 refine AOps.nil ?_
 refine AWp.condD rfl (fun c197 => ?_) (fun c197 => ?_)
 have hk := hsh.k7 c197
 refine AWp.seq (AWp.regionS rfl (by kernel_rfl) (AHead.val (Y.move rfl rfl) (by decide) ?_))
 refine AHead.val (Y.indexO (m := 0) sl22 rfl rfl (by first | rfl | omega) (by omega)) (by decide) ?_
 refine AHead.val (Y.load sh3 rfl (row_getD0 (d := 0) (by omega)) rfl rfl) (by decide) ?_
 refine AHead.val (Y.eql rfl rfl) (by decide) (AHead.val (Y.move rfl rfl) (by decide) ?_)
 refine AHead.splitD (d := 203) rfl (fun c203 => ?_) (fun c203 => ?_)
 refine AHead.guardRun (d := 203) rfl (by decide) rfl (AHead.val (Y.fieldAddr fl27_4 rfl rfl) (by decide) (AHead.guardRun (d := 203) rfl (by decide) rfl ?_))
 refine AHead.val (Y.load sh24 rfl rfl rfl rfl) (by decide) (AHead.guardRun (d := 203) rfl (by decide) rfl (AHead.val (Y.fieldAddr fl39_5 rfl rfl) (by decide) ?_))
 refine AHead.guardRun (d := 203) rfl (by decide) rfl (AHead.val (Y.load sh3 rfl rfl rfl rfl) (by decide) (AHead.guardRun (d := 203) rfl (by decide) rfl ?_))
 refine AHead.val (Y.indexF (m := (c.mem).toNat) sl24 rfl rfl (by omega) (row_getD (d := default) (by omega))) (by decide) ?_
 refine AHead.guardRun (d := 203) rfl (by decide) rfl (AHead.val (Y.fieldAddr fl48_1 rfl rfl) (by decide) (AHead.guardRun (d := 203) rfl (by decide) rfl ?_))
 refine AHead.val (Y.load sh3 rfl rfl rfl rfl) (by decide) (AHead.guardRun (d := 203) rfl (by decide) rfl (AHead.val (Y.move rfl rfl) (by decide) ?_))
 refine AHead.guardRun (d := 203) rfl (by decide) rfl ?_
 refine AHead.val (Y.indexO (m := 2) sl22 rfl rfl (by first | rfl | omega) (by omega)) (by decide) ?_
 refine AHead.guardRun (d := 203) rfl (by decide) rfl ?_
 refine AHead.val (Y.load sh3 rfl (row_getD0 (d := 0) (by omega)) rfl rfl) (by decide) ?_
 refine AHead.guardRun (d := 203) rfl (by decide) rfl (AHead.val (Y.eql rfl rfl) (by decide) (AHead.val (Y.pick rfl rfl rfl) (by decide) ?_))
 refine AHead.val (Y.assign rfl rfl) (by decide) (AHead.nil (AWp.ret ?_))
 exact .rb rfl (dd (by (simp only [Fits, OpFits, Cmp, ← hJ4, c197, Int.reduceEq, Bool.not_eq_true, false_and, true_and, and_true, and_false, or_false, false_or, ne_eq]) <;> omega))
 refine AHead.guardSkipV (d := 203) rfl (by decide) (by decide) rfl rfl (AHead.guardSkipV (d := 203) rfl (by decide) (by decide) rfl rfl (AHead.guardSkipV (d := 203) rfl (by decide) (by decide) rfl rfl ?_))
 refine AHead.guardSkipV (d := 203) rfl (by decide) (by decide) rfl rfl (AHead.guardSkipV (d := 203) rfl (by decide) (by decide) rfl rfl (AHead.guardSkipV (d := 203) rfl (by decide) (by decide) rfl rfl ?_))
 refine AHead.guardSkipV (d := 203) rfl (by decide) (by decide) rfl rfl (AHead.guardSkipV (d := 203) rfl (by decide) (by decide) rfl rfl (AHead.guardSkipV (d := 203) rfl (by decide) (by decide) rfl rfl ?_))
 refine AHead.guardSkipV (d := 203) rfl (by decide) (by decide) rfl rfl (AHead.guardSkipV (d := 203) rfl (by decide) (by decide) rfl rfl (AHead.val (Y.pick rfl rfl rfl) (by decide) ?_))
 refine AHead.val (Y.assign rfl rfl) (by decide) (AHead.nil (AWp.ret ?_))
 exact .rb rfl (df (by (simp only [Fits, OpFits, Cmp, ← hJ4, c197, Int.reduceEq, Bool.not_eq_true, false_and, true_and, and_true, and_false, or_false, false_or, ne_eq]) <;> omega))
 refine AWp.sr (.vl (Y.eql rfl rfl) ?_)
 refine .an ?_
 refine AOps.nil ?_
 refine AWp.condD rfl (fun c216 => ?_) (fun c216 => ?_)
 have hk := hsh.k8 c216
 refine AWp.sr ?_
 refine .fa fl27_3 ?_
 refine .ld sh22 ?_
 refine .fa fl39_4 ?_
 refine .ld sh37 ?_
 refine .vl (Y.indexF (m := c.num) sl22 rfl rfl (by first | rfl | omega) (row_getD (d := 0) (by omega))) ?_
 refine .ld sh3 ?_
 refine .mv ?_
 refine .vl (Y.eql rfl rfl) ?_
 refine .an ?_
 refine AOps.nil (AWp.ret ?_)
 exact .rb rfl (dd (by (simp only [Fits, OpFits, Cmp, ← hJ4, c216, Int.reduceEq, Bool.not_eq_true, false_and, true_and, and_true, and_false, or_false, false_or, ne_eq]) <;> omega))
 refine AWp.sr (.vl (Y.eql rfl rfl) ?_)
 refine .an ?_
 refine AOps.nil ?_
 refine AWp.condD rfl (fun c226 => ?_) (fun c226 => ?_)
 refine AWp.sr ?_
 refine .mv ?_
 refine .vl (Y.eql rfl rfl) ?_
 refine .an ?_
 refine AOps.nil (AWp.ret ?_)
 exact .rb rfl (dd (by (simp only [Fits, OpFits, Cmp, ← hJ4, c226, Int.reduceEq, Bool.not_eq_true, false_and, true_and, and_true, and_false, or_false, false_or, ne_eq]) <;> omega))
 have k10 : c.kind = 10 := by have := hsh.kind; omega
 have hk := hsh.k10 k10
 refine AWp.skip (AWp.sr ?_)
 refine .fa fl27_5 ?_
 refine .ld sh25 ?_
 refine .fa fl39_5 ?_
 refine .ld sh3 ?_
 refine .vl (Y.indexF (m := (c.mem).toNat) sl25 rfl rfl (by omega) (row_getD (d := default) (by omega))) ?_
 refine .fa fl83_1 ?_
 refine .ld sh3 ?_
 refine .mv ?_
 refine .vl (Y.eql rfl rfl) ?_
 refine .an ?_
 refine AOps.nil (AWp.ret ?_)
 exact .rb rfl (dd (by (simp only [Fits, OpFits, Cmp, ← hJ4, k10, Int.reduceEq, Bool.not_eq_true, false_and, true_and, and_true, and_false, or_false, false_or, ne_eq]) <;> omega))
end Go.Proofs.Ytligpghohcfpnaa
/- The walk through widths. -/
namespace Go.Proofs.Ytligpghohcfpnaa
open Go Go.AW Go.Proofs
theorem widths1_spec {n : Netlist} {c : Cell} (hs : n.Small) (hf : Formed n) (hc : c ∈ n.cells) : ACalls Try.prog 101 [.agg (Cell.row c), .fp (Netlist.row n) 0] [] [] (fun r o => r = .v (.bool (!decide (Fits n c))) ∧ o = []) := by
 refine ACalls.of Try.func101 rfl rfl rfl (n := 8) (by decide) (Nat.le_of_ble_eq_true rfl) (AWp.sr (AOps.box 102 rfl rfl rfl rfl rfl (by decide) ?_))
 refine .an ?_
 refine AOps.nil (AWp.sr (.vl (Y.loadA sh27 rfl rfl (Nat.le_of_ble_eq_true rfl) rfl rfl) ?_))
 refine .vl (Y.loadA sh39 rfl rfl (Nat.le_of_ble_eq_true rfl) rfl rfl) (AOps.callP ok102 (fits_spec (n := n) (c := c) hs (hs.args _ hc) (hs.nums _ hc) (hf.cell hc).2.1 (hf.cell hc).wired) rfl (.keep rfl rfl (.keep rfl rfl .nil)) (by decide) rfl (.vl (Y.not rfl) ?_))
 refine .an ?_
 refine AOps.nil (AWp.ret ?_)
 exact .rb rfl (rfl)
theorem widths_spec {n : Netlist} (hs : n.Small) (hf : Formed n) : ACalls Try.prog 58 [.agg (Netlist.row n)] [] [] (fun r o => r = .v (.bool (decide (Fit n))) ∧ o = []) := by
 refine ACalls.of Try.func58 rfl rfl rfl (n := 63) (by decide) (Nat.le_of_ble_eq_true rfl) ?_
 have hs1 := hf.nactive; have hs2 := hf.ndata; have hs3 := hf.nstreams; have hs4 := hf.freeze; have hs5 := hf.done; unfold In at hs4 hs5; have hs6 := hf.nwidths; have hs7 := hf.ncells
 refine AWp.sr (AOps.box 101 rfl rfl rfl rfl rfl (by decide) ?_)
 refine .an ?_
 refine AOps.nil (AWp.seq (AWp.sr ?_))
 refine .fa fl27_1 ?_
 refine .ld sh22 ?_
 refine .fa fl27_8 ?_
 refine .ld sh3 ?_
 refine .vl (Y.indexF (m := (n.freeze).toNat) sl22 rfl rfl (by omega) (row_getD (d := 0) (by omega))) ?_
 refine .ld sh3 ?_
 refine .vl (Y.neq rfl rfl) ?_
 refine .mv ?_
 refine AOps.splitD (d := 12) rfl (fun c12 => ?_) (fun c12 => ?_)
 refine .gz 12 (.gz 12 (.gz 12 ?_))
 refine .gz 12 (.gz 12 (.gz 12 ?_))
 refine .gz 12 ?_
 refine .pk ?_
 refine AOps.nil (AWp.condT rfl (AWp.sr ?_))
 refine .an ?_
 refine AOps.nil (AWp.ret ?_)
 exact .rb rfl (df (fun h => by have h1 := h.freeze; have h2 := h.done; unfold Netlist.wd at h1 h2; first | contradiction | omega))
 refine .gw 12 (Y.fieldAddr fl27_1 rfl rfl) (.gw 12 (Y.load sh22 rfl rfl rfl rfl) (.gw 12 (Y.fieldAddr fl27_9 rfl rfl) ?_))
 refine .gw 12 (Y.load sh3 rfl rfl rfl rfl) ?_
 refine .gw 12 (Y.indexF (m := (n.done).toNat) sl22 rfl rfl (by omega) (row_getD (d := 0) (by omega))) ?_
 refine .gw 12 (Y.load sh3 rfl rfl rfl rfl) (.gw 12 (Y.neq rfl rfl) ?_)
 refine .pk ?_
 refine AOps.nil ?_
 refine AWp.condD rfl (fun c20 => ?_) (fun c20 => ?_)
 refine AWp.sr ?_
 refine .an ?_
 refine AOps.nil (AWp.ret ?_)
 exact .rb rfl (df (fun h => by have h1 := h.freeze; have h2 := h.done; unfold Netlist.wd at h1 h2; first | contradiction | omega))
 refine AWp.skip (AWp.seq (AWp.sr ?_))
 refine .fa fl27_5 ?_
 refine .ld sh25 ?_
 refine .vl (Y.len (n := n.streams.length) sl25 rfl (congrArg some (List.length_map ..))) ?_
 refine .mv ?_
 refine AOps.nil (AWp.block ?_)
 refine AWp.loop1 (fun (n24_4 : Nat) => ⟨[(1, .ptr 101 0 0 0), (22, .fz 3 (n.streams.map Strm.row)), (23, vi ((n.streams.length : Nat) : Int)), (24, vi (n24_4 : Int))], [(101, .cells (Netlist.row n))]⟩) (fun (n24_4 : Nat) => ((n24_4 : Int) ≤ ((n.streams.length : Nat) : Int)) ∧ (∀ j, j < n24_4 → StrFit n j)) (fun (n24_4 : Nat) => (((n.streams.length : Nat) : Int) - (n24_4 : Int)).toNat) 0 (⟨by omega, fun j hj => by omega⟩) (Le.mk (.c (.c (.c (.cons (look_int rfl (by first | rfl | omega)) (.nil))))) (.c (.nil))) (fun n24_4 hI4 => ?_)
 obtain ⟨hb4, hst⟩ := hI4
 refine AWp.sr (.vl (Y.lss rfl rfl) (AOps.nil ?_))
 refine AWp.seq ?_
 refine AWp.condD rfl (fun c25 => ?_) (fun c25 => ?_)
 refine AWp.skip ?_
 refine AWp.join2 (fun (n42_j8 : Bool) (n55_j8 : Bool) => ⟨[(1, .ptr 101 0 0 0), (22, .fz 3 (n.streams.map Strm.row)), (23, vi ((n.streams.length : Nat) : Int)), (24, vi (n24_4 : Int)), (40, .ptr 104 0 0 2), (41, .v (.bool ((n.streams.getD n24_4 default).out))), (42, .v (.bool n42_j8)), (55, .v (.bool n55_j8))], [(101, .cells (Netlist.row n)), (104, .cells [.v (.string ((n.streams.getD n24_4 default).name)), vi ((n.streams.getD n24_4 default).width), .v (.bool ((n.streams.getD n24_4 default).out))])]⟩) (fun (n42_j8 : Bool) (n55_j8 : Bool) => StrFit n n24_4) ?_ (fun n42_j8 n55_j8 hJ8 => ?_)
 refine AWp.block (AWp.sr ?_)
 refine .mv ?_
 refine .vl (Y.indexF (m := n24_4) sl25 rfl rfl (by first | rfl | omega) (row_getD (d := default) (by omega))) ?_
 refine .vl (Y.loadA sh83 rfl rfl (Nat.le_of_ble_eq_true rfl) rfl rfl) (AOps.alloc 104 ze83 rfl rfl (by decide) ?_)
 refine .an ?_
 refine AOps.storeC si83 rfl rfl rfl rfl rfl rfl (Nat.le_of_ble_eq_true rfl) rfl (AOps.nil (AWp.seq ?_))
 refine AWp.regionS rfl (by kernel_rfl) ?_
 obtain ⟨_, _, ha1, hd1, _⟩ := hf.strs n24_4 (by omega)
 unfold In at ha1 hd1
 refine AHead.val (Y.fieldAddr fl27_1 rfl rfl) (by decide) (AHead.val (Y.load sh22 rfl rfl rfl rfl) (by decide) (AHead.val (Y.fieldAddr fl27_6 rfl rfl) (by decide) ?_))
 refine AHead.val (Y.load sh22 rfl rfl rfl rfl) (by decide) (AHead.val (Y.move rfl rfl) (by decide) ?_)
 refine AHead.val (Y.indexF (m := n24_4) sl22 rfl rfl (by first | rfl | omega) (row_getD (d := 0) (by omega))) (by decide) ?_
 refine AHead.val (Y.load sh3 rfl rfl rfl rfl) (by decide) ?_
 refine AHead.val (Y.indexF (m := (n.active.getD n24_4 0).toNat) sl22 rfl rfl (by omega) (row_getD (d := 0) (by omega))) (by decide) ?_
 refine AHead.val (Y.load sh3 rfl rfl rfl rfl) (by decide) (AHead.val (Y.neq rfl rfl) (by decide) (AHead.val (Y.move rfl rfl) (by decide) ?_))
 refine AHead.splitD (d := 39) rfl (fun c39 => ?_) (fun c39 => ?_)
 refine AHead.guardSkipV (d := 39) rfl (by decide) (by decide) rfl rfl (AHead.guardSkipV (d := 39) rfl (by decide) (by decide) rfl rfl (AHead.guardSkipV (d := 39) rfl (by decide) (by decide) rfl rfl ?_))
 refine AHead.guardSkipV (d := 42) rfl (by decide) (by decide) rfl rfl (AHead.guardSkipV (d := 42) rfl (by decide) (by decide) rfl rfl (AHead.guardSkipV (d := 42) rfl (by decide) (by decide) rfl rfl ?_))
 refine AHead.guardSkipV (d := 42) rfl (by decide) (by decide) rfl rfl (AHead.guardSkipV (d := 42) rfl (by decide) (by decide) rfl rfl (AHead.guardSkipV (d := 42) rfl (by decide) (by decide) rfl rfl ?_))
 refine AHead.guardSkipV (d := 42) rfl (by decide) (by decide) rfl rfl (AHead.guardSkipV (d := 42) rfl (by decide) (by decide) rfl rfl (AHead.guardSkipV (d := 42) rfl (by decide) (by decide) rfl rfl ?_))
 refine AHead.guardSkipV (d := 42) rfl (by decide) (by decide) rfl rfl (AHead.guardSkipV (d := 42) rfl (by decide) (by decide) rfl rfl (AHead.guardSkipV (d := 42) rfl (by decide) (by decide) rfl rfl ?_))
 refine AHead.guardSkipV (d := 39) rfl (by decide) (by decide) rfl rfl (AHead.val (Y.pick rfl rfl rfl) (by decide) (AHead.nil ?_))
 refine AWp.condT rfl (AWp.sr ?_)
 refine .an ?_
 refine AOps.nil (AWp.ret ?_)
 exact .rb rfl (df (fun h => by have h1 := h.strs n24_4 (by omega); unfold StrFit Netlist.wd at h1; grind))
 refine AHead.guardRun (d := 39) rfl (by decide) rfl (AHead.val (Y.fieldAddr fl83_2 rfl rfl) (by decide) (AHead.guardRun (d := 39) rfl (by decide) rfl ?_))
 refine AHead.val (Y.load sh4 rfl rfl rfl rfl) (by decide) (AHead.guardRun (d := 39) rfl (by decide) rfl (AHead.val (Y.move rfl rfl) (by decide) ?_))
 refine AHead.split (d := 42) rfl (fun c42 => ?_) (fun c42 => ?_)
 have hd2 := hd1 (by assumption)
 refine AHead.guardRun (d := 42) rfl (by decide) rfl (AHead.val (Y.fieldAddr fl27_1 rfl rfl) (by decide) (AHead.guardRun (d := 42) rfl (by decide) rfl ?_))
 refine AHead.val (Y.load sh22 rfl rfl rfl rfl) (by decide) (AHead.guardRun (d := 42) rfl (by decide) rfl (AHead.val (Y.fieldAddr fl27_7 rfl rfl) (by decide) ?_))
 refine AHead.guardRun (d := 42) rfl (by decide) rfl (AHead.val (Y.load sh22 rfl rfl rfl rfl) (by decide) (AHead.guardRun (d := 42) rfl (by decide) rfl ?_))
 refine AHead.val (Y.move rfl rfl) (by decide) (AHead.guardRun (d := 42) rfl (by decide) rfl ?_)
 refine AHead.val (Y.indexF (m := n24_4) sl22 rfl rfl (by first | rfl | omega) (row_getD (d := 0) (by omega))) (by decide) ?_
 refine AHead.guardRun (d := 42) rfl (by decide) rfl (AHead.val (Y.load sh3 rfl rfl rfl rfl) (by decide) (AHead.guardRun (d := 42) rfl (by decide) rfl ?_))
 refine AHead.val (Y.indexF (m := (n.data.getD n24_4 0).toNat) sl22 rfl rfl (by omega) (row_getD (d := 0) (by omega))) (by decide) ?_
 refine AHead.guardRun (d := 42) rfl (by decide) rfl (AHead.val (Y.load sh3 rfl rfl rfl rfl) (by decide) (AHead.guardRun (d := 42) rfl (by decide) rfl ?_))
 refine AHead.val (Y.fieldAddr fl83_1 rfl rfl) (by decide) (AHead.guardRun (d := 42) rfl (by decide) rfl (AHead.val (Y.load sh3 rfl rfl rfl rfl) (by decide) ?_))
 refine AHead.guardRun (d := 42) rfl (by decide) rfl (AHead.val (Y.neq rfl rfl) (by decide) (AHead.guardRun (d := 39) rfl (by decide) rfl ?_))
 refine AHead.val (Y.pick rfl rfl rfl) (by decide) (AHead.val (Y.pick rfl rfl rfl) (by decide) (AHead.nil ?_))
 refine AWp.condD rfl (fun c56 => ?_) (fun c56 => ?_)
 refine AWp.sr ?_
 refine .an ?_
 refine AOps.nil (AWp.ret ?_)
 exact .rb rfl (df (fun h => by have h1 := h.strs n24_4 (by omega); unfold StrFit Netlist.wd at h1; grind))
 refine AWp.skip ?_
 exact ⟨true, decide ((n.widths.getD ((n.data.getD n24_4 0).toNat) 0) ≠ ((n.streams.getD n24_4 default).width)), by unfold StrFit Netlist.wd; grind, Le.mk (.c (.c (.c (.c (.c (.c (.cons (look_bool rfl (by first | rfl | simp_all)) (.cons (look_bool rfl (by first | rfl | simp_all)) (.nil))))))))) (.c (.c (.nil)))⟩
 refine AHead.guardSkipV (d := 42) rfl (by decide) (by decide) rfl rfl (AHead.guardSkipV (d := 42) rfl (by decide) (by decide) rfl rfl (AHead.guardSkipV (d := 42) rfl (by decide) (by decide) rfl rfl ?_))
 refine AHead.guardSkipV (d := 42) rfl (by decide) (by decide) rfl rfl (AHead.guardSkipV (d := 42) rfl (by decide) (by decide) rfl rfl (AHead.guardSkipV (d := 42) rfl (by decide) (by decide) rfl rfl ?_))
 refine AHead.guardSkipV (d := 42) rfl (by decide) (by decide) rfl rfl (AHead.guardSkipV (d := 42) rfl (by decide) (by decide) rfl rfl (AHead.guardSkipV (d := 42) rfl (by decide) (by decide) rfl rfl ?_))
 refine AHead.guardSkipV (d := 42) rfl (by decide) (by decide) rfl rfl (AHead.guardSkipV (d := 42) rfl (by decide) (by decide) rfl rfl (AHead.guardSkipV (d := 42) rfl (by decide) (by decide) rfl rfl ?_))
 refine AHead.guardRun (d := 39) rfl (by decide) rfl (AHead.val (Y.pick rfl rfl rfl) (by decide) (AHead.val (Y.pick rfl rfl rfl) (by decide) ?_))
 refine AHead.nil (AWp.condF rfl (AWp.skip ?_))
 exact ⟨false, false, by unfold StrFit Netlist.wd; grind, Le.mk (.c (.c (.c (.c (.c (.c (.cons (look_bool rfl (by first | rfl | simp_all)) (.cons (look_bool rfl (by first | rfl | simp_all)) (.nil))))))))) (.c (.c (.nil)))⟩
 refine AWp.region ?_
 refine .vl (Y.addI rfl rfl (by omega)) ?_
 refine .mv ?_
 refine AOps.nil ?_
 exact ⟨n24_4 + 1, ⟨by omega, below_succ' hst hJ8⟩, by omega, Le.mk (.c (.c (.c (.cons (look_int rfl (by first | rfl | omega)) (.nil))))) (.c (.nil))⟩
 refine AWp.exit (AWp.sr ?_)
 refine .fa fl27_2 ?_
 refine .ld sh23 ?_
 refine AOps.sh (Sh.freezeO 101 rfl rfl) (.vl (Y.makeFunc rfl rfl rfl rfl) ?_)
 refine AOps.callP ok100 (containsFuncCell_spec (l := n.cells) (p := fun z => !decide (Fits n z)) ((by omega)) ok101 (fun z hz => widths1_spec hs hf hz)) rfl (.keep rfl rfl (.keep rfl rfl .nil)) (by decide) rfl ?_
 refine .vl (Y.not rfl) ?_
 refine .an ?_
 refine AOps.nil (AWp.ret ?_)
 exact .rb rfl (db (not_any_fit (by unfold Netlist.wd; omega) (by unfold Netlist.wd; omega) (fun j hj => hst j (by omega))))
end Go.Proofs.Ytligpghohcfpnaa
