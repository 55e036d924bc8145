/- Walk through shaped. -/
import Derived.Test.YtligpghohcfpnaaNetx0
import Derived.Test.YtligpghohcfpnaaNetx1
import Derived.Test.YtligpghohcfpnaaAWx2
set_option linter.unusedSimpArgs false
set_option linter.unusedVariables false
set_option linter.unusedSectionVars false
set_option maxRecDepth 4000
set_option maxHeartbeats 8000000
namespace Go.Proofs.Ytligpghohcfpnaa
open Go Go.AW Go.Proofs
theorem shaped_spec {n : Netlist} {c : Cell} (hs : n.Small) (hc : c.args.length ≤ 17592186043904) : ACalls Try.prog 98 [.agg (Netlist.row n), .agg (Cell.row c)] [] [] (fun r o => r = .v (.bool (decide (Shaped n c))) ∧ o = []) := by
 refine ACalls.of Try.func98 rfl rfl rfl (n := 132) dcd (nbE rfl) ?_
 have hs4 := hs.ins; have hs5 := hs.mems; have hs6 := hs.streams
 refine .sr (.box 102 rfl rfl rfl rfl rfl dcd (.box 103 rfl rfl rfl rfl rfl dcd ?_))
 refine .an ?_
 refine .nil (.sr ?_)
 refine .an ?_
 refine .an ?_
 refine .an ?_
 refine .an ?_
 refine .nil (.seq (.sr ?_))
 refine .fa fl39_0 ?_
 refine .ld sh3 ?_
 refine .nil (.block (.sr ?_))
 refine .vl (Y.eql rfl rfl) ?_
 refine .an ?_
 refine .nil ?_
 refine .condD rfl (fun c11 => ?_) (fun c11 => ?_)
 refine .region ?_
 refine .an ?_
 refine .nil ?_
 refine .join0 (⟨[(2, .ptr 102 0 0 0), (3, .ptr 103 0 0 0), (8, vi (-1))], [(102, .cells (Netlist.row n)), (103, .cells (Cell.row c))]⟩) (((¬ (((c.args.length : Nat) : Int) ≠ 0)) ∧ (¬ (c.op ≠ 0)) ∧ (((c.num : Nat) : Int) ≠ 0)) ∨ ((¬ (((c.args.length : Nat) : Int) ≠ 0)) ∧ (¬ (c.op ≠ 0)) ∧ (¬ (((c.num : Nat) : Int) ≠ 0)))) ?_ (fun hJ33 => ?_)
 refine .sr ?_
 refine .fa fl39_3 ?_
 refine .ld sh22 ?_
 refine .vl (Y.len (n := c.args.length) sl22 rfl (congrArg some (List.length_map ..))) ?_
 refine .mv ?_
 refine .vl (Y.neq rfl rfl) ?_
 refine .mv ?_
 refine .splitD (d := 88) rfl (fun c88 => ?_) (fun c88 => ?_)
 refine .gz 88 (.gz 88 (.gz 88 ?_))
 refine .gz 88 ?_
 refine .pk ?_
 refine .mv ?_
 refine .gz 94 (.gz 94 (.gz 94 ?_))
 refine .gz 94 (.gz 98 (.gz 98 ?_))
 refine .gz 94 ?_
 refine .pk ?_
 refine .nil (.condT rfl (.sr ?_))
 refine .an ?_
 refine .nil (.ret ?_)
 exact .rb rfl (df (by (simp only [Shaped, c11, Int.reduceEq, Bool.not_eq_true, false_and, true_and, and_true, and_false, or_false, false_or, ne_eq]) <;> (first | omega | grind)))
 refine .gw 88 (Y.fieldAddr fl39_1 rfl rfl) (.gw 88 (Y.load sh3 rfl rfl rfl rfl) (.gw 88 (Y.move rfl rfl) ?_))
 refine .gw 88 (Y.neq rfl rfl) ?_
 refine .pk ?_
 refine .mv ?_
 refine .splitD (d := 94) rfl (fun c94 => ?_) (fun c94 => ?_)
 refine .gz 94 (.gz 94 (.gz 94 ?_))
 refine .gz 94 (.gz 98 (.gz 98 ?_))
 refine .gz 94 ?_
 refine .pk ?_
 refine .nil (.condT rfl (.sr ?_))
 refine .an ?_
 refine .nil (.ret ?_)
 exact .rb rfl (df (by (simp only [Shaped, c11, Int.reduceEq, Bool.not_eq_true, false_and, true_and, and_true, and_false, or_false, false_or, ne_eq]) <;> (first | omega | grind)))
 refine .gw 94 (Y.fieldAddr fl39_4 rfl rfl) (.gw 94 (Y.load sh37 rfl rfl rfl rfl) (.gw 94 (Y.neq rfl rfl) ?_))
 refine .gw 94 (Y.move rfl rfl) ?_
 refine .splitD (d := 98) rfl (fun c98 => ?_) (fun c98 => ?_)
 refine .gw 98 (Y.move rfl rfl) (.gw 98 (Y.not rfl) (.gw 94 (Y.pick rfl rfl rfl) ?_))
 refine .pk ?_
 refine .nil (.condF rfl (.skip ?_))
 exact ⟨.inl ⟨c88, c94, c98⟩, Le.mk (.c (.c (.c (.nil)))) (.c (.c (.nil)))⟩
 refine .gz 98 (.gz 98 (.gw 94 (Y.pick rfl rfl rfl) ?_))
 refine .pk ?_
 refine .nil (.condF rfl (.skip ?_))
 exact ⟨.inr (⟨c88, c94, c98⟩), Le.mk (.c (.c (.c (.nil)))) (.c (.c (.nil)))⟩
 refine .seq (.sr ?_)
 refine .mv ?_
 refine .vl (Y.lss rfl rfl) (.nil (.condT rfl ?_))
 refine .sr ?_
 refine .fa fl39_5 ?_
 refine .ld sh3 ?_
 refine .vl (Y.eql rfl rfl) ?_
 refine .an ?_
 refine .nil (.ret ?_)
 exact .rb rfl (dd (by (simp only [Shaped, c11, Int.reduceEq, Bool.not_eq_true, false_and, true_and, and_true, and_false, or_false, false_or, ne_eq]) <;> (first | omega | grind)))
 refine .sr (.vl (Y.eql rfl rfl) ?_)
 refine .an ?_
 refine .nil ?_
 refine .condD rfl (fun c13 => ?_) (fun c13 => ?_)
 refine .seq (.regionAny rfl (.blind 0 rfl krf (Blind.fieldAddr fl39_1 rfl rfl) dcd ?_))
 refine .blind 3 rfl krf (Blind.fieldAddr fl39_1 rfl rfl) dcd ?_
 refine .two 1 4 rfl rfl krf ?_ ?_
 refine .ld sh3 ?_
 refine .nil ⟨rfl, ?_⟩
 refine .two 2 4 rfl rfl krf ?_ ?_
 refine .callP ok124 (operands_spec (op := c.op)) rfl (.keep rfl rfl .nil) dcd rfl ?_
 refine .nil ⟨rfl, ?_⟩
 refine .quietN (n := 0) [4, 5, 6] [] 0 rfl krf (.cn 4 rfl (Y.load sh3 rfl rfl rfl rfl) (.cn 5 rfl (Y.assign rfl rfl) ?_))
 refine .cn 6 rfl (Y.assign rfl rfl) (.nil (.done krf ?_))
 refine .sr ?_
 refine .mv ?_
 refine .vl (Y.eql rfl rfl) (.nil ?_)
 refine .condD rfl (fun c21 => ?_) (fun c21 => ?_)
 refine .sr ?_
 refine .an ?_
 refine .nil (.ret ?_)
 exact .rb rfl (df (by (simp only [Shaped, c13, Int.reduceEq, Bool.not_eq_true, false_and, true_and, and_true, and_false, or_false, false_or, ne_eq]) <;> (first | omega | grind)))
 refine .skip (.seq (.sr ?_))
 refine .fa fl39_3 ?_
 refine .ld sh22 ?_
 refine .vl (Y.len (n := c.args.length) sl22 rfl (congrArg some (List.length_map ..))) ?_
 refine .mv ?_
 refine .vl (Y.neq rfl rfl) ?_
 refine .mv ?_
 refine .splitD (d := 88) rfl (fun c88 => ?_) (fun c88 => ?_)
 refine .gz 88 (.gz 88 (.gz 88 ?_))
 refine .gz 88 ?_
 refine .pk ?_
 refine .mv ?_
 refine .gz 94 (.gz 94 (.gz 94 ?_))
 refine .gz 94 (.gz 98 (.gz 98 ?_))
 refine .gz 94 ?_
 refine .pk ?_
 refine .nil (.condT rfl (.sr ?_))
 refine .an ?_
 refine .nil (.ret ?_)
 exact .rb rfl (df (by (simp only [Shaped, c13, Int.reduceEq, Bool.not_eq_true, false_and, true_and, and_true, and_false, or_false, false_or, ne_eq]) <;> (first | omega | grind)))
 refine .gw 88 (Y.fieldAddr fl39_1 rfl rfl) (.gw 88 (Y.load sh3 rfl rfl rfl rfl) (.gw 88 (Y.move rfl rfl) ?_))
 refine .gw 88 (Y.neq rfl rfl) ?_
 refine .pk ?_
 refine .mv ?_
 refine .splitD (d := 94) rfl (fun c94 => ?_) (fun c94 => ?_)
 refine .gz 94 (.gz 94 (.gz 94 ?_))
 refine .gz 94 (.gz 98 (.gz 98 ?_))
 refine .gz 94 ?_
 refine .pk ?_
 refine .nil (.condT rfl (.sr ?_))
 refine .an ?_
 refine .nil (.ret ?_)
 exact .rb rfl (df (by (simp only [Shaped, c13, Int.reduceEq, Bool.not_eq_true, false_and, true_and, and_true, and_false, or_false, false_or, ne_eq]) <;> (first | omega | grind)))
 refine .gw 94 (Y.fieldAddr fl39_4 rfl rfl) (.gw 94 (Y.load sh37 rfl rfl rfl rfl) (.gw 94 (Y.neq rfl rfl) ?_))
 refine .gw 94 (Y.move rfl rfl) ?_
 refine .splitD (d := 98) rfl (fun c98 => ?_) (fun c98 => ?_)
 refine .gw 98 (Y.move rfl rfl) (.gw 98 (Y.not rfl) (.gw 94 (Y.pick rfl rfl rfl) ?_))
 refine .pk ?_
 refine .nil (.condT rfl (.sr ?_))
 refine .an ?_
 refine .nil (.ret ?_)
 exact .rb rfl (df (by (simp only [Shaped, c13, Int.reduceEq, Bool.not_eq_true, false_and, true_and, and_true, and_false, or_false, false_or, ne_eq]) <;> (first | omega | grind)))
 refine .gz 98 (.gz 98 (.gw 94 (Y.pick rfl rfl rfl) ?_))
 refine .pk ?_
 refine .nil (.condF rfl (.skip ?_))
 refine .seq (.sr ?_)
 refine .mv ?_
 refine .vl (Y.lss rfl rfl) (.nil (.condT rfl ?_))
 refine .sr ?_
 refine .fa fl39_5 ?_
 refine .ld sh3 ?_
 refine .vl (Y.eql rfl rfl) ?_
 refine .an ?_
 refine .nil (.ret ?_)
 exact .rb rfl (dd (by (simp only [Shaped, c13, Int.reduceEq, Bool.not_eq_true, false_and, true_and, and_true, and_false, or_false, false_or, ne_eq]) <;> (first | omega | grind)))
 refine .ld sh3 ?_
 refine .nil ⟨rfl, ?_⟩
 refine .one 2 rfl krf (.callP ok124 (operands_spec (op := c.op)) rfl (.keep rfl rfl .nil) dcd rfl ?_)
 refine .nil ⟨rfl, ?_⟩
 refine .quietN (n := 0) [5, 6] [] 0 rfl krf (.cn 5 rfl (Y.assign rfl rfl) (.cn 6 rfl (Y.assign rfl rfl) ?_))
 refine .nil (.done krf (.sr ?_))
 refine .mv ?_
 refine .vl (Y.eql rfl rfl) (.nil ?_)
 refine .condD rfl (fun c21 => ?_) (fun c21 => ?_)
 refine .sr ?_
 refine .an ?_
 refine .nil (.ret ?_)
 exact .rb rfl (df (by (simp only [Shaped, c13, Int.reduceEq, Bool.not_eq_true, false_and, true_and, and_true, and_false, or_false, false_or, ne_eq]) <;> (first | omega | grind)))
 refine .skip (.seq (.sr ?_))
 refine .fa fl39_3 ?_
 refine .ld sh22 ?_
 refine .vl (Y.len (n := c.args.length) sl22 rfl (congrArg some (List.length_map ..))) ?_
 refine .mv ?_
 refine .vl (Y.neq rfl rfl) ?_
 refine .mv ?_
 refine .splitD (d := 88) rfl (fun c88 => ?_) (fun c88 => ?_)
 refine .gz 88 (.gz 88 (.gz 88 ?_))
 refine .gz 88 ?_
 refine .pk ?_
 refine .mv ?_
 refine .gz 94 (.gz 94 (.gz 94 ?_))
 refine .gz 94 (.gz 98 (.gz 98 ?_))
 refine .gz 94 ?_
 refine .pk ?_
 refine .nil (.condT rfl (.sr ?_))
 refine .an ?_
 refine .nil (.ret ?_)
 exact .rb rfl (df (by (simp only [Shaped, c13, Int.reduceEq, Bool.not_eq_true, false_and, true_and, and_true, and_false, or_false, false_or, ne_eq]) <;> (first | omega | grind)))
 refine .gw 88 (Y.fieldAddr fl39_1 rfl rfl) (.gw 88 (Y.load sh3 rfl rfl rfl rfl) (.gw 88 (Y.move rfl rfl) ?_))
 refine .gw 88 (Y.neq rfl rfl) ?_
 refine .pk ?_
 refine .mv ?_
 refine .splitD (d := 94) rfl (fun c94 => ?_) (fun c94 => ?_)
 refine .gz 94 (.gz 94 (.gz 94 ?_))
 refine .gz 94 (.gz 98 (.gz 98 ?_))
 refine .gz 94 ?_
 refine .pk ?_
 refine .nil (.condT rfl (.sr ?_))
 refine .an ?_
 refine .nil (.ret ?_)
 exact .rb rfl (df (by (simp only [Shaped, c13, Int.reduceEq, Bool.not_eq_true, false_and, true_and, and_true, and_false, or_false, false_or, ne_eq]) <;> (first | omega | grind)))
 refine .gw 94 (Y.fieldAddr fl39_4 rfl rfl) (.gw 94 (Y.load sh37 rfl rfl rfl rfl) (.gw 94 (Y.neq rfl rfl) ?_))
 refine .gw 94 (Y.move rfl rfl) ?_
 refine .splitD (d := 98) rfl (fun c98 => ?_) (fun c98 => ?_)
 refine .gw 98 (Y.move rfl rfl) (.gw 98 (Y.not rfl) (.gw 94 (Y.pick rfl rfl rfl) ?_))
 refine .pk ?_
 refine .nil (.condT rfl (.sr ?_))
 refine .an ?_
 refine .nil (.ret ?_)
 exact .rb rfl (df (by (simp only [Shaped, c13, Int.reduceEq, Bool.not_eq_true, false_and, true_and, and_true, and_false, or_false, false_or, ne_eq]) <;> (first | omega | grind)))
 refine .gz 98 (.gz 98 (.gw 94 (Y.pick rfl rfl rfl) ?_))
 refine .pk ?_
 refine .nil (.condF rfl (.skip ?_))
 refine .seq (.sr ?_)
 refine .mv ?_
 refine .vl (Y.lss rfl rfl) (.nil (.condT rfl ?_))
 refine .sr ?_
 refine .fa fl39_5 ?_
 refine .ld sh3 ?_
 refine .vl (Y.eql rfl rfl) ?_
 refine .an ?_
 refine .nil (.ret ?_)
 exact .rb rfl (dd (by (simp only [Shaped, c13, Int.reduceEq, Bool.not_eq_true, false_and, true_and, and_true, and_false, or_false, false_or, ne_eq]) <;> (first | omega | grind)))
 refine .ld sh3 ?_
 refine .nil ⟨rfl, ?_⟩
 refine .quietN (n := 3) [1] [2, 5, 6] 2 rfl krf (.cn 1 rfl (Y.load sh3 rfl rfl rfl rfl) (.nil ?_))
 refine .one 2 rfl krf (.callP ok124 (operands_spec (op := c.op)) rfl (.keep rfl rfl .nil) dcd rfl ?_)
 refine .nil ⟨rfl, ?_⟩
 refine .quietN (n := 0) [5, 6] [] 0 rfl krf (.cn 5 rfl (Y.assign rfl rfl) (.cn 6 rfl (Y.assign rfl rfl) ?_))
 refine .nil (.done krf (.sr ?_))
 refine .mv ?_
 refine .vl (Y.eql rfl rfl) (.nil ?_)
 refine .condD rfl (fun c21 => ?_) (fun c21 => ?_)
 refine .sr ?_
 refine .an ?_
 refine .nil (.ret ?_)
 exact .rb rfl (df (by (simp only [Shaped, c13, Int.reduceEq, Bool.not_eq_true, false_and, true_and, and_true, and_false, or_false, false_or, ne_eq]) <;> (first | omega | grind)))
 refine .skip (.seq (.sr ?_))
 refine .fa fl39_3 ?_
 refine .ld sh22 ?_
 refine .vl (Y.len (n := c.args.length) sl22 rfl (congrArg some (List.length_map ..))) ?_
 refine .mv ?_
 refine .vl (Y.neq rfl rfl) ?_
 refine .mv ?_
 refine .splitD (d := 88) rfl (fun c88 => ?_) (fun c88 => ?_)
 refine .gz 88 (.gz 88 (.gz 88 ?_))
 refine .gz 88 ?_
 refine .pk ?_
 refine .mv ?_
 refine .gz 94 (.gz 94 (.gz 94 ?_))
 refine .gz 94 (.gz 98 (.gz 98 ?_))
 refine .gz 94 ?_
 refine .pk ?_
 refine .nil (.condT rfl (.sr ?_))
 refine .an ?_
 refine .nil (.ret ?_)
 exact .rb rfl (df (by (simp only [Shaped, c13, Int.reduceEq, Bool.not_eq_true, false_and, true_and, and_true, and_false, or_false, false_or, ne_eq]) <;> (first | omega | grind)))
 refine .gw 88 (Y.fieldAddr fl39_1 rfl rfl) (.gw 88 (Y.load sh3 rfl rfl rfl rfl) (.gw 88 (Y.move rfl rfl) ?_))
 refine .gw 88 (Y.neq rfl rfl) ?_
 refine .pk ?_
 refine .mv ?_
 refine .splitD (d := 94) rfl (fun c94 => ?_) (fun c94 => ?_)
 refine .gz 94 (.gz 94 (.gz 94 ?_))
 refine .gz 94 (.gz 98 (.gz 98 ?_))
 refine .gz 94 ?_
 refine .pk ?_
 refine .nil (.condT rfl (.sr ?_))
 refine .an ?_
 refine .nil (.ret ?_)
 exact .rb rfl (df (by (simp only [Shaped, c13, Int.reduceEq, Bool.not_eq_true, false_and, true_and, and_true, and_false, or_false, false_or, ne_eq]) <;> (first | omega | grind)))
 refine .gw 94 (Y.fieldAddr fl39_4 rfl rfl) (.gw 94 (Y.load sh37 rfl rfl rfl rfl) (.gw 94 (Y.neq rfl rfl) ?_))
 refine .gw 94 (Y.move rfl rfl) ?_
 refine .splitD (d := 98) rfl (fun c98 => ?_) (fun c98 => ?_)
 refine .gw 98 (Y.move rfl rfl) (.gw 98 (Y.not rfl) (.gw 94 (Y.pick rfl rfl rfl) ?_))
 refine .pk ?_
 refine .nil (.condT rfl (.sr ?_))
 refine .an ?_
 refine .nil (.ret ?_)
 exact .rb rfl (df (by (simp only [Shaped, c13, Int.reduceEq, Bool.not_eq_true, false_and, true_and, and_true, and_false, or_false, false_or, ne_eq]) <;> (first | omega | grind)))
 refine .gz 98 (.gz 98 (.gw 94 (Y.pick rfl rfl rfl) ?_))
 refine .pk ?_
 refine .nil (.condF rfl (.skip ?_))
 refine .seq (.sr ?_)
 refine .mv ?_
 refine .vl (Y.lss rfl rfl) (.nil (.condT rfl ?_))
 refine .sr ?_
 refine .fa fl39_5 ?_
 refine .ld sh3 ?_
 refine .vl (Y.eql rfl rfl) ?_
 refine .an ?_
 refine .nil (.ret ?_)
 exact .rb rfl (dd (by (simp only [Shaped, c13, Int.reduceEq, Bool.not_eq_true, false_and, true_and, and_true, and_false, or_false, false_or, ne_eq]) <;> (first | omega | grind)))
 refine .sr (.vl (Y.eql rfl rfl) ?_)
 refine .an ?_
 refine .nil ?_
 refine .condD rfl (fun c22 => ?_) (fun c22 => ?_)
 refine .sr ?_
 refine .fa fl39_3 ?_
 refine .ld sh22 ?_
 refine .vl (Y.len (n := c.args.length) sl22 rfl (congrArg some (List.length_map ..))) ?_
 refine .an ?_
 refine .nil (.sr ?_)
 refine .mv ?_
 refine .vl (Y.lss rfl rfl) ?_
 refine .mv ?_
 refine .splitD (d := 29) rfl (fun c29 => ?_) (fun c29 => ?_)
 refine .gz 29 (.gz 29 (.gz 29 ?_))
 refine .pk ?_
 refine .nil (.condT rfl (.sr ?_))
 refine .an ?_
 refine .nil (.ret ?_)
 exact .rb rfl (df (by (simp only [Shaped, c22, Int.reduceEq, Bool.not_eq_true, false_and, true_and, and_true, and_false, or_false, false_or, ne_eq]) <;> (first | omega | grind)))
 refine .gw 29 (Y.move rfl rfl) (.gw 29 (Y.remI rfl rfl om) (.gw 29 (Y.eql rfl rfl) ?_))
 refine .pk ?_
 refine .nil ?_
 refine .condD rfl (fun c33 => ?_) (fun c33 => ?_)
 refine .sr ?_
 refine .an ?_
 refine .nil (.ret ?_)
 exact .rb rfl (df (by (simp only [Shaped, c22, Int.reduceEq, Bool.not_eq_true, false_and, true_and, and_true, and_false, or_false, false_or, ne_eq]) <;> (first | omega | grind)))
 refine .skip (.seq (.sr ?_))
 refine .fa fl39_3 ?_
 refine .ld sh22 ?_
 refine .vl (Y.len (n := c.args.length) sl22 rfl (congrArg some (List.length_map ..))) ?_
 refine .mv ?_
 refine .vl (Y.neq rfl rfl) ?_
 refine .mv ?_
 refine .splitD (d := 88) rfl (fun c88 => ?_) (fun c88 => ?_)
 refine .gz 88 (.gz 88 (.gz 88 ?_))
 refine .gz 88 ?_
 refine .pk ?_
 refine .mv ?_
 refine .gz 94 (.gz 94 (.gz 94 ?_))
 refine .gz 94 (.gz 98 (.gz 98 ?_))
 refine .gz 94 ?_
 refine .pk ?_
 refine .nil (.condT rfl (.sr ?_))
 refine .an ?_
 refine .nil (.ret ?_)
 exact .rb rfl (df (by (simp only [Shaped, c22, Int.reduceEq, Bool.not_eq_true, false_and, true_and, and_true, and_false, or_false, false_or, ne_eq]) <;> (first | omega | grind)))
 refine .gw 88 (Y.fieldAddr fl39_1 rfl rfl) (.gw 88 (Y.load sh3 rfl rfl rfl rfl) (.gw 88 (Y.move rfl rfl) ?_))
 refine .gw 88 (Y.neq rfl rfl) ?_
 refine .pk ?_
 refine .mv ?_
 refine .splitD (d := 94) rfl (fun c94 => ?_) (fun c94 => ?_)
 refine .gz 94 (.gz 94 (.gz 94 ?_))
 refine .gz 94 (.gz 98 (.gz 98 ?_))
 refine .gz 94 ?_
 refine .pk ?_
 refine .nil (.condT rfl (.sr ?_))
 refine .an ?_
 refine .nil (.ret ?_)
 exact .rb rfl (df (by (simp only [Shaped, c22, Int.reduceEq, Bool.not_eq_true, false_and, true_and, and_true, and_false, or_false, false_or, ne_eq]) <;> (first | omega | grind)))
 refine .gw 94 (Y.fieldAddr fl39_4 rfl rfl) (.gw 94 (Y.load sh37 rfl rfl rfl rfl) (.gw 94 (Y.neq rfl rfl) ?_))
 refine .gw 94 (Y.move rfl rfl) ?_
 refine .splitD (d := 98) rfl (fun c98 => ?_) (fun c98 => ?_)
 refine .gw 98 (Y.move rfl rfl) (.gw 98 (Y.not rfl) (.gw 94 (Y.pick rfl rfl rfl) ?_))
 refine .pk ?_
 refine .nil (.condT rfl (.sr ?_))
 refine .an ?_
 refine .nil (.ret ?_)
 exact .rb rfl (df (by (simp only [Shaped, c22, Int.reduceEq, Bool.not_eq_true, false_and, true_and, and_true, and_false, or_false, false_or, ne_eq]) <;> (first | omega | grind)))
 refine .gz 98 (.gz 98 (.gw 94 (Y.pick rfl rfl rfl) ?_))
 refine .pk ?_
 refine .nil (.condF rfl (.skip ?_))
 refine .seq (.sr ?_)
 refine .mv ?_
 refine .vl (Y.lss rfl rfl) (.nil (.condT rfl ?_))
 refine .sr ?_
 refine .fa fl39_5 ?_
 refine .ld sh3 ?_
 refine .vl (Y.eql rfl rfl) ?_
 refine .an ?_
 refine .nil (.ret ?_)
 exact .rb rfl (dd (by (simp only [Shaped, c22, Int.reduceEq, Bool.not_eq_true, false_and, true_and, and_true, and_false, or_false, false_or, ne_eq]) <;> (first | omega | grind)))
 refine .sr (.vl (Y.eql rfl rfl) ?_)
 refine .an ?_
 refine .nil ?_
 refine .condD rfl (fun c34 => ?_) (fun c34 => ?_)
 refine .region ?_
 refine .an ?_
 refine .an ?_
 refine .nil ?_
 refine .join0 (⟨[(2, .ptr 102 0 0 0), (3, .ptr 103 0 0 0), (8, vi (-1))], [(102, .cells (Netlist.row n)), (103, .cells (Cell.row c))]⟩) (((¬ (((c.args.length : Nat) : Int) ≠ 2)) ∧ (¬ (c.op ≠ 0)) ∧ (((c.num : Nat) : Int) ≠ 0)) ∨ ((¬ (((c.args.length : Nat) : Int) ≠ 2)) ∧ (¬ (c.op ≠ 0)) ∧ (¬ (((c.num : Nat) : Int) ≠ 0)))) ?_ (fun hJ33 => ?_)
 refine .sr ?_
 refine .fa fl39_3 ?_
 refine .ld sh22 ?_
 refine .vl (Y.len (n := c.args.length) sl22 rfl (congrArg some (List.length_map ..))) ?_
 refine .mv ?_
 refine .vl (Y.neq rfl rfl) ?_
 refine .mv ?_
 refine .splitD (d := 88) rfl (fun c88 => ?_) (fun c88 => ?_)
 refine .gz 88 (.gz 88 (.gz 88 ?_))
 refine .gz 88 ?_
 refine .pk ?_
 refine .mv ?_
 refine .gz 94 (.gz 94 (.gz 94 ?_))
 refine .gz 94 (.gz 98 (.gz 98 ?_))
 refine .gz 94 ?_
 refine .pk ?_
 refine .nil (.condT rfl (.sr ?_))
 refine .an ?_
 refine .nil (.ret ?_)
 exact .rb rfl (df (by (simp only [Shaped, c34, Int.reduceEq, Bool.not_eq_true, false_and, true_and, and_true, and_false, or_false, false_or, ne_eq]) <;> (first | omega | grind)))
 refine .gw 88 (Y.fieldAddr fl39_1 rfl rfl) (.gw 88 (Y.load sh3 rfl rfl rfl rfl) (.gw 88 (Y.move rfl rfl) ?_))
 refine .gw 88 (Y.neq rfl rfl) ?_
 refine .pk ?_
 refine .mv ?_
 refine .splitD (d := 94) rfl (fun c94 => ?_) (fun c94 => ?_)
 refine .gz 94 (.gz 94 (.gz 94 ?_))
 refine .gz 94 (.gz 98 (.gz 98 ?_))
 refine .gz 94 ?_
 refine .pk ?_
 refine .nil (.condT rfl (.sr ?_))
 refine .an ?_
 refine .nil (.ret ?_)
 exact .rb rfl (df (by (simp only [Shaped, c34, Int.reduceEq, Bool.not_eq_true, false_and, true_and, and_true, and_false, or_false, false_or, ne_eq]) <;> (first | omega | grind)))
 refine .gw 94 (Y.fieldAddr fl39_4 rfl rfl) (.gw 94 (Y.load sh37 rfl rfl rfl rfl) (.gw 94 (Y.neq rfl rfl) ?_))
 refine .gw 94 (Y.move rfl rfl) ?_
 refine .splitD (d := 98) rfl (fun c98 => ?_) (fun c98 => ?_)
 refine .gw 98 (Y.move rfl rfl) (.gw 98 (Y.not rfl) (.gw 94 (Y.pick rfl rfl rfl) ?_))
 refine .pk ?_
 refine .nil (.condF rfl (.skip ?_))
 exact ⟨.inl ⟨c88, c94, c98⟩, Le.mk (.c (.c (.c (.nil)))) (.c (.c (.nil)))⟩
 refine .gz 98 (.gz 98 (.gw 94 (Y.pick rfl rfl rfl) ?_))
 refine .pk ?_
 refine .nil (.condF rfl (.skip ?_))
 exact ⟨.inr (⟨c88, c94, c98⟩), Le.mk (.c (.c (.c (.nil)))) (.c (.c (.nil)))⟩
 refine .seq (.sr ?_)
 refine .mv ?_
 refine .vl (Y.lss rfl rfl) (.nil (.condT rfl ?_))
 refine .sr ?_
 refine .fa fl39_5 ?_
 refine .ld sh3 ?_
 refine .vl (Y.eql rfl rfl) ?_
 refine .an ?_
 refine .nil (.ret ?_)
 exact .rb rfl (dd (by (simp only [Shaped, c34, Int.reduceEq, Bool.not_eq_true, false_and, true_and, and_true, and_false, or_false, false_or, ne_eq]) <;> (first | omega | grind)))
 refine .sr (.vl (Y.eql rfl rfl) ?_)
 refine .an ?_
 refine .nil ?_
 refine .condD rfl (fun c36 => ?_) (fun c36 => ?_)
 refine .seq (.regionS rfl krf (.val (Y.fieldAddr fl39_1 rfl rfl) dcd ?_))
 refine .val (Y.load sh3 rfl rfl rfl rfl) dcd (.val (Y.assign rfl rfl) dcd (.val (Y.assign rfl rfl) dcd ?_))
 refine .val (Y.assign rfl rfl) dcd (.nil (.sr ?_))
 refine .fa fl39_1 ?_
 refine .ld sh3 ?_
 refine .vl (Y.lss rfl rfl) ?_
 refine .mv ?_
 refine .splitD (d := 43) rfl (fun c43 => ?_) (fun c43 => ?_)
 refine .gz 43 (.gz 43 (.gz 43 ?_))
 refine .pk ?_
 refine .mv ?_
 refine .gz 48 (.gz 48 (.gz 48 ?_))
 refine .pk ?_
 refine .mv ?_
 refine .gz 53 (.gz 53 (.gz 53 ?_))
 refine .pk ?_
 refine .nil (.condT rfl (.sr ?_))
 refine .an ?_
 refine .nil (.ret ?_)
 exact .rb rfl (df (by (simp only [Shaped, c36, Int.reduceEq, Bool.not_eq_true, false_and, true_and, and_true, and_false, or_false, false_or, ne_eq]) <;> (first | omega | grind)))
 refine .gw 43 (Y.fieldAddr fl39_1 rfl rfl) (.gw 43 (Y.load sh3 rfl rfl rfl rfl) (.gw 43 (Y.gtr rfl rfl) ?_))
 refine .pk ?_
 refine .mv ?_
 refine .splitD (d := 48) rfl (fun c48 => ?_) (fun c48 => ?_)
 refine .gz 48 (.gz 48 (.gz 48 ?_))
 refine .pk ?_
 refine .mv ?_
 refine .gz 53 (.gz 53 (.gz 53 ?_))
 refine .pk ?_
 refine .nil (.condT rfl (.sr ?_))
 refine .an ?_
 refine .nil (.ret ?_)
 exact .rb rfl (df (by (simp only [Shaped, c36, Int.reduceEq, Bool.not_eq_true, false_and, true_and, and_true, and_false, or_false, false_or, ne_eq]) <;> (first | omega | grind)))
 refine .gw 48 (Y.fieldAddr fl39_4 rfl rfl) (.gw 48 (Y.load sh37 rfl rfl rfl rfl) (.gw 48 (Y.lss rfl rfl) ?_))
 refine .pk ?_
 refine .mv ?_
 refine .splitD (d := 53) rfl (fun c53 => ?_) (fun c53 => ?_)
 refine .gz 53 (.gz 53 (.gz 53 ?_))
 refine .pk ?_
 refine .nil (.condT rfl (.sr ?_))
 refine .an ?_
 refine .nil (.ret ?_)
 exact .rb rfl (df (by (simp only [Shaped, c36, Int.reduceEq, Bool.not_eq_true, false_and, true_and, and_true, and_false, or_false, false_or, ne_eq]) <;> (first | omega | grind)))
 refine .gw 53 (Y.fieldAddr fl39_4 rfl rfl) (.gw 53 (Y.load sh37 rfl rfl rfl rfl) (.gw 53 (Y.gtr rfl rfl) ?_))
 refine .pk ?_
 refine .nil ?_
 refine .condD rfl (fun c57 => ?_) (fun c57 => ?_)
 refine .sr ?_
 refine .an ?_
 refine .nil (.ret ?_)
 exact .rb rfl (df (by (simp only [Shaped, c36, Int.reduceEq, Bool.not_eq_true, false_and, true_and, and_true, and_false, or_false, false_or, ne_eq]) <;> (first | omega | grind)))
 refine .skip ?_
 refine .join0 (⟨[(2, .ptr 102 0 0 0), (3, .ptr 103 0 0 0), (8, vi (-1))], [(102, .cells (Netlist.row n)), (103, .cells (Cell.row c))]⟩) (((¬ (((c.args.length : Nat) : Int) ≠ 2)) ∧ (¬ (c.op ≠ c.op)) ∧ (((c.num : Nat) : Int) ≠ 0)) ∨ ((¬ (((c.args.length : Nat) : Int) ≠ 2)) ∧ (¬ (c.op ≠ c.op)) ∧ (¬ (((c.num : Nat) : Int) ≠ 0)))) ?_ (fun hJ33 => ?_)
 refine .sr ?_
 refine .fa fl39_3 ?_
 refine .ld sh22 ?_
 refine .vl (Y.len (n := c.args.length) sl22 rfl (congrArg some (List.length_map ..))) ?_
 refine .mv ?_
 refine .vl (Y.neq rfl rfl) ?_
 refine .mv ?_
 refine .splitD (d := 88) rfl (fun c88 => ?_) (fun c88 => ?_)
 refine .gz 88 (.gz 88 (.gz 88 ?_))
 refine .gz 88 ?_
 refine .pk ?_
 refine .mv ?_
 refine .gz 94 (.gz 94 (.gz 94 ?_))
 refine .gz 94 (.gz 98 (.gz 98 ?_))
 refine .gz 94 ?_
 refine .pk ?_
 refine .nil (.condT rfl (.sr ?_))
 refine .an ?_
 refine .nil (.ret ?_)
 exact .rb rfl (df (by (simp only [Shaped, c36, Int.reduceEq, Bool.not_eq_true, false_and, true_and, and_true, and_false, or_false, false_or, ne_eq]) <;> (first | omega | grind)))
 refine .gw 88 (Y.fieldAddr fl39_1 rfl rfl) (.gw 88 (Y.load sh3 rfl rfl rfl rfl) (.gw 88 (Y.move rfl rfl) ?_))
 refine .gw 88 (Y.neq rfl rfl) ?_
 refine .pk ?_
 refine .mv ?_
 refine .splitD (d := 94) rfl (fun c94 => ?_) (fun c94 => ?_)
 refine .gz 94 (.gz 94 (.gz 94 ?_))
 refine .gz 94 (.gz 98 (.gz 98 ?_))
 refine .gz 94 ?_
 refine .pk ?_
 refine .nil (.condT rfl (.sr ?_))
 refine .an ?_
 refine .nil (.ret ?_)
 exact .rb rfl (df (by (simp only [Shaped, c36, Int.reduceEq, Bool.not_eq_true, false_and, true_and, and_true, and_false, or_false, false_or, ne_eq]) <;> (first | omega | grind)))
 refine .gw 94 (Y.fieldAddr fl39_4 rfl rfl) (.gw 94 (Y.load sh37 rfl rfl rfl rfl) (.gw 94 (Y.neq rfl rfl) ?_))
 refine .gw 94 (Y.move rfl rfl) ?_
 refine .splitD (d := 98) rfl (fun c98 => ?_) (fun c98 => ?_)
 refine .gw 98 (Y.move rfl rfl) (.gw 98 (Y.not rfl) (.gw 94 (Y.pick rfl rfl rfl) ?_))
 refine .pk ?_
 refine .nil (.condF rfl (.skip ?_))
 exact ⟨.inl ⟨c88, c94, c98⟩, Le.mk (.c (.c (.c (.nil)))) (.c (.c (.nil)))⟩
 refine .gz 98 (.gz 98 (.gw 94 (Y.pick rfl rfl rfl) ?_))
 refine .pk ?_
 refine .nil (.condF rfl (.skip ?_))
 exact ⟨.inr (⟨c88, c94, c98⟩), Le.mk (.c (.c (.c (.nil)))) (.c (.c (.nil)))⟩
 refine .seq (.sr ?_)
 refine .mv ?_
 refine .vl (Y.lss rfl rfl) (.nil (.condT rfl ?_))
 refine .sr ?_
 refine .fa fl39_5 ?_
 refine .ld sh3 ?_
 refine .vl (Y.eql rfl rfl) ?_
 refine .an ?_
 refine .nil (.ret ?_)
 exact .rb rfl (dd (by (simp only [Shaped, c36, Int.reduceEq, Bool.not_eq_true, false_and, true_and, and_true, and_false, or_false, false_or, ne_eq]) <;> (first | omega | grind)))
 refine .sr (.vl (Y.eql rfl rfl) ?_)
 refine .an ?_
 refine .nil ?_
 refine .condD rfl (fun c58 => ?_) (fun c58 => ?_)
 refine .regionS rfl krf (.val (Y.fieldAddr fl27_4 rfl rfl) dcd (.val (Y.load sh24 rfl rfl rfl rfl) dcd ?_))
 refine .val (Y.len (n := n.mems.length) sl24 rfl (congrArg some (List.length_map ..))) dcd (.val (Y.assign rfl rfl) dcd (.val (Y.assign rfl rfl) dcd ?_))
 refine .nil (.seq (.sr ?_))
 refine .fa fl39_3 ?_
 refine .ld sh22 ?_
 refine .vl (Y.len (n := c.args.length) sl22 rfl (congrArg some (List.length_map ..))) ?_
 refine .mv ?_
 refine .vl (Y.neq rfl rfl) ?_
 refine .mv ?_
 refine .splitD (d := 88) rfl (fun c88 => ?_) (fun c88 => ?_)
 refine .gz 88 (.gz 88 (.gz 88 ?_))
 refine .gz 88 ?_
 refine .pk ?_
 refine .mv ?_
 refine .gz 94 (.gz 94 (.gz 94 ?_))
 refine .gz 94 (.gz 98 (.gz 98 ?_))
 refine .gz 94 ?_
 refine .pk ?_
 refine .nil (.condT rfl (.sr ?_))
 refine .an ?_
 refine .nil (.ret ?_)
 exact .rb rfl (df (by (simp only [Shaped, c58, Int.reduceEq, Bool.not_eq_true, false_and, true_and, and_true, and_false, or_false, false_or, ne_eq]) <;> (first | omega | grind)))
 refine .gw 88 (Y.fieldAddr fl39_1 rfl rfl) (.gw 88 (Y.load sh3 rfl rfl rfl rfl) (.gw 88 (Y.move rfl rfl) ?_))
 refine .gw 88 (Y.neq rfl rfl) ?_
 refine .pk ?_
 refine .mv ?_
 refine .splitD (d := 94) rfl (fun c94 => ?_) (fun c94 => ?_)
 refine .gz 94 (.gz 94 (.gz 94 ?_))
 refine .gz 94 (.gz 98 (.gz 98 ?_))
 refine .gz 94 ?_
 refine .pk ?_
 refine .nil (.condT rfl (.sr ?_))
 refine .an ?_
 refine .nil (.ret ?_)
 exact .rb rfl (df (by (simp only [Shaped, c58, Int.reduceEq, Bool.not_eq_true, false_and, true_and, and_true, and_false, or_false, false_or, ne_eq]) <;> (first | omega | grind)))
 refine .gw 94 (Y.fieldAddr fl39_4 rfl rfl) (.gw 94 (Y.load sh37 rfl rfl rfl rfl) (.gw 94 (Y.neq rfl rfl) ?_))
 refine .gw 94 (Y.move rfl rfl) ?_
 refine .splitD (d := 98) rfl (fun c98 => ?_) (fun c98 => ?_)
 refine .gw 98 (Y.move rfl rfl) (.gw 98 (Y.not rfl) (.gw 94 (Y.pick rfl rfl rfl) ?_))
 refine .pk ?_
 refine .nil (.condT rfl (.sr ?_))
 refine .an ?_
 refine .nil (.ret ?_)
 exact .rb rfl (df (by (simp only [Shaped, c58, Int.reduceEq, Bool.not_eq_true, false_and, true_and, and_true, and_false, or_false, false_or, ne_eq]) <;> (first | omega | grind)))
 refine .gz 98 (.gz 98 (.gw 94 (Y.pick rfl rfl rfl) ?_))
 refine .pk ?_
 refine .nil (.condF rfl (.skip ?_))
 refine .seq (.sr ?_)
 refine .mv ?_
 refine .vl (Y.lss rfl rfl) (.nil ?_)
 refine .condD rfl (fun c104 => ?_) (fun c104 => ?_)
 refine .sr ?_
 refine .fa fl39_5 ?_
 refine .ld sh3 ?_
 refine .vl (Y.eql rfl rfl) ?_
 refine .an ?_
 refine .nil (.ret ?_)
 exact .rb rfl (dd (by (simp only [Shaped, c58, Int.reduceEq, Bool.not_eq_true, false_and, true_and, and_true, and_false, or_false, false_or, ne_eq]) <;> (first | omega | grind)))
 refine .skip (.sr ?_)
 refine .fa fl39_5 ?_
 refine .ld sh3 ?_
 refine .vl (Y.geq rfl rfl) ?_
 refine .mv ?_
 refine .splitD (d := 111) rfl (fun c111 => ?_) (fun c111 => ?_)
 refine .gw 111 (Y.fieldAddr fl39_5 rfl rfl) (.gw 111 (Y.load sh3 rfl rfl rfl rfl) (.gw 111 (Y.move rfl rfl) ?_))
 refine .gw 111 (Y.lss rfl rfl) ?_
 refine .pk ?_
 refine .mv ?_
 refine .splitD (d := 117) rfl (fun c117 => ?_) (fun c117 => ?_)
 refine .gw 117 (Y.fieldAddr fl39_0 rfl rfl) (.gw 117 (Y.load sh3 rfl rfl rfl rfl) (.gw 117 (Y.neq rfl rfl) ?_))
 refine .gw 117 (Y.move rfl rfl) ?_
 refine .splitD (d := 121) rfl (fun c121 => ?_) (fun c121 => ?_)
 refine .gz 121 (.gz 121 (.gz 121 ?_))
 refine .gz 121 (.gz 121 (.gz 121 ?_))
 refine .gz 121 (.gz 121 (.gw 117 (Y.pick rfl rfl rfl) ?_))
 refine .pk ?_
 refine .an ?_
 refine .nil (.ret ?_)
 exact .rb rfl (dt (by (simp only [Shaped, c58, Int.reduceEq, Bool.not_eq_true, false_and, true_and, and_true, and_false, or_false, false_or, ne_eq]) <;> (first | omega | grind)))
 refine .gw 121 (Y.fieldAddr fl27_5 rfl rfl) (.gw 121 (Y.load sh25 rfl rfl rfl rfl) (.gw 121 (Y.fieldAddr fl39_5 rfl rfl) ?_))
 refine .gw 121 (Y.load sh3 rfl rfl rfl rfl) (.gw 121 (Y.indexF (m := (c.mem).toNat) sl25 rfl rfl om (row_getD (d := default) om)) ?_)
 refine .gw 121 (Y.fieldAddr fl83_2 rfl rfl) (.gw 121 (Y.load sh4 rfl rfl rfl rfl) (.gw 121 (Y.not rfl) ?_))
 refine .gw 117 (Y.pick rfl rfl rfl) ?_
 refine .pk ?_
 refine .an ?_
 refine .nil (.ret ?_)
 exact .rb rfl (db (by (simp only [Shaped, c58, Int.reduceEq, Bool.not_eq_true, false_and, true_and, and_true, and_false, or_false, false_or, ne_eq]) <;> (first | omega | grind)))
 refine .gz 117 (.gz 117 (.gz 117 ?_))
 refine .gz 117 (.gz 121 (.gz 121 ?_))
 refine .gz 121 (.gz 121 (.gz 121 ?_))
 refine .gz 121 (.gz 121 (.gz 121 ?_))
 refine .gz 117 ?_
 refine .pk ?_
 refine .an ?_
 refine .nil (.ret ?_)
 exact .rb rfl (df (by (simp only [Shaped, c58, Int.reduceEq, Bool.not_eq_true, false_and, true_and, and_true, and_false, or_false, false_or, ne_eq]) <;> (first | omega | grind)))
 refine .gz 111 (.gz 111 (.gz 111 ?_))
 refine .gz 111 ?_
 refine .pk ?_
 refine .mv ?_
 refine .gz 117 (.gz 117 (.gz 117 ?_))
 refine .gz 117 (.gz 121 (.gz 121 ?_))
 refine .gz 121 (.gz 121 (.gz 121 ?_))
 refine .gz 121 (.gz 121 (.gz 121 ?_))
 refine .gz 117 ?_
 refine .pk ?_
 refine .an ?_
 refine .nil (.ret ?_)
 exact .rb rfl (df (by (simp only [Shaped, c58, Int.reduceEq, Bool.not_eq_true, false_and, true_and, and_true, and_false, or_false, false_or, ne_eq]) <;> (first | omega | grind)))
 refine .sr (.vl (Y.eql rfl rfl) ?_)
 refine .an ?_
 refine .nil ?_
 refine .condD rfl (fun c63 => ?_) (fun c63 => ?_)
 refine .regionS rfl krf (.val (Y.fieldAddr fl27_4 rfl rfl) dcd (.val (Y.load sh24 rfl rfl rfl rfl) dcd ?_))
 refine .val (Y.len (n := n.mems.length) sl24 rfl (congrArg some (List.length_map ..))) dcd (.val (Y.assign rfl rfl) dcd (.val (Y.assign rfl rfl) dcd ?_))
 refine .nil (.seq (.sr ?_))
 refine .fa fl39_3 ?_
 refine .ld sh22 ?_
 refine .vl (Y.len (n := c.args.length) sl22 rfl (congrArg some (List.length_map ..))) ?_
 refine .mv ?_
 refine .vl (Y.neq rfl rfl) ?_
 refine .mv ?_
 refine .splitD (d := 88) rfl (fun c88 => ?_) (fun c88 => ?_)
 refine .gz 88 (.gz 88 (.gz 88 ?_))
 refine .gz 88 ?_
 refine .pk ?_
 refine .mv ?_
 refine .gz 94 (.gz 94 (.gz 94 ?_))
 refine .gz 94 (.gz 98 (.gz 98 ?_))
 refine .gz 94 ?_
 refine .pk ?_
 refine .nil (.condT rfl (.sr ?_))
 refine .an ?_
 refine .nil (.ret ?_)
 exact .rb rfl (df (by (simp only [Shaped, c63, Int.reduceEq, Bool.not_eq_true, false_and, true_and, and_true, and_false, or_false, false_or, ne_eq]) <;> (first | omega | grind)))
 refine .gw 88 (Y.fieldAddr fl39_1 rfl rfl) (.gw 88 (Y.load sh3 rfl rfl rfl rfl) (.gw 88 (Y.move rfl rfl) ?_))
 refine .gw 88 (Y.neq rfl rfl) ?_
 refine .pk ?_
 refine .mv ?_
 refine .splitD (d := 94) rfl (fun c94 => ?_) (fun c94 => ?_)
 refine .gz 94 (.gz 94 (.gz 94 ?_))
 refine .gz 94 (.gz 98 (.gz 98 ?_))
 refine .gz 94 ?_
 refine .pk ?_
 refine .nil (.condT rfl (.sr ?_))
 refine .an ?_
 refine .nil (.ret ?_)
 exact .rb rfl (df (by (simp only [Shaped, c63, Int.reduceEq, Bool.not_eq_true, false_and, true_and, and_true, and_false, or_false, false_or, ne_eq]) <;> (first | omega | grind)))
 refine .gw 94 (Y.fieldAddr fl39_4 rfl rfl) (.gw 94 (Y.load sh37 rfl rfl rfl rfl) (.gw 94 (Y.neq rfl rfl) ?_))
 refine .gw 94 (Y.move rfl rfl) ?_
 refine .splitD (d := 98) rfl (fun c98 => ?_) (fun c98 => ?_)
 refine .gw 98 (Y.move rfl rfl) (.gw 98 (Y.not rfl) (.gw 94 (Y.pick rfl rfl rfl) ?_))
 refine .pk ?_
 refine .nil (.condT rfl (.sr ?_))
 refine .an ?_
 refine .nil (.ret ?_)
 exact .rb rfl (df (by (simp only [Shaped, c63, Int.reduceEq, Bool.not_eq_true, false_and, true_and, and_true, and_false, or_false, false_or, ne_eq]) <;> (first | omega | grind)))
 refine .gz 98 (.gz 98 (.gw 94 (Y.pick rfl rfl rfl) ?_))
 refine .pk ?_
 refine .nil (.condF rfl (.skip ?_))
 refine .seq (.sr ?_)
 refine .mv ?_
 refine .vl (Y.lss rfl rfl) (.nil ?_)
 refine .condD rfl (fun c104 => ?_) (fun c104 => ?_)
 refine .sr ?_
 refine .fa fl39_5 ?_
 refine .ld sh3 ?_
 refine .vl (Y.eql rfl rfl) ?_
 refine .an ?_
 refine .nil (.ret ?_)
 exact .rb rfl (dd (by (simp only [Shaped, c63, Int.reduceEq, Bool.not_eq_true, false_and, true_and, and_true, and_false, or_false, false_or, ne_eq]) <;> (first | omega | grind)))
 refine .skip (.sr ?_)
 refine .fa fl39_5 ?_
 refine .ld sh3 ?_
 refine .vl (Y.geq rfl rfl) ?_
 refine .mv ?_
 refine .splitD (d := 111) rfl (fun c111 => ?_) (fun c111 => ?_)
 refine .gw 111 (Y.fieldAddr fl39_5 rfl rfl) (.gw 111 (Y.load sh3 rfl rfl rfl rfl) (.gw 111 (Y.move rfl rfl) ?_))
 refine .gw 111 (Y.lss rfl rfl) ?_
 refine .pk ?_
 refine .mv ?_
 refine .splitD (d := 117) rfl (fun c117 => ?_) (fun c117 => ?_)
 refine .gw 117 (Y.fieldAddr fl39_0 rfl rfl) (.gw 117 (Y.load sh3 rfl rfl rfl rfl) (.gw 117 (Y.neq rfl rfl) ?_))
 refine .gw 117 (Y.move rfl rfl) ?_
 refine .splitD (d := 121) rfl (fun c121 => ?_) (fun c121 => ?_)
 refine .gz 121 (.gz 121 (.gz 121 ?_))
 refine .gz 121 (.gz 121 (.gz 121 ?_))
 refine .gz 121 (.gz 121 (.gw 117 (Y.pick rfl rfl rfl) ?_))
 refine .pk ?_
 refine .an ?_
 refine .nil (.ret ?_)
 exact .rb rfl (dt (by (simp only [Shaped, c63, Int.reduceEq, Bool.not_eq_true, false_and, true_and, and_true, and_false, or_false, false_or, ne_eq]) <;> (first | omega | grind)))
 refine .gw 121 (Y.fieldAddr fl27_5 rfl rfl) (.gw 121 (Y.load sh25 rfl rfl rfl rfl) (.gw 121 (Y.fieldAddr fl39_5 rfl rfl) ?_))
 refine .gw 121 (Y.load sh3 rfl rfl rfl rfl) (.gw 121 (Y.indexF (m := (c.mem).toNat) sl25 rfl rfl om (row_getD (d := default) om)) ?_)
 refine .gw 121 (Y.fieldAddr fl83_2 rfl rfl) (.gw 121 (Y.load sh4 rfl rfl rfl rfl) (.gw 121 (Y.not rfl) ?_))
 refine .gw 117 (Y.pick rfl rfl rfl) ?_
 refine .pk ?_
 refine .an ?_
 refine .nil (.ret ?_)
 exact .rb rfl (db (by (simp only [Shaped, c63, Int.reduceEq, Bool.not_eq_true, false_and, true_and, and_true, and_false, or_false, false_or, ne_eq]) <;> (first | omega | grind)))
 refine .gz 117 (.gz 117 (.gz 117 ?_))
 refine .gz 117 (.gz 121 (.gz 121 ?_))
 refine .gz 121 (.gz 121 (.gz 121 ?_))
 refine .gz 121 (.gz 121 (.gz 121 ?_))
 refine .gz 117 ?_
 refine .pk ?_
 refine .an ?_
 refine .nil (.ret ?_)
 exact .rb rfl (df (by (simp only [Shaped, c63, Int.reduceEq, Bool.not_eq_true, false_and, true_and, and_true, and_false, or_false, false_or, ne_eq]) <;> (first | omega | grind)))
 refine .gz 111 (.gz 111 (.gz 111 ?_))
 refine .gz 111 ?_
 refine .pk ?_
 refine .mv ?_
 refine .gz 117 (.gz 117 (.gz 117 ?_))
 refine .gz 117 (.gz 121 (.gz 121 ?_))
 refine .gz 121 (.gz 121 (.gz 121 ?_))
 refine .gz 121 (.gz 121 (.gz 121 ?_))
 refine .gz 117 ?_
 refine .pk ?_
 refine .an ?_
 refine .nil (.ret ?_)
 exact .rb rfl (df (by (simp only [Shaped, c63, Int.reduceEq, Bool.not_eq_true, false_and, true_and, and_true, and_false, or_false, false_or, ne_eq]) <;> (first | omega | grind)))
 refine .sr (.vl (Y.eql rfl rfl) ?_)
 refine .an ?_
 refine .nil ?_
 refine .condD rfl (fun c68 => ?_) (fun c68 => ?_)
 refine .sr ?_
 refine .an ?_
 refine .nil (.sr ?_)
 refine .fa fl39_4 ?_
 refine .ld sh37 ?_
 refine .fa fl27_3 ?_
 refine .ld sh22 ?_
 refine .vl (Y.len (n := n.ins.length) sl22 rfl (congrArg some (List.length_map ..))) (.vl (Y.convK ii3 ii37 rfl (by first | rfl | exact IntWalk.u64_in _ om)) ?_)
 refine .vl (Y.geq rfl rfl) (.nil ?_)
 refine .condD rfl (fun c76 => ?_) (fun c76 => ?_)
 refine .sr ?_
 refine .an ?_
 refine .nil (.ret ?_)
 exact .rb rfl (df (by (simp only [Shaped, c68, Int.reduceEq, Bool.not_eq_true, false_and, true_and, and_true, and_false, or_false, false_or, ne_eq]) <;> (first | omega | grind)))
 refine .skip ?_
 refine .join0 (⟨[(2, .ptr 102 0 0 0), (3, .ptr 103 0 0 0), (8, vi (-1))], [(102, .cells (Netlist.row n)), (103, .cells (Cell.row c))]⟩) (((¬ (((c.args.length : Nat) : Int) ≠ 0)) ∧ (¬ (c.op ≠ 0)) ∧ (((c.num : Nat) : Int) ≠ 0)) ∨ ((¬ (((c.args.length : Nat) : Int) ≠ 0)) ∧ (¬ (c.op ≠ 0)) ∧ (¬ (((c.num : Nat) : Int) ≠ 0)))) ?_ (fun hJ33 => ?_)
 refine .sr ?_
 refine .fa fl39_3 ?_
 refine .ld sh22 ?_
 refine .vl (Y.len (n := c.args.length) sl22 rfl (congrArg some (List.length_map ..))) ?_
 refine .mv ?_
 refine .vl (Y.neq rfl rfl) ?_
 refine .mv ?_
 refine .splitD (d := 88) rfl (fun c88 => ?_) (fun c88 => ?_)
 refine .gz 88 (.gz 88 (.gz 88 ?_))
 refine .gz 88 ?_
 refine .pk ?_
 refine .mv ?_
 refine .gz 94 (.gz 94 (.gz 94 ?_))
 refine .gz 94 (.gz 98 (.gz 98 ?_))
 refine .gz 94 ?_
 refine .pk ?_
 refine .nil (.condT rfl (.sr ?_))
 refine .an ?_
 refine .nil (.ret ?_)
 exact .rb rfl (df (by (simp only [Shaped, c68, Int.reduceEq, Bool.not_eq_true, false_and, true_and, and_true, and_false, or_false, false_or, ne_eq]) <;> (first | omega | grind)))
 refine .gw 88 (Y.fieldAddr fl39_1 rfl rfl) (.gw 88 (Y.load sh3 rfl rfl rfl rfl) (.gw 88 (Y.move rfl rfl) ?_))
 refine .gw 88 (Y.neq rfl rfl) ?_
 refine .pk ?_
 refine .mv ?_
 refine .splitD (d := 94) rfl (fun c94 => ?_) (fun c94 => ?_)
 refine .gz 94 (.gz 94 (.gz 94 ?_))
 refine .gz 94 (.gz 98 (.gz 98 ?_))
 refine .gz 94 ?_
 refine .pk ?_
 refine .nil (.condT rfl (.sr ?_))
 refine .an ?_
 refine .nil (.ret ?_)
 exact .rb rfl (df (by (simp only [Shaped, c68, Int.reduceEq, Bool.not_eq_true, false_and, true_and, and_true, and_false, or_false, false_or, ne_eq]) <;> (first | omega | grind)))
 refine .gw 94 (Y.fieldAddr fl39_4 rfl rfl) (.gw 94 (Y.load sh37 rfl rfl rfl rfl) (.gw 94 (Y.neq rfl rfl) ?_))
 refine .gw 94 (Y.move rfl rfl) ?_
 refine .splitD (d := 98) rfl (fun c98 => ?_) (fun c98 => ?_)
 refine .gw 98 (Y.move rfl rfl) (.gw 98 (Y.not rfl) (.gw 94 (Y.pick rfl rfl rfl) ?_))
 refine .pk ?_
 refine .nil (.condF rfl (.skip ?_))
 exact ⟨.inl ⟨c88, c94, c98⟩, Le.mk (.c (.c (.c (.nil)))) (.c (.c (.nil)))⟩
 refine .gz 98 (.gz 98 (.gw 94 (Y.pick rfl rfl rfl) ?_))
 refine .pk ?_
 refine .nil (.condF rfl (.skip ?_))
 exact ⟨.inr (⟨c88, c94, c98⟩), Le.mk (.c (.c (.c (.nil)))) (.c (.c (.nil)))⟩
 refine .seq (.sr ?_)
 refine .mv ?_
 refine .vl (Y.lss rfl rfl) (.nil (.condT rfl ?_))
 refine .sr ?_
 refine .fa fl39_5 ?_
 refine .ld sh3 ?_
 refine .vl (Y.eql rfl rfl) ?_
 refine .an ?_
 refine .nil (.ret ?_)
 exact .rb rfl (dd (by (simp only [Shaped, c68, Int.reduceEq, Bool.not_eq_true, false_and, true_and, and_true, and_false, or_false, false_or, ne_eq]) <;> (first | omega | grind)))
 refine .seq (.sr (.vl (Y.eql rfl rfl) ?_))
 refine .an ?_
 refine .nil ?_
 refine .condKD rfl (fun c77 => ?_) (fun c77 => ?_)
 refine .skip (.condT rfl (.region ?_))
 refine .fa fl27_5 ?_
 refine .ld sh25 ?_
 refine .vl (Y.len (n := n.streams.length) sl25 rfl (congrArg some (List.length_map ..))) ?_
 refine .an ?_
 refine .nil (.seq (.sr ?_))
 refine .fa fl39_3 ?_
 refine .ld sh22 ?_
 refine .vl (Y.len (n := c.args.length) sl22 rfl (congrArg some (List.length_map ..))) ?_
 refine .mv ?_
 refine .vl (Y.neq rfl rfl) ?_
 refine .mv ?_
 refine .splitD (d := 88) rfl (fun c88 => ?_) (fun c88 => ?_)
 refine .gz 88 (.gz 88 (.gz 88 ?_))
 refine .gz 88 ?_
 refine .pk ?_
 refine .mv ?_
 refine .gz 94 (.gz 94 (.gz 94 ?_))
 refine .gz 94 (.gz 98 (.gz 98 ?_))
 refine .gz 94 ?_
 refine .pk ?_
 refine .nil (.condT rfl (.sr ?_))
 refine .an ?_
 refine .nil (.ret ?_)
 exact .rb rfl (df (by (simp only [Shaped, c77, Int.reduceEq, Bool.not_eq_true, false_and, true_and, and_true, and_false, or_false, false_or, ne_eq]) <;> (first | omega | grind)))
 refine .gw 88 (Y.fieldAddr fl39_1 rfl rfl) (.gw 88 (Y.load sh3 rfl rfl rfl rfl) (.gw 88 (Y.move rfl rfl) ?_))
 refine .gw 88 (Y.neq rfl rfl) ?_
 refine .pk ?_
 refine .mv ?_
 refine .splitD (d := 94) rfl (fun c94 => ?_) (fun c94 => ?_)
 refine .gz 94 (.gz 94 (.gz 94 ?_))
 refine .gz 94 (.gz 98 (.gz 98 ?_))
 refine .gz 94 ?_
 refine .pk ?_
 refine .nil (.condT rfl (.sr ?_))
 refine .an ?_
 refine .nil (.ret ?_)
 exact .rb rfl (df (by (simp only [Shaped, c77, Int.reduceEq, Bool.not_eq_true, false_and, true_and, and_true, and_false, or_false, false_or, ne_eq]) <;> (first | omega | grind)))
 refine .gw 94 (Y.fieldAddr fl39_4 rfl rfl) (.gw 94 (Y.load sh37 rfl rfl rfl rfl) (.gw 94 (Y.neq rfl rfl) ?_))
 refine .gw 94 (Y.move rfl rfl) ?_
 refine .splitD (d := 98) rfl (fun c98 => ?_) (fun c98 => ?_)
 refine .gw 98 (Y.move rfl rfl) (.gw 98 (Y.not rfl) (.gw 94 (Y.pick rfl rfl rfl) ?_))
 refine .pk ?_
 refine .nil (.condT rfl (.sr ?_))
 refine .an ?_
 refine .nil (.ret ?_)
 exact .rb rfl (df (by (simp only [Shaped, c77, Int.reduceEq, Bool.not_eq_true, false_and, true_and, and_true, and_false, or_false, false_or, ne_eq]) <;> (first | omega | grind)))
 refine .gz 98 (.gz 98 (.gw 94 (Y.pick rfl rfl rfl) ?_))
 refine .pk ?_
 refine .nil (.condF rfl (.skip ?_))
 refine .seq (.sr ?_)
 refine .mv ?_
 refine .vl (Y.lss rfl rfl) (.nil ?_)
 refine .condD rfl (fun c104 => ?_) (fun c104 => ?_)
 refine .sr ?_
 refine .fa fl39_5 ?_
 refine .ld sh3 ?_
 refine .vl (Y.eql rfl rfl) ?_
 refine .an ?_
 refine .nil (.ret ?_)
 exact .rb rfl (dd (by (simp only [Shaped, c77, Int.reduceEq, Bool.not_eq_true, false_and, true_and, and_true, and_false, or_false, false_or, ne_eq]) <;> (first | omega | grind)))
 refine .skip (.sr ?_)
 refine .fa fl39_5 ?_
 refine .ld sh3 ?_
 refine .vl (Y.geq rfl rfl) ?_
 refine .mv ?_
 refine .splitD (d := 111) rfl (fun c111 => ?_) (fun c111 => ?_)
 refine .gw 111 (Y.fieldAddr fl39_5 rfl rfl) (.gw 111 (Y.load sh3 rfl rfl rfl rfl) (.gw 111 (Y.move rfl rfl) ?_))
 refine .gw 111 (Y.lss rfl rfl) ?_
 refine .pk ?_
 refine .mv ?_
 refine .splitD (d := 117) rfl (fun c117 => ?_) (fun c117 => ?_)
 refine .gw 117 (Y.fieldAddr fl39_0 rfl rfl) (.gw 117 (Y.load sh3 rfl rfl rfl rfl) (.gw 117 (Y.neq rfl rfl) ?_))
 refine .gw 117 (Y.move rfl rfl) ?_
 refine .splitD (d := 121) rfl (fun c121 => ?_) (fun c121 => ?_)
 refine .gz 121 (.gz 121 (.gz 121 ?_))
 refine .gz 121 (.gz 121 (.gz 121 ?_))
 refine .gz 121 (.gz 121 (.gw 117 (Y.pick rfl rfl rfl) ?_))
 refine .pk ?_
 refine .an ?_
 refine .nil (.ret ?_)
 exact .rb rfl (dt (by (simp only [Shaped, c77, Int.reduceEq, Bool.not_eq_true, false_and, true_and, and_true, and_false, or_false, false_or, ne_eq]) <;> (first | omega | grind)))
 refine .gw 121 (Y.fieldAddr fl27_5 rfl rfl) (.gw 121 (Y.load sh25 rfl rfl rfl rfl) (.gw 121 (Y.fieldAddr fl39_5 rfl rfl) ?_))
 refine .gw 121 (Y.load sh3 rfl rfl rfl rfl) (.gw 121 (Y.indexF (m := (c.mem).toNat) sl25 rfl rfl om (row_getD (d := default) om)) ?_)
 refine .gw 121 (Y.fieldAddr fl83_2 rfl rfl) (.gw 121 (Y.load sh4 rfl rfl rfl rfl) (.gw 121 (Y.not rfl) ?_))
 refine .gw 117 (Y.pick rfl rfl rfl) ?_
 refine .pk ?_
 refine .an ?_
 refine .nil (.ret ?_)
 exact .rb rfl (db (by (simp only [Shaped, c77, Int.reduceEq, Bool.not_eq_true, false_and, true_and, and_true, and_false, or_false, false_or, ne_eq]) <;> (first | omega | grind)))
 refine .gz 117 (.gz 117 (.gz 117 ?_))
 refine .gz 117 (.gz 121 (.gz 121 ?_))
 refine .gz 121 (.gz 121 (.gz 121 ?_))
 refine .gz 121 (.gz 121 (.gz 121 ?_))
 refine .gz 117 ?_
 refine .pk ?_
 refine .an ?_
 refine .nil (.ret ?_)
 exact .rb rfl (df (by (simp only [Shaped, c77, Int.reduceEq, Bool.not_eq_true, false_and, true_and, and_true, and_false, or_false, false_or, ne_eq]) <;> (first | omega | grind)))
 refine .gz 111 (.gz 111 (.gz 111 ?_))
 refine .gz 111 ?_
 refine .pk ?_
 refine .mv ?_
 refine .gz 117 (.gz 117 (.gz 117 ?_))
 refine .gz 117 (.gz 121 (.gz 121 ?_))
 refine .gz 121 (.gz 121 (.gz 121 ?_))
 refine .gz 121 (.gz 121 (.gz 121 ?_))
 refine .gz 117 ?_
 refine .pk ?_
 refine .an ?_
 refine .nil (.ret ?_)
 exact .rb rfl (df (by (simp only [Shaped, c77, Int.reduceEq, Bool.not_eq_true, false_and, true_and, and_true, and_false, or_false, false_or, ne_eq]) <;> (first | omega | grind)))
 refine .region (.vl (Y.eql rfl rfl) ?_)
 refine .an ?_
 refine .nil ?_
 refine .condKD rfl (fun c77 => ?_) (fun c77 => ?_)
 refine .region ?_
 refine .fa fl27_5 ?_
 refine .ld sh25 ?_
 refine .vl (Y.len (n := n.streams.length) sl25 rfl (congrArg some (List.length_map ..))) ?_
 refine .an ?_
 refine .nil (.seq (.sr ?_))
 refine .fa fl39_3 ?_
 refine .ld sh22 ?_
 refine .vl (Y.len (n := c.args.length) sl22 rfl (congrArg some (List.length_map ..))) ?_
 refine .mv ?_
 refine .vl (Y.neq rfl rfl) ?_
 refine .mv ?_
 refine .splitD (d := 88) rfl (fun c88 => ?_) (fun c88 => ?_)
 refine .gz 88 (.gz 88 (.gz 88 ?_))
 refine .gz 88 ?_
 refine .pk ?_
 refine .mv ?_
 refine .gz 94 (.gz 94 (.gz 94 ?_))
 refine .gz 94 (.gz 98 (.gz 98 ?_))
 refine .gz 94 ?_
 refine .pk ?_
 refine .nil (.condT rfl (.sr ?_))
 refine .an ?_
 refine .nil (.ret ?_)
 exact .rb rfl (df (by (simp only [Shaped, c77, Int.reduceEq, Bool.not_eq_true, false_and, true_and, and_true, and_false, or_false, false_or, ne_eq]) <;> (first | omega | grind)))
 refine .gw 88 (Y.fieldAddr fl39_1 rfl rfl) (.gw 88 (Y.load sh3 rfl rfl rfl rfl) (.gw 88 (Y.move rfl rfl) ?_))
 refine .gw 88 (Y.neq rfl rfl) ?_
 refine .pk ?_
 refine .mv ?_
 refine .splitD (d := 94) rfl (fun c94 => ?_) (fun c94 => ?_)
 refine .gz 94 (.gz 94 (.gz 94 ?_))
 refine .gz 94 (.gz 98 (.gz 98 ?_))
 refine .gz 94 ?_
 refine .pk ?_
 refine .nil (.condT rfl (.sr ?_))
 refine .an ?_
 refine .nil (.ret ?_)
 exact .rb rfl (df (by (simp only [Shaped, c77, Int.reduceEq, Bool.not_eq_true, false_and, true_and, and_true, and_false, or_false, false_or, ne_eq]) <;> (first | omega | grind)))
 refine .gw 94 (Y.fieldAddr fl39_4 rfl rfl) (.gw 94 (Y.load sh37 rfl rfl rfl rfl) (.gw 94 (Y.neq rfl rfl) ?_))
 refine .gw 94 (Y.move rfl rfl) ?_
 refine .splitD (d := 98) rfl (fun c98 => ?_) (fun c98 => ?_)
 refine .gw 98 (Y.move rfl rfl) (.gw 98 (Y.not rfl) (.gw 94 (Y.pick rfl rfl rfl) ?_))
 refine .pk ?_
 refine .nil (.condT rfl (.sr ?_))
 refine .an ?_
 refine .nil (.ret ?_)
 exact .rb rfl (df (by (simp only [Shaped, c77, Int.reduceEq, Bool.not_eq_true, false_and, true_and, and_true, and_false, or_false, false_or, ne_eq]) <;> (first | omega | grind)))
 refine .gz 98 (.gz 98 (.gw 94 (Y.pick rfl rfl rfl) ?_))
 refine .pk ?_
 refine .nil (.condF rfl (.skip ?_))
 refine .seq (.sr ?_)
 refine .mv ?_
 refine .vl (Y.lss rfl rfl) (.nil ?_)
 refine .condD rfl (fun c104 => ?_) (fun c104 => ?_)
 refine .sr ?_
 refine .fa fl39_5 ?_
 refine .ld sh3 ?_
 refine .vl (Y.eql rfl rfl) ?_
 refine .an ?_
 refine .nil (.ret ?_)
 exact .rb rfl (dd (by (simp only [Shaped, c77, Int.reduceEq, Bool.not_eq_true, false_and, true_and, and_true, and_false, or_false, false_or, ne_eq]) <;> (first | omega | grind)))
 refine .skip (.sr ?_)
 refine .fa fl39_5 ?_
 refine .ld sh3 ?_
 refine .vl (Y.geq rfl rfl) ?_
 refine .mv ?_
 refine .splitD (d := 111) rfl (fun c111 => ?_) (fun c111 => ?_)
 refine .gw 111 (Y.fieldAddr fl39_5 rfl rfl) (.gw 111 (Y.load sh3 rfl rfl rfl rfl) (.gw 111 (Y.move rfl rfl) ?_))
 refine .gw 111 (Y.lss rfl rfl) ?_
 refine .pk ?_
 refine .mv ?_
 refine .splitD (d := 117) rfl (fun c117 => ?_) (fun c117 => ?_)
 refine .gw 117 (Y.fieldAddr fl39_0 rfl rfl) (.gw 117 (Y.load sh3 rfl rfl rfl rfl) (.gw 117 (Y.neq rfl rfl) ?_))
 refine .gw 117 (Y.move rfl rfl) ?_
 refine .splitD (d := 121) rfl (fun c121 => ?_) (fun c121 => ?_)
 refine .gz 121 (.gz 121 (.gz 121 ?_))
 refine .gz 121 (.gz 121 (.gz 121 ?_))
 refine .gz 121 (.gz 121 (.gw 117 (Y.pick rfl rfl rfl) ?_))
 refine .pk ?_
 refine .an ?_
 refine .nil (.ret ?_)
 exact .rb rfl (dt (by (simp only [Shaped, c77, Int.reduceEq, Bool.not_eq_true, false_and, true_and, and_true, and_false, or_false, false_or, ne_eq]) <;> (first | omega | grind)))
 refine .gw 121 (Y.fieldAddr fl27_5 rfl rfl) (.gw 121 (Y.load sh25 rfl rfl rfl rfl) (.gw 121 (Y.fieldAddr fl39_5 rfl rfl) ?_))
 refine .gw 121 (Y.load sh3 rfl rfl rfl rfl) (.gw 121 (Y.indexF (m := (c.mem).toNat) sl25 rfl rfl om (row_getD (d := default) om)) ?_)
 refine .gw 121 (Y.fieldAddr fl83_2 rfl rfl) (.gw 121 (Y.load sh4 rfl rfl rfl rfl) (.gw 121 (Y.not rfl) ?_))
 refine .gw 117 (Y.pick rfl rfl rfl) ?_
 refine .pk ?_
 refine .an ?_
 refine .nil (.ret ?_)
 exact .rb rfl (db (by (simp only [Shaped, c77, Int.reduceEq, Bool.not_eq_true, false_and, true_and, and_true, and_false, or_false, false_or, ne_eq]) <;> (first | omega | grind)))
 refine .gz 117 (.gz 117 (.gz 117 ?_))
 refine .gz 117 (.gz 121 (.gz 121 ?_))
 refine .gz 121 (.gz 121 (.gz 121 ?_))
 refine .gz 121 (.gz 121 (.gz 121 ?_))
 refine .gz 117 ?_
 refine .pk ?_
 refine .an ?_
 refine .nil (.ret ?_)
 exact .rb rfl (df (by (simp only [Shaped, c77, Int.reduceEq, Bool.not_eq_true, false_and, true_and, and_true, and_false, or_false, false_or, ne_eq]) <;> (first | omega | grind)))
 refine .gz 111 (.gz 111 (.gz 111 ?_))
 refine .gz 111 ?_
 refine .pk ?_
 refine .mv ?_
 refine .gz 117 (.gz 117 (.gz 117 ?_))
 refine .gz 117 (.gz 121 (.gz 121 ?_))
 refine .gz 121 (.gz 121 (.gz 121 ?_))
 refine .gz 121 (.gz 121 (.gz 121 ?_))
 refine .gz 117 ?_
 refine .pk ?_
 refine .an ?_
 refine .nil (.ret ?_)
 exact .rb rfl (df (by (simp only [Shaped, c77, Int.reduceEq, Bool.not_eq_true, false_and, true_and, and_true, and_false, or_false, false_or, ne_eq]) <;> (first | omega | grind)))
 refine .sr ?_
 refine .an ?_
 refine .nil (.ret ?_)
 exact .rb rfl (df (by (simp only [Shaped, c11, c13, c22, c34, c36, c58, c63, c68, c77, c77, Int.reduceEq, Bool.not_eq_true, false_and, true_and, and_true, and_false, or_false, false_or, ne_eq]) <;> (first | omega | grind)))
end Go.Proofs.Ytligpghohcfpnaa
/- Walks through the searches of slices. -/
namespace Go.Proofs.Ytligpghohcfpnaa
open Go Go.AW Go.Proofs
theorem indexFuncInt_spec {l : List Int} {p : Int → Bool} {g : Nat} {row : List X} (hl : l.length ≤ 17592186043904) (hok : callOK Try.prog g = true) (hg : ∀ z ∈ l, ACalls Try.prog g [vi z, .fp row 0] [] [] (fun r o => r = .v (.bool (p z)) ∧ o = [])) : ACalls Try.prog 123 [.fz 1 (l.map irow), .clo (.func g) [] [.fp row 0]] [] [] (fun r o => r = (vi (idxF p l)) ∧ o = []) := by
 refine ACalls.of Try.func123 rfl rfl rfl (n := 19) dcd (nbE rfl) (.sr ?_)
 refine .an ?_
 refine .nil (.seq (.sr ?_))
 refine .mv ?_
 refine .vl (Y.len (n := l.length) sl22 rfl (congrArg some (List.length_map ..))) ?_
 refine .mv ?_
 refine .nil (.block ?_)
 refine .loop1 (fun (n8_2 : Nat) => ⟨[(0, .fz 1 (l.map irow)), (1, .clo (.func g) [] [.fp row 0]), (7, vi ((l.length : Nat) : Int)), (8, vi (n8_2 : Int))], []⟩) (fun (n8_2 : Nat) => ((n8_2 : Int) ≤ ((l.length : Nat) : Int)) ∧ (∀ j, j < n8_2 → p (l.getD j 0) = false)) (fun (n8_2 : Nat) => (((l.length : Nat) : Int) - (n8_2 : Int)).toNat) 0 (⟨om, fun j hj => by omega⟩) (Le.mk (.c (.c (.c (.cons (look_int rfl rlo) (.nil))))) (.nil)) (fun n8_2 hI2 => ?_)
 obtain ⟨hb2, h0⟩ := hI2
 refine .sr (.vl (Y.lss rfl rfl) (.nil ?_))
 refine .seq ?_
 refine .condD rfl (fun c9 => ?_) (fun c9 => ?_)
 refine .skip (.seq (.block ?_))
 refine .sr ?_
 refine .mv ?_
 refine .an ?_
 refine .nil (.sr ?_)
 refine .mv ?_
 refine .mv ?_
 refine .mv ?_
 refine .vl (Y.indexF (m := n8_2) sl22 rfl rfl rlo (row_getD (d := 0) om)) ?_
 refine .ld sh3 ?_
 refine .callCP rfl hok (hg _ (getD_mem' om)) rfl (.keep rfl rfl (.keep rfl rfl .nil)) dcd rfl (.nil ?_)
 refine .cond rfl (fun c16 => ?_) (fun c16 => ?_)
 refine .sr ?_
 refine .mv ?_
 refine .an ?_
 refine .nil (.ret ?_)
 exact .ri rfl (idxF_found h0 om c16)
 refine .skip (.region ?_)
 refine .vl (Y.addI rfl rfl oms) ?_
 refine .mv ?_
 refine .nil ?_
 exact ⟨n8_2 + 1, ⟨om, below_false h0 c16⟩, om, Le.mk (.c (.c (.c (.cons (look_int rfl rlo) (.nil))))) (.nil)⟩
 refine .exit (.sr ?_)
 refine .an ?_
 refine .nil (.ret ?_)
 exact .ri rfl (idxF_none (fun j hj => h0 j om))
theorem containsFuncInt_spec {l : List Int} {p : Int → Bool} {g : Nat} {row : List X} (hl : l.length ≤ 17592186043904) (hok : callOK Try.prog g = true) (hg : ∀ z ∈ l, ACalls Try.prog g [vi z, .fp row 0] [] [] (fun r o => r = .v (.bool (p z)) ∧ o = [])) : ACalls Try.prog 95 [.fz 1 (l.map irow), .clo (.func g) [] [.fp row 0]] [] [] (fun r o => r = .v (.bool (l.any p)) ∧ o = []) := by
 refine ACalls.of Try.func95 rfl rfl rfl (n := 9) dcd (nbE rfl) (.sr ?_)
 refine .an ?_
 refine .nil (.sr ?_)
 refine .mv ?_
 refine .mv ?_
 refine .callP ok123 (indexFuncInt_spec (l := l) hl hok hg) rfl (.keep rfl rfl (.keep rfl rfl .nil)) dcd rfl (.vl (Y.geq rfl rfl) ?_)
 refine .an ?_
 refine .nil (.ret ?_)
 exact .rb rfl (idxF_any)
theorem indexFuncCell_spec {l : List Cell} {p : Cell → Bool} {g : Nat} {row : List X} (hl : l.length ≤ 17592186043904) (hok : callOK Try.prog g = true) (hg : ∀ z ∈ l, ACalls Try.prog g [.agg (Cell.row z), .fp row 0] [] [] (fun r o => r = .v (.bool (p z)) ∧ o = [])) : ACalls Try.prog 126 [.fz 6 (l.map Cell.row), .clo (.func g) [] [.fp row 0]] [] [] (fun r o => r = (vi (idxF p l)) ∧ o = []) := by
 refine ACalls.of Try.func126 rfl rfl rfl (n := 19) dcd (nbE rfl) (.sr ?_)
 refine .an ?_
 refine .nil (.seq (.sr ?_))
 refine .mv ?_
 refine .vl (Y.len (n := l.length) sl23 rfl (congrArg some (List.length_map ..))) ?_
 refine .mv ?_
 refine .nil (.block ?_)
 refine .loop1 (fun (n8_2 : Nat) => ⟨[(0, .fz 6 (l.map Cell.row)), (1, .clo (.func g) [] [.fp row 0]), (7, vi ((l.length : Nat) : Int)), (8, vi (n8_2 : Int))], []⟩) (fun (n8_2 : Nat) => ((n8_2 : Int) ≤ ((l.length : Nat) : Int)) ∧ (∀ j, j < n8_2 → p (l.getD j default) = false)) (fun (n8_2 : Nat) => (((l.length : Nat) : Int) - (n8_2 : Int)).toNat) 0 (⟨om, fun j hj => by omega⟩) (Le.mk (.c (.c (.c (.cons (look_int rfl rlo) (.nil))))) (.nil)) (fun n8_2 hI2 => ?_)
 obtain ⟨hb2, h0⟩ := hI2
 refine .sr (.vl (Y.lss rfl rfl) (.nil ?_))
 refine .seq ?_
 refine .condD rfl (fun c9 => ?_) (fun c9 => ?_)
 refine .skip (.seq (.block ?_))
 refine .sr ?_
 refine .mv ?_
 refine .an ?_
 refine .nil (.sr ?_)
 refine .mv ?_
 refine .mv ?_
 refine .mv ?_
 refine .vl (Y.indexF (m := n8_2) sl23 rfl rfl rlo (row_getD (d := default) om)) ?_
 refine .vl (Y.loadA sh39 rfl rfl (nbE rfl) rfl rfl) (.callCP rfl hok (hg _ (getD_mem' om)) rfl (.keep rfl rfl (.keep rfl rfl .nil)) dcd rfl (.nil ?_))
 refine .cond rfl (fun c16 => ?_) (fun c16 => ?_)
 refine .sr ?_
 refine .mv ?_
 refine .an ?_
 refine .nil (.ret ?_)
 exact .ri rfl (idxF_found h0 om c16)
 refine .skip (.region ?_)
 refine .vl (Y.addI rfl rfl oms) ?_
 refine .mv ?_
 refine .nil ?_
 exact ⟨n8_2 + 1, ⟨om, below_false h0 c16⟩, om, Le.mk (.c (.c (.c (.cons (look_int rfl rlo) (.nil))))) (.nil)⟩
 refine .exit (.sr ?_)
 refine .an ?_
 refine .nil (.ret ?_)
 exact .ri rfl (idxF_none (fun j hj => h0 j om))
theorem containsFuncCell_spec {l : List Cell} {p : Cell → Bool} {g : Nat} {row : List X} (hl : l.length ≤ 17592186043904) (hok : callOK Try.prog g = true) (hg : ∀ z ∈ l, ACalls Try.prog g [.agg (Cell.row z), .fp row 0] [] [] (fun r o => r = .v (.bool (p z)) ∧ o = [])) : ACalls Try.prog 100 [.fz 6 (l.map Cell.row), .clo (.func g) [] [.fp row 0]] [] [] (fun r o => r = .v (.bool (l.any p)) ∧ o = []) := by
 refine ACalls.of Try.func100 rfl rfl rfl (n := 9) dcd (nbE rfl) (.sr ?_)
 refine .an ?_
 refine .nil (.sr ?_)
 refine .mv ?_
 refine .mv ?_
 refine .callP ok126 (indexFuncCell_spec (l := l) hl hok hg) rfl (.keep rfl rfl (.keep rfl rfl .nil)) dcd rfl (.vl (Y.geq rfl rfl) ?_)
 refine .an ?_
 refine .nil (.ret ?_)
 exact .rb rfl (idxF_any)
theorem indexBool_spec {l : List Bool} {b : Bool} (hl : l.length ≤ 140737488351232) : ACalls Try.prog 125 [.fz 1 (l.map brow), .v (.bool b)] [] [] (fun r o => r = (vi (idxF (fun x => b == x) l)) ∧ o = []) := by
 refine ACalls.of Try.func125 rfl rfl rfl (n := 19) dcd (nbE rfl) (.sr ?_)
 refine .an ?_
 refine .nil (.seq (.sr ?_))
 refine .mv ?_
 refine .vl (Y.len (n := l.length) sl63 rfl (congrArg some (List.length_map ..))) ?_
 refine .mv ?_
 refine .nil (.block ?_)
 refine .loop1 (fun (n8_2 : Nat) => ⟨[(0, .fz 1 (l.map brow)), (1, .v (.bool b)), (7, vi ((l.length : Nat) : Int)), (8, vi (n8_2 : Int))], []⟩) (fun (n8_2 : Nat) => ((n8_2 : Int) ≤ ((l.length : Nat) : Int)) ∧ (∀ j, j < n8_2 → (fun x => b == x) (l.getD j false) = false)) (fun (n8_2 : Nat) => (((l.length : Nat) : Int) - (n8_2 : Int)).toNat) 0 (⟨om, fun j hj => by omega⟩) (Le.mk (.c (.c (.c (.cons (look_int rfl rlo) (.nil))))) (.nil)) (fun n8_2 hI2 => ?_)
 obtain ⟨hb2, h0⟩ := hI2
 refine .sr (.vl (Y.lss rfl rfl) (.nil ?_))
 refine .seq ?_
 refine .condD rfl (fun c9 => ?_) (fun c9 => ?_)
 refine .skip (.seq (.block ?_))
 refine .sr ?_
 refine .mv ?_
 refine .an ?_
 refine .nil (.sr ?_)
 refine .mv ?_
 refine .mv ?_
 refine .mv ?_
 refine .vl (Y.indexF (m := n8_2) sl63 rfl rfl rlo (row_getD (d := false) om)) ?_
 refine .ld sh4 ?_
 refine .vl (Y.eqlB un4 rfl rfl) (.nil ?_)
 refine .cond rfl (fun c16 => ?_) (fun c16 => ?_)
 refine .sr ?_
 refine .mv ?_
 refine .an ?_
 refine .nil (.ret ?_)
 exact .ri rfl (idxF_found (d := false) h0 om c16)
 refine .skip (.region ?_)
 refine .vl (Y.addI rfl rfl oms) ?_
 refine .mv ?_
 refine .nil ?_
 exact ⟨n8_2 + 1, ⟨om, below_false h0 c16⟩, om, Le.mk (.c (.c (.c (.cons (look_int rfl rlo) (.nil))))) (.nil)⟩
 refine .exit (.sr ?_)
 refine .an ?_
 refine .nil (.ret ?_)
 exact .ri rfl (idxF_none (d := false) (fun j hj => h0 j om))
theorem containsBool_spec {l : List Bool} {b : Bool} (hl : l.length ≤ 140737488351232) : ACalls Try.prog 99 [.fz 1 (l.map brow), .v (.bool b)] [] [] (fun r o => r = .v (.bool (l.any (fun x => b == x))) ∧ o = []) := by
 refine ACalls.of Try.func99 rfl rfl rfl (n := 9) dcd (nbE rfl) (.sr ?_)
 refine .an ?_
 refine .nil (.sr ?_)
 refine .mv ?_
 refine .mv ?_
 refine .callP ok125 (indexBool_spec (l := l) (b := b) (om)) rfl (.keep rfl rfl (.keep rfl rfl .nil)) dcd rfl (.vl (Y.geq rfl rfl) ?_)
 refine .an ?_
 refine .nil (.ret ?_)
 exact .rb rfl (idxF_any)
end Go.Proofs.Ytligpghohcfpnaa
/- Walks through slices.Concat. -/
namespace Go.Proofs.Ytligpghohcfpnaa
open Go Go.AW Go.Proofs
theorem grow_spec {n : Nat} (hn : n ≤ 35184372088832) : ACalls Try.prog 108 [.v (.slice none 0 0), vi (n : Int)] [] [] (fun r o => r = .uni 1 (([] : List Int).map irow) ∧ o = []) := by
 refine ACalls.of Try.func108 rfl rfl rfl (n := 27) dcd (nbE rfl) (.sr ?_)
 refine .an ?_
 refine .nil (.seq (.sr ?_))
 refine .mv ?_
 refine .vl (Y.lss rfl rfl) (.nil ?_)
 refine .condD rfl (fun c6 => ?_) (fun c6 => ?_)
 exfalso; omega
 refine .skip (.seq (.sr ?_))
 refine .mv ?_
 refine .mv ?_
 refine .vl (Y.capNil sl22 rfl) ?_
 refine .mv ?_
 refine .vl (Y.len (n := 0) sl22 rfl rfl) (.vl (Y.subI rfl rfl oms) (.vl (Y.subI rfl rfl oms) ?_))
 refine .an ?_
 refine .nil (.sr ?_)
 refine .mv ?_
 refine .vl (Y.gtr rfl rfl) (.nil ?_)
 refine .condD rfl (fun c16 => ?_) (fun c16 => ?_)
 refine .region ?_
 refine .mv ?_
 refine .mv ?_
 refine .vl (Y.capNil sl22 rfl) (.vl (Y.sliceNil sl22 rfl (.none _) (.some rfl)) ?_)
 refine .mv ?_
 refine .appendMake (n := (((n : Int) - (0 - 0)).toNat)) sl22 ze3 rfl rfl ii3 rfl (by first | rfl | (rw [show ((n : Int) - (0 - 0) : Int) = ((((n : Int) - (0 - 0)).toNat : Nat) : Int) by omega]; rfl)) om dcd om om dcd ?_
 refine .mv ?_
 refine .vl (Y.len (n := 0) sl22 rfl rfl) (.sh (Sh.adoptE (d := 22) (n := (List.replicate (((n : Int) - (0 - 0)).toNat) 0).length) 122 ((List.replicate (((n : Int) - (0 - 0)).toNat) 0).map irow) rfl (by first | rfl | exact rep_map rfl) (len_map rfl) dcd) ?_)
 refine .vl (Y.sliceO (l := 0) (h := 0) sl22 rfl (.none _) (.some rfl) om om) ?_
 refine .an ?_
 refine .nil (.sr ?_)
 refine .mv ?_
 refine .an ?_
 refine .sh (Sh.trimE (d := 4) (o := 122) (([] : List Int).map irow) rfl rfl (by simp) (by simp) dcd) (.sh (Sh.detach (d := 4) (o := 122) rfl rfl (len_map oms) dcd) ?_)
 refine .nil (.ret ?_)
 exact ⟨_, _, rfl, rfl, (cg1 (fun (z0 : List Int) => X.uni 1 (z0.map irow)) (rfl : ([] : List Int) = ([] : List Int)) : X.uni 1 (([] : List Int).map irow) = X.uni 1 (([] : List Int).map irow)), rfl⟩
 refine .skip (.sr ?_)
 refine .mv ?_
 refine .an ?_
 refine .nil (.sh (Sh.nilU (d := 4) 1 rfl) (.ret ?_))
 exact ⟨_, _, rfl, rfl, (cg1 (fun (z0 : List Int) => X.uni 1 (z0.map irow)) (rfl : ([] : List Int) = ([] : List Int)) : X.uni 1 (([] : List Int).map irow) = X.uni 1 (([] : List Int).map irow)), rfl⟩
theorem concat_spec {ls : List (List Int)} (h1 : ls.length ≤ 1000) (hn : ls.flatten.length ≤ 17592186044416) : ACalls Try.prog 72 [.fz 1 (ls.map lrow)] [] [] (fun r o => r = .uni 1 (ls.flatten.map irow) ∧ o = []) := by
 refine ACalls.of Try.func72 rfl rfl rfl (n := 36) dcd (nbE rfl) (.sr ?_)
 refine .an ?_
 refine .nil (.sr ?_)
 refine .an ?_
 refine .nil (.seq (.sr ?_))
 refine .mv ?_
 refine .vl (Y.len (n := ls.length) sl92 rfl (congrArg some (List.length_map ..))) ?_
 refine .mv ?_
 refine .nil (.block ?_)
 refine .loop2 (fun (size3_3 : Nat) (n11_3 : Nat) => ⟨[(0, .fz 1 (ls.map lrow)), (3, vi (size3_3 : Int)), (9, .fz 1 (ls.map lrow)), (10, vi ((ls.length : Nat) : Int)), (11, vi (n11_3 : Int))], []⟩) (fun (size3_3 : Nat) (n11_3 : Nat) => ((n11_3 : Int) ≤ ((ls.length : Nat) : Int)) ∧ (size3_3 = (ls.take n11_3).flatten.length)) (fun (size3_3 : Nat) (n11_3 : Nat) => (((ls.length : Nat) : Int) - (n11_3 : Int)).toNat) 0 0 (⟨om, rfl⟩) (Le.mk (.c (.cons (look_int rfl rlo) (.c (.c (.cons (look_int rfl rlo) (.nil)))))) (.nil)) (fun size3_3 n11_3 hI3 => ?_)
 obtain ⟨hb3, hs⟩ := hI3
 refine .sr (.vl (Y.lss rfl rfl) (.nil ?_))
 refine .seq ?_
 refine .condD rfl (fun c12 => ?_) (fun c12 => ?_)
 refine .skip (.seq (.block ?_))
 refine .sr ?_
 have hf := congrArg List.length (flat_succ (ls := ls) (i := n11_3) om)
 rw [List.length_append] at hf
 have hf2 := flat_le ls (n11_3 + 1)
 have hf3 := flat_le ls n11_3
 refine .vl (Y.indexF (m := n11_3) sl92 rfl rfl rlo (row_getD (d := []) om)) ?_
 refine .ld sh22 ?_
 refine .an ?_
 refine .nil (.sr ?_)
 refine .mv ?_
 refine .mv ?_
 refine .vl (Y.len (n := (ls.getD n11_3 []).length) sl22 rfl (congrArg some (List.length_map ..))) (.vl (Y.addI rfl rfl oms) ?_)
 refine .an ?_
 refine .nil (.sr ?_)
 refine .mv ?_
 refine .vl (Y.lss rfl rfl) (.nil ?_)
 refine .condD rfl (fun c20 => ?_) (fun c20 => ?_)
 exfalso; omega
 refine .skip (.region ?_)
 refine .vl (Y.addI rfl rfl oms) ?_
 refine .mv ?_
 refine .nil ?_
 exact ⟨size3_3 + ((ls.getD n11_3 []).length), n11_3 + 1, ⟨om, om⟩, om, Le.mk (.c (.cons (look_int rfl rlo) (.c (.c (.cons (look_int rfl rlo) (.nil)))))) (.nil)⟩
 refine .exit (.sr ?_)
 have hf3 := flat_le ls n11_3
 refine .mv ?_
 refine .callP ok108 (grow_spec (n := size3_3) (om)) rfl (.keep rfl rfl (.keep rfl rfl .nil)) dcd rfl ?_
 refine .assignX rfl dcd (.sh (Sh.adoptE (d := 6) (n := ([] : List Int).length) 106 (([] : List Int).map irow) rfl (by first | rfl | exact rep_map rfl) (len_map rfl) dcd) (.nil ?_))
 refine .seq (.sr ?_)
 refine .mv ?_
 refine .vl (Y.len (n := ls.length) sl92 rfl (congrArg some (List.length_map ..))) ?_
 refine .mv ?_
 refine .nil (.block ?_)
 refine .loop2 (fun (n27_11 : Nat) (newslice6_11 : List Int) => ⟨[(6, .slc 106 1 0 newslice6_11.length), (25, .fz 1 (ls.map lrow)), (26, vi ((ls.length : Nat) : Int)), (27, vi (n27_11 : Int))], [(106, .rows 1 (newslice6_11.map irow))]⟩) (fun (n27_11 : Nat) (newslice6_11 : List Int) => ((n27_11 : Int) ≤ ((ls.length : Nat) : Int)) ∧ (newslice6_11 = (ls.take n27_11).flatten)) (fun (n27_11 : Nat) (newslice6_11 : List Int) => (((ls.length : Nat) : Int) - (n27_11 : Int)).toNat) 0 ([] : List Int) (⟨om, rfl⟩) (Le.mk (.cons (look_slc rfl om) (.c (.c (.cons (look_int rfl rlo) (.nil))))) (.c (.nil))) (fun n27_11 newslice6_11 hI11 => ?_)
 obtain ⟨hb11, ht⟩ := hI11
 refine .sr (.vl (Y.lss rfl rfl) (.nil ?_))
 refine .seq ?_
 refine .condD rfl (fun c28 => ?_) (fun c28 => ?_)
 refine .skip (.seq (.block ?_))
 refine .sr ?_
 have hf := flat_succ (ls := ls) (i := n27_11) om
 have hf1 := congrArg List.length hf
 rw [List.length_append] at hf1
 have hf2 := flat_le ls (n27_11 + 1)
 have hf3 := flat_le ls n27_11
 have hf4 := congrArg List.length ht
 refine .vl (Y.indexF (m := n27_11) sl92 rfl rfl rlo (row_getD (d := []) om)) ?_
 refine .ld sh22 ?_
 refine .an ?_
 refine .nil (.region ?_)
 refine .mv ?_
 refine .mv ?_
 refine .appendFE ((newslice6_11 ++ (ls.getD n27_11 [])).map irow) (newslice6_11 ++ (ls.getD n27_11 [])).length sl22 ze3 rfl rfl rfl rfl (app_le oms) (app_map oms) (app_n oms) oms oms dcd dcd ?_
 refine .an ?_
 refine .nil (.region ?_)
 refine .vl (Y.addI rfl rfl oms) ?_
 refine .mv ?_
 refine .nil ?_
 exact ⟨n27_11 + 1, newslice6_11 ++ (ls.getD n27_11 []), ⟨om, by rw [ht]; exact hf.symm⟩, om, Le.mk (.cons (look_slc rfl om) (.c (.c (.cons (look_int rfl rlo) (.nil))))) (.c (.nil))⟩
 refine .exit (.sr ?_)
 refine .mv ?_
 refine .an ?_
 refine .sh (Sh.detach (d := 2) (o := 106) rfl rfl (len_map om) dcd) ?_
 refine .nil (.ret ?_)
 exact ⟨_, _, rfl, rfl, (cg1 (fun (z0 : List Int) => X.uni 1 (z0.map irow)) (by rw [ht, List.take_of_length_le om] : newslice6_11 = ls.flatten) : X.uni 1 (newslice6_11.map irow) = X.uni 1 (ls.flatten.map irow)), rfl⟩
end Go.Proofs.Ytligpghohcfpnaa
/- The walk through formed. -/
namespace Go.Proofs.Ytligpghohcfpnaa
open Go Go.AW Go.Proofs
theorem formed1_spec {i : Int} {n : Netlist} : ACalls Try.prog 94 [vi i, .fp (Netlist.row n) 0] [] [] (fun r o => r = .v (.bool (decide (In i n.widths.length))) ∧ o = []) := by
 refine ACalls.of Try.func94 rfl rfl rfl (n := 13) dcd (nbE rfl) (.sr ?_)
 refine .an ?_
 refine .nil (.sr ?_)
 refine .mv ?_
 refine .vl (Y.geq rfl rfl) ?_
 refine .mv ?_
 refine .splitD (d := 6) rfl (fun c6 => ?_) (fun c6 => ?_)
 refine .gw 6 (Y.move rfl rfl) (.gw 6 (Y.fieldAddr fl27_1 rfl rfl) (.gw 6 (Y.load sh22 rfl rfl rfl rfl) ?_))
 refine .gw 6 (Y.len (n := n.widths.length) sl22 rfl (congrArg some (List.length_map ..))) (.gw 6 (Y.lss rfl rfl) ?_)
 refine .pk ?_
 refine .an ?_
 refine .nil (.ret ?_)
 exact .rb rfl (dd (by (simp only [In]) <;> (first | omega | grind)))
 refine .gz 6 (.gz 6 (.gz 6 ?_))
 refine .gz 6 (.gz 6 ?_)
 refine .pk ?_
 refine .an ?_
 refine .nil (.ret ?_)
 exact .rb rfl (df (by (simp only [In]) <;> (first | omega | grind)))
theorem formed2_spec {i : Int} {n : Netlist} : ACalls Try.prog 96 [vi i, .fp ([.clo (.func 94) [] [.fp (Netlist.row n) 0]]) 0] [] [] (fun r o => r = .v (.bool (!decide (In i n.widths.length))) ∧ o = []) := by
 refine ACalls.of Try.func96 rfl rfl rfl (n := 8) dcd (nbE rfl) (.sr ?_)
 refine .an ?_
 refine .nil (.sr ?_)
 refine .ld sh45 ?_
 refine .mv ?_
 refine .callCP rfl ok94 (formed1_spec (i := i)) rfl (.keep rfl rfl (.keep rfl rfl .nil)) dcd rfl (.vl (Y.not rfl) ?_)
 refine .an ?_
 refine .nil (.ret ?_)
 exact .rb rfl (rfl)
theorem formed3_spec {i : Int} {n : Netlist} : ACalls Try.prog 97 [vi i, .fp ([.clo (.func 94) [] [.fp (Netlist.row n) 0]]) 0] [] [] (fun r o => r = .v (.bool (!decide (In i n.widths.length))) ∧ o = []) := by
 refine ACalls.of Try.func97 rfl rfl rfl (n := 8) dcd (nbE rfl) (.sr ?_)
 refine .an ?_
 refine .nil (.sr ?_)
 refine .ld sh45 ?_
 refine .mv ?_
 refine .callCP rfl ok94 (formed1_spec (i := i)) rfl (.keep rfl rfl (.keep rfl rfl .nil)) dcd rfl (.vl (Y.not rfl) ?_)
 refine .an ?_
 refine .nil (.ret ?_)
 exact .rb rfl (rfl)
theorem formed_spec {n : Netlist} (hs : n.Small) (hwi : n.widths.length + n.ins.length ≤ 17592186044416) : ACalls Try.prog 57 [.agg (Netlist.row n)] [] [] (fun r o => r = .v (.bool (decide (Formed n))) ∧ o = []) := by
 refine ACalls.of Try.func57 rfl rfl rfl (n := 234) dcd (nbE rfl) ?_
 have hs1 := hs.name; have hs2 := hs.widths; have hs3 := hs.cells; have hs4 := hs.ins; have hs5 := hs.mems; have hs6 := hs.streams; have hs7 := hs.active; have hs8 := hs.data; have hs9 := hs.rets
 have hcat : ([n.widths, n.ins] : List (List Int)).flatten = n.widths ++ n.ins := by simp
 have hcl : (([n.widths, n.ins] : List (List Int)).flatten).length = n.widths.length + n.ins.length := by simp
 refine .sr (.box 101 rfl rfl rfl rfl rfl dcd ?_)
 refine .an ?_
 refine .nil (.seq (.sr ?_))
 refine .fa fl27_0 ?_
 refine .ld sh9 ?_
 refine .callP ok92 (named_spec (s := n.name) (by first | assumption | omega)) rfl (.keep rfl rfl .nil) dcd rfl (.vl (Y.not rfl) ?_)
 refine .mv ?_
 refine .split (d := 17) rfl (fun c17 => ?_) (fun c17 => ?_)
 replace c17 : ¬ (Named n.name) := by simpa using c17
 refine .gz 17 (.gz 17 (.gz 17 ?_))
 refine .gz 17 ?_
 refine .pk ?_
 refine .mv ?_
 refine .gz 23 (.gz 23 (.gz 23 ?_))
 refine .gz 23 ?_
 refine .pk ?_
 refine .mv ?_
 refine .gz 29 (.gz 29 (.gz 29 ?_))
 refine .gz 29 ?_
 refine .pk ?_
 refine .mv ?_
 refine .gz 35 (.gz 35 (.gz 35 ?_))
 refine .gz 35 ?_
 refine .pk ?_
 refine .mv ?_
 refine .gz 41 (.gz 41 (.gz 41 ?_))
 refine .gz 41 (.gz 41 (.gz 41 ?_))
 refine .gz 41 ?_
 refine .pk ?_
 refine .mv ?_
 refine .gz 50 (.gz 50 (.gz 50 ?_))
 refine .gz 50 (.gz 50 (.gz 50 ?_))
 refine .gz 50 ?_
 refine .pk ?_
 refine .nil (.condT rfl (.sr ?_))
 refine .an ?_
 refine .nil (.ret ?_)
 exact .rb rfl (df (fun h => by have h1 := h.name; have h2 := h.ncells; have h3 := h.nwidths; have h4 := h.nmems; have h5 := h.nstreams; have h6 := h.nactive; have h7 := h.ndata; first | omega | contradiction))
 replace c17 : Named n.name := by simpa using c17
 refine .gw 17 (Y.fieldAddr fl27_2 rfl rfl) (.gw 17 (Y.load sh23 rfl rfl rfl rfl) (.gw 17 (Y.len (n := n.cells.length) sl23 rfl (congrArg some (List.length_map ..))) ?_))
 refine .gw 17 (Y.gtr rfl rfl) ?_
 refine .pk ?_
 refine .mv ?_
 refine .splitD (d := 23) rfl (fun c23 => ?_) (fun c23 => ?_)
 refine .gz 23 (.gz 23 (.gz 23 ?_))
 refine .gz 23 ?_
 refine .pk ?_
 refine .mv ?_
 refine .gz 29 (.gz 29 (.gz 29 ?_))
 refine .gz 29 ?_
 refine .pk ?_
 refine .mv ?_
 refine .gz 35 (.gz 35 (.gz 35 ?_))
 refine .gz 35 ?_
 refine .pk ?_
 refine .mv ?_
 refine .gz 41 (.gz 41 (.gz 41 ?_))
 refine .gz 41 (.gz 41 (.gz 41 ?_))
 refine .gz 41 ?_
 refine .pk ?_
 refine .mv ?_
 refine .gz 50 (.gz 50 (.gz 50 ?_))
 refine .gz 50 (.gz 50 (.gz 50 ?_))
 refine .gz 50 ?_
 refine .pk ?_
 refine .nil (.condT rfl (.sr ?_))
 refine .an ?_
 refine .nil (.ret ?_)
 exact .rb rfl (df (fun h => by have h1 := h.name; have h2 := h.ncells; have h3 := h.nwidths; have h4 := h.nmems; have h5 := h.nstreams; have h6 := h.nactive; have h7 := h.ndata; first | omega | contradiction))
 refine .gw 23 (Y.fieldAddr fl27_1 rfl rfl) (.gw 23 (Y.load sh22 rfl rfl rfl rfl) (.gw 23 (Y.len (n := n.widths.length) sl22 rfl (congrArg some (List.length_map ..))) ?_))
 refine .gw 23 (Y.gtr rfl rfl) ?_
 refine .pk ?_
 refine .mv ?_
 refine .splitD (d := 29) rfl (fun c29 => ?_) (fun c29 => ?_)
 refine .gz 29 (.gz 29 (.gz 29 ?_))
 refine .gz 29 ?_
 refine .pk ?_
 refine .mv ?_
 refine .gz 35 (.gz 35 (.gz 35 ?_))
 refine .gz 35 ?_
 refine .pk ?_
 refine .mv ?_
 refine .gz 41 (.gz 41 (.gz 41 ?_))
 refine .gz 41 (.gz 41 (.gz 41 ?_))
 refine .gz 41 ?_
 refine .pk ?_
 refine .mv ?_
 refine .gz 50 (.gz 50 (.gz 50 ?_))
 refine .gz 50 (.gz 50 (.gz 50 ?_))
 refine .gz 50 ?_
 refine .pk ?_
 refine .nil (.condT rfl (.sr ?_))
 refine .an ?_
 refine .nil (.ret ?_)
 exact .rb rfl (df (fun h => by have h1 := h.name; have h2 := h.ncells; have h3 := h.nwidths; have h4 := h.nmems; have h5 := h.nstreams; have h6 := h.nactive; have h7 := h.ndata; first | omega | contradiction))
 refine .gw 29 (Y.fieldAddr fl27_4 rfl rfl) (.gw 29 (Y.load sh24 rfl rfl rfl rfl) (.gw 29 (Y.len (n := n.mems.length) sl24 rfl (congrArg some (List.length_map ..))) ?_))
 refine .gw 29 (Y.gtr rfl rfl) ?_
 refine .pk ?_
 refine .mv ?_
 refine .splitD (d := 35) rfl (fun c35 => ?_) (fun c35 => ?_)
 refine .gz 35 (.gz 35 (.gz 35 ?_))
 refine .gz 35 ?_
 refine .pk ?_
 refine .mv ?_
 refine .gz 41 (.gz 41 (.gz 41 ?_))
 refine .gz 41 (.gz 41 (.gz 41 ?_))
 refine .gz 41 ?_
 refine .pk ?_
 refine .mv ?_
 refine .gz 50 (.gz 50 (.gz 50 ?_))
 refine .gz 50 (.gz 50 (.gz 50 ?_))
 refine .gz 50 ?_
 refine .pk ?_
 refine .nil (.condT rfl (.sr ?_))
 refine .an ?_
 refine .nil (.ret ?_)
 exact .rb rfl (df (fun h => by have h1 := h.name; have h2 := h.ncells; have h3 := h.nwidths; have h4 := h.nmems; have h5 := h.nstreams; have h6 := h.nactive; have h7 := h.ndata; first | omega | contradiction))
 refine .gw 35 (Y.fieldAddr fl27_5 rfl rfl) (.gw 35 (Y.load sh25 rfl rfl rfl rfl) (.gw 35 (Y.len (n := n.streams.length) sl25 rfl (congrArg some (List.length_map ..))) ?_))
 refine .gw 35 (Y.gtr rfl rfl) ?_
 refine .pk ?_
 refine .mv ?_
 refine .splitD (d := 41) rfl (fun c41 => ?_) (fun c41 => ?_)
 refine .gz 41 (.gz 41 (.gz 41 ?_))
 refine .gz 41 (.gz 41 (.gz 41 ?_))
 refine .gz 41 ?_
 refine .pk ?_
 refine .mv ?_
 refine .gz 50 (.gz 50 (.gz 50 ?_))
 refine .gz 50 (.gz 50 (.gz 50 ?_))
 refine .gz 50 ?_
 refine .pk ?_
 refine .nil (.condT rfl (.sr ?_))
 refine .an ?_
 refine .nil (.ret ?_)
 exact .rb rfl (df (fun h => by have h1 := h.name; have h2 := h.ncells; have h3 := h.nwidths; have h4 := h.nmems; have h5 := h.nstreams; have h6 := h.nactive; have h7 := h.ndata; first | omega | contradiction))
 refine .gw 41 (Y.fieldAddr fl27_6 rfl rfl) (.gw 41 (Y.load sh22 rfl rfl rfl rfl) (.gw 41 (Y.len (n := n.active.length) sl22 rfl (congrArg some (List.length_map ..))) ?_))
 refine .gw 41 (Y.fieldAddr fl27_5 rfl rfl) (.gw 41 (Y.load sh25 rfl rfl rfl rfl) (.gw 41 (Y.len (n := n.streams.length) sl25 rfl (congrArg some (List.length_map ..))) ?_))
 refine .gw 41 (Y.neq rfl rfl) ?_
 refine .pk ?_
 refine .mv ?_
 refine .splitD (d := 50) rfl (fun c50 => ?_) (fun c50 => ?_)
 refine .gz 50 (.gz 50 (.gz 50 ?_))
 refine .gz 50 (.gz 50 (.gz 50 ?_))
 refine .gz 50 ?_
 refine .pk ?_
 refine .nil (.condT rfl (.sr ?_))
 refine .an ?_
 refine .nil (.ret ?_)
 exact .rb rfl (df (fun h => by have h1 := h.name; have h2 := h.ncells; have h3 := h.nwidths; have h4 := h.nmems; have h5 := h.nstreams; have h6 := h.nactive; have h7 := h.ndata; first | omega | contradiction))
 refine .gw 50 (Y.fieldAddr fl27_7 rfl rfl) (.gw 50 (Y.load sh22 rfl rfl rfl rfl) (.gw 50 (Y.len (n := n.data.length) sl22 rfl (congrArg some (List.length_map ..))) ?_))
 refine .gw 50 (Y.fieldAddr fl27_5 rfl rfl) (.gw 50 (Y.load sh25 rfl rfl rfl rfl) (.gw 50 (Y.len (n := n.streams.length) sl25 rfl (congrArg some (List.length_map ..))) ?_))
 refine .gw 50 (Y.neq rfl rfl) ?_
 refine .pk ?_
 refine .nil ?_
 refine .condD rfl (fun c58 => ?_) (fun c58 => ?_)
 refine .sr ?_
 refine .an ?_
 refine .nil (.ret ?_)
 exact .rb rfl (df (fun h => by have h1 := h.name; have h2 := h.ncells; have h3 := h.nwidths; have h4 := h.nmems; have h5 := h.nstreams; have h6 := h.nactive; have h7 := h.ndata; first | omega | contradiction))
 refine .skip (.seq (.sr ?_))
 refine .fa fl27_1 ?_
 refine .ld sh22 ?_
 refine .fa fl27_3 ?_
 refine .ld sh22 ?_
 refine .buildSlice (([n.widths, n.ins] : List (List Int)).map lrow) sl92 ze22 rfl rfl rfl rfl rfl (uniform_map (s := 1) (f := lrow) (fun _ => rfl)) rfl rfl rfl dcd ?_
 refine .sh (Sh.freezeE (d := 63) (([n.widths, n.ins] : List (List Int)).map lrow) rfl (by first | rfl | exact rep_map rfl) (Frees.map lrow_frees)) (.callP ok72 (concat_spec (ls := ([n.widths, n.ins] : List (List Int))) (by simp) (by simp; omega)) rfl (.keep rfl rfl .nil) dcd rfl (.vl (Y.len (n := (([n.widths, n.ins] : List (List Int)).flatten).length) sl22 rfl (congrArg some (List.length_map ..))) ?_))
 refine .mv ?_
 refine .nil (.block (.sh (Sh.freezeE (d := 64) ((([n.widths, n.ins] : List (List Int)).flatten).map irow) rfl (by first | rfl | exact rep_map rfl) (Frees.map irow_frees)) ?_))
 refine .loop1 (fun (n66_4 : Nat) => ⟨[(1, .ptr 101 0 0 0), (64, .fz 1 ((([n.widths, n.ins] : List (List Int)).flatten).map irow)), (65, vi (((([n.widths, n.ins] : List (List Int)).flatten).length : Nat) : Int)), (66, vi (n66_4 : Int))], [(101, .cells (Netlist.row n))]⟩) (fun (n66_4 : Nat) => ((n66_4 : Int) ≤ (((([n.widths, n.ins] : List (List Int)).flatten).length : Nat) : Int)) ∧ (∀ j, j < n66_4 → Wide (([n.widths, n.ins] : List (List Int)).flatten.getD j 0))) (fun (n66_4 : Nat) => ((((([n.widths, n.ins] : List (List Int)).flatten).length : Nat) : Int) - (n66_4 : Int)).toNat) 0 (⟨om, fun j hj => by omega⟩) (Le.mk (.c (.c (.c (.cons (look_int rfl rlo) (.nil))))) (.c (.nil))) (fun n66_4 hI4 => ?_)
 obtain ⟨hb4, hw⟩ := hI4
 refine .sr (.vl (Y.lss rfl rfl) (.nil ?_))
 refine .seq ?_
 refine .condD rfl (fun c67 => ?_) (fun c67 => ?_)
 refine .skip (.seq (.block ?_))
 refine .sr (.vl (Y.indexF (m := n66_4) sl22 rfl rfl rlo (row_getD (d := 0) om)) ?_)
 refine .ld sh3 ?_
 refine .an ?_
 refine .nil (.sr ?_)
 refine .mv ?_
 refine .callP ok93 (wide_spec (w := ((([n.widths, n.ins] : List (List Int)).flatten).getD n66_4 0))) rfl (.keep rfl rfl .nil) dcd rfl (.vl (Y.not rfl) (.nil ?_))
 refine .cond rfl (fun c72 => ?_) (fun c72 => ?_)
 replace c72 : ¬ (Wide ((([n.widths, n.ins] : List (List Int)).flatten).getD n66_4 0)) := by simpa using c72
 refine .sr ?_
 refine .an ?_
 refine .nil (.ret ?_)
 exact .rb rfl (df (fun h => by have h1 := h.wide n66_4 (by rw [List.length_append]; omega); rw [← hcat] at h1; contradiction))
 replace c72 : Wide ((([n.widths, n.ins] : List (List Int)).flatten).getD n66_4 0) := by simpa using c72
 refine .skip (.region ?_)
 refine .vl (Y.addI rfl rfl om) ?_
 refine .mv ?_
 refine .nil ?_
 exact ⟨n66_4 + 1, ⟨om, below_succ' hw asm⟩, om, Le.mk (.c (.c (.c (.cons (look_int rfl rlo) (.nil))))) (.c (.nil))⟩
 refine .exit (.seq (.sr ?_))
 refine .fa fl27_4 ?_
 refine .ld sh24 ?_
 refine .vl (Y.len (n := n.mems.length) sl24 rfl (congrArg some (List.length_map ..))) ?_
 refine .mv ?_
 refine .nil (.block ?_)
 refine .loop1 (fun (n77_10 : Nat) => ⟨[(1, .ptr 101 0 0 0), (75, .fz 5 (n.mems.map Arr.row)), (76, vi ((n.mems.length : Nat) : Int)), (77, vi (n77_10 : Int))], [(101, .cells (Netlist.row n))]⟩) (fun (n77_10 : Nat) => ((n77_10 : Int) ≤ ((n.mems.length : Nat) : Int)) ∧ (∀ j, j < n77_10 → MemOK (n.mems.getD j default))) (fun (n77_10 : Nat) => (((n.mems.length : Nat) : Int) - (n77_10 : Int)).toNat) 0 (⟨om, fun j hj => by omega⟩) (Le.mk (.c (.c (.c (.cons (look_int rfl rlo) (.nil))))) (.c (.nil))) (fun n77_10 hI10 => ?_)
 obtain ⟨hb10, hm⟩ := hI10
 refine .sr (.vl (Y.lss rfl rfl) (.nil ?_))
 refine .seq ?_
 refine .condD rfl (fun c78 => ?_) (fun c78 => ?_)
 refine .skip (.seq (.block ?_))
 refine .sr (.vl (Y.indexF (m := n77_10) sl24 rfl rfl rlo (row_getD (d := default) om)) ?_)
 refine .vl (Y.loadA sh48 rfl rfl (nbE rfl) rfl rfl) (.alloc 106 ze48 rfl rfl dcd (.storeC si48 rfl rfl rfl rfl rfl rfl (nbE rfl) rfl ?_))
 refine .nil (.sr ?_)
 have hmn := hs.memNames _ (getD_mem' (l := n.mems) (i := n77_10) (d := default) om)
 refine .fa fl48_0 ?_
 refine .ld sh9 ?_
 refine .callP ok92 (named_spec (s := ((n.mems.getD n77_10 default).name)) (by first | assumption | omega)) rfl (.keep rfl rfl .nil) dcd rfl (.vl (Y.not rfl) ?_)
 refine .mv ?_
 refine .split (d := 85) rfl (fun c85 => ?_) (fun c85 => ?_)
 replace c85 : ¬ (Named ((n.mems.getD n77_10 default).name)) := by simpa using c85
 refine .gz 85 (.gz 85 (.gz 85 ?_))
 refine .gz 85 ?_
 refine .pk ?_
 refine .mv ?_
 refine .gz 91 (.gz 91 (.gz 91 ?_))
 refine .pk ?_
 refine .mv ?_
 refine .gz 96 (.gz 96 (.gz 96 ?_))
 refine .pk ?_
 refine .mv ?_
 refine .gz 101 (.gz 101 (.gz 101 ?_))
 refine .pk ?_
 refine .mv ?_
 refine .gz 106 (.gz 106 (.gz 106 ?_))
 refine .pk ?_
 refine .nil (.condT rfl (.sr ?_))
 refine .an ?_
 refine .nil (.ret ?_)
 exact .rb rfl (df (fun h => by have h1 := h.mems n77_10 om; unfold MemOK at h1; obtain ⟨a1, a2, a3, a4, a5, a6⟩ := h1; first | contradiction | omega))
 replace c85 : Named ((n.mems.getD n77_10 default).name) := by simpa using c85
 refine .gw 85 (Y.fieldAddr fl48_1 rfl rfl) (.gw 85 (Y.load sh3 rfl rfl rfl rfl) (.guardRun (d := 85) rfl dcd rfl ?_))
 refine .callP ok93 (wide_spec (w := ((n.mems.getD n77_10 default).width))) rfl (.keep rfl rfl .nil) dcd rfl (.gw 85 (Y.not rfl) ?_)
 refine .pk ?_
 refine .mv ?_
 refine .split (d := 91) rfl (fun c91 => ?_) (fun c91 => ?_)
 replace c91 : ¬ (Wide ((n.mems.getD n77_10 default).width)) := by simpa using c91
 refine .gz 91 (.gz 91 (.gz 91 ?_))
 refine .pk ?_
 refine .mv ?_
 refine .gz 96 (.gz 96 (.gz 96 ?_))
 refine .pk ?_
 refine .mv ?_
 refine .gz 101 (.gz 101 (.gz 101 ?_))
 refine .pk ?_
 refine .mv ?_
 refine .gz 106 (.gz 106 (.gz 106 ?_))
 refine .pk ?_
 refine .nil (.condT rfl (.sr ?_))
 refine .an ?_
 refine .nil (.ret ?_)
 exact .rb rfl (df (fun h => by have h1 := h.mems n77_10 om; unfold MemOK at h1; obtain ⟨a1, a2, a3, a4, a5, a6⟩ := h1; first | contradiction | omega))
 replace c91 : Wide ((n.mems.getD n77_10 default).width) := by simpa using c91
 refine .gw 91 (Y.fieldAddr fl48_2 rfl rfl) (.gw 91 (Y.load sh3 rfl rfl rfl rfl) (.gw 91 (Y.lss rfl rfl) ?_))
 refine .pk ?_
 refine .mv ?_
 refine .splitD (d := 96) rfl (fun c96 => ?_) (fun c96 => ?_)
 refine .gz 96 (.gz 96 (.gz 96 ?_))
 refine .pk ?_
 refine .mv ?_
 refine .gz 101 (.gz 101 (.gz 101 ?_))
 refine .pk ?_
 refine .mv ?_
 refine .gz 106 (.gz 106 (.gz 106 ?_))
 refine .pk ?_
 refine .nil (.condT rfl (.sr ?_))
 refine .an ?_
 refine .nil (.ret ?_)
 exact .rb rfl (df (fun h => by have h1 := h.mems n77_10 om; unfold MemOK at h1; obtain ⟨a1, a2, a3, a4, a5, a6⟩ := h1; first | contradiction | omega))
 refine .gw 96 (Y.fieldAddr fl48_2 rfl rfl) (.gw 96 (Y.load sh3 rfl rfl rfl rfl) (.gw 96 (Y.gtr rfl rfl) ?_))
 refine .pk ?_
 refine .mv ?_
 refine .splitD (d := 101) rfl (fun c101 => ?_) (fun c101 => ?_)
 refine .gz 101 (.gz 101 (.gz 101 ?_))
 refine .pk ?_
 refine .mv ?_
 refine .gz 106 (.gz 106 (.gz 106 ?_))
 refine .pk ?_
 refine .nil (.condT rfl (.sr ?_))
 refine .an ?_
 refine .nil (.ret ?_)
 exact .rb rfl (df (fun h => by have h1 := h.mems n77_10 om; unfold MemOK at h1; obtain ⟨a1, a2, a3, a4, a5, a6⟩ := h1; first | contradiction | omega))
 refine .gw 101 (Y.fieldAddr fl48_3 rfl rfl) (.gw 101 (Y.load sh3 rfl rfl rfl rfl) (.gw 101 (Y.neq rfl rfl) ?_))
 refine .pk ?_
 refine .mv ?_
 refine .splitD (d := 106) rfl (fun c106 => ?_) (fun c106 => ?_)
 refine .gz 106 (.gz 106 (.gz 106 ?_))
 refine .pk ?_
 refine .nil (.condT rfl (.sr ?_))
 refine .an ?_
 refine .nil (.ret ?_)
 exact .rb rfl (df (fun h => by have h1 := h.mems n77_10 om; unfold MemOK at h1; obtain ⟨a1, a2, a3, a4, a5, a6⟩ := h1; first | contradiction | omega))
 refine .gw 106 (Y.fieldAddr fl48_4 rfl rfl) (.gw 106 (Y.load sh3 rfl rfl rfl rfl) (.gw 106 (Y.neq rfl rfl) ?_))
 refine .pk ?_
 refine .nil ?_
 refine .condD rfl (fun c110 => ?_) (fun c110 => ?_)
 refine .sr ?_
 refine .an ?_
 refine .nil (.ret ?_)
 exact .rb rfl (df (fun h => by have h1 := h.mems n77_10 om; unfold MemOK at h1; obtain ⟨a1, a2, a3, a4, a5, a6⟩ := h1; first | contradiction | omega))
 refine .skip (.region ?_)
 refine .vl (Y.addI rfl rfl om) ?_
 refine .mv ?_
 refine .nil ?_
 exact ⟨n77_10 + 1, ⟨om, below_succ' hm (by unfold MemOK; refine ⟨?_, ?_, ?_, ?_, ?_, ?_⟩ <;> first | assumption | omega)⟩, om, Le.mk (.c (.c (.c (.cons (look_int rfl rlo) (.nil))))) (.c (.nil))⟩
 refine .exit (.sr (.sh (Sh.freezeO 101 rfl rfl) ?_))
 refine .vl (Y.makeFunc rfl rfl rfl rfl) (.alloc 107 ze45 rfl rfl dcd (.storeC si45 rfl rfl rfl rfl rfl rfl (nbE rfl) rfl ?_))
 refine .nil (.seq (.seq ?_))
 refine .sh (Sh.freezeO 107 rfl rfl) (.region ?_)
 refine .fa fl27_5 ?_
 refine .ld sh25 ?_
 refine .vl (Y.len (n := n.streams.length) sl25 rfl (congrArg some (List.length_map ..))) ?_
 refine .mv ?_
 refine .nil (.block ?_)
 refine .loop1 (fun (n116_17 : Nat) => ⟨[(1, .fp (Netlist.row n) 0), (7, .fp ([.clo (.func 94) [] [.fp (Netlist.row n) 0]]) 0), (114, .fz 3 (n.streams.map Strm.row)), (115, vi ((n.streams.length : Nat) : Int)), (116, vi (n116_17 : Int))], []⟩) (fun (n116_17 : Nat) => ((n116_17 : Int) ≤ ((n.streams.length : Nat) : Int)) ∧ (∀ j, j < n116_17 → StrOK n j)) (fun (n116_17 : Nat) => (((n.streams.length : Nat) : Int) - (n116_17 : Int)).toNat) 0 (⟨om, fun j hj => by omega⟩) (Le.mk (.c (.c (.c (.c (.cons (look_int rfl rlo) (.nil)))))) (.nil)) (fun n116_17 hI17 => ?_)
 obtain ⟨hb17, hst⟩ := hI17
 refine .sr (.vl (Y.lss rfl rfl) (.nil ?_))
 refine .seq ?_
 refine .condD rfl (fun c117 => ?_) (fun c117 => ?_)
 refine .skip ?_
 refine .join4 (fun (n144_j21 : Bool) (n153_j21 : Bool) (n159_j21 : Bool) (n166_j21 : Bool) => ⟨[(1, .fp (Netlist.row n) 0), (7, .fp ([.clo (.func 94) [] [.fp (Netlist.row n) 0]]) 0), (114, .fz 3 (n.streams.map Strm.row)), (115, vi ((n.streams.length : Nat) : Int)), (116, vi (n116_17 : Int)), (126, .ptr 109 0 0 1), (127, vi ((n.streams.getD n116_17 default).width)), (128, .v (.bool (decide (Wide ((n.streams.getD n116_17 default).width))))), (129, .v (.bool (!decide (Wide ((n.streams.getD n116_17 default).width))))), (132, .clo (.func 94) [] [.fp (Netlist.row n) 0]), (133, .fp (Netlist.row n) 6), (134, .fz 1 (n.active.map irow)), (135, vi (n116_17 : Int)), (136, .fp (irow (n.active.getD n116_17 0)) 0), (137, vi (n.active.getD n116_17 0)), (138, .v (.bool (decide (In (n.active.getD n116_17 0) n.widths.length)))), (139, .v (.bool (!decide (In (n.active.getD n116_17 0) n.widths.length)))), (142, .ptr 109 0 0 2), (143, .v (.bool ((n.streams.getD n116_17 default).out))), (144, .v (.bool n144_j21)), (153, .v (.bool n153_j21)), (156, .ptr 109 0 0 2), (157, .v (.bool ((n.streams.getD n116_17 default).out))), (158, .v (.bool (!((n.streams.getD n116_17 default).out)))), (159, .v (.bool n159_j21)), (166, .v (.bool n166_j21))], [(109, .cells [.v (.string ((n.streams.getD n116_17 default).name)), vi ((n.streams.getD n116_17 default).width), .v (.bool ((n.streams.getD n116_17 default).out))])]⟩) (fun (n144_j21 : Bool) (n153_j21 : Bool) (n159_j21 : Bool) (n166_j21 : Bool) => StrOK n n116_17) ?_ (fun n144_j21 n153_j21 n159_j21 n166_j21 hJ21 => ?_)
 refine .block (.sr ?_)
 have hsn := hs.strNames _ (getD_mem' (l := n.streams) (i := n116_17) (d := default) om)
 refine .mv ?_
 refine .vl (Y.indexF (m := n116_17) sl25 rfl rfl rlo (row_getD (d := default) om)) ?_
 refine .vl (Y.loadA sh83 rfl rfl (nbE rfl) rfl rfl) (.alloc 109 ze83 rfl rfl dcd ?_)
 refine .an ?_
 refine .storeC si83 rfl rfl rfl rfl rfl rfl (nbE rfl) rfl (.nil (.seq ?_))
 refine .regionAny rfl (.quietN (n := 45) [0, 1] [2, 3, 4, 5, 6, 7, 8, 9, 10, 11, 12, 13, 14, 15, 16, 17, 18, 19, 20, 21, 22, 23, 24, 25, 26, 27, 28, 29, 30, 31, 32, 33, 34, 35, 36, 37, 38, 39, 40, 41, 42, 43, 44, 45, 46] 2 rfl krf (.cn 0 rfl (Y.fieldAddr fl83_0 rfl rfl) ?_))
 refine .cn 1 rfl (Y.load sh9 rfl rfl rfl rfl) (.nil (.one 2 rfl krf ?_))
 refine .callP ok92 (named_spec (s := ((n.streams.getD n116_17 default).name)) (by first | assumption | omega)) rfl (.keep rfl rfl .nil) dcd rfl ?_
 refine .nil ⟨rfl, ?_⟩
 refine .quietN (n := 40) [3, 4, 5, 6] [7, 8, 9, 10, 11, 12, 13, 14, 15, 16, 17, 18, 19, 20, 21, 22, 23, 24, 25, 26, 27, 28, 29, 30, 31, 32, 33, 34, 35, 36, 37, 38, 39, 40, 41, 42, 43, 44, 45, 46] 7 rfl krf (.cn 3 rfl (Y.not rfl) (.cn 4 rfl (Y.move rfl rfl) ?_))
 refine .split (d := 125) rfl (fun c125 => ?_) (fun c125 => ?_)
 replace c125 : ¬ (Named ((n.streams.getD n116_17 default).name)) := by simpa using c125
 refine .sk 5 rfl rfl rfl rfl (.sk 6 rfl rfl rfl rfl (.nil ?_))
 refine .skipOp 7 rfl krf rfl dcd dcd rfl rfl (.skipOp 8 rfl krf rfl dcd dcd rfl rfl (.quietN (n := 30) [9, 10, 11, 12, 13, 14, 15, 16] [17, 18, 19, 20, 21, 22, 23, 24, 25, 26, 27, 28, 29, 30, 31, 32, 33, 34, 35, 36, 37, 38, 39, 40, 41, 42, 43, 44, 45, 46] 17 rfl krf ?_))
 refine .cn 9 rfl (Y.pick rfl rfl rfl) (.cn 10 rfl (Y.move rfl rfl) (.sk 11 rfl rfl rfl rfl ?_))
 refine .sk 12 rfl rfl rfl rfl (.sk 13 rfl rfl rfl rfl (.sk 14 rfl rfl rfl rfl ?_))
 refine .sk 15 rfl rfl rfl rfl (.sk 16 rfl rfl rfl rfl (.nil ?_))
 refine .skipOp 17 rfl krf rfl dcd dcd rfl rfl (.skipOp 18 rfl krf rfl dcd dcd rfl rfl (.quietN (n := 17) [19, 20, 21, 22, 23, 24, 25, 26, 27, 28, 29] [30, 31, 32, 33, 34, 35, 36, 37, 38, 39, 40, 41, 42, 43, 44, 45, 46] 30 rfl krf ?_))
 refine .cn 19 rfl (Y.pick rfl rfl rfl) (.cn 20 rfl (Y.move rfl rfl) (.sk 21 rfl rfl rfl rfl ?_))
 refine .sk 22 rfl rfl rfl rfl (.sk 23 rfl rfl rfl rfl (.sk 24 rfl rfl rfl rfl ?_))
 refine .sk 25 rfl rfl rfl rfl (.sk 26 rfl rfl rfl rfl (.sk 27 rfl rfl rfl rfl ?_))
 refine .sk 28 rfl rfl rfl rfl (.sk 29 rfl rfl rfl rfl (.nil ?_))
 refine .skipOp 30 rfl krf rfl dcd dcd rfl rfl (.skipOp 31 rfl krf rfl dcd dcd rfl rfl (.skipOp 32 rfl krf rfl dcd dcd rfl rfl ?_))
 refine .quietN (n := 0) [33, 34, 35, 36, 37, 38, 39, 40, 41, 42, 43, 44, 45, 46] [] 0 rfl krf (.cn 33 rfl (Y.pick rfl rfl rfl) (.cn 34 rfl (Y.move rfl rfl) ?_))
 refine .sk 35 rfl rfl rfl rfl (.sk 36 rfl rfl rfl rfl (.sk 37 rfl rfl rfl rfl ?_))
 refine .sk 38 rfl rfl rfl rfl (.sk 39 rfl rfl rfl rfl (.sk 40 rfl rfl rfl rfl ?_))
 refine .sk 41 rfl rfl rfl rfl (.sk 42 rfl rfl rfl rfl (.sk 43 rfl rfl rfl rfl ?_))
 refine .sk 44 rfl rfl rfl rfl (.sk 45 rfl rfl rfl rfl (.cn 46 rfl (Y.pick rfl rfl rfl) ?_))
 refine .nil (.done krf (.condT rfl ?_))
 refine .sr ?_
 refine .an ?_
 refine .nil (.ret ?_)
 exact .rb rfl (df (fun h => by have h1 := h.strs n116_17 om; unfold StrOK at h1; obtain ⟨a1, a2, a3, a4, a5⟩ := h1; first | contradiction | grind))
 replace c125 : Named ((n.streams.getD n116_17 default).name) := by simpa using c125
 refine .rn 5 rfl rfl rfl (Y.fieldAddr fl83_1 rfl rfl) (.rn 6 rfl rfl rfl (Y.load sh3 rfl rfl rfl rfl) (.nil ?_))
 refine .one 7 rfl krf (.guardRun (d := 125) rfl dcd rfl (.callP ok93 (wide_spec (w := ((n.streams.getD n116_17 default).width))) rfl (.keep rfl rfl .nil) dcd rfl ?_))
 refine .nil ⟨rfl, ?_⟩
 refine .quietN (n := 30) [8, 9, 10, 11, 12, 13, 14, 15, 16] [17, 18, 19, 20, 21, 22, 23, 24, 25, 26, 27, 28, 29, 30, 31, 32, 33, 34, 35, 36, 37, 38, 39, 40, 41, 42, 43, 44, 45, 46] 17 rfl krf (.rn 8 rfl rfl rfl (Y.not rfl) (.cn 9 rfl (Y.pick rfl rfl rfl) ?_))
 refine .cn 10 rfl (Y.move rfl rfl) ?_
 refine .split (d := 131) rfl (fun c131 => ?_) (fun c131 => ?_)
 replace c131 : ¬ (Wide ((n.streams.getD n116_17 default).width)) := by simpa using c131
 refine .sk 11 rfl rfl rfl rfl (.sk 12 rfl rfl rfl rfl (.sk 13 rfl rfl rfl rfl ?_))
 refine .sk 14 rfl rfl rfl rfl (.sk 15 rfl rfl rfl rfl (.sk 16 rfl rfl rfl rfl ?_))
 refine .nil (.skipOp 17 rfl krf rfl dcd dcd rfl rfl (.skipOp 18 rfl krf rfl dcd dcd rfl rfl ?_))
 refine .quietN (n := 17) [19, 20, 21, 22, 23, 24, 25, 26, 27, 28, 29] [30, 31, 32, 33, 34, 35, 36, 37, 38, 39, 40, 41, 42, 43, 44, 45, 46] 30 rfl krf (.cn 19 rfl (Y.pick rfl rfl rfl) (.cn 20 rfl (Y.move rfl rfl) ?_))
 refine .sk 21 rfl rfl rfl rfl (.sk 22 rfl rfl rfl rfl (.sk 23 rfl rfl rfl rfl ?_))
 refine .sk 24 rfl rfl rfl rfl (.sk 25 rfl rfl rfl rfl (.sk 26 rfl rfl rfl rfl ?_))
 refine .sk 27 rfl rfl rfl rfl (.sk 28 rfl rfl rfl rfl (.sk 29 rfl rfl rfl rfl ?_))
 refine .nil (.skipOp 30 rfl krf rfl dcd dcd rfl rfl (.skipOp 31 rfl krf rfl dcd dcd rfl rfl ?_))
 refine .skipOp 32 rfl krf rfl dcd dcd rfl rfl (.quietN (n := 0) [33, 34, 35, 36, 37, 38, 39, 40, 41, 42, 43, 44, 45, 46] [] 0 rfl krf (.cn 33 rfl (Y.pick rfl rfl rfl) ?_))
 refine .cn 34 rfl (Y.move rfl rfl) (.sk 35 rfl rfl rfl rfl (.sk 36 rfl rfl rfl rfl ?_))
 refine .sk 37 rfl rfl rfl rfl (.sk 38 rfl rfl rfl rfl (.sk 39 rfl rfl rfl rfl ?_))
 refine .sk 40 rfl rfl rfl rfl (.sk 41 rfl rfl rfl rfl (.sk 42 rfl rfl rfl rfl ?_))
 refine .sk 43 rfl rfl rfl rfl (.sk 44 rfl rfl rfl rfl (.sk 45 rfl rfl rfl rfl ?_))
 refine .cn 46 rfl (Y.pick rfl rfl rfl) (.nil (.done krf ?_))
 refine .condT rfl (.sr ?_)
 refine .an ?_
 refine .nil (.ret ?_)
 exact .rb rfl (df (fun h => by have h1 := h.strs n116_17 om; unfold StrOK at h1; obtain ⟨a1, a2, a3, a4, a5⟩ := h1; first | contradiction | grind))
 replace c131 : Wide ((n.streams.getD n116_17 default).width) := by simpa using c131
 refine .rn 11 rfl rfl rfl (Y.load sh45 rfl rfl rfl rfl) (.rn 12 rfl rfl rfl (Y.fieldAddr fl27_6 rfl rfl) (.rn 13 rfl rfl rfl (Y.load sh22 rfl rfl rfl rfl) ?_))
 refine .rn 14 rfl rfl rfl (Y.move rfl rfl) (.rn 15 rfl rfl rfl (Y.indexF (m := n116_17) sl22 rfl rfl rlo (row_getD (d := 0) om)) ?_)
 refine .rn 16 rfl rfl rfl (Y.load sh3 rfl rfl rfl rfl) (.nil (.one 17 rfl krf ?_))
 refine .guardRun (d := 131) rfl dcd rfl (.callCP rfl ok94 (formed1_spec (i := (n.active.getD n116_17 0))) rfl (.keep rfl rfl (.keep rfl rfl .nil)) dcd rfl ?_)
 refine .nil ⟨rfl, ?_⟩
 refine .quietN (n := 17) [18, 19, 20, 21, 22, 23, 24, 25, 26, 27, 28, 29] [30, 31, 32, 33, 34, 35, 36, 37, 38, 39, 40, 41, 42, 43, 44, 45, 46] 30 rfl krf (.rn 18 rfl rfl rfl (Y.not rfl) (.cn 19 rfl (Y.pick rfl rfl rfl) ?_))
 refine .cn 20 rfl (Y.move rfl rfl) ?_
 refine .split (d := 141) rfl (fun c141 => ?_) (fun c141 => ?_)
 replace c141 : ¬ (In (n.active.getD n116_17 0) n.widths.length) := by simpa using c141
 refine .sk 21 rfl rfl rfl rfl (.sk 22 rfl rfl rfl rfl (.sk 23 rfl rfl rfl rfl ?_))
 refine .sk 24 rfl rfl rfl rfl (.sk 25 rfl rfl rfl rfl (.sk 26 rfl rfl rfl rfl ?_))
 refine .sk 27 rfl rfl rfl rfl (.sk 28 rfl rfl rfl rfl (.sk 29 rfl rfl rfl rfl ?_))
 refine .nil (.skipOp 30 rfl krf rfl dcd dcd rfl rfl (.skipOp 31 rfl krf rfl dcd dcd rfl rfl ?_))
 refine .skipOp 32 rfl krf rfl dcd dcd rfl rfl (.quietN (n := 0) [33, 34, 35, 36, 37, 38, 39, 40, 41, 42, 43, 44, 45, 46] [] 0 rfl krf (.cn 33 rfl (Y.pick rfl rfl rfl) ?_))
 refine .cn 34 rfl (Y.move rfl rfl) (.sk 35 rfl rfl rfl rfl (.sk 36 rfl rfl rfl rfl ?_))
 refine .sk 37 rfl rfl rfl rfl (.sk 38 rfl rfl rfl rfl (.sk 39 rfl rfl rfl rfl ?_))
 refine .sk 40 rfl rfl rfl rfl (.sk 41 rfl rfl rfl rfl (.sk 42 rfl rfl rfl rfl ?_))
 refine .sk 43 rfl rfl rfl rfl (.sk 44 rfl rfl rfl rfl (.sk 45 rfl rfl rfl rfl ?_))
 refine .cn 46 rfl (Y.pick rfl rfl rfl) (.nil (.done krf ?_))
 refine .condT rfl (.sr ?_)
 refine .an ?_
 refine .nil (.ret ?_)
 exact .rb rfl (df (fun h => by have h1 := h.strs n116_17 om; unfold StrOK at h1; obtain ⟨a1, a2, a3, a4, a5⟩ := h1; first | contradiction | grind))
 replace c141 : In (n.active.getD n116_17 0) n.widths.length := by simpa using c141
 refine .rn 21 rfl rfl rfl (Y.fieldAddr fl83_2 rfl rfl) (.rn 22 rfl rfl rfl (Y.load sh4 rfl rfl rfl rfl) (.rn 23 rfl rfl rfl (Y.move rfl rfl) ?_))
 refine .split (d := 144) rfl (fun c144 => ?_) (fun c144 => ?_)
 refine .rn 24 rfl rfl rfl (Y.load sh45 rfl rfl rfl rfl) (.rn 25 rfl rfl rfl (Y.fieldAddr fl27_7 rfl rfl) (.rn 26 rfl rfl rfl (Y.load sh22 rfl rfl rfl rfl) ?_))
 refine .rn 27 rfl rfl rfl (Y.move rfl rfl) (.rn 28 rfl rfl rfl (Y.indexF (m := n116_17) sl22 rfl rfl rlo (row_getD (d := 0) om)) ?_)
 refine .rn 29 rfl rfl rfl (Y.load sh3 rfl rfl rfl rfl) (.nil (.one 30 rfl krf ?_))
 refine .guardRun (d := 144) rfl dcd rfl (.callCP rfl ok94 (formed1_spec (i := (n.data.getD n116_17 0))) rfl (.keep rfl rfl (.keep rfl rfl .nil)) dcd rfl ?_)
 refine .nil ⟨rfl, ?_⟩
 refine .quietN (n := 0) [31, 32, 33, 34, 35, 36, 37, 38, 39, 40, 41, 42, 43, 44, 45, 46] [] 0 rfl krf (.rn 31 rfl rfl rfl (Y.not rfl) (.rn 32 rfl rfl rfl (Y.pick rfl rfl rfl) ?_))
 refine .cn 33 rfl (Y.pick rfl rfl rfl) (.cn 34 rfl (Y.move rfl rfl) ?_)
 refine .split (d := 155) rfl (fun c155 => ?_) (fun c155 => ?_)
 replace c155 : ¬ (In (n.data.getD n116_17 0) n.widths.length) := by simpa using c155
 refine .sk 35 rfl rfl rfl rfl (.sk 36 rfl rfl rfl rfl (.sk 37 rfl rfl rfl rfl ?_))
 refine .sk 38 rfl rfl rfl rfl (.sk 39 rfl rfl rfl rfl (.sk 40 rfl rfl rfl rfl ?_))
 refine .sk 41 rfl rfl rfl rfl (.sk 42 rfl rfl rfl rfl (.sk 43 rfl rfl rfl rfl ?_))
 refine .sk 44 rfl rfl rfl rfl (.sk 45 rfl rfl rfl rfl (.cn 46 rfl (Y.pick rfl rfl rfl) ?_))
 refine .nil (.done krf (.condT rfl ?_))
 refine .sr ?_
 refine .an ?_
 refine .nil (.ret ?_)
 exact .rb rfl (df (fun h => by have h1 := h.strs n116_17 om; unfold StrOK at h1; obtain ⟨a1, a2, a3, a4, a5⟩ := h1; first | contradiction | grind))
 replace c155 : In (n.data.getD n116_17 0) n.widths.length := by simpa using c155
 refine .rn 35 rfl rfl rfl (Y.fieldAddr fl83_2 rfl rfl) (.rn 36 rfl rfl rfl (Y.load sh4 rfl rfl rfl rfl) (.rn 37 rfl rfl rfl (Y.not rfl) ?_))
 refine .rn 38 rfl rfl rfl (Y.move rfl rfl) ?_
 refine .split (d := 159) rfl (fun c159 => ?_) (fun c159 => ?_)
 replace c159 : ((n.streams.getD n116_17 default).out) = false := by simpa using c159
 refine .rn 39 rfl rfl rfl (Y.fieldAddr fl27_7 rfl rfl) (.rn 40 rfl rfl rfl (Y.load sh22 rfl rfl rfl rfl) (.rn 41 rfl rfl rfl (Y.move rfl rfl) ?_))
 refine .rn 42 rfl rfl rfl (Y.indexF (m := n116_17) sl22 rfl rfl rlo (row_getD (d := 0) om)) ?_
 refine .rn 43 rfl rfl rfl (Y.load sh3 rfl rfl rfl rfl) (.rn 44 rfl rfl rfl (Y.neq rfl rfl) (.rn 45 rfl rfl rfl (Y.pick rfl rfl rfl) ?_))
 refine .cn 46 rfl (Y.pick rfl rfl rfl) (.nil (.done krf ?_))
 refine .condD rfl (fun c167 => ?_) (fun c167 => ?_)
 refine .sr ?_
 refine .an ?_
 refine .nil (.ret ?_)
 exact .rb rfl (df (fun h => by have h1 := h.strs n116_17 om; unfold StrOK at h1; obtain ⟨a1, a2, a3, a4, a5⟩ := h1; first | contradiction | grind))
 refine .skip ?_
 exact ⟨true, (!decide (In (n.data.getD n116_17 0) n.widths.length)), true, decide ((n.data.getD n116_17 0) ≠ (-1)), by unfold StrOK; grind, Le.mk (.c (.c (.c (.c (.c (.c (.c (.c (.c (.c (.c (.c (.c (.c (.c (.c (.c (.c (.c (.cons (look_bool rfl rls) (.cons (look_bool rfl rls) (.c (.c (.c (.cons (look_bool rfl rls) (.cons (look_bool rfl rls) (.nil))))))))))))))))))))))))))) (.c (.nil))⟩
 replace c159 : ((n.streams.getD n116_17 default).out) = true := by simpa using c159
 refine .sk 39 rfl rfl rfl rfl (.sk 40 rfl rfl rfl rfl (.sk 41 rfl rfl rfl rfl ?_))
 refine .sk 42 rfl rfl rfl rfl (.sk 43 rfl rfl rfl rfl (.sk 44 rfl rfl rfl rfl ?_))
 refine .rn 45 rfl rfl rfl (Y.pick rfl rfl rfl) (.cn 46 rfl (Y.pick rfl rfl rfl) (.nil ?_))
 refine .done krf (.condF rfl (.skip ?_))
 exact ⟨true, (!decide (In (n.data.getD n116_17 0) n.widths.length)), false, false, by unfold StrOK; grind, Le.mk (.c (.c (.c (.c (.c (.c (.c (.c (.c (.c (.c (.c (.c (.c (.c (.c (.c (.c (.c (.cons (look_bool rfl rls) (.cons (look_bool rfl rls) (.c (.c (.c (.cons (look_bool rfl rls) (.cons (look_bool rfl rls) (.nil))))))))))))))))))))))))))) (.c (.nil))⟩
 refine .sk 24 rfl rfl rfl rfl (.sk 25 rfl rfl rfl rfl (.sk 26 rfl rfl rfl rfl ?_))
 refine .sk 27 rfl rfl rfl rfl (.sk 28 rfl rfl rfl rfl (.sk 29 rfl rfl rfl rfl ?_))
 refine .nil (.skipOp 30 rfl krf rfl dcd dcd rfl rfl (.skipOp 31 rfl krf rfl dcd dcd rfl rfl ?_))
 refine .quietN (n := 0) [32, 33, 34, 35, 36, 37, 38, 39, 40, 41, 42, 43, 44, 45, 46] [] 0 rfl krf (.rn 32 rfl rfl rfl (Y.pick rfl rfl rfl) (.cn 33 rfl (Y.pick rfl rfl rfl) ?_))
 refine .cn 34 rfl (Y.move rfl rfl) (.rn 35 rfl rfl rfl (Y.fieldAddr fl83_2 rfl rfl) (.rn 36 rfl rfl rfl (Y.load sh4 rfl rfl rfl rfl) ?_))
 refine .rn 37 rfl rfl rfl (Y.not rfl) (.rn 38 rfl rfl rfl (Y.move rfl rfl) ?_)
 refine .split (d := 159) rfl (fun c159 => ?_) (fun c159 => ?_)
 replace c159 : ((n.streams.getD n116_17 default).out) = false := by simpa using c159
 refine .rn 39 rfl rfl rfl (Y.fieldAddr fl27_7 rfl rfl) (.rn 40 rfl rfl rfl (Y.load sh22 rfl rfl rfl rfl) (.rn 41 rfl rfl rfl (Y.move rfl rfl) ?_))
 refine .rn 42 rfl rfl rfl (Y.indexF (m := n116_17) sl22 rfl rfl rlo (row_getD (d := 0) om)) ?_
 refine .rn 43 rfl rfl rfl (Y.load sh3 rfl rfl rfl rfl) (.rn 44 rfl rfl rfl (Y.neq rfl rfl) (.rn 45 rfl rfl rfl (Y.pick rfl rfl rfl) ?_))
 refine .cn 46 rfl (Y.pick rfl rfl rfl) (.nil (.done krf ?_))
 refine .condD rfl (fun c167 => ?_) (fun c167 => ?_)
 refine .sr ?_
 refine .an ?_
 refine .nil (.ret ?_)
 exact .rb rfl (df (fun h => by have h1 := h.strs n116_17 om; unfold StrOK at h1; obtain ⟨a1, a2, a3, a4, a5⟩ := h1; first | contradiction | grind))
 refine .skip ?_
 exact ⟨false, false, true, decide ((n.data.getD n116_17 0) ≠ (-1)), by unfold StrOK; grind, Le.mk (.c (.c (.c (.c (.c (.c (.c (.c (.c (.c (.c (.c (.c (.c (.c (.c (.c (.c (.c (.cons (look_bool rfl rls) (.cons (look_bool rfl rls) (.c (.c (.c (.cons (look_bool rfl rls) (.cons (look_bool rfl rls) (.nil))))))))))))))))))))))))))) (.c (.nil))⟩
 replace c159 : ((n.streams.getD n116_17 default).out) = true := by simpa using c159
 refine .sk 39 rfl rfl rfl rfl (.sk 40 rfl rfl rfl rfl (.sk 41 rfl rfl rfl rfl ?_))
 refine .sk 42 rfl rfl rfl rfl (.sk 43 rfl rfl rfl rfl (.sk 44 rfl rfl rfl rfl ?_))
 refine .rn 45 rfl rfl rfl (Y.pick rfl rfl rfl) (.cn 46 rfl (Y.pick rfl rfl rfl) (.nil ?_))
 refine .done krf (.condF rfl (.skip ?_))
 exact ⟨false, false, false, false, by unfold StrOK; grind, Le.mk (.c (.c (.c (.c (.c (.c (.c (.c (.c (.c (.c (.c (.c (.c (.c (.c (.c (.c (.c (.cons (look_bool rfl rls) (.cons (look_bool rfl rls) (.c (.c (.c (.cons (look_bool rfl rls) (.cons (look_bool rfl rls) (.nil))))))))))))))))))))))))))) (.c (.nil))⟩
 refine .region (.vl (Y.addI rfl rfl om) ?_)
 refine .mv ?_
 refine .nil ?_
 exact ⟨n116_17 + 1, ⟨om, below_succ' hst hJ21⟩, om, Le.mk (.c (.c (.c (.c (.cons (look_int rfl rlo) (.nil)))))) (.nil)⟩
 refine .exit (.seq (.sr ?_))
 refine .ld sh45 ?_
 refine .fa fl27_8 ?_
 refine .ld sh3 ?_
 refine .callCP rfl ok94 (formed1_spec (i := n.freeze)) rfl (.keep rfl rfl (.keep rfl rfl .nil)) dcd rfl (.vl (Y.not rfl) ?_)
 refine .mv ?_
 refine .split (d := 174) rfl (fun c174 => ?_) (fun c174 => ?_)
 replace c174 : ¬ (In n.freeze n.widths.length) := by simpa using c174
 refine .gz 174 (.gz 174 (.gz 174 ?_))
 refine .gz 174 (.gz 174 ?_)
 refine .pk ?_
 refine .mv ?_
 refine .gz 181 (.gz 181 (.gz 181 ?_))
 refine .gz 181 ?_
 refine .pk ?_
 refine .nil (.condT rfl (.sr ?_))
 refine .an ?_
 refine .nil (.ret ?_)
 exact .rb rfl (df (fun h => by have h1 := h.freeze; have h2 := h.done; contradiction))
 replace c174 : In n.freeze n.widths.length := by simpa using c174
 refine .gw 174 (Y.load sh45 rfl rfl rfl rfl) (.gw 174 (Y.fieldAddr fl27_9 rfl rfl) (.gw 174 (Y.load sh3 rfl rfl rfl rfl) ?_))
 refine .guardRun (d := 174) rfl dcd rfl (.callCP rfl ok94 (formed1_spec (i := n.done)) rfl (.keep rfl rfl (.keep rfl rfl .nil)) dcd rfl (.gw 174 (Y.not rfl) ?_))
 refine .pk ?_
 refine .mv ?_
 refine .split (d := 181) rfl (fun c181 => ?_) (fun c181 => ?_)
 replace c181 : ¬ (In n.done n.widths.length) := by simpa using c181
 refine .gz 181 (.gz 181 (.gz 181 ?_))
 refine .gz 181 ?_
 refine .pk ?_
 refine .nil (.condT rfl (.sr ?_))
 refine .an ?_
 refine .nil (.ret ?_)
 exact .rb rfl (df (fun h => by have h1 := h.freeze; have h2 := h.done; contradiction))
 replace c181 : In n.done n.widths.length := by simpa using c181
 refine .gw 181 (Y.fieldAddr fl27_10 rfl rfl) (.gw 181 (Y.load sh22 rfl rfl rfl rfl) (.gw 181 (Y.makeFunc rfl rfl rfl rfl) ?_))
 refine .guardRun (d := 181) rfl dcd rfl ?_
 refine .callP ok95 (containsFuncInt_spec (l := n.rets) (p := fun z => !decide (In z n.widths.length)) (om) ok96 (fun z _ => formed2_spec)) rfl (.keep rfl rfl (.keep rfl rfl .nil)) dcd rfl ?_
 refine .pk ?_
 refine .nil ?_
 refine .cond rfl (fun c186 => ?_) (fun c186 => ?_)
 refine .sr ?_
 refine .an ?_
 refine .nil (.ret ?_)
 exact .rb rfl (df (fun h => absurd h.rets (any_not.1 asm)))
 refine .skip (.sr ?_)
 refine .fa fl27_1 ?_
 refine .ld sh22 ?_
 refine .vl (Y.len (n := n.widths.length) sl22 rfl (congrArg some (List.length_map ..))) (.makeSlice (n := n.widths.length) sl63 ze4 rfl rfl rfl rfl om om dcd ?_)
 refine .assignX rfl dcd (.sh (Sh.adoptE (d := 10) (n := n.widths.length) 110 ((List.replicate n.widths.length false).map brow) rfl (by first | rfl | exact rep_map rfl) (len_map (by simp)) dcd) (.nil ?_))
 refine .seq (.sr ?_)
 refine .fa fl27_2 ?_
 refine .ld sh23 ?_
 refine .vl (Y.len (n := n.cells.length) sl23 rfl (congrArg some (List.length_map ..))) ?_
 refine .mv ?_
 refine .nil (.block ?_)
 refine .loop2 (fun (n194_26 : Nat) (driven10_26 : List Bool) => ⟨[(1, .fp (Netlist.row n) 0), (7, .fp ([.clo (.func 94) [] [.fp (Netlist.row n) 0]]) 0), (10, .slc 110 1 0 n.widths.length), (192, .fz 6 (n.cells.map Cell.row)), (193, vi ((n.cells.length : Nat) : Int)), (194, vi (n194_26 : Int))], [(110, .rows 1 (driven10_26.map brow))]⟩) (fun (n194_26 : Nat) (driven10_26 : List Bool) => (driven10_26.length = n.widths.length) ∧ ((n194_26 : Int) ≤ ((n.cells.length : Nat) : Int)) ∧ (Drv n n194_26 driven10_26) ∧ (∀ j, j < n194_26 → CellOK n (n.cells.getD j default))) (fun (n194_26 : Nat) (driven10_26 : List Bool) => (((n.cells.length : Nat) : Int) - (n194_26 : Int)).toNat) 0 (List.replicate n.widths.length false) (⟨omu, omu, Drv.init n, fun j hj => by omega⟩) (Le.mk (.c (.c (.c (.c (.c (.cons (look_int rfl rlo) (.nil))))))) (.c (.nil))) (fun n194_26 driven10_26 hI26 => ?_)
 obtain ⟨hl110, hb26, hd, hc⟩ := hI26
 refine .sr (.vl (Y.lss rfl rfl) (.nil ?_))
 refine .seq ?_
 refine .condD rfl (fun c195 => ?_) (fun c195 => ?_)
 refine .skip ?_
 refine .join1 (fun (driven10_j36 : List Bool) => ⟨[(1, .fp (Netlist.row n) 0), (7, .fp ([.clo (.func 94) [] [.fp (Netlist.row n) 0]]) 0), (10, .slc 110 1 0 n.widths.length), (192, .fz 6 (n.cells.map Cell.row)), (193, vi ((n.cells.length : Nat) : Int)), (194, vi (n194_26 : Int)), (203, .agg [.v (.string n.name), .fz 1 (n.widths.map irow), .fz 6 (n.cells.map Cell.row), .fz 1 (n.ins.map irow), .fz 5 (n.mems.map Arr.row), .fz 3 (n.streams.map Strm.row), .fz 1 (n.active.map irow), .fz 1 (n.data.map irow), vi n.freeze, vi n.done, .fz 1 (n.rets.map irow)]), (204, .agg [vi ((n.cells.getD n194_26 default).kind), vi ((n.cells.getD n194_26 default).op), vi ((n.cells.getD n194_26 default).out), .fz 1 (((n.cells.getD n194_26 default).args).map irow), .v (.int .u64 (((n.cells.getD n194_26 default).num : Nat) : Int)), vi ((n.cells.getD n194_26 default).mem)]), (205, .v (.bool (decide (Shaped n (n.cells.getD n194_26 default))))), (206, .v (.bool (!decide (Shaped n (n.cells.getD n194_26 default)))))], [(110, .rows 1 (driven10_j36.map brow))]⟩) (fun (driven10_j36 : List Bool) => (driven10_j36.length = n.widths.length) ∧ (CellOK n (n.cells.getD n194_26 default) ∧ Drv n (n194_26 + 1) driven10_j36)) ?_ (fun driven10_j36 hJx36 => ?_)
 refine .block (.sr ?_)
 refine .vl (Y.indexF (m := n194_26) sl23 rfl rfl rlo (row_getD (d := default) om)) ?_
 refine .vl (Y.loadA sh39 rfl rfl (nbE rfl) rfl rfl) (.alloc 112 ze39 rfl rfl dcd (.storeC si39 rfl rfl rfl rfl rfl rfl (nbE rfl) rfl ?_))
 refine .nil (.seq (.sr ?_))
 have hca := hs.args (n.cells.getD n194_26 default) (getD_mem' om)
 refine .fa fl39_3 ?_
 refine .ld sh22 ?_
 refine .vl (Y.makeFunc rfl rfl rfl rfl) ?_
 refine .callP ok95 (containsFuncInt_spec (l := ((n.cells.getD n194_26 default).args)) (p := fun z => !decide (In z n.widths.length)) (om) ok97 (fun z _ => formed3_spec)) rfl (.keep rfl rfl (.keep rfl rfl .nil)) dcd rfl ?_
 refine .mv ?_
 refine .split (d := 202) rfl (fun c202 => ?_) (fun c202 => ?_)
 refine .gz 202 (.gz 202 (.gz 202 ?_))
 refine .gz 202 ?_
 refine .pk ?_
 refine .nil (.condT rfl (.sr ?_))
 refine .an ?_
 refine .nil (.ret ?_)
 exact .rb rfl (df (fun h => by have h1 := h.cells n194_26 om; obtain ⟨a1, a2, a3, a4⟩ := h1; first | contradiction | exact absurd a1 (any_not.1 asm) | (have := a3 asm; contradiction) | (have := a4 asm; contradiction)))
 refine .gw 202 (Y.loadA sh27 rfl rfl (nbE rfl) rfl rfl) (.gw 202 (Y.loadA sh39 rfl rfl (nbE rfl) rfl rfl) (.guardRun (d := 202) rfl dcd rfl ?_))
 refine .callP ok98 (shaped_spec (n := n) (c := (n.cells.getD n194_26 default)) hs (by first | assumption | omega)) rfl (.keep rfl rfl (.keep rfl rfl .nil)) dcd rfl (.gw 202 (Y.not rfl) ?_)
 refine .pk ?_
 refine .nil ?_
 refine .cond rfl (fun c207 => ?_) (fun c207 => ?_)
 replace c207 : ¬ (Shaped n (n.cells.getD n194_26 default)) := by simpa using c207
 refine .sr ?_
 refine .an ?_
 refine .nil (.ret ?_)
 exact .rb rfl (df (fun h => by have h1 := h.cells n194_26 om; obtain ⟨a1, a2, a3, a4⟩ := h1; first | contradiction | exact absurd a1 (any_not.1 asm) | (have := a3 asm; contradiction) | (have := a4 asm; contradiction)))
 replace c207 : Shaped n (n.cells.getD n194_26 default) := by simpa using c207
 refine .skip (.seq (.sr ?_))
 refine .fa fl39_0 ?_
 refine .ld sh3 ?_
 refine .vl (Y.eql rfl rfl) (.nil ?_)
 refine .condD rfl (fun c210 => ?_) (fun c210 => ?_)
 refine .seq (.sr ?_)
 refine .fa fl39_2 ?_
 refine .ld sh3 ?_
 refine .vl (Y.neq rfl rfl) (.nil ?_)
 refine .condD rfl (fun c213 => ?_) (fun c213 => ?_)
 refine .sr ?_
 refine .an ?_
 refine .nil (.ret ?_)
 exact .rb rfl (df (fun h => by have h1 := h.cells n194_26 om; obtain ⟨a1, a2, a3, a4⟩ := h1; first | contradiction | exact absurd a1 (any_not.1 asm) | (have := a3 asm; contradiction) | (have := a4 asm; contradiction)))
 refine .skip (.exit ?_)
 exact ⟨driven10_26, ⟨om, ⟨⟨any_not_false asm, asm, fun _ => by omega, fun h => absurd asm h⟩, hd.skip om asm⟩⟩, Le.mk (.c (.c (.c (.c (.c (.c (.c (.c (.c (.c (.nil))))))))))) (.c (.nil))⟩
 refine .skip (.seq (.sr ?_))
 refine .ld sh45 ?_
 refine .fa fl39_2 ?_
 refine .ld sh3 ?_
 refine .callCP rfl ok94 (formed1_spec (i := ((n.cells.getD n194_26 default).out))) rfl (.keep rfl rfl (.keep rfl rfl .nil)) dcd rfl (.vl (Y.not rfl) ?_)
 refine .mv ?_
 refine .split (d := 219) rfl (fun c219 => ?_) (fun c219 => ?_)
 replace c219 : ¬ (In ((n.cells.getD n194_26 default).out) n.widths.length) := by simpa using c219
 refine .gz 219 (.gz 219 (.gz 219 ?_))
 refine .gz 219 (.gz 219 ?_)
 refine .pk ?_
 refine .nil (.condT rfl (.sr ?_))
 refine .an ?_
 refine .nil (.ret ?_)
 exact .rb rfl (df (fun h => by have h1 := h.cells n194_26 om; obtain ⟨a1, a2, a3, a4⟩ := h1; first | contradiction | exact absurd a1 (any_not.1 asm) | (have := a3 asm; contradiction) | (have := a4 asm; contradiction)))
 replace c219 : In ((n.cells.getD n194_26 default).out) n.widths.length := by simpa using c219
 refine .gw 219 (Y.move rfl rfl) (.gw 219 (Y.fieldAddr fl39_2 rfl rfl) (.gw 219 (Y.load sh3 rfl rfl rfl rfl) ?_))
 refine .gw 219 (Y.indexO (m := ((n.cells.getD n194_26 default).out).toNat) sl63 rfl rfl omu omu) (.gw 219 (Y.load sh4 rfl (row_getD0 (d := false) omu) rfl rfl) ?_)
 refine .pk ?_
 refine .nil ?_
 refine .cond rfl (fun c225 => ?_) (fun c225 => ?_)
 refine .sr ?_
 refine .an ?_
 refine .nil (.ret ?_)
 exact .rb rfl (df (fun h => Drv.dup hd om asm asm asm h))
 refine .skip (.region ?_)
 refine .mv ?_
 refine .fa fl39_2 ?_
 refine .ld sh3 ?_
 refine .vl (Y.indexO (m := ((n.cells.getD n194_26 default).out).toNat) sl63 rfl rfl omu omu) (.storeE ((driven10_26.set (((n.cells.getD n194_26 default).out).toNat) true).map brow) si4 rfl rfl rfl rfl rfl rfl rfl (row_getD0 (d := false) omu) (nbE rfl) (set_map0 rfl) (.nil ?_))
 exact ⟨driven10_26.set (((n.cells.getD n194_26 default).out).toNat) true, ⟨omu, ⟨⟨any_not_false asm, asm, fun h => absurd h asm, fun _ => by assumption⟩, hd.step om asm asm hl110 asm⟩⟩, Le.mk (.c (.c (.c (.c (.c (.c (.c (.c (.c (.c (.nil))))))))))) (.c (.nil))⟩
 obtain ⟨hlj36_110, hJ36⟩ := hJx36
 refine .region (.vl (Y.addI rfl rfl om) ?_)
 refine .mv ?_
 refine .nil ?_
 exact ⟨n194_26 + 1, driven10_j36, ⟨om, om, hJ36.2, below_succ' hc hJ36.1⟩, om, Le.mk (.c (.c (.c (.c (.c (.cons (look_int rfl rlo) (.nil))))))) (.c (.nil))⟩
 refine .exit (.sr ?_)
 refine .mv ?_
 refine .callLP [110] ok99 (containsBool_spec (l := driven10_26) (b := false) (om)) rfl (.lend rfl rfl (lend_le om) (lend_eq om) (.keep rfl rfl .nil)) (lend1 rfl (owns_map brow_frees)) dcd rfl trivial (.vl (Y.not rfl) ?_)
 refine .an ?_
 refine .nil (.ret ?_)
 exact .rb rfl (db ((Drv.all (d := driven10_26) (by rw [show n.cells.length = n194_26 by omega]; exact hd) hl110).trans ⟨fun h => ⟨asm, om, om, om, om, om, om, fun j hj => by have := hw j (by rw [List.length_append] at hj; omega); rw [hcat] at this; exact this, fun j hj => hm j om, fun j hj => hst j om, asm, asm, any_not_false asm, fun j hj => hc j om, h⟩, fun h => h.driven⟩))
end Go.Proofs.Ytligpghohcfpnaa
/- The walk through fits. -/
namespace Go.Proofs.Ytligpghohcfpnaa
open Go Go.AW Go.Proofs
theorem fits_spec {n : Netlist} {c : Cell} (hs : n.Small) (hc : c.args.length ≤ 17592186043904) (hn : c.num < 18446744073709551616) (hsh : Shaped n c) (hw : Wired n c) : ACalls Try.prog 102 [.agg (Netlist.row n), .agg (Cell.row c)] [] [] (fun r o => r = .v (.bool (decide (Fits n c))) ∧ o = []) := by
 refine ACalls.of Try.func102 rfl rfl rfl (n := 239) dcd (nbE rfl) ?_
 have hs4 := hs.ins; have hs5 := hs.mems; have hs6 := hs.streams; have ho := hw.out; have hs1 := hs.widths
 refine .sr (.box 102 rfl rfl rfl rfl rfl dcd (.box 103 rfl rfl rfl rfl rfl dcd ?_))
 refine .an ?_
 refine .nil (.sr ?_)
 refine .an ?_
 refine .nil ?_
 refine .join1 (fun (w5_j4 : Int) => ⟨[(2, .ptr 102 0 0 0), (3, .ptr 103 0 0 0), (5, vi w5_j4)], [(102, .cells (Netlist.row n)), (103, .cells (Cell.row c))]⟩) (fun (w5_j4 : Int) => w5_j4 = n.ow c) ?_ (fun w5_j4 hJ4 => ?_)
 refine .sr ?_
 refine .fa fl39_2 ?_
 refine .ld sh3 ?_
 refine .vl (Y.geq rfl rfl) (.nil ?_)
 refine .condD rfl (fun c13 => ?_) (fun c13 => ?_)
 refine .region ?_
 refine .fa fl27_1 ?_
 refine .ld sh22 ?_
 refine .fa fl39_2 ?_
 refine .ld sh3 ?_
 refine .vl (Y.indexF (m := (c.out).toNat) sl22 rfl rfl om (row_getD (d := 0) om)) ?_
 refine .ld sh3 ?_
 refine .an ?_
 refine .nil ?_
 exact ⟨n.widths.getD ((c.out).toNat) 0, by unfold Netlist.ow Netlist.wd; rw [if_pos c13], Le.mk (.c (.c (.cons (look_int rfl rlo) (.nil)))) (.c (.c (.nil)))⟩
 refine .skip ?_
 exact ⟨0, by unfold Netlist.ow; rw [if_neg c13], Le.mk (.c (.c (.cons (look_int rfl rlo) (.nil)))) (.c (.c (.nil)))⟩
 refine .sr ?_
 refine .fa fl39_3 ?_
 refine .ld sh22 ?_
 refine .vl (Y.len (n := c.args.length) sl22 rfl (congrArg some (List.length_map ..))) (.makeSlice (n := c.args.length) sl22 ze3 rfl rfl rfl rfl om om dcd ?_)
 refine .assignX rfl dcd (.sh (Sh.adoptE (d := 6) (n := c.args.length) 106 ((List.replicate c.args.length 0).map irow) rfl (by first | rfl | exact rep_map rfl) (len_map (by simp)) dcd) (.nil ?_))
 refine .seq (.sr ?_)
 refine .fa fl39_3 ?_
 refine .ld sh22 ?_
 refine .vl (Y.len (n := c.args.length) sl22 rfl (congrArg some (List.length_map ..))) ?_
 refine .mv ?_
 refine .nil (.block ?_)
 refine .loop2 (fun (n27_6 : Nat) (a6_6 : List Int) => ⟨[(2, .ptr 102 0 0 0), (3, .ptr 103 0 0 0), (5, vi w5_j4), (6, .slc 106 1 0 c.args.length), (25, .fz 1 (c.args.map irow)), (26, vi ((c.args.length : Nat) : Int)), (27, vi (n27_6 : Int))], [(102, .cells (Netlist.row n)), (103, .cells (Cell.row c)), (106, .rows 1 (a6_6.map irow))]⟩) (fun (n27_6 : Nat) (a6_6 : List Int) => (a6_6.length = c.args.length) ∧ ((n27_6 : Int) ≤ ((c.args.length : Nat) : Int)) ∧ (∀ j, j < n27_6 → a6_6.getD j 0 = n.av c j)) (fun (n27_6 : Nat) (a6_6 : List Int) => (((c.args.length : Nat) : Int) - (n27_6 : Int)).toNat) 0 (List.replicate c.args.length 0) (⟨omd, omd, fun j hj => by omega⟩) (Le.mk (.c (.c (.c (.c (.c (.c (.cons (look_int rfl rlo) (.nil)))))))) (.c (.c (.c (.nil))))) (fun n27_6 a6_6 hI6 => ?_)
 obtain ⟨hl106, hb6, ha⟩ := hI6
 refine .sr (.vl (Y.lss rfl rfl) (.nil ?_))
 refine .seq ?_
 refine .condD rfl (fun c28 => ?_) (fun c28 => ?_)
 refine .skip (.seq (.block ?_))
 refine .sr ?_
 refine .mv ?_
 refine .vl (Y.indexF (m := n27_6) sl22 rfl rfl rlo (row_getD (d := 0) om)) ?_
 refine .ld sh3 ?_
 refine .an ?_
 refine .an ?_
 refine .nil (.region ?_)
 have hwa := hw.arg (k := n27_6) om
 refine .mv ?_
 refine .mv ?_
 refine .fa fl27_1 ?_
 refine .ld sh22 ?_
 refine .mv ?_
 refine .vl (Y.indexF (m := (c.args.getD n27_6 0).toNat) sl22 rfl rfl om (row_getD (d := 0) om)) ?_
 refine .ld sh3 ?_
 refine .vl (Y.indexO (m := n27_6) sl22 rfl rfl rlo om) (.storeE ((a6_6.set n27_6 (n.widths.getD ((c.args.getD n27_6 0).toNat) 0)).map irow) si3 rfl rfl rfl rfl rfl rfl rfl (row_getD0 (d := 0) om) (nbE rfl) (set_map0 rfl) ?_)
 refine .nil (.region ?_)
 refine .vl (Y.addI rfl rfl oms) ?_
 refine .mv ?_
 refine .nil ?_
 exact ⟨n27_6 + 1, a6_6.set n27_6 (n.widths.getD ((c.args.getD n27_6 0).toNat) 0), ⟨omd, omd, fill_succ ha rfl om⟩, om, Le.mk (.c (.c (.c (.c (.c (.c (.cons (look_int rfl rlo) (.nil)))))))) (.c (.c (.c (.nil))))⟩
 refine .exit (.seq (.seq ?_))
 have ha0 : 0 < c.args.length → a6_6.getD 0 0 = n.av c 0 := fun h => ha 0 om
 have ha1 : 1 < c.args.length → a6_6.getD 1 0 = n.av c 1 := fun h => ha 1 om
 have ha2 : 2 < c.args.length → a6_6.getD 2 0 = n.av c 2 := fun h => ha 2 om
 refine .region ?_
 refine .fa fl39_0 ?_
 refine .ld sh3 ?_
 refine .nil (.block (.sr ?_))
 refine .vl (Y.eql rfl rfl) ?_
 refine .an ?_
 refine .nil ?_
 refine .condD rfl (fun c43 => ?_) (fun c43 => ?_)
 refine .seq (.regionAny rfl (.blind 0 rfl krf (Blind.move rfl rfl) dcd ?_))
 refine .blind 1 rfl krf (Blind.fieldAddr fl39_4 rfl rfl) dcd (.blind 4 rfl krf (Blind.fieldAddr fl39_4 rfl rfl) dcd ?_)
 refine .two 2 5 rfl rfl krf ?_ ?_
 refine .ld sh37 ?_
 refine .nil ⟨rfl, ?_⟩
 refine .two 3 5 rfl rfl krf ?_ ?_
 refine .callP ok65 (bfit_spec (w := w5_j4) (x := c.num) (om)) rfl (.keep rfl rfl (.keep rfl rfl .nil)) dcd rfl ?_
 refine .nil ⟨rfl, ?_⟩
 refine .quietN (n := 0) [5, 6, 7] [] 0 rfl krf (.cn 5 rfl (Y.load sh37 rfl rfl rfl rfl) (.cn 6 rfl (Y.eql rfl rfl) ?_))
 refine .cn 7 rfl (Y.assign rfl rfl) (.nil (.done krf ?_))
 refine .ret ?_
 exact .rb rfl (dd (by (simp only [Fits, OpFits, Cmp, ← hJ4, c43, Int.reduceEq, Bool.not_eq_true, false_and, true_and, and_true, and_false, or_false, false_or, ne_eq]) <;> omega))
 refine .ld sh37 ?_
 refine .nil ⟨rfl, ?_⟩
 refine .one 3 rfl krf (.callP ok65 (bfit_spec (w := w5_j4) (x := c.num) (om)) rfl (.keep rfl rfl (.keep rfl rfl .nil)) dcd rfl ?_)
 refine .nil ⟨rfl, ?_⟩
 refine .quietN (n := 0) [6, 7] [] 0 rfl krf (.cn 6 rfl (Y.eql rfl rfl) (.cn 7 rfl (Y.assign rfl rfl) ?_))
 refine .nil (.done krf (.ret ?_))
 exact .rb rfl (dd (by (simp only [Fits, OpFits, Cmp, ← hJ4, c43, Int.reduceEq, Bool.not_eq_true, false_and, true_and, and_true, and_false, or_false, false_or, ne_eq]) <;> omega))
 refine .ld sh37 ?_
 refine .nil ⟨rfl, ?_⟩
 refine .quietN (n := 3) [2] [3, 6, 7] 3 rfl krf (.cn 2 rfl (Y.load sh37 rfl rfl rfl rfl) (.nil ?_))
 refine .one 3 rfl krf (.callP ok65 (bfit_spec (w := w5_j4) (x := c.num) (om)) rfl (.keep rfl rfl (.keep rfl rfl .nil)) dcd rfl ?_)
 refine .nil ⟨rfl, ?_⟩
 refine .quietN (n := 0) [6, 7] [] 0 rfl krf (.cn 6 rfl (Y.eql rfl rfl) (.cn 7 rfl (Y.assign rfl rfl) ?_))
 refine .nil (.done krf (.ret ?_))
 exact .rb rfl (dd (by (simp only [Fits, OpFits, Cmp, ← hJ4, c43, Int.reduceEq, Bool.not_eq_true, false_and, true_and, and_true, and_false, or_false, false_or, ne_eq]) <;> omega))
 refine .sr (.vl (Y.eql rfl rfl) ?_)
 refine .an ?_
 refine .nil ?_
 refine .condD rfl (fun c52 => ?_) (fun c52 => ?_)
 have hk := hsh.k2 c52
 refine .seq (.sr ?_)
 refine .fa fl39_1 ?_
 refine .ld sh3 ?_
 refine .nil (.block (.sr ?_))
 refine .vl (Y.eql rfl rfl) ?_
 refine .an ?_
 refine .nil ?_
 refine .condD rfl (fun c56 => ?_) (fun c56 => ?_)
 refine .sr ?_
 refine .mv ?_
 refine .vl (Y.indexO (m := 0) sl22 rfl rfl rlo oms) (.vl (Y.load sh3 rfl (row_getD0 (d := 0) om) rfl rfl) (.vl (Y.eql rfl rfl) ?_))
 refine .mv ?_
 refine .splitD (d := 62) rfl (fun c62 => ?_) (fun c62 => ?_)
 refine .gw 62 (Y.move rfl rfl) (.gw 62 (Y.indexO (m := 1) sl22 rfl rfl rlo om) (.gw 62 (Y.load sh3 rfl (row_getD0 (d := 0) om) rfl rfl) ?_))
 refine .gw 62 (Y.move rfl rfl) (.gw 62 (Y.eql rfl rfl) ?_)
 refine .pk ?_
 refine .mv ?_
 refine .splitD (d := 69) rfl (fun c69 => ?_) (fun c69 => ?_)
 refine .gw 69 (Y.move rfl rfl) (.gw 69 (Y.indexO (m := 2) sl22 rfl rfl rlo om) (.gw 69 (Y.load sh3 rfl (row_getD0 (d := 0) om) rfl rfl) ?_))
 refine .gw 69 (Y.move rfl rfl) (.gw 69 (Y.eql rfl rfl) ?_)
 refine .pk ?_
 refine .an ?_
 refine .nil (.ret ?_)
 exact .rb rfl (dd (by (simp only [Fits, OpFits, Cmp, ← hJ4, c52, Int.reduceEq, Bool.not_eq_true, false_and, true_and, and_true, and_false, or_false, false_or, ne_eq]) <;> omega))
 refine .gz 69 (.gz 69 (.gz 69 ?_))
 refine .gz 69 (.gz 69 ?_)
 refine .pk ?_
 refine .an ?_
 refine .nil (.ret ?_)
 exact .rb rfl (df (by (simp only [Fits, OpFits, Cmp, ← hJ4, c52, Int.reduceEq, Bool.not_eq_true, false_and, true_and, and_true, and_false, or_false, false_or, ne_eq]) <;> omega))
 refine .gz 62 (.gz 62 (.gz 62 ?_))
 refine .gz 62 (.gz 62 ?_)
 refine .pk ?_
 refine .mv ?_
 refine .gz 69 (.gz 69 (.gz 69 ?_))
 refine .gz 69 (.gz 69 ?_)
 refine .pk ?_
 refine .an ?_
 refine .nil (.ret ?_)
 exact .rb rfl (df (by (simp only [Fits, OpFits, Cmp, ← hJ4, c52, Int.reduceEq, Bool.not_eq_true, false_and, true_and, and_true, and_false, or_false, false_or, ne_eq]) <;> omega))
 refine .seq (.sr (.vl (Y.eql rfl rfl) ?_))
 refine .an ?_
 refine .nil ?_
 refine .condKD rfl (fun c76 => ?_) (fun c76 => ?_)
 refine .skip (.condT rfl (.sr ?_))
 refine .mv ?_
 refine .vl (Y.indexO (m := 0) sl22 rfl rfl rlo oms) (.vl (Y.load sh3 rfl (row_getD0 (d := 0) om) rfl rfl) ?_)
 refine .mv ?_
 refine .vl (Y.leq rfl rfl) ?_
 refine .an ?_
 refine .nil (.ret ?_)
 exact .rb rfl (dd (by (simp only [Fits, OpFits, Cmp, ← hJ4, c52, Int.reduceEq, Bool.not_eq_true, false_and, true_and, and_true, and_false, or_false, false_or, ne_eq]) <;> omega))
 refine .region (.vl (Y.eql rfl rfl) ?_)
 refine .an ?_
 refine .nil ?_
 refine .condKD rfl (fun c76 => ?_) (fun c76 => ?_)
 refine .sr ?_
 refine .mv ?_
 refine .vl (Y.indexO (m := 0) sl22 rfl rfl rlo oms) (.vl (Y.load sh3 rfl (row_getD0 (d := 0) om) rfl rfl) ?_)
 refine .mv ?_
 refine .vl (Y.leq rfl rfl) ?_
 refine .an ?_
 refine .nil (.ret ?_)
 exact .rb rfl (dd (by (simp only [Fits, OpFits, Cmp, ← hJ4, c52, Int.reduceEq, Bool.not_eq_true, false_and, true_and, and_true, and_false, or_false, false_or, ne_eq]) <;> omega))
 refine .sr (.vl (Y.eql rfl rfl) ?_)
 refine .an ?_
 refine .nil ?_
 refine .condD rfl (fun c84 => ?_) (fun c84 => ?_)
 refine .sr ?_
 refine .mv ?_
 refine .vl (Y.indexO (m := 0) sl22 rfl rfl rlo oms) (.vl (Y.load sh3 rfl (row_getD0 (d := 0) om) rfl rfl) ?_)
 refine .mv ?_
 refine .vl (Y.geq rfl rfl) ?_
 refine .an ?_
 refine .nil (.ret ?_)
 exact .rb rfl (dd (by (simp only [Fits, OpFits, Cmp, ← hJ4, c52, Int.reduceEq, Bool.not_eq_true, false_and, true_and, and_true, and_false, or_false, false_or, ne_eq]) <;> omega))
 refine .skip (.seq (.sr ?_))
 refine .fa fl39_1 ?_
 refine .ld sh3 ?_
 refine .callP ok74 (isCompare_spec (w := c.op)) rfl (.keep rfl rfl .nil) dcd rfl (.nil ?_)
 refine .condD rfl (fun c93 => ?_) (fun c93 => ?_)
 unfold Cmp at c93
 refine .seq (.regionS rfl krf (.val (Y.move rfl rfl) dcd ?_))
 refine .val (Y.eql rfl rfl) dcd (.val (Y.move rfl rfl) dcd ?_)
 refine .splitD (d := 96) rfl (fun c96 => ?_) (fun c96 => ?_)
 refine .guardRun (d := 96) rfl dcd rfl (.val (Y.move rfl rfl) dcd (.guardRun (d := 96) rfl dcd rfl ?_))
 refine .val (Y.indexO (m := 0) sl22 rfl rfl rlo om) dcd (.guardRun (d := 96) rfl dcd rfl (.val (Y.load sh3 rfl (row_getD0 (d := 0) om) rfl rfl) dcd ?_))
 refine .guardRun (d := 96) rfl dcd rfl (.val (Y.move rfl rfl) dcd (.guardRun (d := 96) rfl dcd rfl ?_))
 refine .val (Y.indexO (m := 1) sl22 rfl rfl rlo om) dcd (.guardRun (d := 96) rfl dcd rfl (.val (Y.load sh3 rfl (row_getD0 (d := 0) om) rfl rfl) dcd ?_))
 refine .guardRun (d := 96) rfl dcd rfl (.val (Y.eql rfl rfl) dcd (.val (Y.pick rfl rfl rfl) dcd ?_))
 refine .val (Y.assign rfl rfl) dcd (.nil (.ret ?_))
 exact .rb rfl (dd (by (simp only [Fits, OpFits, Cmp, ← hJ4, c52, Int.reduceEq, Bool.not_eq_true, false_and, true_and, and_true, and_false, or_false, false_or, ne_eq]) <;> omega))
 refine .guardSkipV (d := 96) rfl dcd dcd rfl rfl (.guardSkipV (d := 96) rfl dcd dcd rfl rfl (.guardSkipV (d := 96) rfl dcd dcd rfl rfl ?_))
 refine .guardSkipV (d := 96) rfl dcd dcd rfl rfl (.guardSkipV (d := 96) rfl dcd dcd rfl rfl (.guardSkipV (d := 96) rfl dcd dcd rfl rfl ?_))
 refine .guardSkipV (d := 96) rfl dcd dcd rfl rfl (.val (Y.pick rfl rfl rfl) dcd (.val (Y.assign rfl rfl) dcd ?_))
 refine .nil (.ret ?_)
 exact .rb rfl (df (by (simp only [Fits, OpFits, Cmp, ← hJ4, c52, Int.reduceEq, Bool.not_eq_true, false_and, true_and, and_true, and_false, or_false, false_or, ne_eq]) <;> omega))
 unfold Cmp at c93
 refine .skip (.sr ?_)
 refine .mv ?_
 refine .vl (Y.indexO (m := 0) sl22 rfl rfl rlo oms) (.vl (Y.load sh3 rfl (row_getD0 (d := 0) om) rfl rfl) ?_)
 refine .mv ?_
 refine .vl (Y.eql rfl rfl) ?_
 refine .mv ?_
 refine .splitD (d := 110) rfl (fun c110 => ?_) (fun c110 => ?_)
 refine .gw 110 (Y.move rfl rfl) (.gw 110 (Y.indexO (m := 1) sl22 rfl rfl rlo om) (.gw 110 (Y.load sh3 rfl (row_getD0 (d := 0) om) rfl rfl) ?_))
 refine .gw 110 (Y.move rfl rfl) (.gw 110 (Y.eql rfl rfl) ?_)
 refine .pk ?_
 refine .an ?_
 refine .nil (.ret ?_)
 exact .rb rfl (dd (by (simp only [Fits, OpFits, Cmp, ← hJ4, c52, Int.reduceEq, Bool.not_eq_true, false_and, true_and, and_true, and_false, or_false, false_or, ne_eq]) <;> omega))
 refine .gz 110 (.gz 110 (.gz 110 ?_))
 refine .gz 110 (.gz 110 ?_)
 refine .pk ?_
 refine .an ?_
 refine .nil (.ret ?_)
 exact .rb rfl (df (by (simp only [Fits, OpFits, Cmp, ← hJ4, c52, Int.reduceEq, Bool.not_eq_true, false_and, true_and, and_true, and_false, or_false, false_or, ne_eq]) <;> omega))
 refine .sr (.vl (Y.eql rfl rfl) ?_)
 refine .an ?_
 refine .nil ?_
 refine .condD rfl (fun c117 => ?_) (fun c117 => ?_)
 have hk := hsh.k3 c117
 refine .seq (.sr ?_)
 refine .mv ?_
 refine .vl (Y.len (n := c.args.length) sl22 rfl rfl) ?_
 refine .mv ?_
 refine .nil (.block ?_)
 refine .loop1 (fun (n121_27 : Nat) => ⟨[(5, vi w5_j4), (119, .slc 106 1 0 c.args.length), (120, vi ((c.args.length : Nat) : Int)), (121, vi (n121_27 : Int))], [(106, .rows 1 (a6_6.map irow))]⟩) (fun (n121_27 : Nat) => ((n121_27 : Int) ≤ ((c.args.length : Nat) : Int)) ∧ (∀ k, k < n121_27 → MuxFit n c k)) (fun (n121_27 : Nat) => (((c.args.length : Nat) : Int) - (n121_27 : Int)).toNat) 0 (⟨om, fun k hk => by omega⟩) (Le.mk (.c (.c (.c (.cons (look_int rfl rlo) (.nil))))) (.c (.nil))) (fun n121_27 hI27 => ?_)
 obtain ⟨hb27, hm⟩ := hI27
 refine .sr (.vl (Y.lss rfl rfl) (.nil ?_))
 refine .seq ?_
 refine .condD rfl (fun c122 => ?_) (fun c122 => ?_)
 refine .skip ?_
 refine .join2 (fun (n137_j31 : Bool) (n141_j31 : Bool) => ⟨[(5, vi w5_j4), (119, .slc 106 1 0 c.args.length), (120, vi ((c.args.length : Nat) : Int)), (121, vi (n121_27 : Int)), (134, vi (n121_27 : Int)), (135, vi ((n121_27 : Int) % 2)), (136, .v (.bool (decide (((n121_27 : Int) % 2) = 1)))), (137, .v (.bool n137_j31)), (141, .v (.bool n141_j31))], [(106, .rows 1 (a6_6.map irow))]⟩) (fun (n137_j31 : Bool) (n141_j31 : Bool) => ((((n121_27 : Int) % 2) = 0) ∧ (¬ ((a6_6.getD n121_27 0) ≠ 1)) ∧ (((n121_27 : Int) % 2) = 1) ∧ (¬ ((a6_6.getD n121_27 0) ≠ w5_j4)) ∧ (n137_j31 = true) ∧ (n141_j31 = (decide ((a6_6.getD n121_27 0) ≠ w5_j4)))) ∨ ((((n121_27 : Int) % 2) = 0) ∧ (¬ ((a6_6.getD n121_27 0) ≠ 1)) ∧ (¬ (((n121_27 : Int) % 2) = 1)) ∧ (n137_j31 = false) ∧ (n141_j31 = false)) ∨ ((¬ (((n121_27 : Int) % 2) = 0)) ∧ (((n121_27 : Int) % 2) = 1) ∧ (¬ ((a6_6.getD n121_27 0) ≠ w5_j4)) ∧ (n137_j31 = true) ∧ (n141_j31 = (decide ((a6_6.getD n121_27 0) ≠ w5_j4)))) ∨ ((¬ (((n121_27 : Int) % 2) = 0)) ∧ (¬ (((n121_27 : Int) % 2) = 1)) ∧ (n137_j31 = false) ∧ (n141_j31 = false))) ?_ (fun n137_j31 n141_j31 hJ31 => ?_)
 refine .block (.sr ?_)
 refine .mv ?_
 refine .vl (Y.indexO (m := n121_27) sl22 rfl rfl rlo om) (.vl (Y.load sh3 rfl (row_getD0 (d := 0) om) rfl rfl) ?_)
 refine .an ?_
 refine .an ?_
 refine .nil (.sr ?_)
 refine .mv ?_
 refine .vl (Y.remI rfl rfl oms) (.vl (Y.eql rfl rfl) ?_)
 refine .mv ?_
 refine .splitD (d := 129) rfl (fun c129 => ?_) (fun c129 => ?_)
 refine .gw 129 (Y.move rfl rfl) (.gw 129 (Y.neq rfl rfl) ?_)
 refine .pk ?_
 refine .mv ?_
 refine .splitD (d := 133) rfl (fun c133 => ?_) (fun c133 => ?_)
 refine .gz 133 (.gz 133 (.gz 133 ?_))
 refine .gz 133 (.gz 137 (.gz 137 ?_))
 refine .gz 137 (.gz 133 ?_)
 refine .pk ?_
 refine .nil (.condT rfl (.sr ?_))
 refine .an ?_
 refine .nil (.ret ?_)
 exact .rb rfl (df (fun h => by simp only [Fits, c117, Int.reduceEq, Bool.not_eq_true, false_and, true_and, and_true, and_false, or_false, false_or, ne_eq] at h; have h1 := h n121_27 om; have h2 := ha n121_27 om; unfold MuxFit at h1; omega))
 refine .gw 133 (Y.move rfl rfl) (.gw 133 (Y.remI rfl rfl om) ?_)
 refine .gw 133 (Y.eql rfl rfl) (.gw 133 (Y.move rfl rfl) ?_)
 refine .splitD (d := 137) rfl (fun c137 => ?_) (fun c137 => ?_)
 refine .gw 137 (Y.move rfl rfl) (.gw 137 (Y.move rfl rfl) (.gw 137 (Y.neq rfl rfl) ?_))
 refine .gw 133 (Y.pick rfl rfl rfl) ?_
 refine .pk ?_
 refine .nil ?_
 refine .condD rfl (fun c142 => ?_) (fun c142 => ?_)
 refine .sr ?_
 refine .an ?_
 refine .nil (.ret ?_)
 exact .rb rfl (df (fun h => by simp only [Fits, c117, Int.reduceEq, Bool.not_eq_true, false_and, true_and, and_true, and_false, or_false, false_or, ne_eq] at h; have h1 := h n121_27 om; have h2 := ha n121_27 om; unfold MuxFit at h1; omega))
 refine .skip ?_
 exact ⟨true, decide ((a6_6.getD n121_27 0) ≠ w5_j4), .inl ⟨c129, c133, c137, c142, rfl, rfl⟩, Le.mk (.c (.c (.c (.c (.c (.c (.c (.cons (look_bool rfl rls) (.cons (look_bool rfl rls) (.nil)))))))))) (.c (.nil))⟩
 refine .gz 137 (.gz 137 (.gz 137 ?_))
 refine .gw 133 (Y.pick rfl rfl rfl) ?_
 refine .pk ?_
 refine .nil (.condF rfl (.skip ?_))
 exact ⟨false, false, .inr (.inl ⟨c129, c133, c137, rfl, rfl⟩), Le.mk (.c (.c (.c (.c (.c (.c (.c (.cons (look_bool rfl rls) (.cons (look_bool rfl rls) (.nil)))))))))) (.c (.nil))⟩
 refine .gz 129 (.gz 129 ?_)
 refine .pk ?_
 refine .mv ?_
 refine .gw 133 (Y.move rfl rfl) (.gw 133 (Y.remI rfl rfl om) ?_)
 refine .gw 133 (Y.eql rfl rfl) (.gw 133 (Y.move rfl rfl) ?_)
 refine .splitD (d := 137) rfl (fun c137 => ?_) (fun c137 => ?_)
 refine .gw 137 (Y.move rfl rfl) (.gw 137 (Y.move rfl rfl) (.gw 137 (Y.neq rfl rfl) ?_))
 refine .gw 133 (Y.pick rfl rfl rfl) ?_
 refine .pk ?_
 refine .nil ?_
 refine .condD rfl (fun c142 => ?_) (fun c142 => ?_)
 refine .sr ?_
 refine .an ?_
 refine .nil (.ret ?_)
 exact .rb rfl (df (fun h => by simp only [Fits, c117, Int.reduceEq, Bool.not_eq_true, false_and, true_and, and_true, and_false, or_false, false_or, ne_eq] at h; have h1 := h n121_27 om; have h2 := ha n121_27 om; unfold MuxFit at h1; omega))
 refine .skip ?_
 exact ⟨true, decide ((a6_6.getD n121_27 0) ≠ w5_j4), .inr (.inr (.inl ⟨c129, c137, c142, rfl, rfl⟩)), Le.mk (.c (.c (.c (.c (.c (.c (.c (.cons (look_bool rfl rls) (.cons (look_bool rfl rls) (.nil)))))))))) (.c (.nil))⟩
 refine .gz 137 (.gz 137 (.gz 137 ?_))
 refine .gw 133 (Y.pick rfl rfl rfl) ?_
 refine .pk ?_
 refine .nil (.condF rfl (.skip ?_))
 exact ⟨false, false, .inr (.inr (.inr (⟨c129, c137, rfl, rfl⟩))), Le.mk (.c (.c (.c (.c (.c (.c (.c (.cons (look_bool rfl rls) (.cons (look_bool rfl rls) (.nil)))))))))) (.c (.nil))⟩
 refine .region (.vl (Y.addI rfl rfl oms) ?_)
 refine .mv ?_
 refine .nil ?_
 exact ⟨n121_27 + 1, ⟨om, mux_succ hm (by have h2 := ha n121_27 om; unfold MuxFit; omega)⟩, om, Le.mk (.c (.c (.c (.cons (look_int rfl rlo) (.nil))))) (.c (.nil))⟩
 refine .exit (.sr ?_)
 refine .an ?_
 refine .nil (.ret ?_)
 exact .rb rfl (dt (by simp only [Fits, c117, Int.reduceEq, Bool.not_eq_true, false_and, true_and, and_true, and_false, or_false, false_or, ne_eq]; exact fun k hk => hm k om))
 refine .sr (.vl (Y.eql rfl rfl) ?_)
 refine .an ?_
 refine .nil ?_
 refine .condD rfl (fun c144 => ?_) (fun c144 => ?_)
 have hk := hsh.k4 c144
 refine .seq (.regionAny rfl (.blind 0 rfl krf (Blind.move rfl rfl) dcd ?_))
 refine .one 1 rfl krf (.vl (Y.indexO (m := 0) sl22 rfl rfl rlo oms) ?_)
 refine .nil ⟨rfl, ?_⟩
 refine .one 2 rfl krf (.vl (Y.load sh3 rfl (row_getD0 (d := 0) om) rfl rfl) ?_)
 refine .nil ⟨rfl, ?_⟩
 refine .one 3 rfl krf (.vl (Y.eql rfl rfl) ?_)
 refine .nil ⟨rfl, ?_⟩
 refine .blind 4 rfl krf (Blind.move rfl rfl) dcd ?_
 refine .splitD (d := 150) rfl (fun c150 => ?_) (fun c150 => ?_)
 refine .blindRun 5 rfl krf rfl dcd rfl (Blind.move rfl rfl) dcd (.blindRun 8 rfl krf rfl dcd rfl (Blind.move rfl rfl) dcd (.one 6 rfl krf ?_))
 refine .gw 150 (Y.indexO (m := 1) sl22 rfl rfl rlo om) ?_
 refine .nil ⟨rfl, ?_⟩
 refine .one 7 rfl krf (.gw 150 (Y.load sh3 rfl (row_getD0 (d := 0) om) rfl rfl) ?_)
 refine .nil ⟨rfl, ?_⟩
 refine .one 9 rfl krf (.gw 150 (Y.eql rfl rfl) ?_)
 refine .nil ⟨rfl, ?_⟩
 refine .one 10 rfl krf ?_
 refine .pk ?_
 refine .nil ⟨rfl, ?_⟩
 refine .blind 11 rfl krf (Blind.move rfl rfl) dcd ?_
 refine .splitD (d := 157) rfl (fun c157 => ?_) (fun c157 => ?_)
 refine .blindRun 12 rfl krf rfl dcd rfl (Blind.move rfl rfl) dcd (.blindRun 13 rfl krf rfl dcd rfl (Blind.fieldAddr fl39_4 rfl rfl) dcd (.blindRun 16 rfl krf rfl dcd rfl (Blind.fieldAddr fl39_4 rfl rfl) dcd ?_))
 refine .two 14 17 rfl rfl krf ?_ ?_
 refine .gw 157 (Y.load sh37 rfl rfl rfl rfl) ?_
 refine .nil ⟨rfl, ?_⟩
 refine .two 15 17 rfl rfl krf ?_ ?_
 refine .guardRun (d := 157) rfl dcd rfl (.callP ok65 (bfit_spec (w := w5_j4) (x := c.num) (om)) rfl (.keep rfl rfl (.keep rfl rfl .nil)) dcd rfl ?_)
 refine .nil ⟨rfl, ?_⟩
 refine .quietN (n := 0) [17, 18, 19, 20] [] 0 rfl krf (.rn 17 rfl rfl rfl (Y.load sh37 rfl rfl rfl rfl) (.rn 18 rfl rfl rfl (Y.eql rfl rfl) ?_))
 refine .cn 19 rfl (Y.pick rfl rfl rfl) (.cn 20 rfl (Y.assign rfl rfl) (.nil ?_))
 refine .done krf (.ret ?_)
 exact .rb rfl (dd (by (simp only [Fits, OpFits, Cmp, ← hJ4, c144, Int.reduceEq, Bool.not_eq_true, false_and, true_and, and_true, and_false, or_false, false_or, ne_eq]) <;> omega))
 refine .gw 157 (Y.load sh37 rfl rfl rfl rfl) ?_
 refine .nil ⟨rfl, ?_⟩
 refine .one 15 rfl krf (.guardRun (d := 157) rfl dcd rfl ?_)
 refine .callP ok65 (bfit_spec (w := w5_j4) (x := c.num) (om)) rfl (.keep rfl rfl (.keep rfl rfl .nil)) dcd rfl ?_
 refine .nil ⟨rfl, ?_⟩
 refine .quietN (n := 0) [18, 19, 20] [] 0 rfl krf (.rn 18 rfl rfl rfl (Y.eql rfl rfl) (.cn 19 rfl (Y.pick rfl rfl rfl) ?_))
 refine .cn 20 rfl (Y.assign rfl rfl) (.nil (.done krf ?_))
 refine .ret ?_
 exact .rb rfl (dd (by (simp only [Fits, OpFits, Cmp, ← hJ4, c144, Int.reduceEq, Bool.not_eq_true, false_and, true_and, and_true, and_false, or_false, false_or, ne_eq]) <;> omega))
 refine .gw 157 (Y.load sh37 rfl rfl rfl rfl) ?_
 refine .nil ⟨rfl, ?_⟩
 refine .quietN (n := 4) [14] [15, 18, 19, 20] 15 rfl krf (.rn 14 rfl rfl rfl (Y.load sh37 rfl rfl rfl rfl) (.nil ?_))
 refine .one 15 rfl krf (.guardRun (d := 157) rfl dcd rfl ?_)
 refine .callP ok65 (bfit_spec (w := w5_j4) (x := c.num) (om)) rfl (.keep rfl rfl (.keep rfl rfl .nil)) dcd rfl ?_
 refine .nil ⟨rfl, ?_⟩
 refine .quietN (n := 0) [18, 19, 20] [] 0 rfl krf (.rn 18 rfl rfl rfl (Y.eql rfl rfl) (.cn 19 rfl (Y.pick rfl rfl rfl) ?_))
 refine .cn 20 rfl (Y.assign rfl rfl) (.nil (.done krf ?_))
 refine .ret ?_
 exact .rb rfl (dd (by (simp only [Fits, OpFits, Cmp, ← hJ4, c144, Int.reduceEq, Bool.not_eq_true, false_and, true_and, and_true, and_false, or_false, false_or, ne_eq]) <;> omega))
 refine .skipOp 12 rfl krf rfl dcd dcd rfl rfl (.skipOp 13 rfl krf rfl dcd dcd rfl rfl (.skipOp 14 rfl krf rfl dcd dcd rfl rfl ?_))
 refine .skipOp 15 rfl krf rfl dcd dcd rfl rfl (.skipOp 16 rfl krf rfl dcd dcd rfl rfl (.skipOp 17 rfl krf rfl dcd dcd rfl rfl ?_))
 refine .skipOp 18 rfl krf rfl dcd dcd rfl rfl (.quietN (n := 0) [19, 20] [] 0 rfl krf (.cn 19 rfl (Y.pick rfl rfl rfl) ?_))
 refine .cn 20 rfl (Y.assign rfl rfl) (.nil (.done krf ?_))
 refine .ret ?_
 exact .rb rfl (df (by (simp only [Fits, OpFits, Cmp, ← hJ4, c144, Int.reduceEq, Bool.not_eq_true, false_and, true_and, and_true, and_false, or_false, false_or, ne_eq]) <;> omega))
 refine .skipOp 5 rfl krf rfl dcd dcd rfl rfl (.skipOp 6 rfl krf rfl dcd dcd rfl rfl (.skipOp 7 rfl krf rfl dcd dcd rfl rfl ?_))
 refine .skipOp 8 rfl krf rfl dcd dcd rfl rfl (.skipOp 9 rfl krf rfl dcd dcd rfl rfl (.one 10 rfl krf ?_))
 refine .pk ?_
 refine .nil ⟨rfl, ?_⟩
 refine .blind 11 rfl krf (Blind.move rfl rfl) dcd (.skipOp 12 rfl krf rfl dcd dcd rfl rfl (.skipOp 13 rfl krf rfl dcd dcd rfl rfl ?_))
 refine .skipOp 14 rfl krf rfl dcd dcd rfl rfl (.skipOp 15 rfl krf rfl dcd dcd rfl rfl (.skipOp 16 rfl krf rfl dcd dcd rfl rfl ?_))
 refine .skipOp 17 rfl krf rfl dcd dcd rfl rfl (.skipOp 18 rfl krf rfl dcd dcd rfl rfl (.quietN (n := 0) [19, 20] [] 0 rfl krf ?_))
 refine .cn 19 rfl (Y.pick rfl rfl rfl) (.cn 20 rfl (Y.assign rfl rfl) (.nil ?_))
 refine .done krf (.ret ?_)
 exact .rb rfl (df (by (simp only [Fits, OpFits, Cmp, ← hJ4, c144, Int.reduceEq, Bool.not_eq_true, false_and, true_and, and_true, and_false, or_false, false_or, ne_eq]) <;> omega))
 refine .sr (.vl (Y.eql rfl rfl) ?_)
 refine .an ?_
 refine .nil ?_
 refine .condD rfl (fun c166 => ?_) (fun c166 => ?_)
 have hk := hsh.k5 c166
 refine .sr ?_
 refine .mv ?_
 refine .vl (Y.indexO (m := 0) sl22 rfl rfl rlo oms) (.vl (Y.load sh3 rfl (row_getD0 (d := 0) om) rfl rfl) ?_)
 refine .mv ?_
 refine .vl (Y.eql rfl rfl) ?_
 refine .mv ?_
 refine .splitD (d := 173) rfl (fun c173 => ?_) (fun c173 => ?_)
 refine .gw 173 (Y.move rfl rfl) (.gw 173 (Y.indexO (m := 1) sl22 rfl rfl rlo om) (.gw 173 (Y.load sh3 rfl (row_getD0 (d := 0) om) rfl rfl) ?_))
 refine .gw 173 (Y.move rfl rfl) (.gw 173 (Y.eql rfl rfl) ?_)
 refine .pk ?_
 refine .an ?_
 refine .nil (.ret ?_)
 exact .rb rfl (dd (by (simp only [Fits, OpFits, Cmp, ← hJ4, c166, Int.reduceEq, Bool.not_eq_true, false_and, true_and, and_true, and_false, or_false, false_or, ne_eq]) <;> omega))
 refine .gz 173 (.gz 173 (.gz 173 ?_))
 refine .gz 173 (.gz 173 ?_)
 refine .pk ?_
 refine .an ?_
 refine .nil (.ret ?_)
 exact .rb rfl (df (by (simp only [Fits, OpFits, Cmp, ← hJ4, c166, Int.reduceEq, Bool.not_eq_true, false_and, true_and, and_true, and_false, or_false, false_or, ne_eq]) <;> omega))
 refine .sr (.vl (Y.eql rfl rfl) ?_)
 refine .an ?_
 refine .nil ?_
 refine .condD rfl (fun c180 => ?_) (fun c180 => ?_)
 have hk := hsh.k6 c180
 refine .sr ?_
 refine .mv ?_
 refine .vl (Y.indexO (m := 0) sl22 rfl rfl rlo oms) (.vl (Y.load sh3 rfl (row_getD0 (d := 0) om) rfl rfl) (.vl (Y.eql rfl rfl) ?_))
 refine .mv ?_
 refine .splitD (d := 186) rfl (fun c186 => ?_) (fun c186 => ?_)
 refine .gw 186 (Y.fieldAddr fl27_4 rfl rfl) (.gw 186 (Y.load sh24 rfl rfl rfl rfl) (.gw 186 (Y.fieldAddr fl39_5 rfl rfl) ?_))
 refine .gw 186 (Y.load sh3 rfl rfl rfl rfl) (.gw 186 (Y.indexF (m := (c.mem).toNat) sl24 rfl rfl om (row_getD (d := default) om)) ?_)
 refine .gw 186 (Y.fieldAddr fl48_1 rfl rfl) (.gw 186 (Y.load sh3 rfl rfl rfl rfl) (.gw 186 (Y.move rfl rfl) ?_))
 refine .gw 186 (Y.eql rfl rfl) ?_
 refine .pk ?_
 refine .an ?_
 refine .nil (.ret ?_)
 exact .rb rfl (dd (by (simp only [Fits, OpFits, Cmp, ← hJ4, c180, Int.reduceEq, Bool.not_eq_true, false_and, true_and, and_true, and_false, or_false, false_or, ne_eq]) <;> omega))
 refine .gz 186 (.gz 186 (.gz 186 ?_))
 refine .gz 186 (.gz 186 (.gz 186 ?_))
 refine .gz 186 (.gz 186 (.gz 186 ?_))
 refine .pk ?_
 refine .an ?_
 refine .nil (.ret ?_)
 exact .rb rfl (df (by (simp only [Fits, OpFits, Cmp, ← hJ4, c180, Int.reduceEq, Bool.not_eq_true, false_and, true_and, and_true, and_false, or_false, false_or, ne_eq]) <;> omega))
 refine .sr (.vl (Y.eql rfl rfl) ?_)
 refine .an ?_
 refine .nil ?_
 refine .condD rfl (fun c197 => ?_) (fun c197 => ?_)
 have hk := hsh.k7 c197
 refine .seq (.regionS rfl krf (.val (Y.move rfl rfl) dcd ?_))
 refine .val (Y.indexO (m := 0) sl22 rfl rfl rlo om) dcd (.val (Y.load sh3 rfl (row_getD0 (d := 0) om) rfl rfl) dcd ?_)
 refine .val (Y.eql rfl rfl) dcd (.val (Y.move rfl rfl) dcd ?_)
 refine .splitD (d := 203) rfl (fun c203 => ?_) (fun c203 => ?_)
 refine .guardRun (d := 203) rfl dcd rfl (.val (Y.fieldAddr fl27_4 rfl rfl) dcd (.guardRun (d := 203) rfl dcd rfl ?_))
 refine .val (Y.load sh24 rfl rfl rfl rfl) dcd (.guardRun (d := 203) rfl dcd rfl (.val (Y.fieldAddr fl39_5 rfl rfl) dcd ?_))
 refine .guardRun (d := 203) rfl dcd rfl (.val (Y.load sh3 rfl rfl rfl rfl) dcd (.guardRun (d := 203) rfl dcd rfl ?_))
 refine .val (Y.indexF (m := (c.mem).toNat) sl24 rfl rfl om (row_getD (d := default) om)) dcd ?_
 refine .guardRun (d := 203) rfl dcd rfl (.val (Y.fieldAddr fl48_1 rfl rfl) dcd (.guardRun (d := 203) rfl dcd rfl ?_))
 refine .val (Y.load sh3 rfl rfl rfl rfl) dcd (.guardRun (d := 203) rfl dcd rfl (.val (Y.move rfl rfl) dcd ?_))
 refine .guardRun (d := 203) rfl dcd rfl (.val (Y.indexO (m := 2) sl22 rfl rfl rlo om) dcd (.guardRun (d := 203) rfl dcd rfl (.val (Y.load sh3 rfl (row_getD0 (d := 0) om) rfl rfl) dcd ?_)))
 refine .guardRun (d := 203) rfl dcd rfl (.val (Y.eql rfl rfl) dcd (.val (Y.pick rfl rfl rfl) dcd ?_))
 refine .val (Y.assign rfl rfl) dcd (.nil (.ret ?_))
 exact .rb rfl (dd (by (simp only [Fits, OpFits, Cmp, ← hJ4, c197, Int.reduceEq, Bool.not_eq_true, false_and, true_and, and_true, and_false, or_false, false_or, ne_eq]) <;> omega))
 refine .guardSkipV (d := 203) rfl dcd dcd rfl rfl (.guardSkipV (d := 203) rfl dcd dcd rfl rfl (.guardSkipV (d := 203) rfl dcd dcd rfl rfl ?_))
 refine .guardSkipV (d := 203) rfl dcd dcd rfl rfl (.guardSkipV (d := 203) rfl dcd dcd rfl rfl (.guardSkipV (d := 203) rfl dcd dcd rfl rfl ?_))
 refine .guardSkipV (d := 203) rfl dcd dcd rfl rfl (.guardSkipV (d := 203) rfl dcd dcd rfl rfl (.guardSkipV (d := 203) rfl dcd dcd rfl rfl ?_))
 refine .guardSkipV (d := 203) rfl dcd dcd rfl rfl (.guardSkipV (d := 203) rfl dcd dcd rfl rfl (.val (Y.pick rfl rfl rfl) dcd ?_))
 refine .val (Y.assign rfl rfl) dcd (.nil (.ret ?_))
 exact .rb rfl (df (by (simp only [Fits, OpFits, Cmp, ← hJ4, c197, Int.reduceEq, Bool.not_eq_true, false_and, true_and, and_true, and_false, or_false, false_or, ne_eq]) <;> omega))
 refine .sr (.vl (Y.eql rfl rfl) ?_)
 refine .an ?_
 refine .nil ?_
 refine .condD rfl (fun c216 => ?_) (fun c216 => ?_)
 have hk := hsh.k8 c216
 refine .sr ?_
 refine .fa fl27_3 ?_
 refine .ld sh22 ?_
 refine .fa fl39_4 ?_
 refine .ld sh37 ?_
 refine .vl (Y.indexF (m := c.num) sl22 rfl rfl rlo (row_getD (d := 0) om)) ?_
 refine .ld sh3 ?_
 refine .mv ?_
 refine .vl (Y.eql rfl rfl) ?_
 refine .an ?_
 refine .nil (.ret ?_)
 exact .rb rfl (dd (by (simp only [Fits, OpFits, Cmp, ← hJ4, c216, Int.reduceEq, Bool.not_eq_true, false_and, true_and, and_true, and_false, or_false, false_or, ne_eq]) <;> omega))
 refine .sr (.vl (Y.eql rfl rfl) ?_)
 refine .an ?_
 refine .nil ?_
 refine .condD rfl (fun c226 => ?_) (fun c226 => ?_)
 refine .sr ?_
 refine .mv ?_
 refine .vl (Y.eql rfl rfl) ?_
 refine .an ?_
 refine .nil (.ret ?_)
 exact .rb rfl (dd (by (simp only [Fits, OpFits, Cmp, ← hJ4, c226, Int.reduceEq, Bool.not_eq_true, false_and, true_and, and_true, and_false, or_false, false_or, ne_eq]) <;> omega))
 have k10 : c.kind = 10 := by have := hsh.kind; omega
 have hk := hsh.k10 k10
 refine .skip (.sr ?_)
 refine .fa fl27_5 ?_
 refine .ld sh25 ?_
 refine .fa fl39_5 ?_
 refine .ld sh3 ?_
 refine .vl (Y.indexF (m := (c.mem).toNat) sl25 rfl rfl om (row_getD (d := default) om)) ?_
 refine .fa fl83_1 ?_
 refine .ld sh3 ?_
 refine .mv ?_
 refine .vl (Y.eql rfl rfl) ?_
 refine .an ?_
 refine .nil (.ret ?_)
 exact .rb rfl (dd (by (simp only [Fits, OpFits, Cmp, ← hJ4, k10, Int.reduceEq, Bool.not_eq_true, false_and, true_and, and_true, and_false, or_false, false_or, ne_eq]) <;> omega))
end Go.Proofs.Ytligpghohcfpnaa
/- The walk through widths. -/
namespace Go.Proofs.Ytligpghohcfpnaa
open Go Go.AW Go.Proofs
theorem widths1_spec {n : Netlist} {c : Cell} (hs : n.Small) (hf : Formed n) (hc : c ∈ n.cells) : ACalls Try.prog 101 [.agg (Cell.row c), .fp (Netlist.row n) 0] [] [] (fun r o => r = .v (.bool (!decide (Fits n c))) ∧ o = []) := by
 refine ACalls.of Try.func101 rfl rfl rfl (n := 8) dcd (nbE rfl) (.sr (.box 102 rfl rfl rfl rfl rfl dcd ?_))
 refine .an ?_
 refine .nil (.sr (.vl (Y.loadA sh27 rfl rfl (nbE rfl) rfl rfl) ?_))
 refine .vl (Y.loadA sh39 rfl rfl (nbE rfl) rfl rfl) (.callP ok102 (fits_spec (n := n) (c := c) hs (hs.args _ hc) (hs.nums _ hc) (hf.cell hc).2.1 (hf.cell hc).wired) rfl (.keep rfl rfl (.keep rfl rfl .nil)) dcd rfl (.vl (Y.not rfl) ?_))
 refine .an ?_
 refine .nil (.ret ?_)
 exact .rb rfl (rfl)
theorem widths_spec {n : Netlist} (hs : n.Small) (hf : Formed n) : ACalls Try.prog 58 [.agg (Netlist.row n)] [] [] (fun r o => r = .v (.bool (decide (Fit n))) ∧ o = []) := by
 refine ACalls.of Try.func58 rfl rfl rfl (n := 63) dcd (nbE rfl) ?_
 have hs1 := hf.nactive; have hs2 := hf.ndata; have hs3 := hf.nstreams; have hs4 := hf.freeze; have hs5 := hf.done; unfold In at hs4 hs5; have hs6 := hf.nwidths; have hs7 := hf.ncells
 refine .sr (.box 101 rfl rfl rfl rfl rfl dcd ?_)
 refine .an ?_
 refine .nil (.seq (.sr ?_))
 refine .fa fl27_1 ?_
 refine .ld sh22 ?_
 refine .fa fl27_8 ?_
 refine .ld sh3 ?_
 refine .vl (Y.indexF (m := (n.freeze).toNat) sl22 rfl rfl om (row_getD (d := 0) om)) ?_
 refine .ld sh3 ?_
 refine .vl (Y.neq rfl rfl) ?_
 refine .mv ?_
 refine .splitD (d := 12) rfl (fun c12 => ?_) (fun c12 => ?_)
 refine .gz 12 (.gz 12 (.gz 12 ?_))
 refine .gz 12 (.gz 12 (.gz 12 ?_))
 refine .gz 12 ?_
 refine .pk ?_
 refine .nil (.condT rfl (.sr ?_))
 refine .an ?_
 refine .nil (.ret ?_)
 exact .rb rfl (df (fun h => by have h1 := h.freeze; have h2 := h.done; unfold Netlist.wd at h1 h2; first | contradiction | omega))
 refine .gw 12 (Y.fieldAddr fl27_1 rfl rfl) (.gw 12 (Y.load sh22 rfl rfl rfl rfl) (.gw 12 (Y.fieldAddr fl27_9 rfl rfl) ?_))
 refine .gw 12 (Y.load sh3 rfl rfl rfl rfl) (.gw 12 (Y.indexF (m := (n.done).toNat) sl22 rfl rfl om (row_getD (d := 0) om)) ?_)
 refine .gw 12 (Y.load sh3 rfl rfl rfl rfl) (.gw 12 (Y.neq rfl rfl) ?_)
 refine .pk ?_
 refine .nil ?_
 refine .condD rfl (fun c20 => ?_) (fun c20 => ?_)
 refine .sr ?_
 refine .an ?_
 refine .nil (.ret ?_)
 exact .rb rfl (df (fun h => by have h1 := h.freeze; have h2 := h.done; unfold Netlist.wd at h1 h2; first | contradiction | omega))
 refine .skip (.seq (.sr ?_))
 refine .fa fl27_5 ?_
 refine .ld sh25 ?_
 refine .vl (Y.len (n := n.streams.length) sl25 rfl (congrArg some (List.length_map ..))) ?_
 refine .mv ?_
 refine .nil (.block ?_)
 refine .loop1 (fun (n24_4 : Nat) => ⟨[(1, .ptr 101 0 0 0), (22, .fz 3 (n.streams.map Strm.row)), (23, vi ((n.streams.length : Nat) : Int)), (24, vi (n24_4 : Int))], [(101, .cells (Netlist.row n))]⟩) (fun (n24_4 : Nat) => ((n24_4 : Int) ≤ ((n.streams.length : Nat) : Int)) ∧ (∀ j, j < n24_4 → StrFit n j)) (fun (n24_4 : Nat) => (((n.streams.length : Nat) : Int) - (n24_4 : Int)).toNat) 0 (⟨om, fun j hj => by omega⟩) (Le.mk (.c (.c (.c (.cons (look_int rfl rlo) (.nil))))) (.c (.nil))) (fun n24_4 hI4 => ?_)
 obtain ⟨hb4, hst⟩ := hI4
 refine .sr (.vl (Y.lss rfl rfl) (.nil ?_))
 refine .seq ?_
 refine .condD rfl (fun c25 => ?_) (fun c25 => ?_)
 refine .skip ?_
 refine .join2 (fun (n42_j8 : Bool) (n55_j8 : Bool) => ⟨[(1, .ptr 101 0 0 0), (22, .fz 3 (n.streams.map Strm.row)), (23, vi ((n.streams.length : Nat) : Int)), (24, vi (n24_4 : Int)), (40, .ptr 104 0 0 2), (41, .v (.bool ((n.streams.getD n24_4 default).out))), (42, .v (.bool n42_j8)), (55, .v (.bool n55_j8))], [(101, .cells (Netlist.row n)), (104, .cells [.v (.string ((n.streams.getD n24_4 default).name)), vi ((n.streams.getD n24_4 default).width), .v (.bool ((n.streams.getD n24_4 default).out))])]⟩) (fun (n42_j8 : Bool) (n55_j8 : Bool) => StrFit n n24_4) ?_ (fun n42_j8 n55_j8 hJ8 => ?_)
 refine .block (.sr ?_)
 refine .mv ?_
 refine .vl (Y.indexF (m := n24_4) sl25 rfl rfl rlo (row_getD (d := default) om)) ?_
 refine .vl (Y.loadA sh83 rfl rfl (nbE rfl) rfl rfl) (.alloc 104 ze83 rfl rfl dcd ?_)
 refine .an ?_
 refine .storeC si83 rfl rfl rfl rfl rfl rfl (nbE rfl) rfl (.nil (.seq ?_))
 refine .regionS rfl krf ?_
 obtain ⟨_, _, ha1, hd1, _⟩ := hf.strs n24_4 om
 unfold In at ha1 hd1
 refine .val (Y.fieldAddr fl27_1 rfl rfl) dcd (.val (Y.load sh22 rfl rfl rfl rfl) dcd (.val (Y.fieldAddr fl27_6 rfl rfl) dcd ?_))
 refine .val (Y.load sh22 rfl rfl rfl rfl) dcd (.val (Y.move rfl rfl) dcd ?_)
 refine .val (Y.indexF (m := n24_4) sl22 rfl rfl rlo (row_getD (d := 0) om)) dcd (.val (Y.load sh3 rfl rfl rfl rfl) dcd (.val (Y.indexF (m := (n.active.getD n24_4 0).toNat) sl22 rfl rfl om (row_getD (d := 0) om)) dcd ?_))
 refine .val (Y.load sh3 rfl rfl rfl rfl) dcd (.val (Y.neq rfl rfl) dcd (.val (Y.move rfl rfl) dcd ?_))
 refine .splitD (d := 39) rfl (fun c39 => ?_) (fun c39 => ?_)
 refine .guardSkipV (d := 39) rfl dcd dcd rfl rfl (.guardSkipV (d := 39) rfl dcd dcd rfl rfl (.guardSkipV (d := 39) rfl dcd dcd rfl rfl ?_))
 refine .guardSkipV (d := 42) rfl dcd dcd rfl rfl (.guardSkipV (d := 42) rfl dcd dcd rfl rfl (.guardSkipV (d := 42) rfl dcd dcd rfl rfl ?_))
 refine .guardSkipV (d := 42) rfl dcd dcd rfl rfl (.guardSkipV (d := 42) rfl dcd dcd rfl rfl (.guardSkipV (d := 42) rfl dcd dcd rfl rfl ?_))
 refine .guardSkipV (d := 42) rfl dcd dcd rfl rfl (.guardSkipV (d := 42) rfl dcd dcd rfl rfl (.guardSkipV (d := 42) rfl dcd dcd rfl rfl ?_))
 refine .guardSkipV (d := 42) rfl dcd dcd rfl rfl (.guardSkipV (d := 42) rfl dcd dcd rfl rfl (.guardSkipV (d := 42) rfl dcd dcd rfl rfl ?_))
 refine .guardSkipV (d := 39) rfl dcd dcd rfl rfl (.val (Y.pick rfl rfl rfl) dcd (.nil ?_))
 refine .condT rfl (.sr ?_)
 refine .an ?_
 refine .nil (.ret ?_)
 exact .rb rfl (df (fun h => by have h1 := h.strs n24_4 om; unfold StrFit Netlist.wd at h1; grind))
 refine .guardRun (d := 39) rfl dcd rfl (.val (Y.fieldAddr fl83_2 rfl rfl) dcd (.guardRun (d := 39) rfl dcd rfl ?_))
 refine .val (Y.load sh4 rfl rfl rfl rfl) dcd (.guardRun (d := 39) rfl dcd rfl (.val (Y.move rfl rfl) dcd ?_))
 refine .split (d := 42) rfl (fun c42 => ?_) (fun c42 => ?_)
 have hd2 := hd1 asm
 refine .guardRun (d := 42) rfl dcd rfl (.val (Y.fieldAddr fl27_1 rfl rfl) dcd (.guardRun (d := 42) rfl dcd rfl ?_))
 refine .val (Y.load sh22 rfl rfl rfl rfl) dcd (.guardRun (d := 42) rfl dcd rfl (.val (Y.fieldAddr fl27_7 rfl rfl) dcd ?_))
 refine .guardRun (d := 42) rfl dcd rfl (.val (Y.load sh22 rfl rfl rfl rfl) dcd (.guardRun (d := 42) rfl dcd rfl ?_))
 refine .val (Y.move rfl rfl) dcd (.guardRun (d := 42) rfl dcd rfl ?_)
 refine .val (Y.indexF (m := n24_4) sl22 rfl rfl rlo (row_getD (d := 0) om)) dcd ?_
 refine .guardRun (d := 42) rfl dcd rfl (.val (Y.load sh3 rfl rfl rfl rfl) dcd (.guardRun (d := 42) rfl dcd rfl ?_))
 refine .val (Y.indexF (m := (n.data.getD n24_4 0).toNat) sl22 rfl rfl om (row_getD (d := 0) om)) dcd ?_
 refine .guardRun (d := 42) rfl dcd rfl (.val (Y.load sh3 rfl rfl rfl rfl) dcd (.guardRun (d := 42) rfl dcd rfl ?_))
 refine .val (Y.fieldAddr fl83_1 rfl rfl) dcd (.guardRun (d := 42) rfl dcd rfl (.val (Y.load sh3 rfl rfl rfl rfl) dcd ?_))
 refine .guardRun (d := 42) rfl dcd rfl (.val (Y.neq rfl rfl) dcd (.guardRun (d := 39) rfl dcd rfl ?_))
 refine .val (Y.pick rfl rfl rfl) dcd (.val (Y.pick rfl rfl rfl) dcd (.nil ?_))
 refine .condD rfl (fun c56 => ?_) (fun c56 => ?_)
 refine .sr ?_
 refine .an ?_
 refine .nil (.ret ?_)
 exact .rb rfl (df (fun h => by have h1 := h.strs n24_4 om; unfold StrFit Netlist.wd at h1; grind))
 refine .skip ?_
 exact ⟨true, decide ((n.widths.getD ((n.data.getD n24_4 0).toNat) 0) ≠ ((n.streams.getD n24_4 default).width)), by unfold StrFit Netlist.wd; grind, Le.mk (.c (.c (.c (.c (.c (.c (.cons (look_bool rfl rls) (.cons (look_bool rfl rls) (.nil))))))))) (.c (.c (.nil)))⟩
 refine .guardSkipV (d := 42) rfl dcd dcd rfl rfl (.guardSkipV (d := 42) rfl dcd dcd rfl rfl (.guardSkipV (d := 42) rfl dcd dcd rfl rfl ?_))
 refine .guardSkipV (d := 42) rfl dcd dcd rfl rfl (.guardSkipV (d := 42) rfl dcd dcd rfl rfl (.guardSkipV (d := 42) rfl dcd dcd rfl rfl ?_))
 refine .guardSkipV (d := 42) rfl dcd dcd rfl rfl (.guardSkipV (d := 42) rfl dcd dcd rfl rfl (.guardSkipV (d := 42) rfl dcd dcd rfl rfl ?_))
 refine .guardSkipV (d := 42) rfl dcd dcd rfl rfl (.guardSkipV (d := 42) rfl dcd dcd rfl rfl (.guardSkipV (d := 42) rfl dcd dcd rfl rfl ?_))
 refine .guardRun (d := 39) rfl dcd rfl (.val (Y.pick rfl rfl rfl) dcd (.val (Y.pick rfl rfl rfl) dcd ?_))
 refine .nil (.condF rfl (.skip ?_))
 exact ⟨false, false, by unfold StrFit Netlist.wd; grind, Le.mk (.c (.c (.c (.c (.c (.c (.cons (look_bool rfl rls) (.cons (look_bool rfl rls) (.nil))))))))) (.c (.c (.nil)))⟩
 refine .region (.vl (Y.addI rfl rfl oms) ?_)
 refine .mv ?_
 refine .nil ?_
 exact ⟨n24_4 + 1, ⟨om, below_succ' hst hJ8⟩, om, Le.mk (.c (.c (.c (.cons (look_int rfl rlo) (.nil))))) (.c (.nil))⟩
 refine .exit (.sr ?_)
 refine .fa fl27_2 ?_
 refine .ld sh23 ?_
 refine .sh (Sh.freezeO 101 rfl rfl) (.vl (Y.makeFunc rfl rfl rfl rfl) ?_)
 refine .callP ok100 (containsFuncCell_spec (l := n.cells) (p := fun z => !decide (Fits n z)) (om) ok101 (fun z hz => widths1_spec hs hf hz)) rfl (.keep rfl rfl (.keep rfl rfl .nil)) dcd rfl ?_
 refine .vl (Y.not rfl) ?_
 refine .an ?_
 refine .nil (.ret ?_)
 exact .rb rfl (db (not_any_fit (by unfold Netlist.wd; omega) (by unfold Netlist.wd; omega) (fun j hj => hst j om)))
end Go.Proofs.Ytligpghohcfpnaa
/- The walk through Order. -/
namespace Go.Proofs.Ytligpghohcfpnaa
open Go Go.AW Go.Proofs
theorem order_spec {n : Netlist} (hs : n.Small) (hwi : n.widths.length + n.ins.length ≤ 17592186044416) : ACalls Try.prog 20 [.agg (Netlist.row n)] [] [] (fun r o => ∃ (l : List Int) (e : Int), OrderRes n l e ∧ r = .tup [.uni 1 (l.map irow), vi e] ∧ o = []) := by
 refine ACalls.of Try.func20 rfl rfl rfl (n := 169) dcd (nbE rfl) (.sr (.box 101 rfl rfl rfl rfl rfl dcd ?_))
 refine .an ?_
 refine .an ?_
 refine .nil (.seq (.sr ?_))
 refine .vl (Y.loadA sh27 rfl rfl (nbE rfl) rfl rfl) (.callP ok57 (formed_spec (n := n) hs (om)) rfl (.keep rfl rfl .nil) dcd rfl ?_)
 refine .vl (Y.not rfl) (.nil ?_)
 refine .cond rfl (fun c22 => ?_) (fun c22 => ?_)
 replace c22 : ¬ (Formed n) := by simpa using c22
 refine .sr ?_
 refine .an ?_
 refine .an ?_
 refine .nil (.sh (Sh.nilU (d := 2) 1 rfl) (.ret ?_))
 exact ⟨_, _, rfl, rfl, ([] : List Int), 3, .inl ⟨asm, rfl, rfl⟩, rfl, rfl⟩
 replace c22 : Formed n := by simpa using c22
 have hf : Formed n := by assumption
 refine .skip (.seq (.sr ?_))
 refine .vl (Y.loadA sh27 rfl rfl (nbE rfl) rfl rfl) (.callP ok58 (widths_spec (n := n) hs asm) rfl (.keep rfl rfl .nil) dcd rfl (.vl (Y.not rfl) ?_))
 refine .nil ?_
 refine .cond rfl (fun c25 => ?_) (fun c25 => ?_)
 replace c25 : ¬ (Fit n) := by simpa using c25
 refine .sr ?_
 refine .an ?_
 refine .an ?_
 refine .nil (.sh (Sh.nilU (d := 2) 1 rfl) (.ret ?_))
 exact ⟨_, _, rfl, rfl, ([] : List Int), 13, .inr (.inl ⟨asm, asm, rfl, rfl⟩), rfl, rfl⟩
 replace c25 : Fit n := by simpa using c25
 have hft : Fit n := by assumption
 have hz1 := hf.ncells; have hz2 := hf.nwidths
 refine .skip (.sr ?_)
 refine .an ?_
 refine .sh (Sh.nil (d := 4) 104 1 rfl dcd) (.nil (.sr ?_))
 refine .fa fl27_2 ?_
 refine .ld sh23 ?_
 refine .vl (Y.len (n := n.cells.length) sl23 rfl (congrArg some (List.length_map ..))) (.makeSlice (n := n.cells.length) sl22 ze3 rfl rfl rfl rfl om om dcd ?_)
 refine .assignX rfl dcd (.sh (Sh.adoptE (d := 5) (n := n.cells.length) 105 ((List.replicate n.cells.length 0).map irow) rfl (by first | rfl | exact rep_map rfl) (len_map (by simp)) dcd) (.nil ?_))
 refine .sr ?_
 refine .fa fl27_1 ?_
 refine .ld sh22 ?_
 refine .vl (Y.len (n := n.widths.length) sl22 rfl (congrArg some (List.length_map ..))) (.makeSlice (n := n.widths.length) sl92 ze22 rfl rfl rfl rfl om om dcd ?_)
 refine .sh (Sh.nilRows (d := 33) 1 rfl) (.assignX rfl dcd (.sh (Sh.adoptE (d := 6) (n := n.widths.length) 106 ((List.replicate n.widths.length []).map orow) rfl (by first | rfl | exact rep_map rfl) (len_map (by simp)) dcd) ?_))
 refine .nil (.sr ?_)
 refine .fa fl27_1 ?_
 refine .ld sh22 ?_
 refine .vl (Y.len (n := n.widths.length) sl22 rfl (congrArg some (List.length_map ..))) (.makeSlice (n := n.widths.length) sl63 ze4 rfl rfl rfl rfl om om dcd ?_)
 refine .assignX rfl dcd (.sh (Sh.adoptE (d := 7) (n := n.widths.length) 107 ((List.replicate n.widths.length false).map brow) rfl (by first | rfl | exact rep_map rfl) (len_map (by simp)) dcd) (.nil ?_))
 refine .seq (.sr ?_)
 refine .fa fl27_2 ?_
 refine .ld sh23 ?_
 refine .vl (Y.len (n := n.cells.length) sl23 rfl (congrArg some (List.length_map ..))) ?_
 refine .mv ?_
 refine .nil (.block ?_)
 refine .loop2 (fun (n41_10 : Nat) (comb7_10 : List Bool) => ⟨[(1, .ptr 101 0 0 0), (4, .slc 104 1 0 0), (5, .slc 105 1 0 n.cells.length), (6, .slc 106 1 0 n.widths.length), (7, .slc 107 1 0 n.widths.length), (39, .fz 6 (n.cells.map Cell.row)), (40, vi ((n.cells.length : Nat) : Int)), (41, vi (n41_10 : Int))], [(101, .cells (Netlist.row n)), (104, .rows 1 (([] : List Int).map irow)), (105, .rows 1 ((List.replicate n.cells.length 0).map irow)), (106, .rows 1 ((List.replicate n.widths.length []).map orow)), (107, .rows 1 (comb7_10.map brow))]⟩) (fun (n41_10 : Nat) (comb7_10 : List Bool) => (comb7_10.length = n.widths.length) ∧ ((n41_10 : Int) ≤ ((n.cells.length : Nat) : Int)) ∧ (CombInv n n41_10 comb7_10)) (fun (n41_10 : Nat) (comb7_10 : List Bool) => (((n.cells.length : Nat) : Int) - (n41_10 : Int)).toNat) 0 (List.replicate n.widths.length false) (⟨omu, omu, CombInv.init n⟩) (Le.mk (.c (.c (.c (.c (.c (.c (.c (.cons (look_int rfl rlo) (.nil))))))))) (.c (.c (.c (.c (.c (.nil))))))) (fun n41_10 comb7_10 hI10 => ?_)
 obtain ⟨hl107, hb10, hci⟩ := hI10
 refine .sr (.vl (Y.lss rfl rfl) (.nil ?_))
 refine .seq ?_
 refine .condD rfl (fun c42 => ?_) (fun c42 => ?_)
 refine .skip ?_
 refine .join1 (fun (comb7_j14 : List Bool) => ⟨[(1, .ptr 101 0 0 0), (4, .slc 104 1 0 0), (5, .slc 105 1 0 n.cells.length), (6, .slc 106 1 0 n.widths.length), (7, .slc 107 1 0 n.widths.length), (39, .fz 6 (n.cells.map Cell.row)), (40, vi ((n.cells.length : Nat) : Int)), (41, vi (n41_10 : Int))], [(101, .cells (Netlist.row n)), (104, .rows 1 (([] : List Int).map irow)), (105, .rows 1 ((List.replicate n.cells.length 0).map irow)), (106, .rows 1 ((List.replicate n.widths.length []).map orow)), (107, .rows 1 (comb7_j14.map brow))]⟩) (fun (comb7_j14 : List Bool) => (comb7_j14.length = n.widths.length) ∧ (CombInv n (n41_10 + 1) comb7_j14)) ?_ (fun comb7_j14 hJx14 => ?_)
 refine .block (.sr ?_)
 refine .vl (Y.indexF (m := n41_10) sl23 rfl rfl rlo (row_getD (d := default) om)) ?_
 refine .vl (Y.loadA sh39 rfl rfl (nbE rfl) rfl rfl) (.alloc 109 ze39 rfl rfl dcd (.storeC si39 rfl rfl rfl rfl rfl rfl (nbE rfl) rfl ?_))
 refine .nil (.sr ?_)
 refine .fa fl39_0 ?_
 refine .ld sh3 ?_
 refine .callP ok21 (comb_spec (w := ((n.cells.getD n41_10 default).kind))) rfl (.keep rfl rfl .nil) dcd rfl (.nil ?_)
 refine .condD rfl (fun c47 => ?_) (fun c47 => ?_)
 have hw1 := hf.outIn (CombAt.drives (n := n) (i := (n41_10 : Int)) ⟨⟨om, om⟩, c47⟩)
 rw [cell_nat] at hw1
 have hw2 := hw1; unfold In at hw2
 refine .region ?_
 refine .mv ?_
 refine .fa fl39_2 ?_
 refine .ld sh3 ?_
 refine .vl (Y.indexO (m := ((n.cells.getD n41_10 default).out).toNat) sl63 rfl rfl om om) (.storeE ((comb7_10.set (((n.cells.getD n41_10 default).out).toNat) true).map brow) si4 rfl rfl rfl rfl rfl rfl rfl (row_getD0 (d := false) om) (nbE rfl) (set_map0 rfl) (.nil ?_))
 exact ⟨comb7_10.set (((n.cells.getD n41_10 default).out).toNat) true, ⟨omu, hci.step om hl107 c47 hw1⟩, Le.mk (.c (.c (.c (.c (.c (.c (.c (.c (.nil))))))))) (.c (.c (.c (.c (.c (.nil))))))⟩
 refine .skip ?_
 exact ⟨comb7_10, ⟨om, hci.skip c47⟩, Le.mk (.c (.c (.c (.c (.c (.c (.c (.c (.nil))))))))) (.c (.c (.c (.c (.c (.nil))))))⟩
 obtain ⟨hlj14_107, hJ14⟩ := hJx14
 refine .region (.vl (Y.addI rfl rfl om) ?_)
 refine .mv ?_
 refine .nil ?_
 exact ⟨n41_10 + 1, comb7_j14, ⟨om, om, hJ14⟩, om, Le.mk (.c (.c (.c (.c (.c (.c (.c (.cons (look_int rfl rlo) (.nil))))))))) (.c (.c (.c (.c (.c (.nil))))))⟩
 refine .exit (.seq (.seq ?_))
 have hci2 : CombInv n n.cells.length comb7_10 := by rw [show n.cells.length = n41_10 by omega]; exact hci
 refine .region ?_
 refine .fa fl27_2 ?_
 refine .ld sh23 ?_
 refine .vl (Y.len (n := n.cells.length) sl23 rfl (congrArg some (List.length_map ..))) ?_
 refine .mv ?_
 refine .nil (.block ?_)
 refine .loop2 (fun (n56_16 : Nat) (out4_16 : List Int) => ⟨[(1, .ptr 101 0 0 0), (4, .slc 104 1 0 out4_16.length), (5, .slc 105 1 0 n.cells.length), (6, .slc 106 1 0 n.widths.length), (7, .slc 107 1 0 n.widths.length), (54, .fz 6 (n.cells.map Cell.row)), (55, vi ((n.cells.length : Nat) : Int)), (56, vi (n56_16 : Int))], [(101, .cells (Netlist.row n)), (104, .rows 1 (out4_16.map irow)), (105, .rows 1 ((List.replicate n.cells.length 0).map irow)), (106, .rows 1 ((List.replicate n.widths.length []).map orow)), (107, .rows 1 (comb7_10.map brow))]⟩) (fun (n56_16 : Nat) (out4_16 : List Int) => ((n56_16 : Int) ≤ ((n.cells.length : Nat) : Int)) ∧ (out4_16 = seqL n n56_16)) (fun (n56_16 : Nat) (out4_16 : List Int) => (((n.cells.length : Nat) : Int) - (n56_16 : Int)).toNat) 0 ([] : List Int) (⟨omu, rfl⟩) (Le.mk (.c (.cons (look_slc rfl omu) (.c (.c (.c (.c (.c (.cons (look_int rfl rlo) (.nil))))))))) (.c (.c (.c (.c (.c (.nil))))))) (fun n56_16 out4_16 hI16 => ?_)
 obtain ⟨hb16, hsq⟩ := hI16
 refine .sr (.vl (Y.lss rfl rfl) (.nil ?_))
 refine .seq ?_
 refine .condD rfl (fun c57 => ?_) (fun c57 => ?_)
 refine .skip ?_
 refine .join1 (fun (out4_j20 : List Int) => ⟨[(1, .ptr 101 0 0 0), (4, .slc 104 1 0 out4_j20.length), (5, .slc 105 1 0 n.cells.length), (6, .slc 106 1 0 n.widths.length), (7, .slc 107 1 0 n.widths.length), (54, .fz 6 (n.cells.map Cell.row)), (55, vi ((n.cells.length : Nat) : Int)), (56, vi (n56_16 : Int))], [(101, .cells (Netlist.row n)), (104, .rows 1 (out4_j20.map irow)), (105, .rows 1 ((List.replicate n.cells.length 0).map irow)), (106, .rows 1 ((List.replicate n.widths.length []).map orow)), (107, .rows 1 (comb7_10.map brow))]⟩) (fun (out4_j20 : List Int) => out4_j20 = seqL n (n56_16 + 1)) ?_ (fun out4_j20 hJ20 => ?_)
 refine .block (.sr ?_)
 refine .mv ?_
 refine .vl (Y.indexF (m := n56_16) sl23 rfl rfl rlo (row_getD (d := default) om)) ?_
 refine .vl (Y.loadA sh39 rfl rfl (nbE rfl) rfl rfl) (.alloc 111 ze39 rfl rfl dcd ?_)
 refine .an ?_
 refine .storeC si39 rfl rfl rfl rfl rfl rfl (nbE rfl) rfl (.nil (.sr ?_))
 have hsl := seqL_len n n56_16; rw [← hsq] at hsl
 refine .fa fl39_0 ?_
 refine .ld sh3 ?_
 refine .callP ok21 (comb_spec (w := ((n.cells.getD n56_16 default).kind))) rfl (.keep rfl rfl .nil) dcd rfl (.vl (Y.not rfl) (.nil ?_))
 refine .cond rfl (fun c64 => ?_) (fun c64 => ?_)
 replace c64 : ¬ (Comb ((n.cells.getD n56_16 default).kind)) := by simpa using c64
 refine .region ?_
 refine .mv ?_
 refine .mv ?_
 refine .buildSlice (([(n56_16 : Int)] : List Int).map irow) sl22 ze3 rfl rfl rfl rfl rfl (uniform_map (s := 1) (f := irow) (fun _ => rfl)) rfl rfl rfl dcd ?_
 refine .appendE ((out4_16 ++ ([(n56_16 : Int)] : List Int)).map irow) (out4_16 ++ ([(n56_16 : Int)] : List Int)).length sl22 ze3 rfl rfl rfl rfl (app_le omu) (app_map omu) (app_n omu) omu omu dcd dcd ?_
 refine .an ?_
 refine .nil ?_
 exact ⟨out4_16 ++ ([(n56_16 : Int)] : List Int), by rw [seqL_succ, if_neg c64, hsq], Le.mk (.c (.cons (look_slc rfl om) (.c (.c (.c (.c (.c (.c (.nil))))))))) (.c (.c (.c (.c (.c (.nil))))))⟩
 replace c64 : Comb ((n.cells.getD n56_16 default).kind) := by simpa using c64
 refine .skip ?_
 exact ⟨out4_16, by rw [seqL_succ, if_pos c64, hsq, List.append_nil], Le.mk (.c (.cons (look_slc rfl om) (.c (.c (.c (.c (.c (.c (.nil))))))))) (.c (.c (.c (.c (.c (.nil))))))⟩
 refine .region (.vl (Y.addI rfl rfl om) ?_)
 refine .mv ?_
 refine .nil ?_
 exact ⟨n56_16 + 1, out4_j20, ⟨om, hJ20⟩, om, Le.mk (.c (.cons (look_slc rfl om) (.c (.c (.c (.c (.c (.cons (look_int rfl rlo) (.nil))))))))) (.c (.c (.c (.c (.c (.nil))))))⟩
 refine .exit (.sr ?_)
 refine .an ?_
 refine .sh (Sh.nil (d := 12) 112 1 rfl dcd) (.nil (.seq ?_))
 refine .sr ?_
 refine .fa fl27_2 ?_
 refine .ld sh23 ?_
 refine .vl (Y.len (n := n.cells.length) sl23 rfl (congrArg some (List.length_map ..))) ?_
 refine .mv ?_
 refine .nil (.block ?_)
 refine .loop4 (fun (n73_23 : Nat) (remaining5_23 : List Int) (users6_23 : List (List Int)) (ready12_23 : List Int) => ⟨[(1, .ptr 101 0 0 0), (4, .slc 104 1 0 out4_16.length), (5, .slc 105 1 0 n.cells.length), (6, .slc 106 1 0 n.widths.length), (7, .slc 107 1 0 n.widths.length), (12, .slc 112 1 0 ready12_23.length), (71, .fz 6 (n.cells.map Cell.row)), (72, vi ((n.cells.length : Nat) : Int)), (73, vi (n73_23 : Int))], [(101, .cells (Netlist.row n)), (104, .rows 1 (out4_16.map irow)), (105, .rows 1 (remaining5_23.map irow)), (106, .rows 1 (users6_23.map orow)), (107, .rows 1 (comb7_10.map brow)), (112, .rows 1 (ready12_23.map irow))]⟩) (fun (n73_23 : Nat) (remaining5_23 : List Int) (users6_23 : List (List Int)) (ready12_23 : List Int) => (remaining5_23.length = n.cells.length) ∧ (users6_23.length = n.widths.length) ∧ ((n73_23 : Int) ≤ ((n.cells.length : Nat) : Int)) ∧ (BI n n73_23 remaining5_23 users6_23 ready12_23)) (fun (n73_23 : Nat) (remaining5_23 : List Int) (users6_23 : List (List Int)) (ready12_23 : List Int) => (((n.cells.length : Nat) : Int) - (n73_23 : Int)).toNat) 0 (List.replicate n.cells.length 0) (List.replicate n.widths.length []) ([] : List Int) (⟨omu, omu, omu, BI.init n⟩) (Le.mk (.c (.c (.c (.c (.c (.cons (look_slc rfl omu) (.c (.c (.cons (look_int rfl rlo) (.nil)))))))))) (.c (.c (.c (.c (.c (.c (.nil)))))))) (fun n73_23 remaining5_23 users6_23 ready12_23 hI23 => ?_)
 obtain ⟨hl105, hl106, hb23, hbi⟩ := hI23
 refine .sr (.vl (Y.lss rfl rfl) (.nil ?_))
 refine .seq ?_
 refine .condD rfl (fun c74 => ?_) (fun c74 => ?_)
 refine .skip ?_
 refine .join3 (fun (remaining5_j35 : List Int) (users6_j35 : List (List Int)) (ready12_j35 : List Int) => ⟨[(1, .ptr 101 0 0 0), (4, .slc 104 1 0 out4_16.length), (5, .slc 105 1 0 n.cells.length), (6, .slc 106 1 0 n.widths.length), (7, .slc 107 1 0 n.widths.length), (12, .slc 112 1 0 ready12_j35.length), (71, .fz 6 (n.cells.map Cell.row)), (72, vi ((n.cells.length : Nat) : Int)), (73, vi (n73_23 : Int))], [(101, .cells (Netlist.row n)), (104, .rows 1 (out4_16.map irow)), (105, .rows 1 (remaining5_j35.map irow)), (106, .rows 1 (users6_j35.map orow)), (107, .rows 1 (comb7_10.map brow)), (112, .rows 1 (ready12_j35.map irow))]⟩) (fun (remaining5_j35 : List Int) (users6_j35 : List (List Int)) (ready12_j35 : List Int) => (remaining5_j35.length = n.cells.length) ∧ ((users6_j35.length = n.widths.length) ∧ (BI n (n73_23 + 1) remaining5_j35 users6_j35 ready12_j35))) ?_ (fun remaining5_j35 users6_j35 ready12_j35 hJx35 => ?_)
 refine .block (.sr ?_)
 refine .mv ?_
 refine .vl (Y.indexF (m := n73_23) sl23 rfl rfl rlo (row_getD (d := default) om)) ?_
 refine .vl (Y.loadA sh39 rfl rfl (nbE rfl) rfl rfl) (.alloc 114 ze39 rfl rfl dcd ?_)
 refine .an ?_
 refine .storeC si39 rfl rfl rfl rfl rfl rfl (nbE rfl) rfl (.nil (.seq ?_))
 refine .sr ?_
 have hca := hs.args (n.cells.getD n73_23 default) (getD_mem' om)
 have hrl := hbi.rl
 refine .fa fl39_0 ?_
 refine .ld sh3 ?_
 refine .callP ok21 (comb_spec (w := ((n.cells.getD n73_23 default).kind))) rfl (.keep rfl rfl .nil) dcd rfl (.vl (Y.not rfl) (.nil ?_))
 refine .cond rfl (fun c81 => ?_) (fun c81 => ?_)
 replace c81 : ¬ (Comb ((n.cells.getD n73_23 default).kind)) := by simpa using c81
 refine .exit ?_
 exact ⟨remaining5_23, users6_23, ready12_23, ⟨om, ⟨om, hbi.skip om c81⟩⟩, Le.mk (.c (.c (.c (.c (.c (.cons (look_slc rfl om) (.c (.c (.c (.nil)))))))))) (.c (.c (.c (.c (.c (.c (.nil)))))))⟩
 replace c81 : Comb ((n.cells.getD n73_23 default).kind) := by simpa using c81
 refine .skip (.seq (.sr ?_))
 refine .fa fl39_3 ?_
 refine .ld sh22 ?_
 refine .vl (Y.len (n := ((n.cells.getD n73_23 default).args).length) sl22 rfl (congrArg some (List.length_map ..))) ?_
 refine .mv ?_
 refine .nil (.block ?_)
 refine .loop3 (fun (n85_27 : Nat) (remaining5_27 : List Int) (users6_27 : List (List Int)) => ⟨[(1, .ptr 101 0 0 0), (4, .slc 104 1 0 out4_16.length), (5, .slc 105 1 0 n.cells.length), (6, .slc 106 1 0 n.widths.length), (7, .slc 107 1 0 n.widths.length), (12, .slc 112 1 0 ready12_23.length), (13, vi (n73_23 : Int)), (71, .fz 6 (n.cells.map Cell.row)), (72, vi ((n.cells.length : Nat) : Int)), (73, vi (n73_23 : Int)), (83, .fz 1 (((n.cells.getD n73_23 default).args).map irow)), (84, vi ((((n.cells.getD n73_23 default).args).length : Nat) : Int)), (85, vi (n85_27 : Int))], [(101, .cells (Netlist.row n)), (104, .rows 1 (out4_16.map irow)), (105, .rows 1 (remaining5_27.map irow)), (106, .rows 1 (users6_27.map orow)), (107, .rows 1 (comb7_10.map brow)), (112, .rows 1 (ready12_23.map irow))]⟩) (fun (n85_27 : Nat) (remaining5_27 : List Int) (users6_27 : List (List Int)) => (remaining5_27.length = n.cells.length) ∧ (users6_27.length = n.widths.length) ∧ ((n85_27 : Int) ≤ ((((n.cells.getD n73_23 default).args).length : Nat) : Int)) ∧ (BJ n n73_23 n85_27 remaining5_23 users6_23 remaining5_27 users6_27)) (fun (n85_27 : Nat) (remaining5_27 : List Int) (users6_27 : List (List Int)) => (((((n.cells.getD n73_23 default).args).length : Nat) : Int) - (n85_27 : Int)).toNat) 0 remaining5_23 users6_23 (⟨om, om, om, BJ.init hbi om⟩) (Le.mk (.c (.c (.c (.c (.c (.c (.c (.c (.c (.c (.c (.c (.cons (look_int rfl rlo) (.nil)))))))))))))) (.c (.c (.c (.c (.c (.c (.nil)))))))) (fun n85_27 remaining5_27 users6_27 hI27 => ?_)
 obtain ⟨hl105, hl106, hb27, hbj⟩ := hI27
 refine .sr (.vl (Y.lss rfl rfl) (.nil ?_))
 refine .seq ?_
 refine .condD rfl (fun c86 => ?_) (fun c86 => ?_)
 refine .skip ?_
 refine .join2 (fun (remaining5_j32 : List Int) (users6_j32 : List (List Int)) => ⟨[(1, .ptr 101 0 0 0), (4, .slc 104 1 0 out4_16.length), (5, .slc 105 1 0 n.cells.length), (6, .slc 106 1 0 n.widths.length), (7, .slc 107 1 0 n.widths.length), (12, .slc 112 1 0 ready12_23.length), (13, vi (n73_23 : Int)), (71, .fz 6 (n.cells.map Cell.row)), (72, vi ((n.cells.length : Nat) : Int)), (73, vi (n73_23 : Int)), (83, .fz 1 (((n.cells.getD n73_23 default).args).map irow)), (84, vi ((((n.cells.getD n73_23 default).args).length : Nat) : Int)), (85, vi (n85_27 : Int))], [(101, .cells (Netlist.row n)), (104, .rows 1 (out4_16.map irow)), (105, .rows 1 (remaining5_j32.map irow)), (106, .rows 1 (users6_j32.map orow)), (107, .rows 1 (comb7_10.map brow)), (112, .rows 1 (ready12_23.map irow))]⟩) (fun (remaining5_j32 : List Int) (users6_j32 : List (List Int)) => (remaining5_j32.length = n.cells.length) ∧ ((users6_j32.length = n.widths.length) ∧ (BJ n n73_23 (n85_27 + 1) remaining5_23 users6_23 remaining5_j32 users6_j32))) ?_ (fun remaining5_j32 users6_j32 hJx32 => ?_)
 refine .block (.sr ?_)
 refine .vl (Y.indexF (m := n85_27) sl22 rfl rfl rlo (row_getD (d := 0) om)) ?_
 refine .ld sh3 ?_
 refine .an ?_
 refine .nil (.sr ?_)
 have hax := hf.argIn (i := (n73_23 : Int)) ⟨om, om⟩ (getD_mem (i := n85_27) (by rw [cell_nat]; omega))
 rw [cell_nat] at hax
 have hax2 := hax; unfold In at hax2
 have hbo := hbj.own_le
 have hbl := BJ.len hbi hbj hax
 have htt := tot_le hs (n73_23 + 1); rw [tot_succ om] at htt
 refine .mv ?_
 refine .mv ?_
 refine .vl (Y.indexO (m := (((n.cells.getD n73_23 default).args).getD n85_27 0).toNat) sl63 rfl rfl om om) (.vl (Y.load sh4 rfl (row_getD0 (d := false) om) rfl rfl) (.nil ?_))
 refine .cond rfl (fun c92 => ?_) (fun c92 => ?_)
 refine .sr ?_
 refine .mv ?_
 refine .mv ?_
 refine .vl (Y.indexO (m := n73_23) sl22 rfl rfl rlo om) (.vl (Y.load sh3 rfl (row_getD0 (d := 0) omu) rfl rfl) (.vl (Y.addI rfl rfl om) (.vl (Y.indexO (m := n73_23) sl22 rfl rfl rlo om) (.storeE ((remaining5_27.set n73_23 ((remaining5_27.getD n73_23 0) + 1)).map irow) si3 rfl rfl rfl rfl rfl rfl rfl (row_getD0 (d := 0) om) (nbE rfl) (set_map0 rfl) ?_))))
 refine .nil (.region ?_)
 refine .mv ?_
 refine .mv ?_
 refine .mv ?_
 refine .mv ?_
 refine .vl (Y.indexO (m := (((n.cells.getD n73_23 default).args).getD n85_27 0).toNat) sl92 rfl rfl om om) (.loadU ((users6_27.map orow).set (0 + ((((n.cells.getD n73_23 default).args).getD n85_27 0).toNat)) [.no]) sh22 rfl rfl (row_getD0 (d := []) om) rfl rfl dcd ?_)
 refine .mv ?_
 refine .buildSlice (([(n73_23 : Int)] : List Int).map irow) sl22 ze3 rfl rfl rfl rfl rfl (uniform_map (s := 1) (f := irow) (fun _ => rfl)) rfl rfl rfl dcd ?_
 refine .sh (Sh.adoptE (d := 104) (n := (users6_27.getD ((((n.cells.getD n73_23 default).args).getD n85_27 0).toNat) []).length) 204 ((users6_27.getD ((((n.cells.getD n73_23 default).args).getD n85_27 0).toNat) []).map irow) rfl (by first | rfl | exact rep_map rfl) (len_map rfl) dcd) (.appendE (((users6_27.getD ((((n.cells.getD n73_23 default).args).getD n85_27 0).toNat) []) ++ ([(n73_23 : Int)] : List Int)).map irow) ((users6_27.getD ((((n.cells.getD n73_23 default).args).getD n85_27 0).toNat) []) ++ ([(n73_23 : Int)] : List Int)).length sl22 ze3 rfl rfl rfl rfl (app_le omu) (app_map omu) (app_n omu) omu omu dcd dcd (.vl (Y.indexO (m := (((n.cells.getD n73_23 default).args).getD n85_27 0).toNat) sl92 rfl rfl om om) (.sh (Sh.detach (d := 107) (o := 204) rfl rfl (len_map om) dcd) (.storeUE ((users6_27.set ((((n.cells.getD n73_23 default).args).getD n85_27 0).toNat) ((users6_27.getD ((((n.cells.getD n73_23 default).args).getD n85_27 0).toNat) []) ++ ([(n73_23 : Int)] : List Int))).map orow) si22 rfl rfl rfl (out_get om) dcd (out_back rfl) (.nil ?_)))))
 exact ⟨remaining5_27.set n73_23 ((remaining5_27.getD n73_23 0) + 1), users6_27.set ((((n.cells.getD n73_23 default).args).getD n85_27 0).toNat) ((users6_27.getD ((((n.cells.getD n73_23 default).args).getD n85_27 0).toNat) []) ++ ([(n73_23 : Int)] : List Int)), ⟨omu, ⟨omu, hbj.step om hl105 hl106 om hax ((CombInv.all hci2 hax).1 c92)⟩⟩, Le.mk (.c (.c (.c (.c (.c (.c (.c (.c (.c (.c (.c (.c (.c (.nil)))))))))))))) (.c (.c (.c (.c (.c (.c (.nil)))))))⟩
 refine .skip ?_
 exact ⟨remaining5_27, users6_27, ⟨om, ⟨om, hbj.skip om (fun h => by rw [(CombInv.all hci2 hax).2 h] at c92; cases c92)⟩⟩, Le.mk (.c (.c (.c (.c (.c (.c (.c (.c (.c (.c (.c (.c (.c (.nil)))))))))))))) (.c (.c (.c (.c (.c (.c (.nil)))))))⟩
 obtain ⟨hlj32_105, hlj32_106, hJ32⟩ := hJx32
 refine .region (.vl (Y.addI rfl rfl om) ?_)
 refine .mv ?_
 refine .nil ?_
 exact ⟨n85_27 + 1, remaining5_j32, users6_j32, ⟨om, om, om, hJ32⟩, om, Le.mk (.c (.c (.c (.c (.c (.c (.c (.c (.c (.c (.c (.c (.cons (look_int rfl rlo) (.nil)))))))))))))) (.c (.c (.c (.c (.c (.c (.nil)))))))⟩
 refine .exit (.sr ?_)
 refine .mv ?_
 refine .mv ?_
 refine .vl (Y.indexO (m := n73_23) sl22 rfl rfl rlo om) (.vl (Y.load sh3 rfl (row_getD0 (d := 0) omu) rfl rfl) ?_)
 refine .vl (Y.eql rfl rfl) (.nil ?_)
 refine .condD rfl (fun c114 => ?_) (fun c114 => ?_)
 refine .region ?_
 refine .mv ?_
 refine .mv ?_
 refine .buildSlice (([(n73_23 : Int)] : List Int).map irow) sl22 ze3 rfl rfl rfl rfl rfl (uniform_map (s := 1) (f := irow) (fun _ => rfl)) rfl rfl rfl dcd ?_
 refine .appendE ((ready12_23 ++ ([(n73_23 : Int)] : List Int)).map irow) (ready12_23 ++ ([(n73_23 : Int)] : List Int)).length sl22 ze3 rfl rfl rfl rfl (app_le omu) (app_map omu) (app_n omu) omu omu dcd dcd ?_
 refine .an ?_
 refine .nil ?_
 exact ⟨remaining5_27, users6_27, ready12_23 ++ ([(n73_23 : Int)] : List Int), ⟨om, ⟨om, (BJ.fin hbi om c81 (by rw [show (n.cells.getD n73_23 default).args.length = n85_27 by omega]; exact hbj)).1 c114⟩⟩, Le.mk (.c (.c (.c (.c (.c (.cons (look_slc rfl om) (.c (.c (.c (.nil)))))))))) (.c (.c (.c (.c (.c (.c (.nil)))))))⟩
 refine .skip ?_
 exact ⟨remaining5_27, users6_27, ready12_23, ⟨om, ⟨om, (BJ.fin hbi om c81 (by rw [show (n.cells.getD n73_23 default).args.length = n85_27 by omega]; exact hbj)).2 c114⟩⟩, Le.mk (.c (.c (.c (.c (.c (.cons (look_slc rfl om) (.c (.c (.c (.nil)))))))))) (.c (.c (.c (.c (.c (.c (.nil)))))))⟩
 obtain ⟨hlj35_105, hlj35_106, hJ35⟩ := hJx35
 refine .region (.vl (Y.addI rfl rfl om) ?_)
 refine .mv ?_
 refine .nil ?_
 exact ⟨n73_23 + 1, remaining5_j35, users6_j35, ready12_j35, ⟨om, om, om, hJ35⟩, om, Le.mk (.c (.c (.c (.c (.c (.cons (look_slc rfl om) (.c (.c (.cons (look_int rfl rlo) (.nil)))))))))) (.c (.c (.c (.c (.c (.c (.nil)))))))⟩
 refine .exit (.seq (.block ?_))
 have hbi2 : BI n n.cells.length remaining5_23 users6_23 ready12_23 := by rw [show n.cells.length = n73_23 by omega]; exact hbi
 have hus := hbi2.us
 refine .sh (Sh.detach (d := 6) (o := 106) rfl rfl (len_map om) dcd) (.sh (Sh.freezeNest (d := 6) (l := users6_23) (f := orow) (g := lrow) orow_ffz rfl) ?_)
 refine .loop3 (fun (out4_36 : List Int) (remaining5_36 : List Int) (ready12_36 : List Int) => ⟨[(1, .ptr 101 0 0 0), (4, .slc 104 1 0 out4_36.length), (5, .slc 105 1 0 n.cells.length), (6, .fz 1 (users6_23.map lrow)), (12, .slc 112 1 0 ready12_36.length)], [(101, .cells (Netlist.row n)), (104, .rows 1 (out4_36.map irow)), (105, .rows 1 (remaining5_36.map irow)), (112, .rows 1 (ready12_36.map irow))]⟩) (fun (out4_36 : List Int) (remaining5_36 : List Int) (ready12_36 : List Int) => (remaining5_36.length = n.cells.length) ∧ (∃ done, out4_36 = seqL n n.cells.length ++ done ∧ KI n done ready12_36 remaining5_36)) (fun (out4_36 : List Int) (remaining5_36 : List Int) (ready12_36 : List Int) => n.cells.length - out4_36.length) out4_16 remaining5_23 ready12_23 (⟨om, ⟨[], by rw [hsq, show n56_16 = n.cells.length by omega, List.append_nil], hbi2.ki⟩⟩) (Le.mk (.c (.cons (look_slc rfl om) (.c (.c (.cons (look_slc rfl om) (.nil)))))) (.c (.c (.c (.c (.nil)))))) (fun out4_36 remaining5_36 ready12_36 hI36 => ?_)
 obtain ⟨hl105, hK⟩ := hI36
 refine .seq (.sr ?_)
 refine .mv ?_
 refine .vl (Y.len (n := ready12_36.length) sl22 rfl rfl) (.vl (Y.gtr rfl rfl) (.nil ?_))
 refine .condD rfl (fun c122 => ?_) (fun c122 => ?_)
 obtain ⟨done, hout, hki⟩ := hK
 have hln := hki.len
 rw [← hout] at hln
 have hi0 := hki.cm (ready12_36.getD 0 0) (List.mem_append.2 (.inr (getD_mem om)))
 have hib := hi0.1
 have hio := hf.outIn hi0.drives
 have hio2 := hio; unfold In Netlist.cell at hio2
 have hcu : ∀ x, CombAt n x → (users6_23.getD (((n.cells.getD ((ready12_36.getD 0 0).toNat) default).out).toNat) []).count x = (n.cell x).args.count (n.cell (ready12_36.getD 0 0)).out := fun x hx => hus.cnt _ x hio ⟨_, hi0, rfl⟩ hx
 have hmu : ∀ x ∈ (users6_23.getD (((n.cells.getD ((ready12_36.getD 0 0).toNat) default).out).toNat) []), CombAt n x := fun x hx => hus.mem _ x hio hx
 have hut := hbi2.ul _ hio; unfold Netlist.cell at hut
 have htt := tot_le hs n.cells.length
 refine .skip (.block (.sr ?_))
 refine .mv ?_
 refine .vl (Y.indexO (m := 0) sl22 rfl rfl rlo om) (.vl (Y.load sh3 rfl (row_getD0 (d := 0) omu) rfl rfl) ?_)
 refine .an ?_
 refine .nil (.sr ?_)
 refine .mv ?_
 refine .vl (Y.sliceO (l := 1) (h := ready12_36.length) sl22 rfl (.some rfl) (.none _) om om) ?_
 refine .an ?_
 refine .sh (Sh.trimE (d := 12) (o := 112) ((ready12_36.drop 1).map irow) rfl rfl omu (trim_drop omu) dcd) ?_
 refine .nil (.sr ?_)
 refine .mv ?_
 refine .mv ?_
 refine .buildSlice (([ready12_36.getD 0 0] : List Int).map irow) sl22 ze3 rfl rfl rfl rfl rfl (uniform_map (s := 1) (f := irow) (fun _ => rfl)) rfl rfl rfl dcd ?_
 refine .appendE ((out4_36 ++ ([ready12_36.getD 0 0] : List Int)).map irow) (out4_36 ++ ([ready12_36.getD 0 0] : List Int)).length sl22 ze3 rfl rfl rfl rfl (app_le omu) (app_map omu) (app_n omu) omu omu dcd dcd ?_
 refine .an ?_
 refine .nil (.sr ?_)
 refine .mv ?_
 refine .fa fl27_2 ?_
 refine .ld sh23 ?_
 refine .mv ?_
 refine .vl (Y.indexF (m := (ready12_36.getD 0 0).toNat) sl23 rfl rfl om (row_getD (d := default) om)) ?_
 refine .fa fl39_2 ?_
 refine .ld sh3 ?_
 refine .vl (Y.indexF (m := ((n.cells.getD ((ready12_36.getD 0 0).toNat) default).out).toNat) sl92 rfl rfl om (row_getD (d := []) om)) ?_
 refine .ld sh22 ?_
 refine .vl (Y.len (n := (users6_23.getD (((n.cells.getD ((ready12_36.getD 0 0).toNat) default).out).toNat) []).length) sl22 rfl (congrArg some (List.length_map ..))) ?_
 refine .mv ?_
 refine .nil (.block ?_)
 refine .loop3 (fun (n142_41 : Nat) (remaining5_41 : List Int) (ready12_41 : List Int) => ⟨[(1, .ptr 101 0 0 0), (4, .slc 104 1 0 ((out4_36 ++ ([ready12_36.getD 0 0] : List Int)).length)), (5, .slc 105 1 0 n.cells.length), (6, .fz 1 (users6_23.map lrow)), (12, .slc 112 1 0 ready12_41.length), (140, .fz 1 ((users6_23.getD (((n.cells.getD ((ready12_36.getD 0 0).toNat) default).out).toNat) []).map irow)), (141, vi (((users6_23.getD (((n.cells.getD ((ready12_36.getD 0 0).toNat) default).out).toNat) []).length : Nat) : Int)), (142, vi (n142_41 : Int))], [(101, .cells (Netlist.row n)), (104, .rows 1 ((out4_36 ++ ([ready12_36.getD 0 0] : List Int)).map irow)), (105, .rows 1 (remaining5_41.map irow)), (112, .rows 1 (ready12_41.map irow))]⟩) (fun (n142_41 : Nat) (remaining5_41 : List Int) (ready12_41 : List Int) => (remaining5_41.length = n.cells.length) ∧ ((n142_41 : Int) ≤ (((users6_23.getD (((n.cells.getD ((ready12_36.getD 0 0).toNat) default).out).toNat) []).length : Nat) : Int)) ∧ (KJ n done (ready12_36.getD 0 0) (users6_23.getD (((n.cells.getD ((ready12_36.getD 0 0).toNat) default).out).toNat) []) n142_41 ready12_41 remaining5_41)) (fun (n142_41 : Nat) (remaining5_41 : List Int) (ready12_41 : List Int) => ((((users6_23.getD (((n.cells.getD ((ready12_36.getD 0 0).toNat) default).out).toNat) []).length : Nat) : Int) - (n142_41 : Int)).toNat) 0 remaining5_36 (ready12_36.drop 1) (⟨omu, omu, KJ.init hki om⟩) (Le.mk (.c (.c (.c (.c (.cons (look_slc rfl omu) (.c (.c (.cons (look_int rfl rlo) (.nil))))))))) (.c (.c (.c (.c (.nil)))))) (fun n142_41 remaining5_41 ready12_41 hI41 => ?_)
 obtain ⟨hl105, hb41, hkj⟩ := hI41
 refine .sr (.vl (Y.lss rfl rfl) (.nil ?_))
 refine .seq ?_
 refine .condD rfl (fun c143 => ?_) (fun c143 => ?_)
 refine .skip ?_
 refine .join1 (fun (ready12_j46 : List Int) => ⟨[(1, .ptr 101 0 0 0), (4, .slc 104 1 0 ((out4_36 ++ ([ready12_36.getD 0 0] : List Int)).length)), (5, .slc 105 1 0 n.cells.length), (6, .fz 1 (users6_23.map lrow)), (12, .slc 112 1 0 ready12_j46.length), (140, .fz 1 ((users6_23.getD (((n.cells.getD ((ready12_36.getD 0 0).toNat) default).out).toNat) []).map irow)), (141, vi (((users6_23.getD (((n.cells.getD ((ready12_36.getD 0 0).toNat) default).out).toNat) []).length : Nat) : Int)), (142, vi (n142_41 : Int))], [(101, .cells (Netlist.row n)), (104, .rows 1 ((out4_36 ++ ([ready12_36.getD 0 0] : List Int)).map irow)), (105, .rows 1 ((remaining5_41.set (((users6_23.getD (((n.cells.getD ((ready12_36.getD 0 0).toNat) default).out).toNat) []).getD n142_41 0).toNat) ((remaining5_41.getD (((users6_23.getD (((n.cells.getD ((ready12_36.getD 0 0).toNat) default).out).toNat) []).getD n142_41 0).toNat) 0) - 1)).map irow)), (112, .rows 1 (ready12_j46.map irow))]⟩) (fun (ready12_j46 : List Int) => KJ n done (ready12_36.getD 0 0) (users6_23.getD (((n.cells.getD ((ready12_36.getD 0 0).toNat) default).out).toNat) []) (n142_41 + 1) ready12_j46 (remaining5_41.set ((users6_23.getD (((n.cells.getD ((ready12_36.getD 0 0).toNat) default).out).toNat) []).getD n142_41 0).toNat (remaining5_41.getD ((users6_23.getD (((n.cells.getD ((ready12_36.getD 0 0).toNat) default).out).toNat) []).getD n142_41 0).toNat 0 - 1))) ?_ (fun ready12_j46 hJ46 => ?_)
 refine .block (.sr ?_)
 refine .vl (Y.indexF (m := n142_41) sl22 rfl rfl rlo (row_getD (d := 0) om)) ?_
 refine .ld sh3 ?_
 refine .an ?_
 refine .nil (.sr ?_)
 have hkb := hkj.bound hf hs om hcu hmu
 have hkr := (hmu _ (getD_mem (l := (users6_23.getD (((n.cells.getD ((ready12_36.getD 0 0).toNat) default).out).toNat) [])) (i := n142_41) om)).1
 refine .mv ?_
 refine .mv ?_
 refine .vl (Y.indexO (m := ((users6_23.getD (((n.cells.getD ((ready12_36.getD 0 0).toNat) default).out).toNat) []).getD n142_41 0).toNat) sl22 rfl rfl om om) (.vl (Y.load sh3 rfl (row_getD0 (d := 0) omu) rfl rfl) (.vl (Y.subI rfl rfl om) (.vl (Y.indexO (m := ((users6_23.getD (((n.cells.getD ((ready12_36.getD 0 0).toNat) default).out).toNat) []).getD n142_41 0).toNat) sl22 rfl rfl om om) (.storeE ((remaining5_41.set (((users6_23.getD (((n.cells.getD ((ready12_36.getD 0 0).toNat) default).out).toNat) []).getD n142_41 0).toNat) ((remaining5_41.getD (((users6_23.getD (((n.cells.getD ((ready12_36.getD 0 0).toNat) default).out).toNat) []).getD n142_41 0).toNat) 0) - 1)).map irow) si3 rfl rfl rfl rfl rfl rfl rfl (row_getD0 (d := 0) om) (nbE rfl) (set_map0 rfl) ?_))))
 refine .nil (.sr ?_)
 refine .mv ?_
 refine .mv ?_
 refine .vl (Y.indexO (m := ((users6_23.getD (((n.cells.getD ((ready12_36.getD 0 0).toNat) default).out).toNat) []).getD n142_41 0).toNat) sl22 rfl rfl om om) (.vl (Y.load sh3 rfl (row_getD0 (d := 0) omu) rfl rfl) ?_)
 refine .vl (Y.eql rfl rfl) (.nil ?_)
 refine .condD rfl (fun c156 => ?_) (fun c156 => ?_)
 rw [getD_set, if_pos ⟨rfl, om⟩] at c156
 refine .region ?_
 refine .mv ?_
 refine .mv ?_
 refine .buildSlice (([(users6_23.getD (((n.cells.getD ((ready12_36.getD 0 0).toNat) default).out).toNat) []).getD n142_41 0] : List Int).map irow) sl22 ze3 rfl rfl rfl rfl rfl (uniform_map (s := 1) (f := irow) (fun _ => rfl)) rfl rfl rfl dcd ?_
 refine .appendE ((ready12_41 ++ ([(users6_23.getD (((n.cells.getD ((ready12_36.getD 0 0).toNat) default).out).toNat) []).getD n142_41 0] : List Int)).map irow) (ready12_41 ++ ([(users6_23.getD (((n.cells.getD ((ready12_36.getD 0 0).toNat) default).out).toNat) []).getD n142_41 0] : List Int)).length sl22 ze3 rfl rfl rfl rfl (app_le omu) (app_map omu) (app_n omu) omu omu dcd dcd ?_
 refine .an ?_
 refine .nil ?_
 exact ⟨ready12_41 ++ ([(users6_23.getD (((n.cells.getD ((ready12_36.getD 0 0).toNat) default).out).toNat) []).getD n142_41 0] : List Int), (hkj.step hf hl105 om hcu hmu).1 c156, Le.mk (.c (.c (.c (.c (.cons (look_slc rfl om) (.c (.c (.c (.nil))))))))) (.c (.c (.c (.c (.nil)))))⟩
 rw [getD_set, if_pos ⟨rfl, om⟩] at c156
 refine .skip ?_
 exact ⟨ready12_41, (hkj.step hf hl105 om hcu hmu).2 c156, Le.mk (.c (.c (.c (.c (.cons (look_slc rfl om) (.c (.c (.c (.nil))))))))) (.c (.c (.c (.c (.nil)))))⟩
 refine .region (.vl (Y.addI rfl rfl om) ?_)
 refine .mv ?_
 refine .nil ?_
 exact ⟨n142_41 + 1, remaining5_41.set (((users6_23.getD (((n.cells.getD ((ready12_36.getD 0 0).toNat) default).out).toNat) []).getD n142_41 0).toNat) ((remaining5_41.getD (((users6_23.getD (((n.cells.getD ((ready12_36.getD 0 0).toNat) default).out).toNat) []).getD n142_41 0).toNat) 0) - 1), ready12_j46, ⟨omu, omu, hJ46⟩, om, Le.mk (.c (.c (.c (.c (.cons (look_slc rfl omu) (.c (.c (.cons (look_int rfl rlo) (.nil))))))))) (.c (.c (.c (.c (.nil)))))⟩
 refine .exit ?_
 exact ⟨out4_36 ++ ([ready12_36.getD 0 0] : List Int), remaining5_41, ready12_41, ⟨om, ⟨done ++ [(ready12_36.getD 0 0)], by rw [hout, List.append_assoc], KJ.fin hf hki (getD_mem om) (by rw [show (users6_23.getD (((n.cells.getD ((ready12_36.getD 0 0).toNat) default).out).toNat) []).length = n142_41 by omega]; exact hkj) hcu⟩⟩, by rw [List.length_append]; simp only [List.length_cons, List.length_nil]; omega, Le.mk (.c (.cons (look_slc rfl om) (.c (.c (.cons (look_slc rfl om) (.nil)))))) (.c (.c (.c (.c (.nil)))))⟩
 obtain ⟨done, hout, hki⟩ := hK
 have hr0 : ready12_36 = [] := List.eq_nil_of_length_eq_zero om
 subst hr0
 refine .exit (.seq (.sr ?_))
 refine .mv ?_
 refine .vl (Y.len (n := out4_36.length) sl22 rfl rfl) ?_
 refine .fa fl27_2 ?_
 refine .ld sh23 ?_
 refine .vl (Y.len (n := n.cells.length) sl23 rfl (congrArg some (List.length_map ..))) (.vl (Y.lss rfl rfl) (.nil ?_))
 refine .condD rfl (fun c167 => ?_) (fun c167 => ?_)
 refine .sr ?_
 refine .an ?_
 refine .an ?_
 refine .nil (.sh (Sh.nilU (d := 2) 1 rfl) (.ret ?_))
 exact ⟨_, _, rfl, rfl, ([] : List Int), 12, .inr (.inr (.inl ⟨hf, hft, hki.cycle (by rw [← hout]; omega), rfl, rfl⟩)), rfl, rfl⟩
 refine .skip (.sr ?_)
 refine .mv ?_
 refine .an ?_
 refine .sh (Sh.detach (d := 2) (o := 104) rfl rfl (len_map om) dcd) ?_
 refine .an ?_
 refine .nil (.ret ?_)
 exact ⟨_, _, rfl, rfl, out4_36, 0, .inr (.inr (.inr ⟨hf, hft, (hki.ok hf (by rw [← hout]; omega)).1, by rw [hout]; exact (hki.ok hf (by rw [← hout]; omega)).2, rfl⟩)), rfl, rfl⟩
end Go.Proofs.Ytligpghohcfpnaa
/- Walks through Check, and through the specification of a cell. -/
namespace Go.Proofs.Ytligpghohcfpnaa
open Go Go.AW Go.Proofs
end Go.Proofs.Ytligpghohcfpnaa
/- The specification of a cell, whatever its kind. -/
namespace Go.Proofs.Ytligpghohcfpnaa
open Go Go.AW Go.Proofs
end Go.Proofs.Ytligpghohcfpnaa
/- Walks through the specification of well-formed netlists. -/
namespace Go.Proofs.Ytligpghohcfpnaa
open Go Go.AW Go.Proofs
end Go.Proofs.Ytligpghohcfpnaa
/- Walks through the specification of netlists. -/
namespace Go.Proofs.Ytligpghohcfpnaa
open Go Go.AW Go.Proofs
end Go.Proofs.Ytligpghohcfpnaa
/- Walks through the builder. -/
namespace Go.Proofs.Ytligpghohcfpnaa
open Go Go.AW Go.Proofs
end Go.Proofs.Ytligpghohcfpnaa
/- Walks of the search. -/
namespace Go.Proofs.Ytligpghohcfpnaa
open Go Go.AW Go.Proofs
end Go.Proofs.Ytligpghohcfpnaa
