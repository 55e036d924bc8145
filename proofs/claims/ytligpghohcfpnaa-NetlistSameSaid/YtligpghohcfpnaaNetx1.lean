/- Walk through shaped. -/
import Derived.Test.YtligpghohcfpnaaNetx0
set_option linter.unusedSimpArgs false
set_option linter.unusedVariables false
set_option linter.unusedSectionVars false
namespace Go.Proofs.Ytligpghohcfpnaa
open Go Go.AW Go.Proofs



set_option maxRecDepth 4000 in
set_option maxHeartbeats 1000000 in
theorem shaped_spec {n : Netlist} {c : Cell} (hs : n.Small) (hc : c.args.length ≤ 17592186043904) : ACalls Try.prog 98 [.agg (Netlist.row n), .agg (Cell.row c)] [] [] (fun r o => r = .v (.bool (decide (Shaped n c))) ∧ o = []) := by
 refine ACalls.of Try.func98 rfl rfl rfl (n := 132) (by decide) (Nat.le_of_ble_eq_true rfl) ?_
 have hs4 := hs.ins; have hs5 := hs.mems; have hs6 := hs.streams
 refine AWp.sr ?_
 refine AOps.box 102 rfl rfl rfl rfl rfl (by decide) ?_
 refine AOps.box 103 rfl rfl rfl rfl rfl (by decide) ?_
 refine .vl (Y.assign rfl rfl) ?_
 refine AOps.nil ?_
 refine AWp.sr ?_
 refine .vl (Y.assign rfl rfl) ?_
 refine .vl (Y.assign rfl rfl) ?_
 refine .vl (Y.assign rfl rfl) ?_
 refine .vl (Y.assign rfl rfl) ?_
 refine AOps.nil ?_
 refine AWp.seq ?_
 refine AWp.sr ?_
 refine .vl (Y.fieldAddr fl39_0 rfl rfl) ?_
 refine .vl (Y.load sh3 rfl rfl rfl rfl) ?_
 refine AOps.nil ?_
 refine AWp.block ?_
 refine AWp.sr ?_
 refine .vl (Y.eql rfl rfl) ?_
 refine .vl (Y.assign rfl rfl) ?_
 refine AOps.nil ?_
 refine AWp.condD rfl (fun c11 => ?_) (fun c11 => ?_)
 refine AWp.region ?_
 refine .vl (Y.assign rfl rfl) ?_
 refine AOps.nil ?_
 refine AWp.join0 (⟨[(2, .ptr 102 0 0 0), (3, .ptr 103 0 0 0), (8, .v (.int .i64 (-1)))], [(102, .cells (Netlist.row n)), (103, .cells (Cell.row c))]⟩) (((¬ (((c.args.length : Nat) : Int) ≠ 0)) ∧ (¬ (c.op ≠ 0)) ∧ (((c.num : Nat) : Int) ≠ 0)) ∨ ((¬ (((c.args.length : Nat) : Int) ≠ 0)) ∧ (¬ (c.op ≠ 0)) ∧ (¬ (((c.num : Nat) : Int) ≠ 0)))) ?_ (fun hJ33 => ?_)
 refine AWp.sr ?_
 refine .vl (Y.fieldAddr fl39_3 rfl rfl) ?_
 refine .vl (Y.load sh22 rfl rfl rfl rfl) ?_
 refine .vl (Y.len (n := c.args.length) sl22 rfl (congrArg some (List.length_map ..))) ?_
 refine .vl (Y.move rfl rfl) ?_
 refine .vl (Y.neq rfl rfl) ?_
 refine .vl (Y.move rfl rfl) ?_
 refine AOps.splitD (d := 88) rfl (fun c88 => ?_) (fun c88 => ?_)
 refine .gs 88 rfl rfl rfl ?_
 refine .gs 88 rfl rfl rfl ?_
 refine .gs 88 rfl rfl rfl ?_
 refine .gs 88 rfl rfl rfl ?_
 refine .vl (Y.pick rfl rfl rfl) ?_
 refine .vl (Y.move rfl rfl) ?_
 refine .gs 94 rfl rfl rfl ?_
 refine .gs 94 rfl rfl rfl ?_
 refine .gs 94 rfl rfl rfl ?_
 refine .gs 94 rfl rfl rfl ?_
 refine .gs 98 rfl rfl rfl ?_
 refine .gs 98 rfl rfl rfl ?_
 refine .gs 94 rfl rfl rfl ?_
 refine .vl (Y.pick rfl rfl rfl) ?_
 refine AOps.nil ?_
 refine AWp.condT rfl ?_
 refine AWp.sr ?_
 refine .vl (Y.assign rfl rfl) ?_
 refine AOps.nil ?_
 refine AWp.ret ?_
 exact ⟨_, _, rfl, rfl, (cg1 (fun (z0 : Bool) => X.v (.bool z0)) (df (by (simp only [Shaped, c11, Int.reduceEq, Bool.not_eq_true, false_and, true_and, and_true, and_false, or_false, false_or, ne_eq]) <;> (first | omega | grind)) : false = decide (Shaped n c)) : X.v (.bool false) = X.v (.bool (decide (Shaped n c)))), rfl⟩
 refine .gv 88 rfl rfl (Y.fieldAddr fl39_1 rfl rfl) ?_
 refine .gv 88 rfl rfl (Y.load sh3 rfl rfl rfl rfl) ?_
 refine .gv 88 rfl rfl (Y.move rfl rfl) ?_
 refine .gv 88 rfl rfl (Y.neq rfl rfl) ?_
 refine .vl (Y.pick rfl rfl rfl) ?_
 refine .vl (Y.move rfl rfl) ?_
 refine AOps.splitD (d := 94) rfl (fun c94 => ?_) (fun c94 => ?_)
 refine .gs 94 rfl rfl rfl ?_
 refine .gs 94 rfl rfl rfl ?_
 refine .gs 94 rfl rfl rfl ?_
 refine .gs 94 rfl rfl rfl ?_
 refine .gs 98 rfl rfl rfl ?_
 refine .gs 98 rfl rfl rfl ?_
 refine .gs 94 rfl rfl rfl ?_
 refine .vl (Y.pick rfl rfl rfl) ?_
 refine AOps.nil ?_
 refine AWp.condT rfl ?_
 refine AWp.sr ?_
 refine .vl (Y.assign rfl rfl) ?_
 refine AOps.nil ?_
 refine AWp.ret ?_
 exact ⟨_, _, rfl, rfl, (cg1 (fun (z0 : Bool) => X.v (.bool z0)) (df (by (simp only [Shaped, c11, Int.reduceEq, Bool.not_eq_true, false_and, true_and, and_true, and_false, or_false, false_or, ne_eq]) <;> (first | omega | grind)) : false = decide (Shaped n c)) : X.v (.bool false) = X.v (.bool (decide (Shaped n c)))), rfl⟩
 refine .gv 94 rfl rfl (Y.fieldAddr fl39_4 rfl rfl) ?_
 refine .gv 94 rfl rfl (Y.load sh37 rfl rfl rfl rfl) ?_
 refine .gv 94 rfl rfl (Y.neq rfl rfl) ?_
 refine .gv 94 rfl rfl (Y.move rfl rfl) ?_
 refine AOps.splitD (d := 98) rfl (fun c98 => ?_) (fun c98 => ?_)
 refine .gv 98 rfl rfl (Y.move rfl rfl) ?_
 refine .gv 98 rfl rfl (Y.not rfl) ?_
 refine .gv 94 rfl rfl (Y.pick rfl rfl rfl) ?_
 refine .vl (Y.pick rfl rfl rfl) ?_
 refine AOps.nil ?_
 refine AWp.condF rfl ?_
 refine AWp.skip ?_
 exact ⟨.inl ⟨c88, c94, c98⟩, Le.mk (SubL.cons rfl (SubL.cons rfl (SubL.cons rfl (SubL.nil)))) (SubL.cons rfl (SubL.cons rfl (SubL.nil)))⟩
 refine .gs 98 rfl rfl rfl ?_
 refine .gs 98 rfl rfl rfl ?_
 refine .gv 94 rfl rfl (Y.pick rfl rfl rfl) ?_
 refine .vl (Y.pick rfl rfl rfl) ?_
 refine AOps.nil ?_
 refine AWp.condF rfl ?_
 refine AWp.skip ?_
 exact ⟨.inr (⟨c88, c94, c98⟩), Le.mk (SubL.cons rfl (SubL.cons rfl (SubL.cons rfl (SubL.nil)))) (SubL.cons rfl (SubL.cons rfl (SubL.nil)))⟩
 refine AWp.seq ?_
 refine AWp.sr ?_
 refine .vl (Y.move rfl rfl) ?_
 refine .vl (Y.lss rfl rfl) ?_
 refine AOps.nil ?_
 refine AWp.condT rfl ?_
 refine AWp.sr ?_
 refine .vl (Y.fieldAddr fl39_5 rfl rfl) ?_
 refine .vl (Y.load sh3 rfl rfl rfl rfl) ?_
 refine .vl (Y.eql rfl rfl) ?_
 refine .vl (Y.assign rfl rfl) ?_
 refine AOps.nil ?_
 refine AWp.ret ?_
 exact ⟨_, _, rfl, rfl, (cg1 (fun (z0 : Bool) => X.v (.bool z0)) (dd (by (simp only [Shaped, c11, Int.reduceEq, Bool.not_eq_true, false_and, true_and, and_true, and_false, or_false, false_or, ne_eq]) <;> (first | omega | grind)) : (decide (c.mem = 0)) = decide (Shaped n c)) : X.v (.bool (decide (c.mem = 0))) = X.v (.bool (decide (Shaped n c)))), rfl⟩
 refine AWp.sr ?_
 refine .vl (Y.eql rfl rfl) ?_
 refine .vl (Y.assign rfl rfl) ?_
 refine AOps.nil ?_
 refine AWp.condD rfl (fun c13 => ?_) (fun c13 => ?_)
 refine AWp.seq ?_
 refine AWp.regionAny rfl ?_
 refine AAny.blind 0 rfl (by kernel_rfl) (Blind.fieldAddr fl39_1 rfl rfl) (by decide) ?_
 refine AAny.blind 3 rfl (by kernel_rfl) (Blind.fieldAddr fl39_1 rfl rfl) (by decide) ?_
 refine AAny.two 1 4 rfl rfl (by kernel_rfl) ?_ ?_
 refine .vl (Y.load sh3 rfl rfl rfl rfl) ?_
 refine AOps.nil ⟨rfl, ?_⟩
 refine AAny.two 2 4 rfl rfl (by kernel_rfl) ?_ ?_
 refine AOps.callP ok124 (operands_spec (op := c.op)) rfl (.keep rfl rfl .nil) (by decide) rfl ?_
 refine AOps.nil ⟨rfl, ?_⟩
 refine AAny.quietN (n := 0) [4, 5, 6] [] 0 rfl (by kernel_rfl) ?_
 refine .cn 4 rfl (Y.load sh3 rfl rfl rfl rfl) ?_
 refine .cn 5 rfl (Y.assign rfl rfl) ?_
 refine .cn 6 rfl (Y.assign rfl rfl) ?_
 refine AQ.nil ?_
 refine AAny.done (by kernel_rfl) ?_
 refine AWp.sr ?_
 refine .vl (Y.move rfl rfl) ?_
 refine .vl (Y.eql rfl rfl) ?_
 refine AOps.nil ?_
 refine AWp.condD rfl (fun c21 => ?_) (fun c21 => ?_)
 refine AWp.sr ?_
 refine .vl (Y.assign rfl rfl) ?_
 refine AOps.nil ?_
 refine AWp.ret ?_
 exact ⟨_, _, rfl, rfl, (cg1 (fun (z0 : Bool) => X.v (.bool z0)) (df (by (simp only [Shaped, c13, Int.reduceEq, Bool.not_eq_true, false_and, true_and, and_true, and_false, or_false, false_or, ne_eq]) <;> (first | omega | grind)) : false = decide (Shaped n c)) : X.v (.bool false) = X.v (.bool (decide (Shaped n c)))), rfl⟩
 refine AWp.skip ?_
 refine AWp.seq ?_
 refine AWp.sr ?_
 refine .vl (Y.fieldAddr fl39_3 rfl rfl) ?_
 refine .vl (Y.load sh22 rfl rfl rfl rfl) ?_
 refine .vl (Y.len (n := c.args.length) sl22 rfl (congrArg some (List.length_map ..))) ?_
 refine .vl (Y.move rfl rfl) ?_
 refine .vl (Y.neq rfl rfl) ?_
 refine .vl (Y.move rfl rfl) ?_
 refine AOps.splitD (d := 88) rfl (fun c88 => ?_) (fun c88 => ?_)
 refine .gs 88 rfl rfl rfl ?_
 refine .gs 88 rfl rfl rfl ?_
 refine .gs 88 rfl rfl rfl ?_
 refine .gs 88 rfl rfl rfl ?_
 refine .vl (Y.pick rfl rfl rfl) ?_
 refine .vl (Y.move rfl rfl) ?_
 refine .gs 94 rfl rfl rfl ?_
 refine .gs 94 rfl rfl rfl ?_
 refine .gs 94 rfl rfl rfl ?_
 refine .gs 94 rfl rfl rfl ?_
 refine .gs 98 rfl rfl rfl ?_
 refine .gs 98 rfl rfl rfl ?_
 refine .gs 94 rfl rfl rfl ?_
 refine .vl (Y.pick rfl rfl rfl) ?_
 refine AOps.nil ?_
 refine AWp.condT rfl ?_
 refine AWp.sr ?_
 refine .vl (Y.assign rfl rfl) ?_
 refine AOps.nil ?_
 refine AWp.ret ?_
 exact ⟨_, _, rfl, rfl, (cg1 (fun (z0 : Bool) => X.v (.bool z0)) (df (by (simp only [Shaped, c13, Int.reduceEq, Bool.not_eq_true, false_and, true_and, and_true, and_false, or_false, false_or, ne_eq]) <;> (first | omega | grind)) : false = decide (Shaped n c)) : X.v (.bool false) = X.v (.bool (decide (Shaped n c)))), rfl⟩
 refine .gv 88 rfl rfl (Y.fieldAddr fl39_1 rfl rfl) ?_
 refine .gv 88 rfl rfl (Y.load sh3 rfl rfl rfl rfl) ?_
 refine .gv 88 rfl rfl (Y.move rfl rfl) ?_
 refine .gv 88 rfl rfl (Y.neq rfl rfl) ?_
 refine .vl (Y.pick rfl rfl rfl) ?_
 refine .vl (Y.move rfl rfl) ?_
 refine AOps.splitD (d := 94) rfl (fun c94 => ?_) (fun c94 => ?_)
 refine .gs 94 rfl rfl rfl ?_
 refine .gs 94 rfl rfl rfl ?_
 refine .gs 94 rfl rfl rfl ?_
 refine .gs 94 rfl rfl rfl ?_
 refine .gs 98 rfl rfl rfl ?_
 refine .gs 98 rfl rfl rfl ?_
 refine .gs 94 rfl rfl rfl ?_
 refine .vl (Y.pick rfl rfl rfl) ?_
 refine AOps.nil ?_
 refine AWp.condT rfl ?_
 refine AWp.sr ?_
 refine .vl (Y.assign rfl rfl) ?_
 refine AOps.nil ?_
 refine AWp.ret ?_
 exact ⟨_, _, rfl, rfl, (cg1 (fun (z0 : Bool) => X.v (.bool z0)) (df (by (simp only [Shaped, c13, Int.reduceEq, Bool.not_eq_true, false_and, true_and, and_true, and_false, or_false, false_or, ne_eq]) <;> (first | omega | grind)) : false = decide (Shaped n c)) : X.v (.bool false) = X.v (.bool (decide (Shaped n c)))), rfl⟩
 refine .gv 94 rfl rfl (Y.fieldAddr fl39_4 rfl rfl) ?_
 refine .gv 94 rfl rfl (Y.load sh37 rfl rfl rfl rfl) ?_
 refine .gv 94 rfl rfl (Y.neq rfl rfl) ?_
 refine .gv 94 rfl rfl (Y.move rfl rfl) ?_
 refine AOps.splitD (d := 98) rfl (fun c98 => ?_) (fun c98 => ?_)
 refine .gv 98 rfl rfl (Y.move rfl rfl) ?_
 refine .gv 98 rfl rfl (Y.not rfl) ?_
 refine .gv 94 rfl rfl (Y.pick rfl rfl rfl) ?_
 refine .vl (Y.pick rfl rfl rfl) ?_
 refine AOps.nil ?_
 refine AWp.condT rfl ?_
 refine AWp.sr ?_
 refine .vl (Y.assign rfl rfl) ?_
 refine AOps.nil ?_
 refine AWp.ret ?_
 exact ⟨_, _, rfl, rfl, (cg1 (fun (z0 : Bool) => X.v (.bool z0)) (df (by (simp only [Shaped, c13, Int.reduceEq, Bool.not_eq_true, false_and, true_and, and_true, and_false, or_false, false_or, ne_eq]) <;> (first | omega | grind)) : false = decide (Shaped n c)) : X.v (.bool false) = X.v (.bool (decide (Shaped n c)))), rfl⟩
 refine .gs 98 rfl rfl rfl ?_
 refine .gs 98 rfl rfl rfl ?_
 refine .gv 94 rfl rfl (Y.pick rfl rfl rfl) ?_
 refine .vl (Y.pick rfl rfl rfl) ?_
 refine AOps.nil ?_
 refine AWp.condF rfl ?_
 refine AWp.skip ?_
 refine AWp.seq ?_
 refine AWp.sr ?_
 refine .vl (Y.move rfl rfl) ?_
 refine .vl (Y.lss rfl rfl) ?_
 refine AOps.nil ?_
 refine AWp.condT rfl ?_
 refine AWp.sr ?_
 refine .vl (Y.fieldAddr fl39_5 rfl rfl) ?_
 refine .vl (Y.load sh3 rfl rfl rfl rfl) ?_
 refine .vl (Y.eql rfl rfl) ?_
 refine .vl (Y.assign rfl rfl) ?_
 refine AOps.nil ?_
 refine AWp.ret ?_
 exact ⟨_, _, rfl, rfl, (cg1 (fun (z0 : Bool) => X.v (.bool z0)) (dd (by (simp only [Shaped, c13, Int.reduceEq, Bool.not_eq_true, false_and, true_and, and_true, and_false, or_false, false_or, ne_eq]) <;> (first | omega | grind)) : (decide (c.mem = 0)) = decide (Shaped n c)) : X.v (.bool (decide (c.mem = 0))) = X.v (.bool (decide (Shaped n c)))), rfl⟩
 refine .vl (Y.load sh3 rfl rfl rfl rfl) ?_
 refine AOps.nil ⟨rfl, ?_⟩
 refine AAny.one 2 rfl (by kernel_rfl) ?_
 refine AOps.callP ok124 (operands_spec (op := c.op)) rfl (.keep rfl rfl .nil) (by decide) rfl ?_
 refine AOps.nil ⟨rfl, ?_⟩
 refine AAny.quietN (n := 0) [5, 6] [] 0 rfl (by kernel_rfl) ?_
 refine .cn 5 rfl (Y.assign rfl rfl) ?_
 refine .cn 6 rfl (Y.assign rfl rfl) ?_
 refine AQ.nil ?_
 refine AAny.done (by kernel_rfl) ?_
 refine AWp.sr ?_
 refine .vl (Y.move rfl rfl) ?_
 refine .vl (Y.eql rfl rfl) ?_
 refine AOps.nil ?_
 refine AWp.condD rfl (fun c21 => ?_) (fun c21 => ?_)
 refine AWp.sr ?_
 refine .vl (Y.assign rfl rfl) ?_
 refine AOps.nil ?_
 refine AWp.ret ?_
 exact ⟨_, _, rfl, rfl, (cg1 (fun (z0 : Bool) => X.v (.bool z0)) (df (by (simp only [Shaped, c13, Int.reduceEq, Bool.not_eq_true, false_and, true_and, and_true, and_false, or_false, false_or, ne_eq]) <;> (first | omega | grind)) : false = decide (Shaped n c)) : X.v (.bool false) = X.v (.bool (decide (Shaped n c)))), rfl⟩
 refine AWp.skip ?_
 refine AWp.seq ?_
 refine AWp.sr ?_
 refine .vl (Y.fieldAddr fl39_3 rfl rfl) ?_
 refine .vl (Y.load sh22 rfl rfl rfl rfl) ?_
 refine .vl (Y.len (n := c.args.length) sl22 rfl (congrArg some (List.length_map ..))) ?_
 refine .vl (Y.move rfl rfl) ?_
 refine .vl (Y.neq rfl rfl) ?_
 refine .vl (Y.move rfl rfl) ?_
 refine AOps.splitD (d := 88) rfl (fun c88 => ?_) (fun c88 => ?_)
 refine .gs 88 rfl rfl rfl ?_
 refine .gs 88 rfl rfl rfl ?_
 refine .gs 88 rfl rfl rfl ?_
 refine .gs 88 rfl rfl rfl ?_
 refine .vl (Y.pick rfl rfl rfl) ?_
 refine .vl (Y.move rfl rfl) ?_
 refine .gs 94 rfl rfl rfl ?_
 refine .gs 94 rfl rfl rfl ?_
 refine .gs 94 rfl rfl rfl ?_
 refine .gs 94 rfl rfl rfl ?_
 refine .gs 98 rfl rfl rfl ?_
 refine .gs 98 rfl rfl rfl ?_
 refine .gs 94 rfl rfl rfl ?_
 refine .vl (Y.pick rfl rfl rfl) ?_
 refine AOps.nil ?_
 refine AWp.condT rfl ?_
 refine AWp.sr ?_
 refine .vl (Y.assign rfl rfl) ?_
 refine AOps.nil ?_
 refine AWp.ret ?_
 exact ⟨_, _, rfl, rfl, (cg1 (fun (z0 : Bool) => X.v (.bool z0)) (df (by (simp only [Shaped, c13, Int.reduceEq, Bool.not_eq_true, false_and, true_and, and_true, and_false, or_false, false_or, ne_eq]) <;> (first | omega | grind)) : false = decide (Shaped n c)) : X.v (.bool false) = X.v (.bool (decide (Shaped n c)))), rfl⟩
 refine .gv 88 rfl rfl (Y.fieldAddr fl39_1 rfl rfl) ?_
 refine .gv 88 rfl rfl (Y.load sh3 rfl rfl rfl rfl) ?_
 refine .gv 88 rfl rfl (Y.move rfl rfl) ?_
 refine .gv 88 rfl rfl (Y.neq rfl rfl) ?_
 refine .vl (Y.pick rfl rfl rfl) ?_
 refine .vl (Y.move rfl rfl) ?_
 refine AOps.splitD (d := 94) rfl (fun c94 => ?_) (fun c94 => ?_)
 refine .gs 94 rfl rfl rfl ?_
 refine .gs 94 rfl rfl rfl ?_
 refine .gs 94 rfl rfl rfl ?_
 refine .gs 94 rfl rfl rfl ?_
 refine .gs 98 rfl rfl rfl ?_
 refine .gs 98 rfl rfl rfl ?_
 refine .gs 94 rfl rfl rfl ?_
 refine .vl (Y.pick rfl rfl rfl) ?_
 refine AOps.nil ?_
 refine AWp.condT rfl ?_
 refine AWp.sr ?_
 refine .vl (Y.assign rfl rfl) ?_
 refine AOps.nil ?_
 refine AWp.ret ?_
 exact ⟨_, _, rfl, rfl, (cg1 (fun (z0 : Bool) => X.v (.bool z0)) (df (by (simp only [Shaped, c13, Int.reduceEq, Bool.not_eq_true, false_and, true_and, and_true, and_false, or_false, false_or, ne_eq]) <;> (first | omega | grind)) : false = decide (Shaped n c)) : X.v (.bool false) = X.v (.bool (decide (Shaped n c)))), rfl⟩
 refine .gv 94 rfl rfl (Y.fieldAddr fl39_4 rfl rfl) ?_
 refine .gv 94 rfl rfl (Y.load sh37 rfl rfl rfl rfl) ?_
 refine .gv 94 rfl rfl (Y.neq rfl rfl) ?_
 refine .gv 94 rfl rfl (Y.move rfl rfl) ?_
 refine AOps.splitD (d := 98) rfl (fun c98 => ?_) (fun c98 => ?_)
 refine .gv 98 rfl rfl (Y.move rfl rfl) ?_
 refine .gv 98 rfl rfl (Y.not rfl) ?_
 refine .gv 94 rfl rfl (Y.pick rfl rfl rfl) ?_
 refine .vl (Y.pick rfl rfl rfl) ?_
 refine AOps.nil ?_
 refine AWp.condT rfl ?_
 refine AWp.sr ?_
 refine .vl (Y.assign rfl rfl) ?_
 refine AOps.nil ?_
 refine AWp.ret ?_
 exact ⟨_, _, rfl, rfl, (cg1 (fun (z0 : Bool) => X.v (.bool z0)) (df (by (simp only [Shaped, c13, Int.reduceEq, Bool.not_eq_true, false_and, true_and, and_true, and_false, or_false, false_or, ne_eq]) <;> (first | omega | grind)) : false = decide (Shaped n c)) : X.v (.bool false) = X.v (.bool (decide (Shaped n c)))), rfl⟩
 refine .gs 98 rfl rfl rfl ?_
 refine .gs 98 rfl rfl rfl ?_
 refine .gv 94 rfl rfl (Y.pick rfl rfl rfl) ?_
 refine .vl (Y.pick rfl rfl rfl) ?_
 refine AOps.nil ?_
 refine AWp.condF rfl ?_
 refine AWp.skip ?_
 refine AWp.seq ?_
 refine AWp.sr ?_
 refine .vl (Y.move rfl rfl) ?_
 refine .vl (Y.lss rfl rfl) ?_
 refine AOps.nil ?_
 refine AWp.condT rfl ?_
 refine AWp.sr ?_
 refine .vl (Y.fieldAddr fl39_5 rfl rfl) ?_
 refine .vl (Y.load sh3 rfl rfl rfl rfl) ?_
 refine .vl (Y.eql rfl rfl) ?_
 refine .vl (Y.assign rfl rfl) ?_
 refine AOps.nil ?_
 refine AWp.ret ?_
 exact ⟨_, _, rfl, rfl, (cg1 (fun (z0 : Bool) => X.v (.bool z0)) (dd (by (simp only [Shaped, c13, Int.reduceEq, Bool.not_eq_true, false_and, true_and, and_true, and_false, or_false, false_or, ne_eq]) <;> (first | omega | grind)) : (decide (c.mem = 0)) = decide (Shaped n c)) : X.v (.bool (decide (c.mem = 0))) = X.v (.bool (decide (Shaped n c)))), rfl⟩
 refine .vl (Y.load sh3 rfl rfl rfl rfl) ?_
 refine AOps.nil ⟨rfl, ?_⟩
 refine AAny.quietN (n := 3) [1] [2, 5, 6] 2 rfl (by kernel_rfl) ?_
 refine .cn 1 rfl (Y.load sh3 rfl rfl rfl rfl) ?_
 refine AQ.nil ?_
 refine AAny.one 2 rfl (by kernel_rfl) ?_
 refine AOps.callP ok124 (operands_spec (op := c.op)) rfl (.keep rfl rfl .nil) (by decide) rfl ?_
 refine AOps.nil ⟨rfl, ?_⟩
 refine AAny.quietN (n := 0) [5, 6] [] 0 rfl (by kernel_rfl) ?_
 refine .cn 5 rfl (Y.assign rfl rfl) ?_
 refine .cn 6 rfl (Y.assign rfl rfl) ?_
 refine AQ.nil ?_
 refine AAny.done (by kernel_rfl) ?_
 refine AWp.sr ?_
 refine .vl (Y.move rfl rfl) ?_
 refine .vl (Y.eql rfl rfl) ?_
 refine AOps.nil ?_
 refine AWp.condD rfl (fun c21 => ?_) (fun c21 => ?_)
 refine AWp.sr ?_
 refine .vl (Y.assign rfl rfl) ?_
 refine AOps.nil ?_
 refine AWp.ret ?_
 exact ⟨_, _, rfl, rfl, (cg1 (fun (z0 : Bool) => X.v (.bool z0)) (df (by (simp only [Shaped, c13, Int.reduceEq, Bool.not_eq_true, false_and, true_and, and_true, and_false, or_false, false_or, ne_eq]) <;> (first | omega | grind)) : false = decide (Shaped n c)) : X.v (.bool false) = X.v (.bool (decide (Shaped n c)))), rfl⟩
 refine AWp.skip ?_
 refine AWp.seq ?_
 refine AWp.sr ?_
 refine .vl (Y.fieldAddr fl39_3 rfl rfl) ?_
 refine .vl (Y.load sh22 rfl rfl rfl rfl) ?_
 refine .vl (Y.len (n := c.args.length) sl22 rfl (congrArg some (List.length_map ..))) ?_
 refine .vl (Y.move rfl rfl) ?_
 refine .vl (Y.neq rfl rfl) ?_
 refine .vl (Y.move rfl rfl) ?_
 refine AOps.splitD (d := 88) rfl (fun c88 => ?_) (fun c88 => ?_)
 refine .gs 88 rfl rfl rfl ?_
 refine .gs 88 rfl rfl rfl ?_
 refine .gs 88 rfl rfl rfl ?_
 refine .gs 88 rfl rfl rfl ?_
 refine .vl (Y.pick rfl rfl rfl) ?_
 refine .vl (Y.move rfl rfl) ?_
 refine .gs 94 rfl rfl rfl ?_
 refine .gs 94 rfl rfl rfl ?_
 refine .gs 94 rfl rfl rfl ?_
 refine .gs 94 rfl rfl rfl ?_
 refine .gs 98 rfl rfl rfl ?_
 refine .gs 98 rfl rfl rfl ?_
 refine .gs 94 rfl rfl rfl ?_
 refine .vl (Y.pick rfl rfl rfl) ?_
 refine AOps.nil ?_
 refine AWp.condT rfl ?_
 refine AWp.sr ?_
 refine .vl (Y.assign rfl rfl) ?_
 refine AOps.nil ?_
 refine AWp.ret ?_
 exact ⟨_, _, rfl, rfl, (cg1 (fun (z0 : Bool) => X.v (.bool z0)) (df (by (simp only [Shaped, c13, Int.reduceEq, Bool.not_eq_true, false_and, true_and, and_true, and_false, or_false, false_or, ne_eq]) <;> (first | omega | grind)) : false = decide (Shaped n c)) : X.v (.bool false) = X.v (.bool (decide (Shaped n c)))), rfl⟩
 refine .gv 88 rfl rfl (Y.fieldAddr fl39_1 rfl rfl) ?_
 refine .gv 88 rfl rfl (Y.load sh3 rfl rfl rfl rfl) ?_
 refine .gv 88 rfl rfl (Y.move rfl rfl) ?_
 refine .gv 88 rfl rfl (Y.neq rfl rfl) ?_
 refine .vl (Y.pick rfl rfl rfl) ?_
 refine .vl (Y.move rfl rfl) ?_
 refine AOps.splitD (d := 94) rfl (fun c94 => ?_) (fun c94 => ?_)
 refine .gs 94 rfl rfl rfl ?_
 refine .gs 94 rfl rfl rfl ?_
 refine .gs 94 rfl rfl rfl ?_
 refine .gs 94 rfl rfl rfl ?_
 refine .gs 98 rfl rfl rfl ?_
 refine .gs 98 rfl rfl rfl ?_
 refine .gs 94 rfl rfl rfl ?_
 refine .vl (Y.pick rfl rfl rfl) ?_
 refine AOps.nil ?_
 refine AWp.condT rfl ?_
 refine AWp.sr ?_
 refine .vl (Y.assign rfl rfl) ?_
 refine AOps.nil ?_
 refine AWp.ret ?_
 exact ⟨_, _, rfl, rfl, (cg1 (fun (z0 : Bool) => X.v (.bool z0)) (df (by (simp only [Shaped, c13, Int.reduceEq, Bool.not_eq_true, false_and, true_and, and_true, and_false, or_false, false_or, ne_eq]) <;> (first | omega | grind)) : false = decide (Shaped n c)) : X.v (.bool false) = X.v (.bool (decide (Shaped n c)))), rfl⟩
 refine .gv 94 rfl rfl (Y.fieldAddr fl39_4 rfl rfl) ?_
 refine .gv 94 rfl rfl (Y.load sh37 rfl rfl rfl rfl) ?_
 refine .gv 94 rfl rfl (Y.neq rfl rfl) ?_
 refine .gv 94 rfl rfl (Y.move rfl rfl) ?_
 refine AOps.splitD (d := 98) rfl (fun c98 => ?_) (fun c98 => ?_)
 refine .gv 98 rfl rfl (Y.move rfl rfl) ?_
 refine .gv 98 rfl rfl (Y.not rfl) ?_
 refine .gv 94 rfl rfl (Y.pick rfl rfl rfl) ?_
 refine .vl (Y.pick rfl rfl rfl) ?_
 refine AOps.nil ?_
 refine AWp.condT rfl ?_
 refine AWp.sr ?_
 refine .vl (Y.assign rfl rfl) ?_
 refine AOps.nil ?_
 refine AWp.ret ?_
 exact ⟨_, _, rfl, rfl, (cg1 (fun (z0 : Bool) => X.v (.bool z0)) (df (by (simp only [Shaped, c13, Int.reduceEq, Bool.not_eq_true, false_and, true_and, and_true, and_false, or_false, false_or, ne_eq]) <;> (first | omega | grind)) : false = decide (Shaped n c)) : X.v (.bool false) = X.v (.bool (decide (Shaped n c)))), rfl⟩
 refine .gs 98 rfl rfl rfl ?_
 refine .gs 98 rfl rfl rfl ?_
 refine .gv 94 rfl rfl (Y.pick rfl rfl rfl) ?_
 refine .vl (Y.pick rfl rfl rfl) ?_
 refine AOps.nil ?_
 refine AWp.condF rfl ?_
 refine AWp.skip ?_
 refine AWp.seq ?_
 refine AWp.sr ?_
 refine .vl (Y.move rfl rfl) ?_
 refine .vl (Y.lss rfl rfl) ?_
 refine AOps.nil ?_
 refine AWp.condT rfl ?_
 refine AWp.sr ?_
 refine .vl (Y.fieldAddr fl39_5 rfl rfl) ?_
 refine .vl (Y.load sh3 rfl rfl rfl rfl) ?_
 refine .vl (Y.eql rfl rfl) ?_
 refine .vl (Y.assign rfl rfl) ?_
 refine AOps.nil ?_
 refine AWp.ret ?_
 exact ⟨_, _, rfl, rfl, (cg1 (fun (z0 : Bool) => X.v (.bool z0)) (dd (by (simp only [Shaped, c13, Int.reduceEq, Bool.not_eq_true, false_and, true_and, and_true, and_false, or_false, false_or, ne_eq]) <;> (first | omega | grind)) : (decide (c.mem = 0)) = decide (Shaped n c)) : X.v (.bool (decide (c.mem = 0))) = X.v (.bool (decide (Shaped n c)))), rfl⟩
 refine AWp.sr ?_
 refine .vl (Y.eql rfl rfl) ?_
 refine .vl (Y.assign rfl rfl) ?_
 refine AOps.nil ?_
 refine AWp.condD rfl (fun c22 => ?_) (fun c22 => ?_)
 refine AWp.sr ?_
 refine .vl (Y.fieldAddr fl39_3 rfl rfl) ?_
 refine .vl (Y.load sh22 rfl rfl rfl rfl) ?_
 refine .vl (Y.len (n := c.args.length) sl22 rfl (congrArg some (List.length_map ..))) ?_
 refine .vl (Y.assign rfl rfl) ?_
 refine AOps.nil ?_
 refine AWp.sr ?_
 refine .vl (Y.move rfl rfl) ?_
 refine .vl (Y.lss rfl rfl) ?_
 refine .vl (Y.move rfl rfl) ?_
 refine AOps.splitD (d := 29) rfl (fun c29 => ?_) (fun c29 => ?_)
 refine .gs 29 rfl rfl rfl ?_
 refine .gs 29 rfl rfl rfl ?_
 refine .gs 29 rfl rfl rfl ?_
 refine .vl (Y.pick rfl rfl rfl) ?_
 refine AOps.nil ?_
 refine AWp.condT rfl ?_
 refine AWp.sr ?_
 refine .vl (Y.assign rfl rfl) ?_
 refine AOps.nil ?_
 refine AWp.ret ?_
 exact ⟨_, _, rfl, rfl, (cg1 (fun (z0 : Bool) => X.v (.bool z0)) (df (by (simp only [Shaped, c22, Int.reduceEq, Bool.not_eq_true, false_and, true_and, and_true, and_false, or_false, false_or, ne_eq]) <;> (first | omega | grind)) : false = decide (Shaped n c)) : X.v (.bool false) = X.v (.bool (decide (Shaped n c)))), rfl⟩
 refine .gv 29 rfl rfl (Y.move rfl rfl) ?_
 refine .gv 29 rfl rfl (Y.remI rfl rfl (by first | omega | simp [-List.getD_eq_getElem?_getD] <;> omega)) ?_
 refine .gv 29 rfl rfl (Y.eql rfl rfl) ?_
 refine .vl (Y.pick rfl rfl rfl) ?_
 refine AOps.nil ?_
 refine AWp.condD rfl (fun c33 => ?_) (fun c33 => ?_)
 refine AWp.sr ?_
 refine .vl (Y.assign rfl rfl) ?_
 refine AOps.nil ?_
 refine AWp.ret ?_
 exact ⟨_, _, rfl, rfl, (cg1 (fun (z0 : Bool) => X.v (.bool z0)) (df (by (simp only [Shaped, c22, Int.reduceEq, Bool.not_eq_true, false_and, true_and, and_true, and_false, or_false, false_or, ne_eq]) <;> (first | omega | grind)) : false = decide (Shaped n c)) : X.v (.bool false) = X.v (.bool (decide (Shaped n c)))), rfl⟩
 refine AWp.skip ?_
 refine AWp.seq ?_
 refine AWp.sr ?_
 refine .vl (Y.fieldAddr fl39_3 rfl rfl) ?_
 refine .vl (Y.load sh22 rfl rfl rfl rfl) ?_
 refine .vl (Y.len (n := c.args.length) sl22 rfl (congrArg some (List.length_map ..))) ?_
 refine .vl (Y.move rfl rfl) ?_
 refine .vl (Y.neq rfl rfl) ?_
 refine .vl (Y.move rfl rfl) ?_
 refine AOps.splitD (d := 88) rfl (fun c88 => ?_) (fun c88 => ?_)
 refine .gs 88 rfl rfl rfl ?_
 refine .gs 88 rfl rfl rfl ?_
 refine .gs 88 rfl rfl rfl ?_
 refine .gs 88 rfl rfl rfl ?_
 refine .vl (Y.pick rfl rfl rfl) ?_
 refine .vl (Y.move rfl rfl) ?_
 refine .gs 94 rfl rfl rfl ?_
 refine .gs 94 rfl rfl rfl ?_
 refine .gs 94 rfl rfl rfl ?_
 refine .gs 94 rfl rfl rfl ?_
 refine .gs 98 rfl rfl rfl ?_
 refine .gs 98 rfl rfl rfl ?_
 refine .gs 94 rfl rfl rfl ?_
 refine .vl (Y.pick rfl rfl rfl) ?_
 refine AOps.nil ?_
 refine AWp.condT rfl ?_
 refine AWp.sr ?_
 refine .vl (Y.assign rfl rfl) ?_
 refine AOps.nil ?_
 refine AWp.ret ?_
 exact ⟨_, _, rfl, rfl, (cg1 (fun (z0 : Bool) => X.v (.bool z0)) (df (by (simp only [Shaped, c22, Int.reduceEq, Bool.not_eq_true, false_and, true_and, and_true, and_false, or_false, false_or, ne_eq]) <;> (first | omega | grind)) : false = decide (Shaped n c)) : X.v (.bool false) = X.v (.bool (decide (Shaped n c)))), rfl⟩
 refine .gv 88 rfl rfl (Y.fieldAddr fl39_1 rfl rfl) ?_
 refine .gv 88 rfl rfl (Y.load sh3 rfl rfl rfl rfl) ?_
 refine .gv 88 rfl rfl (Y.move rfl rfl) ?_
 refine .gv 88 rfl rfl (Y.neq rfl rfl) ?_
 refine .vl (Y.pick rfl rfl rfl) ?_
 refine .vl (Y.move rfl rfl) ?_
 refine AOps.splitD (d := 94) rfl (fun c94 => ?_) (fun c94 => ?_)
 refine .gs 94 rfl rfl rfl ?_
 refine .gs 94 rfl rfl rfl ?_
 refine .gs 94 rfl rfl rfl ?_
 refine .gs 94 rfl rfl rfl ?_
 refine .gs 98 rfl rfl rfl ?_
 refine .gs 98 rfl rfl rfl ?_
 refine .gs 94 rfl rfl rfl ?_
 refine .vl (Y.pick rfl rfl rfl) ?_
 refine AOps.nil ?_
 refine AWp.condT rfl ?_
 refine AWp.sr ?_
 refine .vl (Y.assign rfl rfl) ?_
 refine AOps.nil ?_
 refine AWp.ret ?_
 exact ⟨_, _, rfl, rfl, (cg1 (fun (z0 : Bool) => X.v (.bool z0)) (df (by (simp only [Shaped, c22, Int.reduceEq, Bool.not_eq_true, false_and, true_and, and_true, and_false, or_false, false_or, ne_eq]) <;> (first | omega | grind)) : false = decide (Shaped n c)) : X.v (.bool false) = X.v (.bool (decide (Shaped n c)))), rfl⟩
 refine .gv 94 rfl rfl (Y.fieldAddr fl39_4 rfl rfl) ?_
 refine .gv 94 rfl rfl (Y.load sh37 rfl rfl rfl rfl) ?_
 refine .gv 94 rfl rfl (Y.neq rfl rfl) ?_
 refine .gv 94 rfl rfl (Y.move rfl rfl) ?_
 refine AOps.splitD (d := 98) rfl (fun c98 => ?_) (fun c98 => ?_)
 refine .gv 98 rfl rfl (Y.move rfl rfl) ?_
 refine .gv 98 rfl rfl (Y.not rfl) ?_
 refine .gv 94 rfl rfl (Y.pick rfl rfl rfl) ?_
 refine .vl (Y.pick rfl rfl rfl) ?_
 refine AOps.nil ?_
 refine AWp.condT rfl ?_
 refine AWp.sr ?_
 refine .vl (Y.assign rfl rfl) ?_
 refine AOps.nil ?_
 refine AWp.ret ?_
 exact ⟨_, _, rfl, rfl, (cg1 (fun (z0 : Bool) => X.v (.bool z0)) (df (by (simp only [Shaped, c22, Int.reduceEq, Bool.not_eq_true, false_and, true_and, and_true, and_false, or_false, false_or, ne_eq]) <;> (first | omega | grind)) : false = decide (Shaped n c)) : X.v (.bool false) = X.v (.bool (decide (Shaped n c)))), rfl⟩
 refine .gs 98 rfl rfl rfl ?_
 refine .gs 98 rfl rfl rfl ?_
 refine .gv 94 rfl rfl (Y.pick rfl rfl rfl) ?_
 refine .vl (Y.pick rfl rfl rfl) ?_
 refine AOps.nil ?_
 refine AWp.condF rfl ?_
 refine AWp.skip ?_
 refine AWp.seq ?_
 refine AWp.sr ?_
 refine .vl (Y.move rfl rfl) ?_
 refine .vl (Y.lss rfl rfl) ?_
 refine AOps.nil ?_
 refine AWp.condT rfl ?_
 refine AWp.sr ?_
 refine .vl (Y.fieldAddr fl39_5 rfl rfl) ?_
 refine .vl (Y.load sh3 rfl rfl rfl rfl) ?_
 refine .vl (Y.eql rfl rfl) ?_
 refine .vl (Y.assign rfl rfl) ?_
 refine AOps.nil ?_
 refine AWp.ret ?_
 exact ⟨_, _, rfl, rfl, (cg1 (fun (z0 : Bool) => X.v (.bool z0)) (dd (by (simp only [Shaped, c22, Int.reduceEq, Bool.not_eq_true, false_and, true_and, and_true, and_false, or_false, false_or, ne_eq]) <;> (first | omega | grind)) : (decide (c.mem = 0)) = decide (Shaped n c)) : X.v (.bool (decide (c.mem = 0))) = X.v (.bool (decide (Shaped n c)))), rfl⟩
 refine AWp.sr ?_
 refine .vl (Y.eql rfl rfl) ?_
 refine .vl (Y.assign rfl rfl) ?_
 refine AOps.nil ?_
 refine AWp.condD rfl (fun c34 => ?_) (fun c34 => ?_)
 refine AWp.region ?_
 refine .vl (Y.assign rfl rfl) ?_
 refine .vl (Y.assign rfl rfl) ?_
 refine AOps.nil ?_
 refine AWp.join0 (⟨[(2, .ptr 102 0 0 0), (3, .ptr 103 0 0 0), (8, .v (.int .i64 (-1)))], [(102, .cells (Netlist.row n)), (103, .cells (Cell.row c))]⟩) (((¬ (((c.args.length : Nat) : Int) ≠ 2)) ∧ (¬ (c.op ≠ 0)) ∧ (((c.num : Nat) : Int) ≠ 0)) ∨ ((¬ (((c.args.length : Nat) : Int) ≠ 2)) ∧ (¬ (c.op ≠ 0)) ∧ (¬ (((c.num : Nat) : Int) ≠ 0)))) ?_ (fun hJ33 => ?_)
 refine AWp.sr ?_
 refine .vl (Y.fieldAddr fl39_3 rfl rfl) ?_
 refine .vl (Y.load sh22 rfl rfl rfl rfl) ?_
 refine .vl (Y.len (n := c.args.length) sl22 rfl (congrArg some (List.length_map ..))) ?_
 refine .vl (Y.move rfl rfl) ?_
 refine .vl (Y.neq rfl rfl) ?_
 refine .vl (Y.move rfl rfl) ?_
 refine AOps.splitD (d := 88) rfl (fun c88 => ?_) (fun c88 => ?_)
 refine .gs 88 rfl rfl rfl ?_
 refine .gs 88 rfl rfl rfl ?_
 refine .gs 88 rfl rfl rfl ?_
 refine .gs 88 rfl rfl rfl ?_
 refine .vl (Y.pick rfl rfl rfl) ?_
 refine .vl (Y.move rfl rfl) ?_
 refine .gs 94 rfl rfl rfl ?_
 refine .gs 94 rfl rfl rfl ?_
 refine .gs 94 rfl rfl rfl ?_
 refine .gs 94 rfl rfl rfl ?_
 refine .gs 98 rfl rfl rfl ?_
 refine .gs 98 rfl rfl rfl ?_
 refine .gs 94 rfl rfl rfl ?_
 refine .vl (Y.pick rfl rfl rfl) ?_
 refine AOps.nil ?_
 refine AWp.condT rfl ?_
 refine AWp.sr ?_
 refine .vl (Y.assign rfl rfl) ?_
 refine AOps.nil ?_
 refine AWp.ret ?_
 exact ⟨_, _, rfl, rfl, (cg1 (fun (z0 : Bool) => X.v (.bool z0)) (df (by (simp only [Shaped, c34, Int.reduceEq, Bool.not_eq_true, false_and, true_and, and_true, and_false, or_false, false_or, ne_eq]) <;> (first | omega | grind)) : false = decide (Shaped n c)) : X.v (.bool false) = X.v (.bool (decide (Shaped n c)))), rfl⟩
 refine .gv 88 rfl rfl (Y.fieldAddr fl39_1 rfl rfl) ?_
 refine .gv 88 rfl rfl (Y.load sh3 rfl rfl rfl rfl) ?_
 refine .gv 88 rfl rfl (Y.move rfl rfl) ?_
 refine .gv 88 rfl rfl (Y.neq rfl rfl) ?_
 refine .vl (Y.pick rfl rfl rfl) ?_
 refine .vl (Y.move rfl rfl) ?_
 refine AOps.splitD (d := 94) rfl (fun c94 => ?_) (fun c94 => ?_)
 refine .gs 94 rfl rfl rfl ?_
 refine .gs 94 rfl rfl rfl ?_
 refine .gs 94 rfl rfl rfl ?_
 refine .gs 94 rfl rfl rfl ?_
 refine .gs 98 rfl rfl rfl ?_
 refine .gs 98 rfl rfl rfl ?_
 refine .gs 94 rfl rfl rfl ?_
 refine .vl (Y.pick rfl rfl rfl) ?_
 refine AOps.nil ?_
 refine AWp.condT rfl ?_
 refine AWp.sr ?_
 refine .vl (Y.assign rfl rfl) ?_
 refine AOps.nil ?_
 refine AWp.ret ?_
 exact ⟨_, _, rfl, rfl, (cg1 (fun (z0 : Bool) => X.v (.bool z0)) (df (by (simp only [Shaped, c34, Int.reduceEq, Bool.not_eq_true, false_and, true_and, and_true, and_false, or_false, false_or, ne_eq]) <;> (first | omega | grind)) : false = decide (Shaped n c)) : X.v (.bool false) = X.v (.bool (decide (Shaped n c)))), rfl⟩
 refine .gv 94 rfl rfl (Y.fieldAddr fl39_4 rfl rfl) ?_
 refine .gv 94 rfl rfl (Y.load sh37 rfl rfl rfl rfl) ?_
 refine .gv 94 rfl rfl (Y.neq rfl rfl) ?_
 refine .gv 94 rfl rfl (Y.move rfl rfl) ?_
 refine AOps.splitD (d := 98) rfl (fun c98 => ?_) (fun c98 => ?_)
 refine .gv 98 rfl rfl (Y.move rfl rfl) ?_
 refine .gv 98 rfl rfl (Y.not rfl) ?_
 refine .gv 94 rfl rfl (Y.pick rfl rfl rfl) ?_
 refine .vl (Y.pick rfl rfl rfl) ?_
 refine AOps.nil ?_
 refine AWp.condF rfl ?_
 refine AWp.skip ?_
 exact ⟨.inl ⟨c88, c94, c98⟩, Le.mk (SubL.cons rfl (SubL.cons rfl (SubL.cons rfl (SubL.nil)))) (SubL.cons rfl (SubL.cons rfl (SubL.nil)))⟩
 refine .gs 98 rfl rfl rfl ?_
 refine .gs 98 rfl rfl rfl ?_
 refine .gv 94 rfl rfl (Y.pick rfl rfl rfl) ?_
 refine .vl (Y.pick rfl rfl rfl) ?_
 refine AOps.nil ?_
 refine AWp.condF rfl ?_
 refine AWp.skip ?_
 exact ⟨.inr (⟨c88, c94, c98⟩), Le.mk (SubL.cons rfl (SubL.cons rfl (SubL.cons rfl (SubL.nil)))) (SubL.cons rfl (SubL.cons rfl (SubL.nil)))⟩
 refine AWp.seq ?_
 refine AWp.sr ?_
 refine .vl (Y.move rfl rfl) ?_
 refine .vl (Y.lss rfl rfl) ?_
 refine AOps.nil ?_
 refine AWp.condT rfl ?_
 refine AWp.sr ?_
 refine .vl (Y.fieldAddr fl39_5 rfl rfl) ?_
 refine .vl (Y.load sh3 rfl rfl rfl rfl) ?_
 refine .vl (Y.eql rfl rfl) ?_
 refine .vl (Y.assign rfl rfl) ?_
 refine AOps.nil ?_
 refine AWp.ret ?_
 exact ⟨_, _, rfl, rfl, (cg1 (fun (z0 : Bool) => X.v (.bool z0)) (dd (by (simp only [Shaped, c34, Int.reduceEq, Bool.not_eq_true, false_and, true_and, and_true, and_false, or_false, false_or, ne_eq]) <;> (first | omega | grind)) : (decide (c.mem = 0)) = decide (Shaped n c)) : X.v (.bool (decide (c.mem = 0))) = X.v (.bool (decide (Shaped n c)))), rfl⟩
 refine AWp.sr ?_
 refine .vl (Y.eql rfl rfl) ?_
 refine .vl (Y.assign rfl rfl) ?_
 refine AOps.nil ?_
 refine AWp.condD rfl (fun c36 => ?_) (fun c36 => ?_)
 refine AWp.seq ?_
 refine AWp.regionS rfl (by kernel_rfl) ?_
 refine AHead.val (Y.fieldAddr fl39_1 rfl rfl) (by decide) ?_
 refine AHead.val (Y.load sh3 rfl rfl rfl rfl) (by decide) ?_
 refine AHead.val (Y.assign rfl rfl) (by decide) ?_
 refine AHead.val (Y.assign rfl rfl) (by decide) ?_
 refine AHead.val (Y.assign rfl rfl) (by decide) ?_
 refine AHead.nil ?_
 refine AWp.sr ?_
 refine .vl (Y.fieldAddr fl39_1 rfl rfl) ?_
 refine .vl (Y.load sh3 rfl rfl rfl rfl) ?_
 refine .vl (Y.lss rfl rfl) ?_
 refine .vl (Y.move rfl rfl) ?_
 refine AOps.splitD (d := 43) rfl (fun c43 => ?_) (fun c43 => ?_)
 refine .gs 43 rfl rfl rfl ?_
 refine .gs 43 rfl rfl rfl ?_
 refine .gs 43 rfl rfl rfl ?_
 refine .vl (Y.pick rfl rfl rfl) ?_
 refine .vl (Y.move rfl rfl) ?_
 refine .gs 48 rfl rfl rfl ?_
 refine .gs 48 rfl rfl rfl ?_
 refine .gs 48 rfl rfl rfl ?_
 refine .vl (Y.pick rfl rfl rfl) ?_
 refine .vl (Y.move rfl rfl) ?_
 refine .gs 53 rfl rfl rfl ?_
 refine .gs 53 rfl rfl rfl ?_
 refine .gs 53 rfl rfl rfl ?_
 refine .vl (Y.pick rfl rfl rfl) ?_
 refine AOps.nil ?_
 refine AWp.condT rfl ?_
 refine AWp.sr ?_
 refine .vl (Y.assign rfl rfl) ?_
 refine AOps.nil ?_
 refine AWp.ret ?_
 exact ⟨_, _, rfl, rfl, (cg1 (fun (z0 : Bool) => X.v (.bool z0)) (df (by (simp only [Shaped, c36, Int.reduceEq, Bool.not_eq_true, false_and, true_and, and_true, and_false, or_false, false_or, ne_eq]) <;> (first | omega | grind)) : false = decide (Shaped n c)) : X.v (.bool false) = X.v (.bool (decide (Shaped n c)))), rfl⟩
 refine .gv 43 rfl rfl (Y.fieldAddr fl39_1 rfl rfl) ?_
 refine .gv 43 rfl rfl (Y.load sh3 rfl rfl rfl rfl) ?_
 refine .gv 43 rfl rfl (Y.gtr rfl rfl) ?_
 refine .vl (Y.pick rfl rfl rfl) ?_
 refine .vl (Y.move rfl rfl) ?_
 refine AOps.splitD (d := 48) rfl (fun c48 => ?_) (fun c48 => ?_)
 refine .gs 48 rfl rfl rfl ?_
 refine .gs 48 rfl rfl rfl ?_
 refine .gs 48 rfl rfl rfl ?_
 refine .vl (Y.pick rfl rfl rfl) ?_
 refine .vl (Y.move rfl rfl) ?_
 refine .gs 53 rfl rfl rfl ?_
 refine .gs 53 rfl rfl rfl ?_
 refine .gs 53 rfl rfl rfl ?_
 refine .vl (Y.pick rfl rfl rfl) ?_
 refine AOps.nil ?_
 refine AWp.condT rfl ?_
 refine AWp.sr ?_
 refine .vl (Y.assign rfl rfl) ?_
 refine AOps.nil ?_
 refine AWp.ret ?_
 exact ⟨_, _, rfl, rfl, (cg1 (fun (z0 : Bool) => X.v (.bool z0)) (df (by (simp only [Shaped, c36, Int.reduceEq, Bool.not_eq_true, false_and, true_and, and_true, and_false, or_false, false_or, ne_eq]) <;> (first | omega | grind)) : false = decide (Shaped n c)) : X.v (.bool false) = X.v (.bool (decide (Shaped n c)))), rfl⟩
 refine .gv 48 rfl rfl (Y.fieldAddr fl39_4 rfl rfl) ?_
 refine .gv 48 rfl rfl (Y.load sh37 rfl rfl rfl rfl) ?_
 refine .gv 48 rfl rfl (Y.lss rfl rfl) ?_
 refine .vl (Y.pick rfl rfl rfl) ?_
 refine .vl (Y.move rfl rfl) ?_
 refine AOps.splitD (d := 53) rfl (fun c53 => ?_) (fun c53 => ?_)
 refine .gs 53 rfl rfl rfl ?_
 refine .gs 53 rfl rfl rfl ?_
 refine .gs 53 rfl rfl rfl ?_
 refine .vl (Y.pick rfl rfl rfl) ?_
 refine AOps.nil ?_
 refine AWp.condT rfl ?_
 refine AWp.sr ?_
 refine .vl (Y.assign rfl rfl) ?_
 refine AOps.nil ?_
 refine AWp.ret ?_
 exact ⟨_, _, rfl, rfl, (cg1 (fun (z0 : Bool) => X.v (.bool z0)) (df (by (simp only [Shaped, c36, Int.reduceEq, Bool.not_eq_true, false_and, true_and, and_true, and_false, or_false, false_or, ne_eq]) <;> (first | omega | grind)) : false = decide (Shaped n c)) : X.v (.bool false) = X.v (.bool (decide (Shaped n c)))), rfl⟩
 refine .gv 53 rfl rfl (Y.fieldAddr fl39_4 rfl rfl) ?_
 refine .gv 53 rfl rfl (Y.load sh37 rfl rfl rfl rfl) ?_
 refine .gv 53 rfl rfl (Y.gtr rfl rfl) ?_
 refine .vl (Y.pick rfl rfl rfl) ?_
 refine AOps.nil ?_
 refine AWp.condD rfl (fun c57 => ?_) (fun c57 => ?_)
 refine AWp.sr ?_
 refine .vl (Y.assign rfl rfl) ?_
 refine AOps.nil ?_
 refine AWp.ret ?_
 exact ⟨_, _, rfl, rfl, (cg1 (fun (z0 : Bool) => X.v (.bool z0)) (df (by (simp only [Shaped, c36, Int.reduceEq, Bool.not_eq_true, false_and, true_and, and_true, and_false, or_false, false_or, ne_eq]) <;> (first | omega | grind)) : false = decide (Shaped n c)) : X.v (.bool false) = X.v (.bool (decide (Shaped n c)))), rfl⟩
 refine AWp.skip ?_
 refine AWp.join0 (⟨[(2, .ptr 102 0 0 0), (3, .ptr 103 0 0 0), (8, .v (.int .i64 (-1)))], [(102, .cells (Netlist.row n)), (103, .cells (Cell.row c))]⟩) (((¬ (((c.args.length : Nat) : Int) ≠ 2)) ∧ (¬ (c.op ≠ c.op)) ∧ (((c.num : Nat) : Int) ≠ 0)) ∨ ((¬ (((c.args.length : Nat) : Int) ≠ 2)) ∧ (¬ (c.op ≠ c.op)) ∧ (¬ (((c.num : Nat) : Int) ≠ 0)))) ?_ (fun hJ33 => ?_)
 refine AWp.sr ?_
 refine .vl (Y.fieldAddr fl39_3 rfl rfl) ?_
 refine .vl (Y.load sh22 rfl rfl rfl rfl) ?_
 refine .vl (Y.len (n := c.args.length) sl22 rfl (congrArg some (List.length_map ..))) ?_
 refine .vl (Y.move rfl rfl) ?_
 refine .vl (Y.neq rfl rfl) ?_
 refine .vl (Y.move rfl rfl) ?_
 refine AOps.splitD (d := 88) rfl (fun c88 => ?_) (fun c88 => ?_)
 refine .gs 88 rfl rfl rfl ?_
 refine .gs 88 rfl rfl rfl ?_
 refine .gs 88 rfl rfl rfl ?_
 refine .gs 88 rfl rfl rfl ?_
 refine .vl (Y.pick rfl rfl rfl) ?_
 refine .vl (Y.move rfl rfl) ?_
 refine .gs 94 rfl rfl rfl ?_
 refine .gs 94 rfl rfl rfl ?_
 refine .gs 94 rfl rfl rfl ?_
 refine .gs 94 rfl rfl rfl ?_
 refine .gs 98 rfl rfl rfl ?_
 refine .gs 98 rfl rfl rfl ?_
 refine .gs 94 rfl rfl rfl ?_
 refine .vl (Y.pick rfl rfl rfl) ?_
 refine AOps.nil ?_
 refine AWp.condT rfl ?_
 refine AWp.sr ?_
 refine .vl (Y.assign rfl rfl) ?_
 refine AOps.nil ?_
 refine AWp.ret ?_
 exact ⟨_, _, rfl, rfl, (cg1 (fun (z0 : Bool) => X.v (.bool z0)) (df (by (simp only [Shaped, c36, Int.reduceEq, Bool.not_eq_true, false_and, true_and, and_true, and_false, or_false, false_or, ne_eq]) <;> (first | omega | grind)) : false = decide (Shaped n c)) : X.v (.bool false) = X.v (.bool (decide (Shaped n c)))), rfl⟩
 refine .gv 88 rfl rfl (Y.fieldAddr fl39_1 rfl rfl) ?_
 refine .gv 88 rfl rfl (Y.load sh3 rfl rfl rfl rfl) ?_
 refine .gv 88 rfl rfl (Y.move rfl rfl) ?_
 refine .gv 88 rfl rfl (Y.neq rfl rfl) ?_
 refine .vl (Y.pick rfl rfl rfl) ?_
 refine .vl (Y.move rfl rfl) ?_
 refine AOps.splitD (d := 94) rfl (fun c94 => ?_) (fun c94 => ?_)
 refine .gs 94 rfl rfl rfl ?_
 refine .gs 94 rfl rfl rfl ?_
 refine .gs 94 rfl rfl rfl ?_
 refine .gs 94 rfl rfl rfl ?_
 refine .gs 98 rfl rfl rfl ?_
 refine .gs 98 rfl rfl rfl ?_
 refine .gs 94 rfl rfl rfl ?_
 refine .vl (Y.pick rfl rfl rfl) ?_
 refine AOps.nil ?_
 refine AWp.condT rfl ?_
 refine AWp.sr ?_
 refine .vl (Y.assign rfl rfl) ?_
 refine AOps.nil ?_
 refine AWp.ret ?_
 exact ⟨_, _, rfl, rfl, (cg1 (fun (z0 : Bool) => X.v (.bool z0)) (df (by (simp only [Shaped, c36, Int.reduceEq, Bool.not_eq_true, false_and, true_and, and_true, and_false, or_false, false_or, ne_eq]) <;> (first | omega | grind)) : false = decide (Shaped n c)) : X.v (.bool false) = X.v (.bool (decide (Shaped n c)))), rfl⟩
 refine .gv 94 rfl rfl (Y.fieldAddr fl39_4 rfl rfl) ?_
 refine .gv 94 rfl rfl (Y.load sh37 rfl rfl rfl rfl) ?_
 refine .gv 94 rfl rfl (Y.neq rfl rfl) ?_
 refine .gv 94 rfl rfl (Y.move rfl rfl) ?_
 refine AOps.splitD (d := 98) rfl (fun c98 => ?_) (fun c98 => ?_)
 refine .gv 98 rfl rfl (Y.move rfl rfl) ?_
 refine .gv 98 rfl rfl (Y.not rfl) ?_
 refine .gv 94 rfl rfl (Y.pick rfl rfl rfl) ?_
 refine .vl (Y.pick rfl rfl rfl) ?_
 refine AOps.nil ?_
 refine AWp.condF rfl ?_
 refine AWp.skip ?_
 exact ⟨.inl ⟨c88, c94, c98⟩, Le.mk (SubL.cons rfl (SubL.cons rfl (SubL.cons rfl (SubL.nil)))) (SubL.cons rfl (SubL.cons rfl (SubL.nil)))⟩
 refine .gs 98 rfl rfl rfl ?_
 refine .gs 98 rfl rfl rfl ?_
 refine .gv 94 rfl rfl (Y.pick rfl rfl rfl) ?_
 refine .vl (Y.pick rfl rfl rfl) ?_
 refine AOps.nil ?_
 refine AWp.condF rfl ?_
 refine AWp.skip ?_
 exact ⟨.inr (⟨c88, c94, c98⟩), Le.mk (SubL.cons rfl (SubL.cons rfl (SubL.cons rfl (SubL.nil)))) (SubL.cons rfl (SubL.cons rfl (SubL.nil)))⟩
 refine AWp.seq ?_
 refine AWp.sr ?_
 refine .vl (Y.move rfl rfl) ?_
 refine .vl (Y.lss rfl rfl) ?_
 refine AOps.nil ?_
 refine AWp.condT rfl ?_
 refine AWp.sr ?_
 refine .vl (Y.fieldAddr fl39_5 rfl rfl) ?_
 refine .vl (Y.load sh3 rfl rfl rfl rfl) ?_
 refine .vl (Y.eql rfl rfl) ?_
 refine .vl (Y.assign rfl rfl) ?_
 refine AOps.nil ?_
 refine AWp.ret ?_
 exact ⟨_, _, rfl, rfl, (cg1 (fun (z0 : Bool) => X.v (.bool z0)) (dd (by (simp only [Shaped, c36, Int.reduceEq, Bool.not_eq_true, false_and, true_and, and_true, and_false, or_false, false_or, ne_eq]) <;> (first | omega | grind)) : (decide (c.mem = 0)) = decide (Shaped n c)) : X.v (.bool (decide (c.mem = 0))) = X.v (.bool (decide (Shaped n c)))), rfl⟩
 refine AWp.sr ?_
 refine .vl (Y.eql rfl rfl) ?_
 refine .vl (Y.assign rfl rfl) ?_
 refine AOps.nil ?_
 refine AWp.condD rfl (fun c58 => ?_) (fun c58 => ?_)
 refine AWp.regionS rfl (by kernel_rfl) ?_
 refine AHead.val (Y.fieldAddr fl27_4 rfl rfl) (by decide) ?_
 refine AHead.val (Y.load sh24 rfl rfl rfl rfl) (by decide) ?_
 refine AHead.val (Y.len (n := n.mems.length) sl24 rfl (congrArg some (List.length_map ..))) (by decide) ?_
 refine AHead.val (Y.assign rfl rfl) (by decide) ?_
 refine AHead.val (Y.assign rfl rfl) (by decide) ?_
 refine AHead.nil ?_
 refine AWp.seq ?_
 refine AWp.sr ?_
 refine .vl (Y.fieldAddr fl39_3 rfl rfl) ?_
 refine .vl (Y.load sh22 rfl rfl rfl rfl) ?_
 refine .vl (Y.len (n := c.args.length) sl22 rfl (congrArg some (List.length_map ..))) ?_
 refine .vl (Y.move rfl rfl) ?_
 refine .vl (Y.neq rfl rfl) ?_
 refine .vl (Y.move rfl rfl) ?_
 refine AOps.splitD (d := 88) rfl (fun c88 => ?_) (fun c88 => ?_)
 refine .gs 88 rfl rfl rfl ?_
 refine .gs 88 rfl rfl rfl ?_
 refine .gs 88 rfl rfl rfl ?_
 refine .gs 88 rfl rfl rfl ?_
 refine .vl (Y.pick rfl rfl rfl) ?_
 refine .vl (Y.move rfl rfl) ?_
 refine .gs 94 rfl rfl rfl ?_
 refine .gs 94 rfl rfl rfl ?_
 refine .gs 94 rfl rfl rfl ?_
 refine .gs 94 rfl rfl rfl ?_
 refine .gs 98 rfl rfl rfl ?_
 refine .gs 98 rfl rfl rfl ?_
 refine .gs 94 rfl rfl rfl ?_
 refine .vl (Y.pick rfl rfl rfl) ?_
 refine AOps.nil ?_
 refine AWp.condT rfl ?_
 refine AWp.sr ?_
 refine .vl (Y.assign rfl rfl) ?_
 refine AOps.nil ?_
 refine AWp.ret ?_
 exact ⟨_, _, rfl, rfl, (cg1 (fun (z0 : Bool) => X.v (.bool z0)) (df (by (simp only [Shaped, c58, Int.reduceEq, Bool.not_eq_true, false_and, true_and, and_true, and_false, or_false, false_or, ne_eq]) <;> (first | omega | grind)) : false = decide (Shaped n c)) : X.v (.bool false) = X.v (.bool (decide (Shaped n c)))), rfl⟩
 refine .gv 88 rfl rfl (Y.fieldAddr fl39_1 rfl rfl) ?_
 refine .gv 88 rfl rfl (Y.load sh3 rfl rfl rfl rfl) ?_
 refine .gv 88 rfl rfl (Y.move rfl rfl) ?_
 refine .gv 88 rfl rfl (Y.neq rfl rfl) ?_
 refine .vl (Y.pick rfl rfl rfl) ?_
 refine .vl (Y.move rfl rfl) ?_
 refine AOps.splitD (d := 94) rfl (fun c94 => ?_) (fun c94 => ?_)
 refine .gs 94 rfl rfl rfl ?_
 refine .gs 94 rfl rfl rfl ?_
 refine .gs 94 rfl rfl rfl ?_
 refine .gs 94 rfl rfl rfl ?_
 refine .gs 98 rfl rfl rfl ?_
 refine .gs 98 rfl rfl rfl ?_
 refine .gs 94 rfl rfl rfl ?_
 refine .vl (Y.pick rfl rfl rfl) ?_
 refine AOps.nil ?_
 refine AWp.condT rfl ?_
 refine AWp.sr ?_
 refine .vl (Y.assign rfl rfl) ?_
 refine AOps.nil ?_
 refine AWp.ret ?_
 exact ⟨_, _, rfl, rfl, (cg1 (fun (z0 : Bool) => X.v (.bool z0)) (df (by (simp only [Shaped, c58, Int.reduceEq, Bool.not_eq_true, false_and, true_and, and_true, and_false, or_false, false_or, ne_eq]) <;> (first | omega | grind)) : false = decide (Shaped n c)) : X.v (.bool false) = X.v (.bool (decide (Shaped n c)))), rfl⟩
 refine .gv 94 rfl rfl (Y.fieldAddr fl39_4 rfl rfl) ?_
 refine .gv 94 rfl rfl (Y.load sh37 rfl rfl rfl rfl) ?_
 refine .gv 94 rfl rfl (Y.neq rfl rfl) ?_
 refine .gv 94 rfl rfl (Y.move rfl rfl) ?_
 refine AOps.splitD (d := 98) rfl (fun c98 => ?_) (fun c98 => ?_)
 refine .gv 98 rfl rfl (Y.move rfl rfl) ?_
 refine .gv 98 rfl rfl (Y.not rfl) ?_
 refine .gv 94 rfl rfl (Y.pick rfl rfl rfl) ?_
 refine .vl (Y.pick rfl rfl rfl) ?_
 refine AOps.nil ?_
 refine AWp.condT rfl ?_
 refine AWp.sr ?_
 refine .vl (Y.assign rfl rfl) ?_
 refine AOps.nil ?_
 refine AWp.ret ?_
 exact ⟨_, _, rfl, rfl, (cg1 (fun (z0 : Bool) => X.v (.bool z0)) (df (by (simp only [Shaped, c58, Int.reduceEq, Bool.not_eq_true, false_and, true_and, and_true, and_false, or_false, false_or, ne_eq]) <;> (first | omega | grind)) : false = decide (Shaped n c)) : X.v (.bool false) = X.v (.bool (decide (Shaped n c)))), rfl⟩
 refine .gs 98 rfl rfl rfl ?_
 refine .gs 98 rfl rfl rfl ?_
 refine .gv 94 rfl rfl (Y.pick rfl rfl rfl) ?_
 refine .vl (Y.pick rfl rfl rfl) ?_
 refine AOps.nil ?_
 refine AWp.condF rfl ?_
 refine AWp.skip ?_
 refine AWp.seq ?_
 refine AWp.sr ?_
 refine .vl (Y.move rfl rfl) ?_
 refine .vl (Y.lss rfl rfl) ?_
 refine AOps.nil ?_
 refine AWp.condD rfl (fun c104 => ?_) (fun c104 => ?_)
 refine AWp.sr ?_
 refine .vl (Y.fieldAddr fl39_5 rfl rfl) ?_
 refine .vl (Y.load sh3 rfl rfl rfl rfl) ?_
 refine .vl (Y.eql rfl rfl) ?_
 refine .vl (Y.assign rfl rfl) ?_
 refine AOps.nil ?_
 refine AWp.ret ?_
 exact ⟨_, _, rfl, rfl, (cg1 (fun (z0 : Bool) => X.v (.bool z0)) (dd (by (simp only [Shaped, c58, Int.reduceEq, Bool.not_eq_true, false_and, true_and, and_true, and_false, or_false, false_or, ne_eq]) <;> (first | omega | grind)) : (decide (c.mem = 0)) = decide (Shaped n c)) : X.v (.bool (decide (c.mem = 0))) = X.v (.bool (decide (Shaped n c)))), rfl⟩
 refine AWp.skip ?_
 refine AWp.sr ?_
 refine .vl (Y.fieldAddr fl39_5 rfl rfl) ?_
 refine .vl (Y.load sh3 rfl rfl rfl rfl) ?_
 refine .vl (Y.geq rfl rfl) ?_
 refine .vl (Y.move rfl rfl) ?_
 refine AOps.splitD (d := 111) rfl (fun c111 => ?_) (fun c111 => ?_)
 refine .gv 111 rfl rfl (Y.fieldAddr fl39_5 rfl rfl) ?_
 refine .gv 111 rfl rfl (Y.load sh3 rfl rfl rfl rfl) ?_
 refine .gv 111 rfl rfl (Y.move rfl rfl) ?_
 refine .gv 111 rfl rfl (Y.lss rfl rfl) ?_
 refine .vl (Y.pick rfl rfl rfl) ?_
 refine .vl (Y.move rfl rfl) ?_
 refine AOps.splitD (d := 117) rfl (fun c117 => ?_) (fun c117 => ?_)
 refine .gv 117 rfl rfl (Y.fieldAddr fl39_0 rfl rfl) ?_
 refine .gv 117 rfl rfl (Y.load sh3 rfl rfl rfl rfl) ?_
 refine .gv 117 rfl rfl (Y.neq rfl rfl) ?_
 refine .gv 117 rfl rfl (Y.move rfl rfl) ?_
 refine AOps.splitD (d := 121) rfl (fun c121 => ?_) (fun c121 => ?_)
 refine .gs 121 rfl rfl rfl ?_
 refine .gs 121 rfl rfl rfl ?_
 refine .gs 121 rfl rfl rfl ?_
 refine .gs 121 rfl rfl rfl ?_
 refine .gs 121 rfl rfl rfl ?_
 refine .gs 121 rfl rfl rfl ?_
 refine .gs 121 rfl rfl rfl ?_
 refine .gs 121 rfl rfl rfl ?_
 refine .gv 117 rfl rfl (Y.pick rfl rfl rfl) ?_
 refine .vl (Y.pick rfl rfl rfl) ?_
 refine .vl (Y.assign rfl rfl) ?_
 refine AOps.nil ?_
 refine AWp.ret ?_
 exact ⟨_, _, rfl, rfl, (cg1 (fun (z0 : Bool) => X.v (.bool z0)) (dt (by (simp only [Shaped, c58, Int.reduceEq, Bool.not_eq_true, false_and, true_and, and_true, and_false, or_false, false_or, ne_eq]) <;> (first | omega | grind)) : true = decide (Shaped n c)) : X.v (.bool true) = X.v (.bool (decide (Shaped n c)))), rfl⟩
 refine .gv 121 rfl rfl (Y.fieldAddr fl27_5 rfl rfl) ?_
 refine .gv 121 rfl rfl (Y.load sh25 rfl rfl rfl rfl) ?_
 refine .gv 121 rfl rfl (Y.fieldAddr fl39_5 rfl rfl) ?_
 refine .gv 121 rfl rfl (Y.load sh3 rfl rfl rfl rfl) ?_
 refine .gv 121 rfl rfl (Y.indexF (m := (c.mem).toNat) sl25 rfl rfl (by first | omega | simp [-List.getD_eq_getElem?_getD] <;> omega) (row_getD (d := default) (by first | omega | simp [-List.getD_eq_getElem?_getD] <;> omega))) ?_
 refine .gv 121 rfl rfl (Y.fieldAddr fl83_2 rfl rfl) ?_
 refine .gv 121 rfl rfl (Y.load sh4 rfl rfl rfl rfl) ?_
 refine .gv 121 rfl rfl (Y.not rfl) ?_
 refine .gv 117 rfl rfl (Y.pick rfl rfl rfl) ?_
 refine .vl (Y.pick rfl rfl rfl) ?_
 refine .vl (Y.assign rfl rfl) ?_
 refine AOps.nil ?_
 refine AWp.ret ?_
 exact ⟨_, _, rfl, rfl, (cg1 (fun (z0 : Bool) => X.v (.bool z0)) (db (by (simp only [Shaped, c58, Int.reduceEq, Bool.not_eq_true, false_and, true_and, and_true, and_false, or_false, false_or, ne_eq]) <;> (first | omega | grind)) : (!((n.streams.getD ((c.mem).toNat) default).out)) = decide (Shaped n c)) : X.v (.bool (!((n.streams.getD ((c.mem).toNat) default).out))) = X.v (.bool (decide (Shaped n c)))), rfl⟩
 refine .gs 117 rfl rfl rfl ?_
 refine .gs 117 rfl rfl rfl ?_
 refine .gs 117 rfl rfl rfl ?_
 refine .gs 117 rfl rfl rfl ?_
 refine .gs 121 rfl rfl rfl ?_
 refine .gs 121 rfl rfl rfl ?_
 refine .gs 121 rfl rfl rfl ?_
 refine .gs 121 rfl rfl rfl ?_
 refine .gs 121 rfl rfl rfl ?_
 refine .gs 121 rfl rfl rfl ?_
 refine .gs 121 rfl rfl rfl ?_
 refine .gs 121 rfl rfl rfl ?_
 refine .gs 117 rfl rfl rfl ?_
 refine .vl (Y.pick rfl rfl rfl) ?_
 refine .vl (Y.assign rfl rfl) ?_
 refine AOps.nil ?_
 refine AWp.ret ?_
 exact ⟨_, _, rfl, rfl, (cg1 (fun (z0 : Bool) => X.v (.bool z0)) (df (by (simp only [Shaped, c58, Int.reduceEq, Bool.not_eq_true, false_and, true_and, and_true, and_false, or_false, false_or, ne_eq]) <;> (first | omega | grind)) : false = decide (Shaped n c)) : X.v (.bool false) = X.v (.bool (decide (Shaped n c)))), rfl⟩
 refine .gs 111 rfl rfl rfl ?_
 refine .gs 111 rfl rfl rfl ?_
 refine .gs 111 rfl rfl rfl ?_
 refine .gs 111 rfl rfl rfl ?_
 refine .vl (Y.pick rfl rfl rfl) ?_
 refine .vl (Y.move rfl rfl) ?_
 refine .gs 117 rfl rfl rfl ?_
 refine .gs 117 rfl rfl rfl ?_
 refine .gs 117 rfl rfl rfl ?_
 refine .gs 117 rfl rfl rfl ?_
 refine .gs 121 rfl rfl rfl ?_
 refine .gs 121 rfl rfl rfl ?_
 refine .gs 121 rfl rfl rfl ?_
 refine .gs 121 rfl rfl rfl ?_
 refine .gs 121 rfl rfl rfl ?_
 refine .gs 121 rfl rfl rfl ?_
 refine .gs 121 rfl rfl rfl ?_
 refine .gs 121 rfl rfl rfl ?_
 refine .gs 117 rfl rfl rfl ?_
 refine .vl (Y.pick rfl rfl rfl) ?_
 refine .vl (Y.assign rfl rfl) ?_
 refine AOps.nil ?_
 refine AWp.ret ?_
 exact ⟨_, _, rfl, rfl, (cg1 (fun (z0 : Bool) => X.v (.bool z0)) (df (by (simp only [Shaped, c58, Int.reduceEq, Bool.not_eq_true, false_and, true_and, and_true, and_false, or_false, false_or, ne_eq]) <;> (first | omega | grind)) : false = decide (Shaped n c)) : X.v (.bool false) = X.v (.bool (decide (Shaped n c)))), rfl⟩
 refine AWp.sr ?_
 refine .vl (Y.eql rfl rfl) ?_
 refine .vl (Y.assign rfl rfl) ?_
 refine AOps.nil ?_
 refine AWp.condD rfl (fun c63 => ?_) (fun c63 => ?_)
 refine AWp.regionS rfl (by kernel_rfl) ?_
 refine AHead.val (Y.fieldAddr fl27_4 rfl rfl) (by decide) ?_
 refine AHead.val (Y.load sh24 rfl rfl rfl rfl) (by decide) ?_
 refine AHead.val (Y.len (n := n.mems.length) sl24 rfl (congrArg some (List.length_map ..))) (by decide) ?_
 refine AHead.val (Y.assign rfl rfl) (by decide) ?_
 refine AHead.val (Y.assign rfl rfl) (by decide) ?_
 refine AHead.nil ?_
 refine AWp.seq ?_
 refine AWp.sr ?_
 refine .vl (Y.fieldAddr fl39_3 rfl rfl) ?_
 refine .vl (Y.load sh22 rfl rfl rfl rfl) ?_
 refine .vl (Y.len (n := c.args.length) sl22 rfl (congrArg some (List.length_map ..))) ?_
 refine .vl (Y.move rfl rfl) ?_
 refine .vl (Y.neq rfl rfl) ?_
 refine .vl (Y.move rfl rfl) ?_
 refine AOps.splitD (d := 88) rfl (fun c88 => ?_) (fun c88 => ?_)
 refine .gs 88 rfl rfl rfl ?_
 refine .gs 88 rfl rfl rfl ?_
 refine .gs 88 rfl rfl rfl ?_
 refine .gs 88 rfl rfl rfl ?_
 refine .vl (Y.pick rfl rfl rfl) ?_
 refine .vl (Y.move rfl rfl) ?_
 refine .gs 94 rfl rfl rfl ?_
 refine .gs 94 rfl rfl rfl ?_
 refine .gs 94 rfl rfl rfl ?_
 refine .gs 94 rfl rfl rfl ?_
 refine .gs 98 rfl rfl rfl ?_
 refine .gs 98 rfl rfl rfl ?_
 refine .gs 94 rfl rfl rfl ?_
 refine .vl (Y.pick rfl rfl rfl) ?_
 refine AOps.nil ?_
 refine AWp.condT rfl ?_
 refine AWp.sr ?_
 refine .vl (Y.assign rfl rfl) ?_
 refine AOps.nil ?_
 refine AWp.ret ?_
 exact ⟨_, _, rfl, rfl, (cg1 (fun (z0 : Bool) => X.v (.bool z0)) (df (by (simp only [Shaped, c63, Int.reduceEq, Bool.not_eq_true, false_and, true_and, and_true, and_false, or_false, false_or, ne_eq]) <;> (first | omega | grind)) : false = decide (Shaped n c)) : X.v (.bool false) = X.v (.bool (decide (Shaped n c)))), rfl⟩
 refine .gv 88 rfl rfl (Y.fieldAddr fl39_1 rfl rfl) ?_
 refine .gv 88 rfl rfl (Y.load sh3 rfl rfl rfl rfl) ?_
 refine .gv 88 rfl rfl (Y.move rfl rfl) ?_
 refine .gv 88 rfl rfl (Y.neq rfl rfl) ?_
 refine .vl (Y.pick rfl rfl rfl) ?_
 refine .vl (Y.move rfl rfl) ?_
 refine AOps.splitD (d := 94) rfl (fun c94 => ?_) (fun c94 => ?_)
 refine .gs 94 rfl rfl rfl ?_
 refine .gs 94 rfl rfl rfl ?_
 refine .gs 94 rfl rfl rfl ?_
 refine .gs 94 rfl rfl rfl ?_
 refine .gs 98 rfl rfl rfl ?_
 refine .gs 98 rfl rfl rfl ?_
 refine .gs 94 rfl rfl rfl ?_
 refine .vl (Y.pick rfl rfl rfl) ?_
 refine AOps.nil ?_
 refine AWp.condT rfl ?_
 refine AWp.sr ?_
 refine .vl (Y.assign rfl rfl) ?_
 refine AOps.nil ?_
 refine AWp.ret ?_
 exact ⟨_, _, rfl, rfl, (cg1 (fun (z0 : Bool) => X.v (.bool z0)) (df (by (simp only [Shaped, c63, Int.reduceEq, Bool.not_eq_true, false_and, true_and, and_true, and_false, or_false, false_or, ne_eq]) <;> (first | omega | grind)) : false = decide (Shaped n c)) : X.v (.bool false) = X.v (.bool (decide (Shaped n c)))), rfl⟩
 refine .gv 94 rfl rfl (Y.fieldAddr fl39_4 rfl rfl) ?_
 refine .gv 94 rfl rfl (Y.load sh37 rfl rfl rfl rfl) ?_
 refine .gv 94 rfl rfl (Y.neq rfl rfl) ?_
 refine .gv 94 rfl rfl (Y.move rfl rfl) ?_
 refine AOps.splitD (d := 98) rfl (fun c98 => ?_) (fun c98 => ?_)
 refine .gv 98 rfl rfl (Y.move rfl rfl) ?_
 refine .gv 98 rfl rfl (Y.not rfl) ?_
 refine .gv 94 rfl rfl (Y.pick rfl rfl rfl) ?_
 refine .vl (Y.pick rfl rfl rfl) ?_
 refine AOps.nil ?_
 refine AWp.condT rfl ?_
 refine AWp.sr ?_
 refine .vl (Y.assign rfl rfl) ?_
 refine AOps.nil ?_
 refine AWp.ret ?_
 exact ⟨_, _, rfl, rfl, (cg1 (fun (z0 : Bool) => X.v (.bool z0)) (df (by (simp only [Shaped, c63, Int.reduceEq, Bool.not_eq_true, false_and, true_and, and_true, and_false, or_false, false_or, ne_eq]) <;> (first | omega | grind)) : false = decide (Shaped n c)) : X.v (.bool false) = X.v (.bool (decide (Shaped n c)))), rfl⟩
 refine .gs 98 rfl rfl rfl ?_
 refine .gs 98 rfl rfl rfl ?_
 refine .gv 94 rfl rfl (Y.pick rfl rfl rfl) ?_
 refine .vl (Y.pick rfl rfl rfl) ?_
 refine AOps.nil ?_
 refine AWp.condF rfl ?_
 refine AWp.skip ?_
 refine AWp.seq ?_
 refine AWp.sr ?_
 refine .vl (Y.move rfl rfl) ?_
 refine .vl (Y.lss rfl rfl) ?_
 refine AOps.nil ?_
 refine AWp.condD rfl (fun c104 => ?_) (fun c104 => ?_)
 refine AWp.sr ?_
 refine .vl (Y.fieldAddr fl39_5 rfl rfl) ?_
 refine .vl (Y.load sh3 rfl rfl rfl rfl) ?_
 refine .vl (Y.eql rfl rfl) ?_
 refine .vl (Y.assign rfl rfl) ?_
 refine AOps.nil ?_
 refine AWp.ret ?_
 exact ⟨_, _, rfl, rfl, (cg1 (fun (z0 : Bool) => X.v (.bool z0)) (dd (by (simp only [Shaped, c63, Int.reduceEq, Bool.not_eq_true, false_and, true_and, and_true, and_false, or_false, false_or, ne_eq]) <;> (first | omega | grind)) : (decide (c.mem = 0)) = decide (Shaped n c)) : X.v (.bool (decide (c.mem = 0))) = X.v (.bool (decide (Shaped n c)))), rfl⟩
 refine AWp.skip ?_
 refine AWp.sr ?_
 refine .vl (Y.fieldAddr fl39_5 rfl rfl) ?_
 refine .vl (Y.load sh3 rfl rfl rfl rfl) ?_
 refine .vl (Y.geq rfl rfl) ?_
 refine .vl (Y.move rfl rfl) ?_
 refine AOps.splitD (d := 111) rfl (fun c111 => ?_) (fun c111 => ?_)
 refine .gv 111 rfl rfl (Y.fieldAddr fl39_5 rfl rfl) ?_
 refine .gv 111 rfl rfl (Y.load sh3 rfl rfl rfl rfl) ?_
 refine .gv 111 rfl rfl (Y.move rfl rfl) ?_
 refine .gv 111 rfl rfl (Y.lss rfl rfl) ?_
 refine .vl (Y.pick rfl rfl rfl) ?_
 refine .vl (Y.move rfl rfl) ?_
 refine AOps.splitD (d := 117) rfl (fun c117 => ?_) (fun c117 => ?_)
 refine .gv 117 rfl rfl (Y.fieldAddr fl39_0 rfl rfl) ?_
 refine .gv 117 rfl rfl (Y.load sh3 rfl rfl rfl rfl) ?_
 refine .gv 117 rfl rfl (Y.neq rfl rfl) ?_
 refine .gv 117 rfl rfl (Y.move rfl rfl) ?_
 refine AOps.splitD (d := 121) rfl (fun c121 => ?_) (fun c121 => ?_)
 refine .gs 121 rfl rfl rfl ?_
 refine .gs 121 rfl rfl rfl ?_
 refine .gs 121 rfl rfl rfl ?_
 refine .gs 121 rfl rfl rfl ?_
 refine .gs 121 rfl rfl rfl ?_
 refine .gs 121 rfl rfl rfl ?_
 refine .gs 121 rfl rfl rfl ?_
 refine .gs 121 rfl rfl rfl ?_
 refine .gv 117 rfl rfl (Y.pick rfl rfl rfl) ?_
 refine .vl (Y.pick rfl rfl rfl) ?_
 refine .vl (Y.assign rfl rfl) ?_
 refine AOps.nil ?_
 refine AWp.ret ?_
 exact ⟨_, _, rfl, rfl, (cg1 (fun (z0 : Bool) => X.v (.bool z0)) (dt (by (simp only [Shaped, c63, Int.reduceEq, Bool.not_eq_true, false_and, true_and, and_true, and_false, or_false, false_or, ne_eq]) <;> (first | omega | grind)) : true = decide (Shaped n c)) : X.v (.bool true) = X.v (.bool (decide (Shaped n c)))), rfl⟩
 refine .gv 121 rfl rfl (Y.fieldAddr fl27_5 rfl rfl) ?_
 refine .gv 121 rfl rfl (Y.load sh25 rfl rfl rfl rfl) ?_
 refine .gv 121 rfl rfl (Y.fieldAddr fl39_5 rfl rfl) ?_
 refine .gv 121 rfl rfl (Y.load sh3 rfl rfl rfl rfl) ?_
 refine .gv 121 rfl rfl (Y.indexF (m := (c.mem).toNat) sl25 rfl rfl (by first | omega | simp [-List.getD_eq_getElem?_getD] <;> omega) (row_getD (d := default) (by first | omega | simp [-List.getD_eq_getElem?_getD] <;> omega))) ?_
 refine .gv 121 rfl rfl (Y.fieldAddr fl83_2 rfl rfl) ?_
 refine .gv 121 rfl rfl (Y.load sh4 rfl rfl rfl rfl) ?_
 refine .gv 121 rfl rfl (Y.not rfl) ?_
 refine .gv 117 rfl rfl (Y.pick rfl rfl rfl) ?_
 refine .vl (Y.pick rfl rfl rfl) ?_
 refine .vl (Y.assign rfl rfl) ?_
 refine AOps.nil ?_
 refine AWp.ret ?_
 exact ⟨_, _, rfl, rfl, (cg1 (fun (z0 : Bool) => X.v (.bool z0)) (db (by (simp only [Shaped, c63, Int.reduceEq, Bool.not_eq_true, false_and, true_and, and_true, and_false, or_false, false_or, ne_eq]) <;> (first | omega | grind)) : (!((n.streams.getD ((c.mem).toNat) default).out)) = decide (Shaped n c)) : X.v (.bool (!((n.streams.getD ((c.mem).toNat) default).out))) = X.v (.bool (decide (Shaped n c)))), rfl⟩
 refine .gs 117 rfl rfl rfl ?_
 refine .gs 117 rfl rfl rfl ?_
 refine .gs 117 rfl rfl rfl ?_
 refine .gs 117 rfl rfl rfl ?_
 refine .gs 121 rfl rfl rfl ?_
 refine .gs 121 rfl rfl rfl ?_
 refine .gs 121 rfl rfl rfl ?_
 refine .gs 121 rfl rfl rfl ?_
 refine .gs 121 rfl rfl rfl ?_
 refine .gs 121 rfl rfl rfl ?_
 refine .gs 121 rfl rfl rfl ?_
 refine .gs 121 rfl rfl rfl ?_
 refine .gs 117 rfl rfl rfl ?_
 refine .vl (Y.pick rfl rfl rfl) ?_
 refine .vl (Y.assign rfl rfl) ?_
 refine AOps.nil ?_
 refine AWp.ret ?_
 exact ⟨_, _, rfl, rfl, (cg1 (fun (z0 : Bool) => X.v (.bool z0)) (df (by (simp only [Shaped, c63, Int.reduceEq, Bool.not_eq_true, false_and, true_and, and_true, and_false, or_false, false_or, ne_eq]) <;> (first | omega | grind)) : false = decide (Shaped n c)) : X.v (.bool false) = X.v (.bool (decide (Shaped n c)))), rfl⟩
 refine .gs 111 rfl rfl rfl ?_
 refine .gs 111 rfl rfl rfl ?_
 refine .gs 111 rfl rfl rfl ?_
 refine .gs 111 rfl rfl rfl ?_
 refine .vl (Y.pick rfl rfl rfl) ?_
 refine .vl (Y.move rfl rfl) ?_
 refine .gs 117 rfl rfl rfl ?_
 refine .gs 117 rfl rfl rfl ?_
 refine .gs 117 rfl rfl rfl ?_
 refine .gs 117 rfl rfl rfl ?_
 refine .gs 121 rfl rfl rfl ?_
 refine .gs 121 rfl rfl rfl ?_
 refine .gs 121 rfl rfl rfl ?_
 refine .gs 121 rfl rfl rfl ?_
 refine .gs 121 rfl rfl rfl ?_
 refine .gs 121 rfl rfl rfl ?_
 refine .gs 121 rfl rfl rfl ?_
 refine .gs 121 rfl rfl rfl ?_
 refine .gs 117 rfl rfl rfl ?_
 refine .vl (Y.pick rfl rfl rfl) ?_
 refine .vl (Y.assign rfl rfl) ?_
 refine AOps.nil ?_
 refine AWp.ret ?_
 exact ⟨_, _, rfl, rfl, (cg1 (fun (z0 : Bool) => X.v (.bool z0)) (df (by (simp only [Shaped, c63, Int.reduceEq, Bool.not_eq_true, false_and, true_and, and_true, and_false, or_false, false_or, ne_eq]) <;> (first | omega | grind)) : false = decide (Shaped n c)) : X.v (.bool false) = X.v (.bool (decide (Shaped n c)))), rfl⟩
 refine AWp.sr ?_
 refine .vl (Y.eql rfl rfl) ?_
 refine .vl (Y.assign rfl rfl) ?_
 refine AOps.nil ?_
 refine AWp.condD rfl (fun c68 => ?_) (fun c68 => ?_)
 refine AWp.sr ?_
 refine .vl (Y.assign rfl rfl) ?_
 refine AOps.nil ?_
 refine AWp.sr ?_
 refine .vl (Y.fieldAddr fl39_4 rfl rfl) ?_
 refine .vl (Y.load sh37 rfl rfl rfl rfl) ?_
 refine .vl (Y.fieldAddr fl27_3 rfl rfl) ?_
 refine .vl (Y.load sh22 rfl rfl rfl rfl) ?_
 refine .vl (Y.len (n := n.ins.length) sl22 rfl (congrArg some (List.length_map ..))) ?_
 refine .vl (Y.convK ii3 ii37 rfl (by first | rfl | exact IntWalk.u64_in _ (by first | omega | simp [-List.getD_eq_getElem?_getD] <;> omega))) ?_
 refine .vl (Y.geq rfl rfl) ?_
 refine AOps.nil ?_
 refine AWp.condD rfl (fun c76 => ?_) (fun c76 => ?_)
 refine AWp.sr ?_
 refine .vl (Y.assign rfl rfl) ?_
 refine AOps.nil ?_
 refine AWp.ret ?_
 exact ⟨_, _, rfl, rfl, (cg1 (fun (z0 : Bool) => X.v (.bool z0)) (df (by (simp only [Shaped, c68, Int.reduceEq, Bool.not_eq_true, false_and, true_and, and_true, and_false, or_false, false_or, ne_eq]) <;> (first | omega | grind)) : false = decide (Shaped n c)) : X.v (.bool false) = X.v (.bool (decide (Shaped n c)))), rfl⟩
 refine AWp.skip ?_
 refine AWp.join0 (⟨[(2, .ptr 102 0 0 0), (3, .ptr 103 0 0 0), (8, .v (.int .i64 (-1)))], [(102, .cells (Netlist.row n)), (103, .cells (Cell.row c))]⟩) (((¬ (((c.args.length : Nat) : Int) ≠ 0)) ∧ (¬ (c.op ≠ 0)) ∧ (((c.num : Nat) : Int) ≠ 0)) ∨ ((¬ (((c.args.length : Nat) : Int) ≠ 0)) ∧ (¬ (c.op ≠ 0)) ∧ (¬ (((c.num : Nat) : Int) ≠ 0)))) ?_ (fun hJ33 => ?_)
 refine AWp.sr ?_
 refine .vl (Y.fieldAddr fl39_3 rfl rfl) ?_
 refine .vl (Y.load sh22 rfl rfl rfl rfl) ?_
 refine .vl (Y.len (n := c.args.length) sl22 rfl (congrArg some (List.length_map ..))) ?_
 refine .vl (Y.move rfl rfl) ?_
 refine .vl (Y.neq rfl rfl) ?_
 refine .vl (Y.move rfl rfl) ?_
 refine AOps.splitD (d := 88) rfl (fun c88 => ?_) (fun c88 => ?_)
 refine .gs 88 rfl rfl rfl ?_
 refine .gs 88 rfl rfl rfl ?_
 refine .gs 88 rfl rfl rfl ?_
 refine .gs 88 rfl rfl rfl ?_
 refine .vl (Y.pick rfl rfl rfl) ?_
 refine .vl (Y.move rfl rfl) ?_
 refine .gs 94 rfl rfl rfl ?_
 refine .gs 94 rfl rfl rfl ?_
 refine .gs 94 rfl rfl rfl ?_
 refine .gs 94 rfl rfl rfl ?_
 refine .gs 98 rfl rfl rfl ?_
 refine .gs 98 rfl rfl rfl ?_
 refine .gs 94 rfl rfl rfl ?_
 refine .vl (Y.pick rfl rfl rfl) ?_
 refine AOps.nil ?_
 refine AWp.condT rfl ?_
 refine AWp.sr ?_
 refine .vl (Y.assign rfl rfl) ?_
 refine AOps.nil ?_
 refine AWp.ret ?_
 exact ⟨_, _, rfl, rfl, (cg1 (fun (z0 : Bool) => X.v (.bool z0)) (df (by (simp only [Shaped, c68, Int.reduceEq, Bool.not_eq_true, false_and, true_and, and_true, and_false, or_false, false_or, ne_eq]) <;> (first | omega | grind)) : false = decide (Shaped n c)) : X.v (.bool false) = X.v (.bool (decide (Shaped n c)))), rfl⟩
 refine .gv 88 rfl rfl (Y.fieldAddr fl39_1 rfl rfl) ?_
 refine .gv 88 rfl rfl (Y.load sh3 rfl rfl rfl rfl) ?_
 refine .gv 88 rfl rfl (Y.move rfl rfl) ?_
 refine .gv 88 rfl rfl (Y.neq rfl rfl) ?_
 refine .vl (Y.pick rfl rfl rfl) ?_
 refine .vl (Y.move rfl rfl) ?_
 refine AOps.splitD (d := 94) rfl (fun c94 => ?_) (fun c94 => ?_)
 refine .gs 94 rfl rfl rfl ?_
 refine .gs 94 rfl rfl rfl ?_
 refine .gs 94 rfl rfl rfl ?_
 refine .gs 94 rfl rfl rfl ?_
 refine .gs 98 rfl rfl rfl ?_
 refine .gs 98 rfl rfl rfl ?_
 refine .gs 94 rfl rfl rfl ?_
 refine .vl (Y.pick rfl rfl rfl) ?_
 refine AOps.nil ?_
 refine AWp.condT rfl ?_
 refine AWp.sr ?_
 refine .vl (Y.assign rfl rfl) ?_
 refine AOps.nil ?_
 refine AWp.ret ?_
 exact ⟨_, _, rfl, rfl, (cg1 (fun (z0 : Bool) => X.v (.bool z0)) (df (by (simp only [Shaped, c68, Int.reduceEq, Bool.not_eq_true, false_and, true_and, and_true, and_false, or_false, false_or, ne_eq]) <;> (first | omega | grind)) : false = decide (Shaped n c)) : X.v (.bool false) = X.v (.bool (decide (Shaped n c)))), rfl⟩
 refine .gv 94 rfl rfl (Y.fieldAddr fl39_4 rfl rfl) ?_
 refine .gv 94 rfl rfl (Y.load sh37 rfl rfl rfl rfl) ?_
 refine .gv 94 rfl rfl (Y.neq rfl rfl) ?_
 refine .gv 94 rfl rfl (Y.move rfl rfl) ?_
 refine AOps.splitD (d := 98) rfl (fun c98 => ?_) (fun c98 => ?_)
 refine .gv 98 rfl rfl (Y.move rfl rfl) ?_
 refine .gv 98 rfl rfl (Y.not rfl) ?_
 refine .gv 94 rfl rfl (Y.pick rfl rfl rfl) ?_
 refine .vl (Y.pick rfl rfl rfl) ?_
 refine AOps.nil ?_
 refine AWp.condF rfl ?_
 refine AWp.skip ?_
 exact ⟨.inl ⟨c88, c94, c98⟩, Le.mk (SubL.cons rfl (SubL.cons rfl (SubL.cons rfl (SubL.nil)))) (SubL.cons rfl (SubL.cons rfl (SubL.nil)))⟩
 refine .gs 98 rfl rfl rfl ?_
 refine .gs 98 rfl rfl rfl ?_
 refine .gv 94 rfl rfl (Y.pick rfl rfl rfl) ?_
 refine .vl (Y.pick rfl rfl rfl) ?_
 refine AOps.nil ?_
 refine AWp.condF rfl ?_
 refine AWp.skip ?_
 exact ⟨.inr (⟨c88, c94, c98⟩), Le.mk (SubL.cons rfl (SubL.cons rfl (SubL.cons rfl (SubL.nil)))) (SubL.cons rfl (SubL.cons rfl (SubL.nil)))⟩
 refine AWp.seq ?_
 refine AWp.sr ?_
 refine .vl (Y.move rfl rfl) ?_
 refine .vl (Y.lss rfl rfl) ?_
 refine AOps.nil ?_
 refine AWp.condT rfl ?_
 refine AWp.sr ?_
 refine .vl (Y.fieldAddr fl39_5 rfl rfl) ?_
 refine .vl (Y.load sh3 rfl rfl rfl rfl) ?_
 refine .vl (Y.eql rfl rfl) ?_
 refine .vl (Y.assign rfl rfl) ?_
 refine AOps.nil ?_
 refine AWp.ret ?_
 exact ⟨_, _, rfl, rfl, (cg1 (fun (z0 : Bool) => X.v (.bool z0)) (dd (by (simp only [Shaped, c68, Int.reduceEq, Bool.not_eq_true, false_and, true_and, and_true, and_false, or_false, false_or, ne_eq]) <;> (first | omega | grind)) : (decide (c.mem = 0)) = decide (Shaped n c)) : X.v (.bool (decide (c.mem = 0))) = X.v (.bool (decide (Shaped n c)))), rfl⟩
 refine AWp.seq ?_
 refine AWp.sr ?_
 refine .vl (Y.eql rfl rfl) ?_
 refine .vl (Y.assign rfl rfl) ?_
 refine AOps.nil ?_
 refine AWp.condKD rfl (fun c77 => ?_) (fun c77 => ?_)
 refine AWp.skip ?_
 refine AWp.condT rfl ?_
 refine AWp.region ?_
 refine .vl (Y.fieldAddr fl27_5 rfl rfl) ?_
 refine .vl (Y.load sh25 rfl rfl rfl rfl) ?_
 refine .vl (Y.len (n := n.streams.length) sl25 rfl (congrArg some (List.length_map ..))) ?_
 refine .vl (Y.assign rfl rfl) ?_
 refine AOps.nil ?_
 refine AWp.seq ?_
 refine AWp.sr ?_
 refine .vl (Y.fieldAddr fl39_3 rfl rfl) ?_
 refine .vl (Y.load sh22 rfl rfl rfl rfl) ?_
 refine .vl (Y.len (n := c.args.length) sl22 rfl (congrArg some (List.length_map ..))) ?_
 refine .vl (Y.move rfl rfl) ?_
 refine .vl (Y.neq rfl rfl) ?_
 refine .vl (Y.move rfl rfl) ?_
 refine AOps.splitD (d := 88) rfl (fun c88 => ?_) (fun c88 => ?_)
 refine .gs 88 rfl rfl rfl ?_
 refine .gs 88 rfl rfl rfl ?_
 refine .gs 88 rfl rfl rfl ?_
 refine .gs 88 rfl rfl rfl ?_
 refine .vl (Y.pick rfl rfl rfl) ?_
 refine .vl (Y.move rfl rfl) ?_
 refine .gs 94 rfl rfl rfl ?_
 refine .gs 94 rfl rfl rfl ?_
 refine .gs 94 rfl rfl rfl ?_
 refine .gs 94 rfl rfl rfl ?_
 refine .gs 98 rfl rfl rfl ?_
 refine .gs 98 rfl rfl rfl ?_
 refine .gs 94 rfl rfl rfl ?_
 refine .vl (Y.pick rfl rfl rfl) ?_
 refine AOps.nil ?_
 refine AWp.condT rfl ?_
 refine AWp.sr ?_
 refine .vl (Y.assign rfl rfl) ?_
 refine AOps.nil ?_
 refine AWp.ret ?_
 exact ⟨_, _, rfl, rfl, (cg1 (fun (z0 : Bool) => X.v (.bool z0)) (df (by (simp only [Shaped, c77, Int.reduceEq, Bool.not_eq_true, false_and, true_and, and_true, and_false, or_false, false_or, ne_eq]) <;> (first | omega | grind)) : false = decide (Shaped n c)) : X.v (.bool false) = X.v (.bool (decide (Shaped n c)))), rfl⟩
 refine .gv 88 rfl rfl (Y.fieldAddr fl39_1 rfl rfl) ?_
 refine .gv 88 rfl rfl (Y.load sh3 rfl rfl rfl rfl) ?_
 refine .gv 88 rfl rfl (Y.move rfl rfl) ?_
 refine .gv 88 rfl rfl (Y.neq rfl rfl) ?_
 refine .vl (Y.pick rfl rfl rfl) ?_
 refine .vl (Y.move rfl rfl) ?_
 refine AOps.splitD (d := 94) rfl (fun c94 => ?_) (fun c94 => ?_)
 refine .gs 94 rfl rfl rfl ?_
 refine .gs 94 rfl rfl rfl ?_
 refine .gs 94 rfl rfl rfl ?_
 refine .gs 94 rfl rfl rfl ?_
 refine .gs 98 rfl rfl rfl ?_
 refine .gs 98 rfl rfl rfl ?_
 refine .gs 94 rfl rfl rfl ?_
 refine .vl (Y.pick rfl rfl rfl) ?_
 refine AOps.nil ?_
 refine AWp.condT rfl ?_
 refine AWp.sr ?_
 refine .vl (Y.assign rfl rfl) ?_
 refine AOps.nil ?_
 refine AWp.ret ?_
 exact ⟨_, _, rfl, rfl, (cg1 (fun (z0 : Bool) => X.v (.bool z0)) (df (by (simp only [Shaped, c77, Int.reduceEq, Bool.not_eq_true, false_and, true_and, and_true, and_false, or_false, false_or, ne_eq]) <;> (first | omega | grind)) : false = decide (Shaped n c)) : X.v (.bool false) = X.v (.bool (decide (Shaped n c)))), rfl⟩
 refine .gv 94 rfl rfl (Y.fieldAddr fl39_4 rfl rfl) ?_
 refine .gv 94 rfl rfl (Y.load sh37 rfl rfl rfl rfl) ?_
 refine .gv 94 rfl rfl (Y.neq rfl rfl) ?_
 refine .gv 94 rfl rfl (Y.move rfl rfl) ?_
 refine AOps.splitD (d := 98) rfl (fun c98 => ?_) (fun c98 => ?_)
 refine .gv 98 rfl rfl (Y.move rfl rfl) ?_
 refine .gv 98 rfl rfl (Y.not rfl) ?_
 refine .gv 94 rfl rfl (Y.pick rfl rfl rfl) ?_
 refine .vl (Y.pick rfl rfl rfl) ?_
 refine AOps.nil ?_
 refine AWp.condT rfl ?_
 refine AWp.sr ?_
 refine .vl (Y.assign rfl rfl) ?_
 refine AOps.nil ?_
 refine AWp.ret ?_
 exact ⟨_, _, rfl, rfl, (cg1 (fun (z0 : Bool) => X.v (.bool z0)) (df (by (simp only [Shaped, c77, Int.reduceEq, Bool.not_eq_true, false_and, true_and, and_true, and_false, or_false, false_or, ne_eq]) <;> (first | omega | grind)) : false = decide (Shaped n c)) : X.v (.bool false) = X.v (.bool (decide (Shaped n c)))), rfl⟩
 refine .gs 98 rfl rfl rfl ?_
 refine .gs 98 rfl rfl rfl ?_
 refine .gv 94 rfl rfl (Y.pick rfl rfl rfl) ?_
 refine .vl (Y.pick rfl rfl rfl) ?_
 refine AOps.nil ?_
 refine AWp.condF rfl ?_
 refine AWp.skip ?_
 refine AWp.seq ?_
 refine AWp.sr ?_
 refine .vl (Y.move rfl rfl) ?_
 refine .vl (Y.lss rfl rfl) ?_
 refine AOps.nil ?_
 refine AWp.condD rfl (fun c104 => ?_) (fun c104 => ?_)
 refine AWp.sr ?_
 refine .vl (Y.fieldAddr fl39_5 rfl rfl) ?_
 refine .vl (Y.load sh3 rfl rfl rfl rfl) ?_
 refine .vl (Y.eql rfl rfl) ?_
 refine .vl (Y.assign rfl rfl) ?_
 refine AOps.nil ?_
 refine AWp.ret ?_
 exact ⟨_, _, rfl, rfl, (cg1 (fun (z0 : Bool) => X.v (.bool z0)) (dd (by (simp only [Shaped, c77, Int.reduceEq, Bool.not_eq_true, false_and, true_and, and_true, and_false, or_false, false_or, ne_eq]) <;> (first | omega | grind)) : (decide (c.mem = 0)) = decide (Shaped n c)) : X.v (.bool (decide (c.mem = 0))) = X.v (.bool (decide (Shaped n c)))), rfl⟩
 refine AWp.skip ?_
 refine AWp.sr ?_
 refine .vl (Y.fieldAddr fl39_5 rfl rfl) ?_
 refine .vl (Y.load sh3 rfl rfl rfl rfl) ?_
 refine .vl (Y.geq rfl rfl) ?_
 refine .vl (Y.move rfl rfl) ?_
 refine AOps.splitD (d := 111) rfl (fun c111 => ?_) (fun c111 => ?_)
 refine .gv 111 rfl rfl (Y.fieldAddr fl39_5 rfl rfl) ?_
 refine .gv 111 rfl rfl (Y.load sh3 rfl rfl rfl rfl) ?_
 refine .gv 111 rfl rfl (Y.move rfl rfl) ?_
 refine .gv 111 rfl rfl (Y.lss rfl rfl) ?_
 refine .vl (Y.pick rfl rfl rfl) ?_
 refine .vl (Y.move rfl rfl) ?_
 refine AOps.splitD (d := 117) rfl (fun c117 => ?_) (fun c117 => ?_)
 refine .gv 117 rfl rfl (Y.fieldAddr fl39_0 rfl rfl) ?_
 refine .gv 117 rfl rfl (Y.load sh3 rfl rfl rfl rfl) ?_
 refine .gv 117 rfl rfl (Y.neq rfl rfl) ?_
 refine .gv 117 rfl rfl (Y.move rfl rfl) ?_
 refine AOps.splitD (d := 121) rfl (fun c121 => ?_) (fun c121 => ?_)
 refine .gs 121 rfl rfl rfl ?_
 refine .gs 121 rfl rfl rfl ?_
 refine .gs 121 rfl rfl rfl ?_
 refine .gs 121 rfl rfl rfl ?_
 refine .gs 121 rfl rfl rfl ?_
 refine .gs 121 rfl rfl rfl ?_
 refine .gs 121 rfl rfl rfl ?_
 refine .gs 121 rfl rfl rfl ?_
 refine .gv 117 rfl rfl (Y.pick rfl rfl rfl) ?_
 refine .vl (Y.pick rfl rfl rfl) ?_
 refine .vl (Y.assign rfl rfl) ?_
 refine AOps.nil ?_
 refine AWp.ret ?_
 exact ⟨_, _, rfl, rfl, (cg1 (fun (z0 : Bool) => X.v (.bool z0)) (dt (by (simp only [Shaped, c77, Int.reduceEq, Bool.not_eq_true, false_and, true_and, and_true, and_false, or_false, false_or, ne_eq]) <;> (first | omega | grind)) : true = decide (Shaped n c)) : X.v (.bool true) = X.v (.bool (decide (Shaped n c)))), rfl⟩
 refine .gv 121 rfl rfl (Y.fieldAddr fl27_5 rfl rfl) ?_
 refine .gv 121 rfl rfl (Y.load sh25 rfl rfl rfl rfl) ?_
 refine .gv 121 rfl rfl (Y.fieldAddr fl39_5 rfl rfl) ?_
 refine .gv 121 rfl rfl (Y.load sh3 rfl rfl rfl rfl) ?_
 refine .gv 121 rfl rfl (Y.indexF (m := (c.mem).toNat) sl25 rfl rfl (by first | omega | simp [-List.getD_eq_getElem?_getD] <;> omega) (row_getD (d := default) (by first | omega | simp [-List.getD_eq_getElem?_getD] <;> omega))) ?_
 refine .gv 121 rfl rfl (Y.fieldAddr fl83_2 rfl rfl) ?_
 refine .gv 121 rfl rfl (Y.load sh4 rfl rfl rfl rfl) ?_
 refine .gv 121 rfl rfl (Y.not rfl) ?_
 refine .gv 117 rfl rfl (Y.pick rfl rfl rfl) ?_
 refine .vl (Y.pick rfl rfl rfl) ?_
 refine .vl (Y.assign rfl rfl) ?_
 refine AOps.nil ?_
 refine AWp.ret ?_
 exact ⟨_, _, rfl, rfl, (cg1 (fun (z0 : Bool) => X.v (.bool z0)) (db (by (simp only [Shaped, c77, Int.reduceEq, Bool.not_eq_true, false_and, true_and, and_true, and_false, or_false, false_or, ne_eq]) <;> (first | omega | grind)) : (!((n.streams.getD ((c.mem).toNat) default).out)) = decide (Shaped n c)) : X.v (.bool (!((n.streams.getD ((c.mem).toNat) default).out))) = X.v (.bool (decide (Shaped n c)))), rfl⟩
 refine .gs 117 rfl rfl rfl ?_
 refine .gs 117 rfl rfl rfl ?_
 refine .gs 117 rfl rfl rfl ?_
 refine .gs 117 rfl rfl rfl ?_
 refine .gs 121 rfl rfl rfl ?_
 refine .gs 121 rfl rfl rfl ?_
 refine .gs 121 rfl rfl rfl ?_
 refine .gs 121 rfl rfl rfl ?_
 refine .gs 121 rfl rfl rfl ?_
 refine .gs 121 rfl rfl rfl ?_
 refine .gs 121 rfl rfl rfl ?_
 refine .gs 121 rfl rfl rfl ?_
 refine .gs 117 rfl rfl rfl ?_
 refine .vl (Y.pick rfl rfl rfl) ?_
 refine .vl (Y.assign rfl rfl) ?_
 refine AOps.nil ?_
 refine AWp.ret ?_
 exact ⟨_, _, rfl, rfl, (cg1 (fun (z0 : Bool) => X.v (.bool z0)) (df (by (simp only [Shaped, c77, Int.reduceEq, Bool.not_eq_true, false_and, true_and, and_true, and_false, or_false, false_or, ne_eq]) <;> (first | omega | grind)) : false = decide (Shaped n c)) : X.v (.bool false) = X.v (.bool (decide (Shaped n c)))), rfl⟩
 refine .gs 111 rfl rfl rfl ?_
 refine .gs 111 rfl rfl rfl ?_
 refine .gs 111 rfl rfl rfl ?_
 refine .gs 111 rfl rfl rfl ?_
 refine .vl (Y.pick rfl rfl rfl) ?_
 refine .vl (Y.move rfl rfl) ?_
 refine .gs 117 rfl rfl rfl ?_
 refine .gs 117 rfl rfl rfl ?_
 refine .gs 117 rfl rfl rfl ?_
 refine .gs 117 rfl rfl rfl ?_
 refine .gs 121 rfl rfl rfl ?_
 refine .gs 121 rfl rfl rfl ?_
 refine .gs 121 rfl rfl rfl ?_
 refine .gs 121 rfl rfl rfl ?_
 refine .gs 121 rfl rfl rfl ?_
 refine .gs 121 rfl rfl rfl ?_
 refine .gs 121 rfl rfl rfl ?_
 refine .gs 121 rfl rfl rfl ?_
 refine .gs 117 rfl rfl rfl ?_
 refine .vl (Y.pick rfl rfl rfl) ?_
 refine .vl (Y.assign rfl rfl) ?_
 refine AOps.nil ?_
 refine AWp.ret ?_
 exact ⟨_, _, rfl, rfl, (cg1 (fun (z0 : Bool) => X.v (.bool z0)) (df (by (simp only [Shaped, c77, Int.reduceEq, Bool.not_eq_true, false_and, true_and, and_true, and_false, or_false, false_or, ne_eq]) <;> (first | omega | grind)) : false = decide (Shaped n c)) : X.v (.bool false) = X.v (.bool (decide (Shaped n c)))), rfl⟩
 refine AWp.region ?_
 refine .vl (Y.eql rfl rfl) ?_
 refine .vl (Y.assign rfl rfl) ?_
 refine AOps.nil ?_
 refine AWp.condKD rfl (fun c77 => ?_) (fun c77 => ?_)
 refine AWp.region ?_
 refine .vl (Y.fieldAddr fl27_5 rfl rfl) ?_
 refine .vl (Y.load sh25 rfl rfl rfl rfl) ?_
 refine .vl (Y.len (n := n.streams.length) sl25 rfl (congrArg some (List.length_map ..))) ?_
 refine .vl (Y.assign rfl rfl) ?_
 refine AOps.nil ?_
 refine AWp.seq ?_
 refine AWp.sr ?_
 refine .vl (Y.fieldAddr fl39_3 rfl rfl) ?_
 refine .vl (Y.load sh22 rfl rfl rfl rfl) ?_
 refine .vl (Y.len (n := c.args.length) sl22 rfl (congrArg some (List.length_map ..))) ?_
 refine .vl (Y.move rfl rfl) ?_
 refine .vl (Y.neq rfl rfl) ?_
 refine .vl (Y.move rfl rfl) ?_
 refine AOps.splitD (d := 88) rfl (fun c88 => ?_) (fun c88 => ?_)
 refine .gs 88 rfl rfl rfl ?_
 refine .gs 88 rfl rfl rfl ?_
 refine .gs 88 rfl rfl rfl ?_
 refine .gs 88 rfl rfl rfl ?_
 refine .vl (Y.pick rfl rfl rfl) ?_
 refine .vl (Y.move rfl rfl) ?_
 refine .gs 94 rfl rfl rfl ?_
 refine .gs 94 rfl rfl rfl ?_
 refine .gs 94 rfl rfl rfl ?_
 refine .gs 94 rfl rfl rfl ?_
 refine .gs 98 rfl rfl rfl ?_
 refine .gs 98 rfl rfl rfl ?_
 refine .gs 94 rfl rfl rfl ?_
 refine .vl (Y.pick rfl rfl rfl) ?_
 refine AOps.nil ?_
 refine AWp.condT rfl ?_
 refine AWp.sr ?_
 refine .vl (Y.assign rfl rfl) ?_
 refine AOps.nil ?_
 refine AWp.ret ?_
 exact ⟨_, _, rfl, rfl, (cg1 (fun (z0 : Bool) => X.v (.bool z0)) (df (by (simp only [Shaped, c77, Int.reduceEq, Bool.not_eq_true, false_and, true_and, and_true, and_false, or_false, false_or, ne_eq]) <;> (first | omega | grind)) : false = decide (Shaped n c)) : X.v (.bool false) = X.v (.bool (decide (Shaped n c)))), rfl⟩
 refine .gv 88 rfl rfl (Y.fieldAddr fl39_1 rfl rfl) ?_
 refine .gv 88 rfl rfl (Y.load sh3 rfl rfl rfl rfl) ?_
 refine .gv 88 rfl rfl (Y.move rfl rfl) ?_
 refine .gv 88 rfl rfl (Y.neq rfl rfl) ?_
 refine .vl (Y.pick rfl rfl rfl) ?_
 refine .vl (Y.move rfl rfl) ?_
 refine AOps.splitD (d := 94) rfl (fun c94 => ?_) (fun c94 => ?_)
 refine .gs 94 rfl rfl rfl ?_
 refine .gs 94 rfl rfl rfl ?_
 refine .gs 94 rfl rfl rfl ?_
 refine .gs 94 rfl rfl rfl ?_
 refine .gs 98 rfl rfl rfl ?_
 refine .gs 98 rfl rfl rfl ?_
 refine .gs 94 rfl rfl rfl ?_
 refine .vl (Y.pick rfl rfl rfl) ?_
 refine AOps.nil ?_
 refine AWp.condT rfl ?_
 refine AWp.sr ?_
 refine .vl (Y.assign rfl rfl) ?_
 refine AOps.nil ?_
 refine AWp.ret ?_
 exact ⟨_, _, rfl, rfl, (cg1 (fun (z0 : Bool) => X.v (.bool z0)) (df (by (simp only [Shaped, c77, Int.reduceEq, Bool.not_eq_true, false_and, true_and, and_true, and_false, or_false, false_or, ne_eq]) <;> (first | omega | grind)) : false = decide (Shaped n c)) : X.v (.bool false) = X.v (.bool (decide (Shaped n c)))), rfl⟩
 refine .gv 94 rfl rfl (Y.fieldAddr fl39_4 rfl rfl) ?_
 refine .gv 94 rfl rfl (Y.load sh37 rfl rfl rfl rfl) ?_
 refine .gv 94 rfl rfl (Y.neq rfl rfl) ?_
 refine .gv 94 rfl rfl (Y.move rfl rfl) ?_
 refine AOps.splitD (d := 98) rfl (fun c98 => ?_) (fun c98 => ?_)
 refine .gv 98 rfl rfl (Y.move rfl rfl) ?_
 refine .gv 98 rfl rfl (Y.not rfl) ?_
 refine .gv 94 rfl rfl (Y.pick rfl rfl rfl) ?_
 refine .vl (Y.pick rfl rfl rfl) ?_
 refine AOps.nil ?_
 refine AWp.condT rfl ?_
 refine AWp.sr ?_
 refine .vl (Y.assign rfl rfl) ?_
 refine AOps.nil ?_
 refine AWp.ret ?_
 exact ⟨_, _, rfl, rfl, (cg1 (fun (z0 : Bool) => X.v (.bool z0)) (df (by (simp only [Shaped, c77, Int.reduceEq, Bool.not_eq_true, false_and, true_and, and_true, and_false, or_false, false_or, ne_eq]) <;> (first | omega | grind)) : false = decide (Shaped n c)) : X.v (.bool false) = X.v (.bool (decide (Shaped n c)))), rfl⟩
 refine .gs 98 rfl rfl rfl ?_
 refine .gs 98 rfl rfl rfl ?_
 refine .gv 94 rfl rfl (Y.pick rfl rfl rfl) ?_
 refine .vl (Y.pick rfl rfl rfl) ?_
 refine AOps.nil ?_
 refine AWp.condF rfl ?_
 refine AWp.skip ?_
 refine AWp.seq ?_
 refine AWp.sr ?_
 refine .vl (Y.move rfl rfl) ?_
 refine .vl (Y.lss rfl rfl) ?_
 refine AOps.nil ?_
 refine AWp.condD rfl (fun c104 => ?_) (fun c104 => ?_)
 refine AWp.sr ?_
 refine .vl (Y.fieldAddr fl39_5 rfl rfl) ?_
 refine .vl (Y.load sh3 rfl rfl rfl rfl) ?_
 refine .vl (Y.eql rfl rfl) ?_
 refine .vl (Y.assign rfl rfl) ?_
 refine AOps.nil ?_
 refine AWp.ret ?_
 exact ⟨_, _, rfl, rfl, (cg1 (fun (z0 : Bool) => X.v (.bool z0)) (dd (by (simp only [Shaped, c77, Int.reduceEq, Bool.not_eq_true, false_and, true_and, and_true, and_false, or_false, false_or, ne_eq]) <;> (first | omega | grind)) : (decide (c.mem = 0)) = decide (Shaped n c)) : X.v (.bool (decide (c.mem = 0))) = X.v (.bool (decide (Shaped n c)))), rfl⟩
 refine AWp.skip ?_
 refine AWp.sr ?_
 refine .vl (Y.fieldAddr fl39_5 rfl rfl) ?_
 refine .vl (Y.load sh3 rfl rfl rfl rfl) ?_
 refine .vl (Y.geq rfl rfl) ?_
 refine .vl (Y.move rfl rfl) ?_
 refine AOps.splitD (d := 111) rfl (fun c111 => ?_) (fun c111 => ?_)
 refine .gv 111 rfl rfl (Y.fieldAddr fl39_5 rfl rfl) ?_
 refine .gv 111 rfl rfl (Y.load sh3 rfl rfl rfl rfl) ?_
 refine .gv 111 rfl rfl (Y.move rfl rfl) ?_
 refine .gv 111 rfl rfl (Y.lss rfl rfl) ?_
 refine .vl (Y.pick rfl rfl rfl) ?_
 refine .vl (Y.move rfl rfl) ?_
 refine AOps.splitD (d := 117) rfl (fun c117 => ?_) (fun c117 => ?_)
 refine .gv 117 rfl rfl (Y.fieldAddr fl39_0 rfl rfl) ?_
 refine .gv 117 rfl rfl (Y.load sh3 rfl rfl rfl rfl) ?_
 refine .gv 117 rfl rfl (Y.neq rfl rfl) ?_
 refine .gv 117 rfl rfl (Y.move rfl rfl) ?_
 refine AOps.splitD (d := 121) rfl (fun c121 => ?_) (fun c121 => ?_)
 refine .gs 121 rfl rfl rfl ?_
 refine .gs 121 rfl rfl rfl ?_
 refine .gs 121 rfl rfl rfl ?_
 refine .gs 121 rfl rfl rfl ?_
 refine .gs 121 rfl rfl rfl ?_
 refine .gs 121 rfl rfl rfl ?_
 refine .gs 121 rfl rfl rfl ?_
 refine .gs 121 rfl rfl rfl ?_
 refine .gv 117 rfl rfl (Y.pick rfl rfl rfl) ?_
 refine .vl (Y.pick rfl rfl rfl) ?_
 refine .vl (Y.assign rfl rfl) ?_
 refine AOps.nil ?_
 refine AWp.ret ?_
 exact ⟨_, _, rfl, rfl, (cg1 (fun (z0 : Bool) => X.v (.bool z0)) (dt (by (simp only [Shaped, c77, Int.reduceEq, Bool.not_eq_true, false_and, true_and, and_true, and_false, or_false, false_or, ne_eq]) <;> (first | omega | grind)) : true = decide (Shaped n c)) : X.v (.bool true) = X.v (.bool (decide (Shaped n c)))), rfl⟩
 refine .gv 121 rfl rfl (Y.fieldAddr fl27_5 rfl rfl) ?_
 refine .gv 121 rfl rfl (Y.load sh25 rfl rfl rfl rfl) ?_
 refine .gv 121 rfl rfl (Y.fieldAddr fl39_5 rfl rfl) ?_
 refine .gv 121 rfl rfl (Y.load sh3 rfl rfl rfl rfl) ?_
 refine .gv 121 rfl rfl (Y.indexF (m := (c.mem).toNat) sl25 rfl rfl (by first | omega | simp [-List.getD_eq_getElem?_getD] <;> omega) (row_getD (d := default) (by first | omega | simp [-List.getD_eq_getElem?_getD] <;> omega))) ?_
 refine .gv 121 rfl rfl (Y.fieldAddr fl83_2 rfl rfl) ?_
 refine .gv 121 rfl rfl (Y.load sh4 rfl rfl rfl rfl) ?_
 refine .gv 121 rfl rfl (Y.not rfl) ?_
 refine .gv 117 rfl rfl (Y.pick rfl rfl rfl) ?_
 refine .vl (Y.pick rfl rfl rfl) ?_
 refine .vl (Y.assign rfl rfl) ?_
 refine AOps.nil ?_
 refine AWp.ret ?_
 exact ⟨_, _, rfl, rfl, (cg1 (fun (z0 : Bool) => X.v (.bool z0)) (db (by (simp only [Shaped, c77, Int.reduceEq, Bool.not_eq_true, false_and, true_and, and_true, and_false, or_false, false_or, ne_eq]) <;> (first | omega | grind)) : (!((n.streams.getD ((c.mem).toNat) default).out)) = decide (Shaped n c)) : X.v (.bool (!((n.streams.getD ((c.mem).toNat) default).out))) = X.v (.bool (decide (Shaped n c)))), rfl⟩
 refine .gs 117 rfl rfl rfl ?_
 refine .gs 117 rfl rfl rfl ?_
 refine .gs 117 rfl rfl rfl ?_
 refine .gs 117 rfl rfl rfl ?_
 refine .gs 121 rfl rfl rfl ?_
 refine .gs 121 rfl rfl rfl ?_
 refine .gs 121 rfl rfl rfl ?_
 refine .gs 121 rfl rfl rfl ?_
 refine .gs 121 rfl rfl rfl ?_
 refine .gs 121 rfl rfl rfl ?_
 refine .gs 121 rfl rfl rfl ?_
 refine .gs 121 rfl rfl rfl ?_
 refine .gs 117 rfl rfl rfl ?_
 refine .vl (Y.pick rfl rfl rfl) ?_
 refine .vl (Y.assign rfl rfl) ?_
 refine AOps.nil ?_
 refine AWp.ret ?_
 exact ⟨_, _, rfl, rfl, (cg1 (fun (z0 : Bool) => X.v (.bool z0)) (df (by (simp only [Shaped, c77, Int.reduceEq, Bool.not_eq_true, false_and, true_and, and_true, and_false, or_false, false_or, ne_eq]) <;> (first | omega | grind)) : false = decide (Shaped n c)) : X.v (.bool false) = X.v (.bool (decide (Shaped n c)))), rfl⟩
 refine .gs 111 rfl rfl rfl ?_
 refine .gs 111 rfl rfl rfl ?_
 refine .gs 111 rfl rfl rfl ?_
 refine .gs 111 rfl rfl rfl ?_
 refine .vl (Y.pick rfl rfl rfl) ?_
 refine .vl (Y.move rfl rfl) ?_
 refine .gs 117 rfl rfl rfl ?_
 refine .gs 117 rfl rfl rfl ?_
 refine .gs 117 rfl rfl rfl ?_
 refine .gs 117 rfl rfl rfl ?_
 refine .gs 121 rfl rfl rfl ?_
 refine .gs 121 rfl rfl rfl ?_
 refine .gs 121 rfl rfl rfl ?_
 refine .gs 121 rfl rfl rfl ?_
 refine .gs 121 rfl rfl rfl ?_
 refine .gs 121 rfl rfl rfl ?_
 refine .gs 121 rfl rfl rfl ?_
 refine .gs 121 rfl rfl rfl ?_
 refine .gs 117 rfl rfl rfl ?_
 refine .vl (Y.pick rfl rfl rfl) ?_
 refine .vl (Y.assign rfl rfl) ?_
 refine AOps.nil ?_
 refine AWp.ret ?_
 exact ⟨_, _, rfl, rfl, (cg1 (fun (z0 : Bool) => X.v (.bool z0)) (df (by (simp only [Shaped, c77, Int.reduceEq, Bool.not_eq_true, false_and, true_and, and_true, and_false, or_false, false_or, ne_eq]) <;> (first | omega | grind)) : false = decide (Shaped n c)) : X.v (.bool false) = X.v (.bool (decide (Shaped n c)))), rfl⟩
 refine AWp.sr ?_
 refine .vl (Y.assign rfl rfl) ?_
 refine AOps.nil ?_
 refine AWp.ret ?_
 exact ⟨_, _, rfl, rfl, (cg1 (fun (z0 : Bool) => X.v (.bool z0)) (df (by (simp only [Shaped, c11, c13, c22, c34, c36, c58, c63, c68, c77, c77, Int.reduceEq, Bool.not_eq_true, false_and, true_and, and_true, and_false, or_false, false_or, ne_eq]) <;> (first | omega | grind)) : false = decide (Shaped n c)) : X.v (.bool false) = X.v (.bool (decide (Shaped n c)))), rfl⟩

end Go.Proofs.Ytligpghohcfpnaa
/- Walks through the searches of slices. -/
namespace Go.Proofs.Ytligpghohcfpnaa
open Go Go.AW Go.Proofs



set_option maxHeartbeats 1000000 in
theorem indexFuncInt_spec {l : List Int} {p : Int → Bool} {g : Nat} {row : List X} (hl : l.length ≤ 17592186043904) (hok : callOK Try.prog g = true) (hg : ∀ z ∈ l, ACalls Try.prog g [.v (.int .i64 z), .fp row 0] [] [] (fun r o => r = .v (.bool (p z)) ∧ o = [])) : ACalls Try.prog 123 [.fz 1 (l.map irow), .clo (.func g) [] [.fp row 0]] [] [] (fun r o => r = .v (.int .i64 (idxF p l)) ∧ o = []) := by
 refine ACalls.of Try.func123 rfl rfl rfl (n := 19) (by decide) (Nat.le_of_ble_eq_true rfl) ?_
 refine AWp.sr ?_
 refine .vl (Y.assign rfl rfl) ?_
 refine AOps.nil ?_
 refine AWp.seq ?_
 refine AWp.sr ?_
 refine .vl (Y.move rfl rfl) ?_
 refine .vl (Y.len (n := l.length) sl22 rfl (congrArg some (List.length_map ..))) ?_
 refine .vl (Y.move rfl rfl) ?_
 refine AOps.nil ?_
 refine AWp.block ?_
 refine AWp.loop1 (fun (n8_2 : Nat) => ⟨[(0, .fz 1 (l.map irow)), (1, .clo (.func g) [] [.fp row 0]), (7, .v (.int .i64 ((l.length : Nat) : Int))), (8, .v (.int .i64 (n8_2 : Int)))], []⟩) (fun (n8_2 : Nat) => ((n8_2 : Int) ≤ ((l.length : Nat) : Int)) ∧ (∀ j, j < n8_2 → p (l.getD j 0) = false)) (fun (n8_2 : Nat) => (((l.length : Nat) : Int) - (n8_2 : Int)).toNat) 0 (⟨by first | omega | (simp [-List.getD_eq_getElem?_getD]; done) | (simp [-List.getD_eq_getElem?_getD]; omega), fun j hj => by omega⟩) (Le.mk (SubL.cons rfl (SubL.cons rfl (SubL.cons rfl (SubL.cons (look_int rfl (by first | rfl | omega)) (SubL.nil))))) (SubL.nil)) (fun n8_2 hI2 => ?_)
 obtain ⟨hb2, h0⟩ := hI2
 refine AWp.sr ?_
 refine .vl (Y.lss rfl rfl) ?_
 refine AOps.nil ?_
 refine AWp.seq ?_
 refine AWp.condD rfl (fun c9 => ?_) (fun c9 => ?_)
 refine AWp.skip ?_
 refine AWp.seq ?_
 refine AWp.block ?_
 refine AWp.sr ?_
 refine .vl (Y.move rfl rfl) ?_
 refine .vl (Y.assign rfl rfl) ?_
 refine AOps.nil ?_
 refine AWp.sr ?_
 refine .vl (Y.move rfl rfl) ?_
 refine .vl (Y.move rfl rfl) ?_
 refine .vl (Y.move rfl rfl) ?_
 refine .vl (Y.indexF (m := n8_2) sl22 rfl rfl (by first | rfl | omega) (row_getD (d := 0) (by first | omega | simp [-List.getD_eq_getElem?_getD] <;> omega))) ?_
 refine .vl (Y.load sh3 rfl rfl rfl rfl) ?_
 refine AOps.callCP rfl hok (hg _ (getD_mem' (by omega))) rfl (.keep rfl rfl (.keep rfl rfl .nil)) (by decide) rfl ?_
 refine AOps.nil ?_
 refine AWp.cond rfl (fun c16 => ?_) (fun c16 => ?_)
 refine AWp.sr ?_
 refine .vl (Y.move rfl rfl) ?_
 refine .vl (Y.assign rfl rfl) ?_
 refine AOps.nil ?_
 refine AWp.ret ?_
 exact ⟨_, _, rfl, rfl, (cg1 (fun (z0 : Int) => X.v (.int .i64 z0)) (idxF_found h0 (by omega) c16 : (n8_2 : Int) = idxF p l) : X.v (.int .i64 (n8_2 : Int)) = X.v (.int .i64 (idxF p l))), rfl⟩
 refine AWp.skip ?_
 refine AWp.region ?_
 refine .vl (Y.addI rfl rfl (by first | omega | simp [-List.getD_eq_getElem?_getD] <;> omega)) ?_
 refine .vl (Y.move rfl rfl) ?_
 refine AOps.nil ?_
 exact ⟨n8_2 + 1, ⟨by first | omega | (simp [-List.getD_eq_getElem?_getD]; done) | (simp [-List.getD_eq_getElem?_getD]; omega), below_false h0 c16⟩, by omega, Le.mk (SubL.cons rfl (SubL.cons rfl (SubL.cons rfl (SubL.cons (look_int rfl (by first | rfl | omega)) (SubL.nil))))) (SubL.nil)⟩
 refine AWp.exit ?_
 refine AWp.sr ?_
 refine .vl (Y.assign rfl rfl) ?_
 refine AOps.nil ?_
 refine AWp.ret ?_
 exact ⟨_, _, rfl, rfl, (cg1 (fun (z0 : Int) => X.v (.int .i64 z0)) (idxF_none (fun j hj => h0 j (by omega)) : (-1) = idxF p l) : X.v (.int .i64 (-1)) = X.v (.int .i64 (idxF p l))), rfl⟩

set_option maxHeartbeats 1000000 in
theorem containsFuncInt_spec {l : List Int} {p : Int → Bool} {g : Nat} {row : List X} (hl : l.length ≤ 17592186043904) (hok : callOK Try.prog g = true) (hg : ∀ z ∈ l, ACalls Try.prog g [.v (.int .i64 z), .fp row 0] [] [] (fun r o => r = .v (.bool (p z)) ∧ o = [])) : ACalls Try.prog 95 [.fz 1 (l.map irow), .clo (.func g) [] [.fp row 0]] [] [] (fun r o => r = .v (.bool (l.any p)) ∧ o = []) := by
 refine ACalls.of Try.func95 rfl rfl rfl (n := 9) (by decide) (Nat.le_of_ble_eq_true rfl) ?_
 refine AWp.sr ?_
 refine .vl (Y.assign rfl rfl) ?_
 refine AOps.nil ?_
 refine AWp.sr ?_
 refine .vl (Y.move rfl rfl) ?_
 refine .vl (Y.move rfl rfl) ?_
 refine AOps.callP ok123 (indexFuncInt_spec (l := l) hl hok hg) rfl (.keep rfl rfl (.keep rfl rfl .nil)) (by decide) rfl ?_
 refine .vl (Y.geq rfl rfl) ?_
 refine .vl (Y.assign rfl rfl) ?_
 refine AOps.nil ?_
 refine AWp.ret ?_
 exact ⟨_, _, rfl, rfl, (cg1 (fun (z0 : Bool) => X.v (.bool z0)) (idxF_any : (decide (0 ≤ (idxF p l))) = l.any p) : X.v (.bool (decide (0 ≤ (idxF p l)))) = X.v (.bool (l.any p))), rfl⟩

set_option maxHeartbeats 1000000 in
theorem indexFuncCell_spec {l : List Cell} {p : Cell → Bool} {g : Nat} {row : List X} (hl : l.length ≤ 17592186043904) (hok : callOK Try.prog g = true) (hg : ∀ z ∈ l, ACalls Try.prog g [.agg (Cell.row z), .fp row 0] [] [] (fun r o => r = .v (.bool (p z)) ∧ o = [])) : ACalls Try.prog 126 [.fz 6 (l.map Cell.row), .clo (.func g) [] [.fp row 0]] [] [] (fun r o => r = .v (.int .i64 (idxF p l)) ∧ o = []) := by
 refine ACalls.of Try.func126 rfl rfl rfl (n := 19) (by decide) (Nat.le_of_ble_eq_true rfl) ?_
 refine AWp.sr ?_
 refine .vl (Y.assign rfl rfl) ?_
 refine AOps.nil ?_
 refine AWp.seq ?_
 refine AWp.sr ?_
 refine .vl (Y.move rfl rfl) ?_
 refine .vl (Y.len (n := l.length) sl23 rfl (congrArg some (List.length_map ..))) ?_
 refine .vl (Y.move rfl rfl) ?_
 refine AOps.nil ?_
 refine AWp.block ?_
 refine AWp.loop1 (fun (n8_2 : Nat) => ⟨[(0, .fz 6 (l.map Cell.row)), (1, .clo (.func g) [] [.fp row 0]), (7, .v (.int .i64 ((l.length : Nat) : Int))), (8, .v (.int .i64 (n8_2 : Int)))], []⟩) (fun (n8_2 : Nat) => ((n8_2 : Int) ≤ ((l.length : Nat) : Int)) ∧ (∀ j, j < n8_2 → p (l.getD j default) = false)) (fun (n8_2 : Nat) => (((l.length : Nat) : Int) - (n8_2 : Int)).toNat) 0 (⟨by first | omega | (simp [-List.getD_eq_getElem?_getD]; done) | (simp [-List.getD_eq_getElem?_getD]; omega), fun j hj => by omega⟩) (Le.mk (SubL.cons rfl (SubL.cons rfl (SubL.cons rfl (SubL.cons (look_int rfl (by first | rfl | omega)) (SubL.nil))))) (SubL.nil)) (fun n8_2 hI2 => ?_)
 obtain ⟨hb2, h0⟩ := hI2
 refine AWp.sr ?_
 refine .vl (Y.lss rfl rfl) ?_
 refine AOps.nil ?_
 refine AWp.seq ?_
 refine AWp.condD rfl (fun c9 => ?_) (fun c9 => ?_)
 refine AWp.skip ?_
 refine AWp.seq ?_
 refine AWp.block ?_
 refine AWp.sr ?_
 refine .vl (Y.move rfl rfl) ?_
 refine .vl (Y.assign rfl rfl) ?_
 refine AOps.nil ?_
 refine AWp.sr ?_
 refine .vl (Y.move rfl rfl) ?_
 refine .vl (Y.move rfl rfl) ?_
 refine .vl (Y.move rfl rfl) ?_
 refine .vl (Y.indexF (m := n8_2) sl23 rfl rfl (by first | rfl | omega) (row_getD (d := default) (by first | omega | simp [-List.getD_eq_getElem?_getD] <;> omega))) ?_
 refine .vl (Y.loadA sh39 rfl rfl (Nat.le_of_ble_eq_true rfl) rfl rfl) ?_
 refine AOps.callCP rfl hok (hg _ (getD_mem' (by omega))) rfl (.keep rfl rfl (.keep rfl rfl .nil)) (by decide) rfl ?_
 refine AOps.nil ?_
 refine AWp.cond rfl (fun c16 => ?_) (fun c16 => ?_)
 refine AWp.sr ?_
 refine .vl (Y.move rfl rfl) ?_
 refine .vl (Y.assign rfl rfl) ?_
 refine AOps.nil ?_
 refine AWp.ret ?_
 exact ⟨_, _, rfl, rfl, (cg1 (fun (z0 : Int) => X.v (.int .i64 z0)) (idxF_found h0 (by omega) c16 : (n8_2 : Int) = idxF p l) : X.v (.int .i64 (n8_2 : Int)) = X.v (.int .i64 (idxF p l))), rfl⟩
 refine AWp.skip ?_
 refine AWp.region ?_
 refine .vl (Y.addI rfl rfl (by first | omega | simp [-List.getD_eq_getElem?_getD] <;> omega)) ?_
 refine .vl (Y.move rfl rfl) ?_
 refine AOps.nil ?_
 exact ⟨n8_2 + 1, ⟨by first | omega | (simp [-List.getD_eq_getElem?_getD]; done) | (simp [-List.getD_eq_getElem?_getD]; omega), below_false h0 c16⟩, by omega, Le.mk (SubL.cons rfl (SubL.cons rfl (SubL.cons rfl (SubL.cons (look_int rfl (by first | rfl | omega)) (SubL.nil))))) (SubL.nil)⟩
 refine AWp.exit ?_
 refine AWp.sr ?_
 refine .vl (Y.assign rfl rfl) ?_
 refine AOps.nil ?_
 refine AWp.ret ?_
 exact ⟨_, _, rfl, rfl, (cg1 (fun (z0 : Int) => X.v (.int .i64 z0)) (idxF_none (fun j hj => h0 j (by omega)) : (-1) = idxF p l) : X.v (.int .i64 (-1)) = X.v (.int .i64 (idxF p l))), rfl⟩

set_option maxHeartbeats 1000000 in
theorem containsFuncCell_spec {l : List Cell} {p : Cell → Bool} {g : Nat} {row : List X} (hl : l.length ≤ 17592186043904) (hok : callOK Try.prog g = true) (hg : ∀ z ∈ l, ACalls Try.prog g [.agg (Cell.row z), .fp row 0] [] [] (fun r o => r = .v (.bool (p z)) ∧ o = [])) : ACalls Try.prog 100 [.fz 6 (l.map Cell.row), .clo (.func g) [] [.fp row 0]] [] [] (fun r o => r = .v (.bool (l.any p)) ∧ o = []) := by
 refine ACalls.of Try.func100 rfl rfl rfl (n := 9) (by decide) (Nat.le_of_ble_eq_true rfl) ?_
 refine AWp.sr ?_
 refine .vl (Y.assign rfl rfl) ?_
 refine AOps.nil ?_
 refine AWp.sr ?_
 refine .vl (Y.move rfl rfl) ?_
 refine .vl (Y.move rfl rfl) ?_
 refine AOps.callP ok126 (indexFuncCell_spec (l := l) hl hok hg) rfl (.keep rfl rfl (.keep rfl rfl .nil)) (by decide) rfl ?_
 refine .vl (Y.geq rfl rfl) ?_
 refine .vl (Y.assign rfl rfl) ?_
 refine AOps.nil ?_
 refine AWp.ret ?_
 exact ⟨_, _, rfl, rfl, (cg1 (fun (z0 : Bool) => X.v (.bool z0)) (idxF_any : (decide (0 ≤ (idxF p l))) = l.any p) : X.v (.bool (decide (0 ≤ (idxF p l)))) = X.v (.bool (l.any p))), rfl⟩

set_option maxHeartbeats 1000000 in
theorem indexBool_spec {l : List Bool} {b : Bool} (hl : l.length ≤ 140737488351232) : ACalls Try.prog 125 [.fz 1 (l.map brow), .v (.bool b)] [] [] (fun r o => r = .v (.int .i64 (idxF (fun x => b == x) l)) ∧ o = []) := by
 refine ACalls.of Try.func125 rfl rfl rfl (n := 19) (by decide) (Nat.le_of_ble_eq_true rfl) ?_
 refine AWp.sr ?_
 refine .vl (Y.assign rfl rfl) ?_
 refine AOps.nil ?_
 refine AWp.seq ?_
 refine AWp.sr ?_
 refine .vl (Y.move rfl rfl) ?_
 refine .vl (Y.len (n := l.length) sl63 rfl (congrArg some (List.length_map ..))) ?_
 refine .vl (Y.move rfl rfl) ?_
 refine AOps.nil ?_
 refine AWp.block ?_
 refine AWp.loop1 (fun (n8_2 : Nat) => ⟨[(0, .fz 1 (l.map brow)), (1, .v (.bool b)), (7, .v (.int .i64 ((l.length : Nat) : Int))), (8, .v (.int .i64 (n8_2 : Int)))], []⟩) (fun (n8_2 : Nat) => ((n8_2 : Int) ≤ ((l.length : Nat) : Int)) ∧ (∀ j, j < n8_2 → (fun x => b == x) (l.getD j false) = false)) (fun (n8_2 : Nat) => (((l.length : Nat) : Int) - (n8_2 : Int)).toNat) 0 (⟨by first | omega | (simp [-List.getD_eq_getElem?_getD]; done) | (simp [-List.getD_eq_getElem?_getD]; omega), fun j hj => by omega⟩) (Le.mk (SubL.cons rfl (SubL.cons rfl (SubL.cons rfl (SubL.cons (look_int rfl (by first | rfl | omega)) (SubL.nil))))) (SubL.nil)) (fun n8_2 hI2 => ?_)
 obtain ⟨hb2, h0⟩ := hI2
 refine AWp.sr ?_
 refine .vl (Y.lss rfl rfl) ?_
 refine AOps.nil ?_
 refine AWp.seq ?_
 refine AWp.condD rfl (fun c9 => ?_) (fun c9 => ?_)
 refine AWp.skip ?_
 refine AWp.seq ?_
 refine AWp.block ?_
 refine AWp.sr ?_
 refine .vl (Y.move rfl rfl) ?_
 refine .vl (Y.assign rfl rfl) ?_
 refine AOps.nil ?_
 refine AWp.sr ?_
 refine .vl (Y.move rfl rfl) ?_
 refine .vl (Y.move rfl rfl) ?_
 refine .vl (Y.move rfl rfl) ?_
 refine .vl (Y.indexF (m := n8_2) sl63 rfl rfl (by first | rfl | omega) (row_getD (d := false) (by first | omega | simp [-List.getD_eq_getElem?_getD] <;> omega))) ?_
 refine .vl (Y.load sh4 rfl rfl rfl rfl) ?_
 refine .vl (Y.eqlB un4 rfl rfl) ?_
 refine AOps.nil ?_
 refine AWp.cond rfl (fun c16 => ?_) (fun c16 => ?_)
 refine AWp.sr ?_
 refine .vl (Y.move rfl rfl) ?_
 refine .vl (Y.assign rfl rfl) ?_
 refine AOps.nil ?_
 refine AWp.ret ?_
 exact ⟨_, _, rfl, rfl, (cg1 (fun (z0 : Int) => X.v (.int .i64 z0)) (idxF_found (d := false) h0 (by omega) c16 : (n8_2 : Int) = idxF (fun x => b == x) l) : X.v (.int .i64 (n8_2 : Int)) = X.v (.int .i64 (idxF (fun x => b == x) l))), rfl⟩
 refine AWp.skip ?_
 refine AWp.region ?_
 refine .vl (Y.addI rfl rfl (by first | omega | simp [-List.getD_eq_getElem?_getD] <;> omega)) ?_
 refine .vl (Y.move rfl rfl) ?_
 refine AOps.nil ?_
 exact ⟨n8_2 + 1, ⟨by first | omega | (simp [-List.getD_eq_getElem?_getD]; done) | (simp [-List.getD_eq_getElem?_getD]; omega), below_false h0 c16⟩, by omega, Le.mk (SubL.cons rfl (SubL.cons rfl (SubL.cons rfl (SubL.cons (look_int rfl (by first | rfl | omega)) (SubL.nil))))) (SubL.nil)⟩
 refine AWp.exit ?_
 refine AWp.sr ?_
 refine .vl (Y.assign rfl rfl) ?_
 refine AOps.nil ?_
 refine AWp.ret ?_
 exact ⟨_, _, rfl, rfl, (cg1 (fun (z0 : Int) => X.v (.int .i64 z0)) (idxF_none (d := false) (fun j hj => h0 j (by omega)) : (-1) = idxF (fun x => b == x) l) : X.v (.int .i64 (-1)) = X.v (.int .i64 (idxF (fun x => b == x) l))), rfl⟩

set_option maxHeartbeats 1000000 in
theorem containsBool_spec {l : List Bool} {b : Bool} (hl : l.length ≤ 140737488351232) : ACalls Try.prog 99 [.fz 1 (l.map brow), .v (.bool b)] [] [] (fun r o => r = .v (.bool (l.any (fun x => b == x))) ∧ o = []) := by
 refine ACalls.of Try.func99 rfl rfl rfl (n := 9) (by decide) (Nat.le_of_ble_eq_true rfl) ?_
 refine AWp.sr ?_
 refine .vl (Y.assign rfl rfl) ?_
 refine AOps.nil ?_
 refine AWp.sr ?_
 refine .vl (Y.move rfl rfl) ?_
 refine .vl (Y.move rfl rfl) ?_
 refine AOps.callP ok125 (indexBool_spec (l := l) (b := b) ((by first | omega | simp [-List.getD_eq_getElem?_getD] <;> omega))) rfl (.keep rfl rfl (.keep rfl rfl .nil)) (by decide) rfl ?_
 refine .vl (Y.geq rfl rfl) ?_
 refine .vl (Y.assign rfl rfl) ?_
 refine AOps.nil ?_
 refine AWp.ret ?_
 exact ⟨_, _, rfl, rfl, (cg1 (fun (z0 : Bool) => X.v (.bool z0)) (idxF_any : (decide (0 ≤ (idxF (fun x => b == x) l))) = l.any (fun x => b == x)) : X.v (.bool (decide (0 ≤ (idxF (fun x => b == x) l)))) = X.v (.bool (l.any (fun x => b == x)))), rfl⟩

end Go.Proofs.Ytligpghohcfpnaa
/- Walks through slices.Concat. -/
namespace Go.Proofs.Ytligpghohcfpnaa
open Go Go.AW Go.Proofs



set_option maxHeartbeats 1000000 in
theorem grow_spec {n : Nat} (hn : n ≤ 35184372088832) : ACalls Try.prog 108 [.v (.slice none 0 0), .v (.int .i64 (n : Int))] [] [] (fun r o => r = .uni 1 (([] : List Int).map irow) ∧ o = []) := by
 refine ACalls.of Try.func108 rfl rfl rfl (n := 27) (by decide) (Nat.le_of_ble_eq_true rfl) ?_
 refine AWp.sr ?_
 refine .vl (Y.assign rfl rfl) ?_
 refine AOps.nil ?_
 refine AWp.seq ?_
 refine AWp.sr ?_
 refine .vl (Y.move rfl rfl) ?_
 refine .vl (Y.lss rfl rfl) ?_
 refine AOps.nil ?_
 refine AWp.condD rfl (fun c6 => ?_) (fun c6 => ?_)
 exfalso; omega
 refine AWp.skip ?_
 refine AWp.seq ?_
 refine AWp.sr ?_
 refine .vl (Y.move rfl rfl) ?_
 refine .vl (Y.move rfl rfl) ?_
 refine .vl (Y.capNil sl22 rfl) ?_
 refine .vl (Y.move rfl rfl) ?_
 refine .vl (Y.len (n := 0) sl22 rfl rfl) ?_
 refine .vl (Y.subI rfl rfl (by first | omega | simp [-List.getD_eq_getElem?_getD] <;> omega)) ?_
 refine .vl (Y.subI rfl rfl (by first | omega | simp [-List.getD_eq_getElem?_getD] <;> omega)) ?_
 refine .vl (Y.assign rfl rfl) ?_
 refine AOps.nil ?_
 refine AWp.sr ?_
 refine .vl (Y.move rfl rfl) ?_
 refine .vl (Y.gtr rfl rfl) ?_
 refine AOps.nil ?_
 refine AWp.condD rfl (fun c16 => ?_) (fun c16 => ?_)
 refine AWp.region ?_
 refine .vl (Y.move rfl rfl) ?_
 refine .vl (Y.move rfl rfl) ?_
 refine .vl (Y.capNil sl22 rfl) ?_
 refine .vl (Y.sliceNil sl22 rfl (.none _) (.some rfl)) ?_
 refine .vl (Y.move rfl rfl) ?_
 refine AOps.appendMake (n := (((n : Int) - (0 - 0)).toNat)) sl22 ze3 rfl rfl ii3 rfl (by first | rfl | (rw [show ((n : Int) - (0 - 0) : Int) = ((((n : Int) - (0 - 0)).toNat : Nat) : Int) by omega]; rfl)) (by first | omega | simp [-List.getD_eq_getElem?_getD] <;> omega) (by decide) (by first | omega | simp [-List.getD_eq_getElem?_getD] <;> omega) (by first | omega | simp [-List.getD_eq_getElem?_getD] <;> omega) (by decide) ?_
 refine .vl (Y.move rfl rfl) ?_
 refine .vl (Y.len (n := 0) sl22 rfl rfl) ?_
 refine AOps.sh (Sh.adoptE (d := 22) (n := (List.replicate (((n : Int) - (0 - 0)).toNat) 0).length) 122 ((List.replicate (((n : Int) - (0 - 0)).toNat) 0).map irow) rfl (by first | rfl | exact rep_map rfl) (len_map rfl) (by decide)) ?_
 refine .vl (Y.sliceO (l := 0) (h := 0) sl22 rfl (.none _) (.some rfl) (by first | omega | simp [-List.getD_eq_getElem?_getD] <;> omega) (by first | omega | simp [-List.getD_eq_getElem?_getD] <;> omega)) ?_
 refine .vl (Y.assign rfl rfl) ?_
 refine AOps.nil ?_
 refine AWp.sr ?_
 refine .vl (Y.move rfl rfl) ?_
 refine .vl (Y.assign rfl rfl) ?_
 refine AOps.sh (Sh.trimE (d := 4) (o := 122) (([] : List Int).map irow) rfl rfl (by simp) (by simp) (by decide)) ?_
 refine AOps.sh (Sh.detach (d := 4) (o := 122) rfl rfl (len_map (by first | omega | simp [-List.getD_eq_getElem?_getD] <;> omega)) (by decide)) ?_
 refine AOps.nil ?_
 refine AWp.ret ?_
 exact ⟨_, _, rfl, rfl, (cg1 (fun (z0 : List Int) => X.uni 1 (z0.map irow)) (rfl : ([] : List Int) = ([] : List Int)) : X.uni 1 (([] : List Int).map irow) = X.uni 1 (([] : List Int).map irow)), rfl⟩
 refine AWp.skip ?_
 refine AWp.sr ?_
 refine .vl (Y.move rfl rfl) ?_
 refine .vl (Y.assign rfl rfl) ?_
 refine AOps.nil ?_
 refine AWp.sh (Sh.nilU (d := 4) 1 rfl) ?_
 refine AWp.ret ?_
 exact ⟨_, _, rfl, rfl, (cg1 (fun (z0 : List Int) => X.uni 1 (z0.map irow)) (rfl : ([] : List Int) = ([] : List Int)) : X.uni 1 (([] : List Int).map irow) = X.uni 1 (([] : List Int).map irow)), rfl⟩

set_option maxHeartbeats 1000000 in
theorem concat_spec {ls : List (List Int)} (h1 : ls.length ≤ 1000) (hn : ls.flatten.length ≤ 17592186044416) : ACalls Try.prog 72 [.fz 1 (ls.map lrow)] [] [] (fun r o => r = .uni 1 (ls.flatten.map irow) ∧ o = []) := by
 refine ACalls.of Try.func72 rfl rfl rfl (n := 36) (by decide) (Nat.le_of_ble_eq_true rfl) ?_
 refine AWp.sr ?_
 refine .vl (Y.assign rfl rfl) ?_
 refine AOps.nil ?_
 refine AWp.sr ?_
 refine .vl (Y.assign rfl rfl) ?_
 refine AOps.nil ?_
 refine AWp.seq ?_
 refine AWp.sr ?_
 refine .vl (Y.move rfl rfl) ?_
 refine .vl (Y.len (n := ls.length) sl92 rfl (congrArg some (List.length_map ..))) ?_
 refine .vl (Y.move rfl rfl) ?_
 refine AOps.nil ?_
 refine AWp.block ?_
 refine AWp.loop2 (fun (size3_3 : Nat) (n11_3 : Nat) => ⟨[(0, .fz 1 (ls.map lrow)), (3, .v (.int .i64 (size3_3 : Int))), (9, .fz 1 (ls.map lrow)), (10, .v (.int .i64 ((ls.length : Nat) : Int))), (11, .v (.int .i64 (n11_3 : Int)))], []⟩) (fun (size3_3 : Nat) (n11_3 : Nat) => ((n11_3 : Int) ≤ ((ls.length : Nat) : Int)) ∧ (size3_3 = (ls.take n11_3).flatten.length)) (fun (size3_3 : Nat) (n11_3 : Nat) => (((ls.length : Nat) : Int) - (n11_3 : Int)).toNat) 0 0 (⟨by first | omega | (simp [-List.getD_eq_getElem?_getD]; done) | (simp [-List.getD_eq_getElem?_getD]; omega), rfl⟩) (Le.mk (SubL.cons rfl (SubL.cons (look_int rfl (by first | rfl | omega)) (SubL.cons rfl (SubL.cons rfl (SubL.cons (look_int rfl (by first | rfl | omega)) (SubL.nil)))))) (SubL.nil)) (fun size3_3 n11_3 hI3 => ?_)
 obtain ⟨hb3, hs⟩ := hI3
 refine AWp.sr ?_
 refine .vl (Y.lss rfl rfl) ?_
 refine AOps.nil ?_
 refine AWp.seq ?_
 refine AWp.condD rfl (fun c12 => ?_) (fun c12 => ?_)
 refine AWp.skip ?_
 refine AWp.seq ?_
 refine AWp.block ?_
 refine AWp.sr ?_
 have hf := congrArg List.length (flat_succ (ls := ls) (i := n11_3) (by omega))
 rw [List.length_append] at hf
 have hf2 := flat_le ls (n11_3 + 1)
 have hf3 := flat_le ls n11_3
 refine .vl (Y.indexF (m := n11_3) sl92 rfl rfl (by first | rfl | omega) (row_getD (d := []) (by first | omega | simp [-List.getD_eq_getElem?_getD] <;> omega))) ?_
 refine .vl (Y.load sh22 rfl rfl rfl rfl) ?_
 refine .vl (Y.assign rfl rfl) ?_
 refine AOps.nil ?_
 refine AWp.sr ?_
 refine .vl (Y.move rfl rfl) ?_
 refine .vl (Y.move rfl rfl) ?_
 refine .vl (Y.len (n := (ls.getD n11_3 []).length) sl22 rfl (congrArg some (List.length_map ..))) ?_
 refine .vl (Y.addI rfl rfl (by first | omega | simp [-List.getD_eq_getElem?_getD] <;> omega)) ?_
 refine .vl (Y.assign rfl rfl) ?_
 refine AOps.nil ?_
 refine AWp.sr ?_
 refine .vl (Y.move rfl rfl) ?_
 refine .vl (Y.lss rfl rfl) ?_
 refine AOps.nil ?_
 refine AWp.condD rfl (fun c20 => ?_) (fun c20 => ?_)
 exfalso; omega
 refine AWp.skip ?_
 refine AWp.region ?_
 refine .vl (Y.addI rfl rfl (by first | omega | simp [-List.getD_eq_getElem?_getD] <;> omega)) ?_
 refine .vl (Y.move rfl rfl) ?_
 refine AOps.nil ?_
 exact ⟨size3_3 + ((ls.getD n11_3 []).length), n11_3 + 1, ⟨by first | omega | (simp [-List.getD_eq_getElem?_getD]; done) | (simp [-List.getD_eq_getElem?_getD]; omega), by omega⟩, by omega, Le.mk (SubL.cons rfl (SubL.cons (look_int rfl (by first | rfl | omega)) (SubL.cons rfl (SubL.cons rfl (SubL.cons (look_int rfl (by first | rfl | omega)) (SubL.nil)))))) (SubL.nil)⟩
 refine AWp.exit ?_
 refine AWp.sr ?_
 have hf3 := flat_le ls n11_3
 refine .vl (Y.move rfl rfl) ?_
 refine AOps.callP ok108 (grow_spec (n := size3_3) ((by first | omega | simp [-List.getD_eq_getElem?_getD] <;> omega))) rfl (.keep rfl rfl (.keep rfl rfl .nil)) (by decide) rfl ?_
 refine AOps.assignX rfl (by decide) ?_
 refine AOps.sh (Sh.adoptE (d := 6) (n := ([] : List Int).length) 106 (([] : List Int).map irow) rfl (by first | rfl | exact rep_map rfl) (len_map rfl) (by decide)) ?_
 refine AOps.nil ?_
 refine AWp.seq ?_
 refine AWp.sr ?_
 refine .vl (Y.move rfl rfl) ?_
 refine .vl (Y.len (n := ls.length) sl92 rfl (congrArg some (List.length_map ..))) ?_
 refine .vl (Y.move rfl rfl) ?_
 refine AOps.nil ?_
 refine AWp.block ?_
 refine AWp.loop2 (fun (n27_11 : Nat) (newslice6_11 : List Int) => ⟨[(6, .slc 106 1 0 newslice6_11.length), (25, .fz 1 (ls.map lrow)), (26, .v (.int .i64 ((ls.length : Nat) : Int))), (27, .v (.int .i64 (n27_11 : Int)))], [(106, .rows 1 (newslice6_11.map irow))]⟩) (fun (n27_11 : Nat) (newslice6_11 : List Int) => ((n27_11 : Int) ≤ ((ls.length : Nat) : Int)) ∧ (newslice6_11 = (ls.take n27_11).flatten)) (fun (n27_11 : Nat) (newslice6_11 : List Int) => (((ls.length : Nat) : Int) - (n27_11 : Int)).toNat) 0 ([] : List Int) (⟨by first | omega | (simp [-List.getD_eq_getElem?_getD]; done) | (simp [-List.getD_eq_getElem?_getD]; omega), rfl⟩) (Le.mk (SubL.cons (look_slc rfl (by first | omega | simp [-List.getD_eq_getElem?_getD] <;> omega)) (SubL.cons rfl (SubL.cons rfl (SubL.cons (look_int rfl (by first | rfl | omega)) (SubL.nil))))) (SubL.cons rfl (SubL.nil))) (fun n27_11 newslice6_11 hI11 => ?_)
 obtain ⟨hb11, ht⟩ := hI11
 refine AWp.sr ?_
 refine .vl (Y.lss rfl rfl) ?_
 refine AOps.nil ?_
 refine AWp.seq ?_
 refine AWp.condD rfl (fun c28 => ?_) (fun c28 => ?_)
 refine AWp.skip ?_
 refine AWp.seq ?_
 refine AWp.block ?_
 refine AWp.sr ?_
 have hf := flat_succ (ls := ls) (i := n27_11) (by omega)
 have hf1 := congrArg List.length hf
 rw [List.length_append] at hf1
 have hf2 := flat_le ls (n27_11 + 1)
 have hf3 := flat_le ls n27_11
 have hf4 := congrArg List.length ht
 refine .vl (Y.indexF (m := n27_11) sl92 rfl rfl (by first | rfl | omega) (row_getD (d := []) (by first | omega | simp [-List.getD_eq_getElem?_getD] <;> omega))) ?_
 refine .vl (Y.load sh22 rfl rfl rfl rfl) ?_
 refine .vl (Y.assign rfl rfl) ?_
 refine AOps.nil ?_
 refine AWp.region ?_
 refine .vl (Y.move rfl rfl) ?_
 refine .vl (Y.move rfl rfl) ?_
 refine AOps.appendFE ((newslice6_11 ++ (ls.getD n27_11 [])).map irow) (newslice6_11 ++ (ls.getD n27_11 [])).length sl22 ze3 rfl rfl rfl rfl (app_le (by first | omega | simp [-List.getD_eq_getElem?_getD] <;> omega)) (app_map (by first | omega | simp [-List.getD_eq_getElem?_getD] <;> omega)) (app_n (by first | omega | simp [-List.getD_eq_getElem?_getD] <;> omega)) (by first | omega | simp [-List.getD_eq_getElem?_getD] <;> omega) (by first | omega | simp [-List.getD_eq_getElem?_getD] <;> omega) (by decide) (by decide) ?_
 refine .vl (Y.assign rfl rfl) ?_
 refine AOps.nil ?_
 refine AWp.region ?_
 refine .vl (Y.addI rfl rfl (by first | omega | simp [-List.getD_eq_getElem?_getD] <;> omega)) ?_
 refine .vl (Y.move rfl rfl) ?_
 refine AOps.nil ?_
 exact ⟨n27_11 + 1, newslice6_11 ++ (ls.getD n27_11 []), ⟨by first | omega | (simp [-List.getD_eq_getElem?_getD]; done) | (simp [-List.getD_eq_getElem?_getD]; omega), by rw [ht]; exact hf.symm⟩, by omega, Le.mk (SubL.cons (look_slc rfl (by first | omega | simp [-List.getD_eq_getElem?_getD] <;> omega)) (SubL.cons rfl (SubL.cons rfl (SubL.cons (look_int rfl (by first | rfl | omega)) (SubL.nil))))) (SubL.cons rfl (SubL.nil))⟩
 refine AWp.exit ?_
 refine AWp.sr ?_
 refine .vl (Y.move rfl rfl) ?_
 refine .vl (Y.assign rfl rfl) ?_
 refine AOps.sh (Sh.detach (d := 2) (o := 106) rfl rfl (len_map (by first | omega | simp [-List.getD_eq_getElem?_getD] <;> omega)) (by decide)) ?_
 refine AOps.nil ?_
 refine AWp.ret ?_
 exact ⟨_, _, rfl, rfl, (cg1 (fun (z0 : List Int) => X.uni 1 (z0.map irow)) (by rw [ht, List.take_of_length_le (by omega)] : newslice6_11 = ls.flatten) : X.uni 1 (newslice6_11.map irow) = X.uni 1 (ls.flatten.map irow)), rfl⟩

end Go.Proofs.Ytligpghohcfpnaa
/- The walk through formed. -/
namespace Go.Proofs.Ytligpghohcfpnaa
open Go Go.AW Go.Proofs



set_option maxHeartbeats 1000000 in
theorem formed1_spec {i : Int} {n : Netlist} : ACalls Try.prog 94 [.v (.int .i64 i), .fp (Netlist.row n) 0] [] [] (fun r o => r = .v (.bool (decide (In i n.widths.length))) ∧ o = []) := by
 refine ACalls.of Try.func94 rfl rfl rfl (n := 13) (by decide) (Nat.le_of_ble_eq_true rfl) ?_
 refine AWp.sr ?_
 refine .vl (Y.assign rfl rfl) ?_
 refine AOps.nil ?_
 refine AWp.sr ?_
 refine .vl (Y.move rfl rfl) ?_
 refine .vl (Y.geq rfl rfl) ?_
 refine .vl (Y.move rfl rfl) ?_
 refine AOps.splitD (d := 6) rfl (fun c6 => ?_) (fun c6 => ?_)
 refine .gv 6 rfl rfl (Y.move rfl rfl) ?_
 refine .gv 6 rfl rfl (Y.fieldAddr fl27_1 rfl rfl) ?_
 refine .gv 6 rfl rfl (Y.load sh22 rfl rfl rfl rfl) ?_
 refine .gv 6 rfl rfl (Y.len (n := n.widths.length) sl22 rfl (congrArg some (List.length_map ..))) ?_
 refine .gv 6 rfl rfl (Y.lss rfl rfl) ?_
 refine .vl (Y.pick rfl rfl rfl) ?_
 refine .vl (Y.assign rfl rfl) ?_
 refine AOps.nil ?_
 refine AWp.ret ?_
 exact ⟨_, _, rfl, rfl, (cg1 (fun (z0 : Bool) => X.v (.bool z0)) (dd (by (simp only [In]) <;> (first | omega | grind)) : (decide (i < ((n.widths.length : Nat) : Int))) = decide (In i n.widths.length)) : X.v (.bool (decide (i < ((n.widths.length : Nat) : Int)))) = X.v (.bool (decide (In i n.widths.length)))), rfl⟩
 refine .gs 6 rfl rfl rfl ?_
 refine .gs 6 rfl rfl rfl ?_
 refine .gs 6 rfl rfl rfl ?_
 refine .gs 6 rfl rfl rfl ?_
 refine .gs 6 rfl rfl rfl ?_
 refine .vl (Y.pick rfl rfl rfl) ?_
 refine .vl (Y.assign rfl rfl) ?_
 refine AOps.nil ?_
 refine AWp.ret ?_
 exact ⟨_, _, rfl, rfl, (cg1 (fun (z0 : Bool) => X.v (.bool z0)) (df (by (simp only [In]) <;> (first | omega | grind)) : false = decide (In i n.widths.length)) : X.v (.bool false) = X.v (.bool (decide (In i n.widths.length)))), rfl⟩

set_option maxHeartbeats 1000000 in
theorem formed2_spec {i : Int} {n : Netlist} : ACalls Try.prog 96 [.v (.int .i64 i), .fp ([.clo (.func 94) [] [.fp (Netlist.row n) 0]]) 0] [] [] (fun r o => r = .v (.bool (!decide (In i n.widths.length))) ∧ o = []) := by
 refine ACalls.of Try.func96 rfl rfl rfl (n := 8) (by decide) (Nat.le_of_ble_eq_true rfl) ?_
 refine AWp.sr ?_
 refine .vl (Y.assign rfl rfl) ?_
 refine AOps.nil ?_
 refine AWp.sr ?_
 refine .vl (Y.load sh45 rfl rfl rfl rfl) ?_
 refine .vl (Y.move rfl rfl) ?_
 refine AOps.callCP rfl ok94 (formed1_spec (i := i)) rfl (.keep rfl rfl (.keep rfl rfl .nil)) (by decide) rfl ?_
 refine .vl (Y.not rfl) ?_
 refine .vl (Y.assign rfl rfl) ?_
 refine AOps.nil ?_
 refine AWp.ret ?_
 exact ⟨_, _, rfl, rfl, (cg1 (fun (z0 : Bool) => X.v (.bool z0)) (rfl : (!decide (In i n.widths.length)) = !decide (In i n.widths.length)) : X.v (.bool (!decide (In i n.widths.length))) = X.v (.bool (!decide (In i n.widths.length)))), rfl⟩

set_option maxHeartbeats 1000000 in
theorem formed3_spec {i : Int} {n : Netlist} : ACalls Try.prog 97 [.v (.int .i64 i), .fp ([.clo (.func 94) [] [.fp (Netlist.row n) 0]]) 0] [] [] (fun r o => r = .v (.bool (!decide (In i n.widths.length))) ∧ o = []) := by
 refine ACalls.of Try.func97 rfl rfl rfl (n := 8) (by decide) (Nat.le_of_ble_eq_true rfl) ?_
 refine AWp.sr ?_
 refine .vl (Y.assign rfl rfl) ?_
 refine AOps.nil ?_
 refine AWp.sr ?_
 refine .vl (Y.load sh45 rfl rfl rfl rfl) ?_
 refine .vl (Y.move rfl rfl) ?_
 refine AOps.callCP rfl ok94 (formed1_spec (i := i)) rfl (.keep rfl rfl (.keep rfl rfl .nil)) (by decide) rfl ?_
 refine .vl (Y.not rfl) ?_
 refine .vl (Y.assign rfl rfl) ?_
 refine AOps.nil ?_
 refine AWp.ret ?_
 exact ⟨_, _, rfl, rfl, (cg1 (fun (z0 : Bool) => X.v (.bool z0)) (rfl : (!decide (In i n.widths.length)) = !decide (In i n.widths.length)) : X.v (.bool (!decide (In i n.widths.length))) = X.v (.bool (!decide (In i n.widths.length)))), rfl⟩

set_option maxRecDepth 4000 in
set_option maxHeartbeats 1000000 in
theorem formed_spec {n : Netlist} (hs : n.Small) (hwi : n.widths.length + n.ins.length ≤ 17592186044416) : ACalls Try.prog 57 [.agg (Netlist.row n)] [] [] (fun r o => r = .v (.bool (decide (Formed n))) ∧ o = []) := by
 refine ACalls.of Try.func57 rfl rfl rfl (n := 234) (by decide) (Nat.le_of_ble_eq_true rfl) ?_
 have hs1 := hs.name; have hs2 := hs.widths; have hs3 := hs.cells; have hs4 := hs.ins; have hs5 := hs.mems; have hs6 := hs.streams; have hs7 := hs.active; have hs8 := hs.data; have hs9 := hs.rets
 have hcat : ([n.widths, n.ins] : List (List Int)).flatten = n.widths ++ n.ins := by simp
 have hcl : (([n.widths, n.ins] : List (List Int)).flatten).length = n.widths.length + n.ins.length := by simp
 refine AWp.sr ?_
 refine AOps.box 101 rfl rfl rfl rfl rfl (by decide) ?_
 refine .vl (Y.assign rfl rfl) ?_
 refine AOps.nil ?_
 refine AWp.seq ?_
 refine AWp.sr ?_
 refine .vl (Y.fieldAddr fl27_0 rfl rfl) ?_
 refine .vl (Y.load sh9 rfl rfl rfl rfl) ?_
 refine AOps.callP ok92 (named_spec (s := n.name) (by first | assumption | omega)) rfl (.keep rfl rfl .nil) (by decide) rfl ?_
 refine .vl (Y.not rfl) ?_
 refine .vl (Y.move rfl rfl) ?_
 refine AOps.split (d := 17) rfl (fun c17 => ?_) (fun c17 => ?_)
 replace c17 : ¬ (Named n.name) := by simpa using c17
 refine .gs 17 rfl rfl rfl ?_
 refine .gs 17 rfl rfl rfl ?_
 refine .gs 17 rfl rfl rfl ?_
 refine .gs 17 rfl rfl rfl ?_
 refine .vl (Y.pick rfl rfl rfl) ?_
 refine .vl (Y.move rfl rfl) ?_
 refine .gs 23 rfl rfl rfl ?_
 refine .gs 23 rfl rfl rfl ?_
 refine .gs 23 rfl rfl rfl ?_
 refine .gs 23 rfl rfl rfl ?_
 refine .vl (Y.pick rfl rfl rfl) ?_
 refine .vl (Y.move rfl rfl) ?_
 refine .gs 29 rfl rfl rfl ?_
 refine .gs 29 rfl rfl rfl ?_
 refine .gs 29 rfl rfl rfl ?_
 refine .gs 29 rfl rfl rfl ?_
 refine .vl (Y.pick rfl rfl rfl) ?_
 refine .vl (Y.move rfl rfl) ?_
 refine .gs 35 rfl rfl rfl ?_
 refine .gs 35 rfl rfl rfl ?_
 refine .gs 35 rfl rfl rfl ?_
 refine .gs 35 rfl rfl rfl ?_
 refine .vl (Y.pick rfl rfl rfl) ?_
 refine .vl (Y.move rfl rfl) ?_
 refine .gs 41 rfl rfl rfl ?_
 refine .gs 41 rfl rfl rfl ?_
 refine .gs 41 rfl rfl rfl ?_
 refine .gs 41 rfl rfl rfl ?_
 refine .gs 41 rfl rfl rfl ?_
 refine .gs 41 rfl rfl rfl ?_
 refine .gs 41 rfl rfl rfl ?_
 refine .vl (Y.pick rfl rfl rfl) ?_
 refine .vl (Y.move rfl rfl) ?_
 refine .gs 50 rfl rfl rfl ?_
 refine .gs 50 rfl rfl rfl ?_
 refine .gs 50 rfl rfl rfl ?_
 refine .gs 50 rfl rfl rfl ?_
 refine .gs 50 rfl rfl rfl ?_
 refine .gs 50 rfl rfl rfl ?_
 refine .gs 50 rfl rfl rfl ?_
 refine .vl (Y.pick rfl rfl rfl) ?_
 refine AOps.nil ?_
 refine AWp.condT rfl ?_
 refine AWp.sr ?_
 refine .vl (Y.assign rfl rfl) ?_
 refine AOps.nil ?_
 refine AWp.ret ?_
 exact ⟨_, _, rfl, rfl, (cg1 (fun (z0 : Bool) => X.v (.bool z0)) (df (fun h => by have h1 := h.name; have h2 := h.ncells; have h3 := h.nwidths; have h4 := h.nmems; have h5 := h.nstreams; have h6 := h.nactive; have h7 := h.ndata; first | omega | contradiction) : false = decide (Formed n)) : X.v (.bool false) = X.v (.bool (decide (Formed n)))), rfl⟩
 replace c17 : Named n.name := by simpa using c17
 refine .gv 17 rfl rfl (Y.fieldAddr fl27_2 rfl rfl) ?_
 refine .gv 17 rfl rfl (Y.load sh23 rfl rfl rfl rfl) ?_
 refine .gv 17 rfl rfl (Y.len (n := n.cells.length) sl23 rfl (congrArg some (List.length_map ..))) ?_
 refine .gv 17 rfl rfl (Y.gtr rfl rfl) ?_
 refine .vl (Y.pick rfl rfl rfl) ?_
 refine .vl (Y.move rfl rfl) ?_
 refine AOps.splitD (d := 23) rfl (fun c23 => ?_) (fun c23 => ?_)
 refine .gs 23 rfl rfl rfl ?_
 refine .gs 23 rfl rfl rfl ?_
 refine .gs 23 rfl rfl rfl ?_
 refine .gs 23 rfl rfl rfl ?_
 refine .vl (Y.pick rfl rfl rfl) ?_
 refine .vl (Y.move rfl rfl) ?_
 refine .gs 29 rfl rfl rfl ?_
 refine .gs 29 rfl rfl rfl ?_
 refine .gs 29 rfl rfl rfl ?_
 refine .gs 29 rfl rfl rfl ?_
 refine .vl (Y.pick rfl rfl rfl) ?_
 refine .vl (Y.move rfl rfl) ?_
 refine .gs 35 rfl rfl rfl ?_
 refine .gs 35 rfl rfl rfl ?_
 refine .gs 35 rfl rfl rfl ?_
 refine .gs 35 rfl rfl rfl ?_
 refine .vl (Y.pick rfl rfl rfl) ?_
 refine .vl (Y.move rfl rfl) ?_
 refine .gs 41 rfl rfl rfl ?_
 refine .gs 41 rfl rfl rfl ?_
 refine .gs 41 rfl rfl rfl ?_
 refine .gs 41 rfl rfl rfl ?_
 refine .gs 41 rfl rfl rfl ?_
 refine .gs 41 rfl rfl rfl ?_
 refine .gs 41 rfl rfl rfl ?_
 refine .vl (Y.pick rfl rfl rfl) ?_
 refine .vl (Y.move rfl rfl) ?_
 refine .gs 50 rfl rfl rfl ?_
 refine .gs 50 rfl rfl rfl ?_
 refine .gs 50 rfl rfl rfl ?_
 refine .gs 50 rfl rfl rfl ?_
 refine .gs 50 rfl rfl rfl ?_
 refine .gs 50 rfl rfl rfl ?_
 refine .gs 50 rfl rfl rfl ?_
 refine .vl (Y.pick rfl rfl rfl) ?_
 refine AOps.nil ?_
 refine AWp.condT rfl ?_
 refine AWp.sr ?_
 refine .vl (Y.assign rfl rfl) ?_
 refine AOps.nil ?_
 refine AWp.ret ?_
 exact ⟨_, _, rfl, rfl, (cg1 (fun (z0 : Bool) => X.v (.bool z0)) (df (fun h => by have h1 := h.name; have h2 := h.ncells; have h3 := h.nwidths; have h4 := h.nmems; have h5 := h.nstreams; have h6 := h.nactive; have h7 := h.ndata; first | omega | contradiction) : false = decide (Formed n)) : X.v (.bool false) = X.v (.bool (decide (Formed n)))), rfl⟩
 refine .gv 23 rfl rfl (Y.fieldAddr fl27_1 rfl rfl) ?_
 refine .gv 23 rfl rfl (Y.load sh22 rfl rfl rfl rfl) ?_
 refine .gv 23 rfl rfl (Y.len (n := n.widths.length) sl22 rfl (congrArg some (List.length_map ..))) ?_
 refine .gv 23 rfl rfl (Y.gtr rfl rfl) ?_
 refine .vl (Y.pick rfl rfl rfl) ?_
 refine .vl (Y.move rfl rfl) ?_
 refine AOps.splitD (d := 29) rfl (fun c29 => ?_) (fun c29 => ?_)
 refine .gs 29 rfl rfl rfl ?_
 refine .gs 29 rfl rfl rfl ?_
 refine .gs 29 rfl rfl rfl ?_
 refine .gs 29 rfl rfl rfl ?_
 refine .vl (Y.pick rfl rfl rfl) ?_
 refine .vl (Y.move rfl rfl) ?_
 refine .gs 35 rfl rfl rfl ?_
 refine .gs 35 rfl rfl rfl ?_
 refine .gs 35 rfl rfl rfl ?_
 refine .gs 35 rfl rfl rfl ?_
 refine .vl (Y.pick rfl rfl rfl) ?_
 refine .vl (Y.move rfl rfl) ?_
 refine .gs 41 rfl rfl rfl ?_
 refine .gs 41 rfl rfl rfl ?_
 refine .gs 41 rfl rfl rfl ?_
 refine .gs 41 rfl rfl rfl ?_
 refine .gs 41 rfl rfl rfl ?_
 refine .gs 41 rfl rfl rfl ?_
 refine .gs 41 rfl rfl rfl ?_
 refine .vl (Y.pick rfl rfl rfl) ?_
 refine .vl (Y.move rfl rfl) ?_
 refine .gs 50 rfl rfl rfl ?_
 refine .gs 50 rfl rfl rfl ?_
 refine .gs 50 rfl rfl rfl ?_
 refine .gs 50 rfl rfl rfl ?_
 refine .gs 50 rfl rfl rfl ?_
 refine .gs 50 rfl rfl rfl ?_
 refine .gs 50 rfl rfl rfl ?_
 refine .vl (Y.pick rfl rfl rfl) ?_
 refine AOps.nil ?_
 refine AWp.condT rfl ?_
 refine AWp.sr ?_
 refine .vl (Y.assign rfl rfl) ?_
 refine AOps.nil ?_
 refine AWp.ret ?_
 exact ⟨_, _, rfl, rfl, (cg1 (fun (z0 : Bool) => X.v (.bool z0)) (df (fun h => by have h1 := h.name; have h2 := h.ncells; have h3 := h.nwidths; have h4 := h.nmems; have h5 := h.nstreams; have h6 := h.nactive; have h7 := h.ndata; first | omega | contradiction) : false = decide (Formed n)) : X.v (.bool false) = X.v (.bool (decide (Formed n)))), rfl⟩
 refine .gv 29 rfl rfl (Y.fieldAddr fl27_4 rfl rfl) ?_
 refine .gv 29 rfl rfl (Y.load sh24 rfl rfl rfl rfl) ?_
 refine .gv 29 rfl rfl (Y.len (n := n.mems.length) sl24 rfl (congrArg some (List.length_map ..))) ?_
 refine .gv 29 rfl rfl (Y.gtr rfl rfl) ?_
 refine .vl (Y.pick rfl rfl rfl) ?_
 refine .vl (Y.move rfl rfl) ?_
 refine AOps.splitD (d := 35) rfl (fun c35 => ?_) (fun c35 => ?_)
 refine .gs 35 rfl rfl rfl ?_
 refine .gs 35 rfl rfl rfl ?_
 refine .gs 35 rfl rfl rfl ?_
 refine .gs 35 rfl rfl rfl ?_
 refine .vl (Y.pick rfl rfl rfl) ?_
 refine .vl (Y.move rfl rfl) ?_
 refine .gs 41 rfl rfl rfl ?_
 refine .gs 41 rfl rfl rfl ?_
 refine .gs 41 rfl rfl rfl ?_
 refine .gs 41 rfl rfl rfl ?_
 refine .gs 41 rfl rfl rfl ?_
 refine .gs 41 rfl rfl rfl ?_
 refine .gs 41 rfl rfl rfl ?_
 refine .vl (Y.pick rfl rfl rfl) ?_
 refine .vl (Y.move rfl rfl) ?_
 refine .gs 50 rfl rfl rfl ?_
 refine .gs 50 rfl rfl rfl ?_
 refine .gs 50 rfl rfl rfl ?_
 refine .gs 50 rfl rfl rfl ?_
 refine .gs 50 rfl rfl rfl ?_
 refine .gs 50 rfl rfl rfl ?_
 refine .gs 50 rfl rfl rfl ?_
 refine .vl (Y.pick rfl rfl rfl) ?_
 refine AOps.nil ?_
 refine AWp.condT rfl ?_
 refine AWp.sr ?_
 refine .vl (Y.assign rfl rfl) ?_
 refine AOps.nil ?_
 refine AWp.ret ?_
 exact ⟨_, _, rfl, rfl, (cg1 (fun (z0 : Bool) => X.v (.bool z0)) (df (fun h => by have h1 := h.name; have h2 := h.ncells; have h3 := h.nwidths; have h4 := h.nmems; have h5 := h.nstreams; have h6 := h.nactive; have h7 := h.ndata; first | omega | contradiction) : false = decide (Formed n)) : X.v (.bool false) = X.v (.bool (decide (Formed n)))), rfl⟩
 refine .gv 35 rfl rfl (Y.fieldAddr fl27_5 rfl rfl) ?_
 refine .gv 35 rfl rfl (Y.load sh25 rfl rfl rfl rfl) ?_
 refine .gv 35 rfl rfl (Y.len (n := n.streams.length) sl25 rfl (congrArg some (List.length_map ..))) ?_
 refine .gv 35 rfl rfl (Y.gtr rfl rfl) ?_
 refine .vl (Y.pick rfl rfl rfl) ?_
 refine .vl (Y.move rfl rfl) ?_
 refine AOps.splitD (d := 41) rfl (fun c41 => ?_) (fun c41 => ?_)
 refine .gs 41 rfl rfl rfl ?_
 refine .gs 41 rfl rfl rfl ?_
 refine .gs 41 rfl rfl rfl ?_
 refine .gs 41 rfl rfl rfl ?_
 refine .gs 41 rfl rfl rfl ?_
 refine .gs 41 rfl rfl rfl ?_
 refine .gs 41 rfl rfl rfl ?_
 refine .vl (Y.pick rfl rfl rfl) ?_
 refine .vl (Y.move rfl rfl) ?_
 refine .gs 50 rfl rfl rfl ?_
 refine .gs 50 rfl rfl rfl ?_
 refine .gs 50 rfl rfl rfl ?_
 refine .gs 50 rfl rfl rfl ?_
 refine .gs 50 rfl rfl rfl ?_
 refine .gs 50 rfl rfl rfl ?_
 refine .gs 50 rfl rfl rfl ?_
 refine .vl (Y.pick rfl rfl rfl) ?_
 refine AOps.nil ?_
 refine AWp.condT rfl ?_
 refine AWp.sr ?_
 refine .vl (Y.assign rfl rfl) ?_
 refine AOps.nil ?_
 refine AWp.ret ?_
 exact ⟨_, _, rfl, rfl, (cg1 (fun (z0 : Bool) => X.v (.bool z0)) (df (fun h => by have h1 := h.name; have h2 := h.ncells; have h3 := h.nwidths; have h4 := h.nmems; have h5 := h.nstreams; have h6 := h.nactive; have h7 := h.ndata; first | omega | contradiction) : false = decide (Formed n)) : X.v (.bool false) = X.v (.bool (decide (Formed n)))), rfl⟩
 refine .gv 41 rfl rfl (Y.fieldAddr fl27_6 rfl rfl) ?_
 refine .gv 41 rfl rfl (Y.load sh22 rfl rfl rfl rfl) ?_
 refine .gv 41 rfl rfl (Y.len (n := n.active.length) sl22 rfl (congrArg some (List.length_map ..))) ?_
 refine .gv 41 rfl rfl (Y.fieldAddr fl27_5 rfl rfl) ?_
 refine .gv 41 rfl rfl (Y.load sh25 rfl rfl rfl rfl) ?_
 refine .gv 41 rfl rfl (Y.len (n := n.streams.length) sl25 rfl (congrArg some (List.length_map ..))) ?_
 refine .gv 41 rfl rfl (Y.neq rfl rfl) ?_
 refine .vl (Y.pick rfl rfl rfl) ?_
 refine .vl (Y.move rfl rfl) ?_
 refine AOps.splitD (d := 50) rfl (fun c50 => ?_) (fun c50 => ?_)
 refine .gs 50 rfl rfl rfl ?_
 refine .gs 50 rfl rfl rfl ?_
 refine .gs 50 rfl rfl rfl ?_
 refine .gs 50 rfl rfl rfl ?_
 refine .gs 50 rfl rfl rfl ?_
 refine .gs 50 rfl rfl rfl ?_
 refine .gs 50 rfl rfl rfl ?_
 refine .vl (Y.pick rfl rfl rfl) ?_
 refine AOps.nil ?_
 refine AWp.condT rfl ?_
 refine AWp.sr ?_
 refine .vl (Y.assign rfl rfl) ?_
 refine AOps.nil ?_
 refine AWp.ret ?_
 exact ⟨_, _, rfl, rfl, (cg1 (fun (z0 : Bool) => X.v (.bool z0)) (df (fun h => by have h1 := h.name; have h2 := h.ncells; have h3 := h.nwidths; have h4 := h.nmems; have h5 := h.nstreams; have h6 := h.nactive; have h7 := h.ndata; first | omega | contradiction) : false = decide (Formed n)) : X.v (.bool false) = X.v (.bool (decide (Formed n)))), rfl⟩
 refine .gv 50 rfl rfl (Y.fieldAddr fl27_7 rfl rfl) ?_
 refine .gv 50 rfl rfl (Y.load sh22 rfl rfl rfl rfl) ?_
 refine .gv 50 rfl rfl (Y.len (n := n.data.length) sl22 rfl (congrArg some (List.length_map ..))) ?_
 refine .gv 50 rfl rfl (Y.fieldAddr fl27_5 rfl rfl) ?_
 refine .gv 50 rfl rfl (Y.load sh25 rfl rfl rfl rfl) ?_
 refine .gv 50 rfl rfl (Y.len (n := n.streams.length) sl25 rfl (congrArg some (List.length_map ..))) ?_
 refine .gv 50 rfl rfl (Y.neq rfl rfl) ?_
 refine .vl (Y.pick rfl rfl rfl) ?_
 refine AOps.nil ?_
 refine AWp.condD rfl (fun c58 => ?_) (fun c58 => ?_)
 refine AWp.sr ?_
 refine .vl (Y.assign rfl rfl) ?_
 refine AOps.nil ?_
 refine AWp.ret ?_
 exact ⟨_, _, rfl, rfl, (cg1 (fun (z0 : Bool) => X.v (.bool z0)) (df (fun h => by have h1 := h.name; have h2 := h.ncells; have h3 := h.nwidths; have h4 := h.nmems; have h5 := h.nstreams; have h6 := h.nactive; have h7 := h.ndata; first | omega | contradiction) : false = decide (Formed n)) : X.v (.bool false) = X.v (.bool (decide (Formed n)))), rfl⟩
 refine AWp.skip ?_
 refine AWp.seq ?_
 refine AWp.sr ?_
 refine .vl (Y.fieldAddr fl27_1 rfl rfl) ?_
 refine .vl (Y.load sh22 rfl rfl rfl rfl) ?_
 refine .vl (Y.fieldAddr fl27_3 rfl rfl) ?_
 refine .vl (Y.load sh22 rfl rfl rfl rfl) ?_
 refine AOps.buildSlice (([n.widths, n.ins] : List (List Int)).map lrow) sl92 ze22 rfl rfl rfl rfl rfl (uniform_map (s := 1) (f := lrow) (fun _ => rfl)) rfl rfl rfl (by decide) ?_
 refine AOps.sh (Sh.freezeE (d := 63) (([n.widths, n.ins] : List (List Int)).map lrow) rfl (by first | rfl | exact rep_map rfl) (Frees.map lrow_frees)) ?_
 refine AOps.callP ok72 (concat_spec (ls := ([n.widths, n.ins] : List (List Int))) (by simp) (by simp; omega)) rfl (.keep rfl rfl .nil) (by decide) rfl ?_
 refine .vl (Y.len (n := (([n.widths, n.ins] : List (List Int)).flatten).length) sl22 rfl (congrArg some (List.length_map ..))) ?_
 refine .vl (Y.move rfl rfl) ?_
 refine AOps.nil ?_
 refine AWp.block ?_
 refine AWp.sh (Sh.freezeE (d := 64) ((([n.widths, n.ins] : List (List Int)).flatten).map irow) rfl (by first | rfl | exact rep_map rfl) (Frees.map irow_frees)) ?_
 refine AWp.loop1 (fun (n66_4 : Nat) => ⟨[(1, .ptr 101 0 0 0), (64, .fz 1 ((([n.widths, n.ins] : List (List Int)).flatten).map irow)), (65, .v (.int .i64 (((([n.widths, n.ins] : List (List Int)).flatten).length : Nat) : Int))), (66, .v (.int .i64 (n66_4 : Int)))], [(101, .cells (Netlist.row n))]⟩) (fun (n66_4 : Nat) => ((n66_4 : Int) ≤ (((([n.widths, n.ins] : List (List Int)).flatten).length : Nat) : Int)) ∧ (∀ j, j < n66_4 → Wide (([n.widths, n.ins] : List (List Int)).flatten.getD j 0))) (fun (n66_4 : Nat) => ((((([n.widths, n.ins] : List (List Int)).flatten).length : Nat) : Int) - (n66_4 : Int)).toNat) 0 (⟨by first | omega | (simp [-List.getD_eq_getElem?_getD]; done) | (simp [-List.getD_eq_getElem?_getD]; omega) | (unfold In at *; omega), fun j hj => by omega⟩) (Le.mk (SubL.cons rfl (SubL.cons rfl (SubL.cons rfl (SubL.cons (look_int rfl (by first | rfl | omega)) (SubL.nil))))) (SubL.cons rfl (SubL.nil))) (fun n66_4 hI4 => ?_)
 obtain ⟨hb4, hw⟩ := hI4
 refine AWp.sr ?_
 refine .vl (Y.lss rfl rfl) ?_
 refine AOps.nil ?_
 refine AWp.seq ?_
 refine AWp.condD rfl (fun c67 => ?_) (fun c67 => ?_)
 refine AWp.skip ?_
 refine AWp.seq ?_
 refine AWp.block ?_
 refine AWp.sr ?_
 refine .vl (Y.indexF (m := n66_4) sl22 rfl rfl (by first | rfl | omega) (row_getD (d := 0) (by first | omega | (simp [-List.getD_eq_getElem?_getD]; done) | (simp [-List.getD_eq_getElem?_getD]; omega) | (unfold In at *; omega)))) ?_
 refine .vl (Y.load sh3 rfl rfl rfl rfl) ?_
 refine .vl (Y.assign rfl rfl) ?_
 refine AOps.nil ?_
 refine AWp.sr ?_
 refine .vl (Y.move rfl rfl) ?_
 refine AOps.callP ok93 (wide_spec (w := ((([n.widths, n.ins] : List (List Int)).flatten).getD n66_4 0))) rfl (.keep rfl rfl .nil) (by decide) rfl ?_
 refine .vl (Y.not rfl) ?_
 refine AOps.nil ?_
 refine AWp.cond rfl (fun c72 => ?_) (fun c72 => ?_)
 replace c72 : ¬ (Wide ((([n.widths, n.ins] : List (List Int)).flatten).getD n66_4 0)) := by simpa using c72
 refine AWp.sr ?_
 refine .vl (Y.assign rfl rfl) ?_
 refine AOps.nil ?_
 refine AWp.ret ?_
 exact ⟨_, _, rfl, rfl, (cg1 (fun (z0 : Bool) => X.v (.bool z0)) (df (fun h => by have h1 := h.wide n66_4 (by rw [List.length_append]; omega); rw [← hcat] at h1; contradiction) : false = decide (Formed n)) : X.v (.bool false) = X.v (.bool (decide (Formed n)))), rfl⟩
 replace c72 : Wide ((([n.widths, n.ins] : List (List Int)).flatten).getD n66_4 0) := by simpa using c72
 refine AWp.skip ?_
 refine AWp.region ?_
 refine .vl (Y.addI rfl rfl (by first | omega | (simp [-List.getD_eq_getElem?_getD]; done) | (simp [-List.getD_eq_getElem?_getD]; omega) | (unfold In at *; omega))) ?_
 refine .vl (Y.move rfl rfl) ?_
 refine AOps.nil ?_
 exact ⟨n66_4 + 1, ⟨by first | omega | (simp [-List.getD_eq_getElem?_getD]; done) | (simp [-List.getD_eq_getElem?_getD]; omega) | (unfold In at *; omega), below_succ' hw (by assumption)⟩, by omega, Le.mk (SubL.cons rfl (SubL.cons rfl (SubL.cons rfl (SubL.cons (look_int rfl (by first | rfl | omega)) (SubL.nil))))) (SubL.cons rfl (SubL.nil))⟩
 refine AWp.exit ?_
 refine AWp.seq ?_
 refine AWp.sr ?_
 refine .vl (Y.fieldAddr fl27_4 rfl rfl) ?_
 refine .vl (Y.load sh24 rfl rfl rfl rfl) ?_
 refine .vl (Y.len (n := n.mems.length) sl24 rfl (congrArg some (List.length_map ..))) ?_
 refine .vl (Y.move rfl rfl) ?_
 refine AOps.nil ?_
 refine AWp.block ?_
 refine AWp.loop1 (fun (n77_10 : Nat) => ⟨[(1, .ptr 101 0 0 0), (75, .fz 5 (n.mems.map Arr.row)), (76, .v (.int .i64 ((n.mems.length : Nat) : Int))), (77, .v (.int .i64 (n77_10 : Int)))], [(101, .cells (Netlist.row n))]⟩) (fun (n77_10 : Nat) => ((n77_10 : Int) ≤ ((n.mems.length : Nat) : Int)) ∧ (∀ j, j < n77_10 → MemOK (n.mems.getD j default))) (fun (n77_10 : Nat) => (((n.mems.length : Nat) : Int) - (n77_10 : Int)).toNat) 0 (⟨by first | omega | (simp [-List.getD_eq_getElem?_getD]; done) | (simp [-List.getD_eq_getElem?_getD]; omega) | (unfold In at *; omega), fun j hj => by omega⟩) (Le.mk (SubL.cons rfl (SubL.cons rfl (SubL.cons rfl (SubL.cons (look_int rfl (by first | rfl | omega)) (SubL.nil))))) (SubL.cons rfl (SubL.nil))) (fun n77_10 hI10 => ?_)
 obtain ⟨hb10, hm⟩ := hI10
 refine AWp.sr ?_
 refine .vl (Y.lss rfl rfl) ?_
 refine AOps.nil ?_
 refine AWp.seq ?_
 refine AWp.condD rfl (fun c78 => ?_) (fun c78 => ?_)
 refine AWp.skip ?_
 refine AWp.seq ?_
 refine AWp.block ?_
 refine AWp.sr ?_
 refine .vl (Y.indexF (m := n77_10) sl24 rfl rfl (by first | rfl | omega) (row_getD (d := default) (by first | omega | (simp [-List.getD_eq_getElem?_getD]; done) | (simp [-List.getD_eq_getElem?_getD]; omega) | (unfold In at *; omega)))) ?_
 refine .vl (Y.loadA sh48 rfl rfl (Nat.le_of_ble_eq_true rfl) rfl rfl) ?_
 refine AOps.alloc 106 ze48 rfl rfl (by decide) ?_
 refine AOps.storeC si48 rfl rfl rfl rfl rfl rfl (Nat.le_of_ble_eq_true rfl) rfl ?_
 refine AOps.nil ?_
 refine AWp.sr ?_
 have hmn := hs.memNames _ (getD_mem' (l := n.mems) (i := n77_10) (d := default) (by omega))
 refine .vl (Y.fieldAddr fl48_0 rfl rfl) ?_
 refine .vl (Y.load sh9 rfl rfl rfl rfl) ?_
 refine AOps.callP ok92 (named_spec (s := ((n.mems.getD n77_10 default).name)) (by first | assumption | omega)) rfl (.keep rfl rfl .nil) (by decide) rfl ?_
 refine .vl (Y.not rfl) ?_
 refine .vl (Y.move rfl rfl) ?_
 refine AOps.split (d := 85) rfl (fun c85 => ?_) (fun c85 => ?_)
 replace c85 : ¬ (Named ((n.mems.getD n77_10 default).name)) := by simpa using c85
 refine .gs 85 rfl rfl rfl ?_
 refine .gs 85 rfl rfl rfl ?_
 refine .gs 85 rfl rfl rfl ?_
 refine .gs 85 rfl rfl rfl ?_
 refine .vl (Y.pick rfl rfl rfl) ?_
 refine .vl (Y.move rfl rfl) ?_
 refine .gs 91 rfl rfl rfl ?_
 refine .gs 91 rfl rfl rfl ?_
 refine .gs 91 rfl rfl rfl ?_
 refine .vl (Y.pick rfl rfl rfl) ?_
 refine .vl (Y.move rfl rfl) ?_
 refine .gs 96 rfl rfl rfl ?_
 refine .gs 96 rfl rfl rfl ?_
 refine .gs 96 rfl rfl rfl ?_
 refine .vl (Y.pick rfl rfl rfl) ?_
 refine .vl (Y.move rfl rfl) ?_
 refine .gs 101 rfl rfl rfl ?_
 refine .gs 101 rfl rfl rfl ?_
 refine .gs 101 rfl rfl rfl ?_
 refine .vl (Y.pick rfl rfl rfl) ?_
 refine .vl (Y.move rfl rfl) ?_
 refine .gs 106 rfl rfl rfl ?_
 refine .gs 106 rfl rfl rfl ?_
 refine .gs 106 rfl rfl rfl ?_
 refine .vl (Y.pick rfl rfl rfl) ?_
 refine AOps.nil ?_
 refine AWp.condT rfl ?_
 refine AWp.sr ?_
 refine .vl (Y.assign rfl rfl) ?_
 refine AOps.nil ?_
 refine AWp.ret ?_
 exact ⟨_, _, rfl, rfl, (cg1 (fun (z0 : Bool) => X.v (.bool z0)) (df (fun h => by have h1 := h.mems n77_10 (by omega); unfold MemOK at h1; obtain ⟨a1, a2, a3, a4, a5, a6⟩ := h1; first | contradiction | omega) : false = decide (Formed n)) : X.v (.bool false) = X.v (.bool (decide (Formed n)))), rfl⟩
 replace c85 : Named ((n.mems.getD n77_10 default).name) := by simpa using c85
 refine .gv 85 rfl rfl (Y.fieldAddr fl48_1 rfl rfl) ?_
 refine .gv 85 rfl rfl (Y.load sh3 rfl rfl rfl rfl) ?_
 refine AOps.guardRun (d := 85) rfl (by decide) rfl ?_
 refine AOps.callP ok93 (wide_spec (w := ((n.mems.getD n77_10 default).width))) rfl (.keep rfl rfl .nil) (by decide) rfl ?_
 refine .gv 85 rfl rfl (Y.not rfl) ?_
 refine .vl (Y.pick rfl rfl rfl) ?_
 refine .vl (Y.move rfl rfl) ?_
 refine AOps.split (d := 91) rfl (fun c91 => ?_) (fun c91 => ?_)
 replace c91 : ¬ (Wide ((n.mems.getD n77_10 default).width)) := by simpa using c91
 refine .gs 91 rfl rfl rfl ?_
 refine .gs 91 rfl rfl rfl ?_
 refine .gs 91 rfl rfl rfl ?_
 refine .vl (Y.pick rfl rfl rfl) ?_
 refine .vl (Y.move rfl rfl) ?_
 refine .gs 96 rfl rfl rfl ?_
 refine .gs 96 rfl rfl rfl ?_
 refine .gs 96 rfl rfl rfl ?_
 refine .vl (Y.pick rfl rfl rfl) ?_
 refine .vl (Y.move rfl rfl) ?_
 refine .gs 101 rfl rfl rfl ?_
 refine .gs 101 rfl rfl rfl ?_
 refine .gs 101 rfl rfl rfl ?_
 refine .vl (Y.pick rfl rfl rfl) ?_
 refine .vl (Y.move rfl rfl) ?_
 refine .gs 106 rfl rfl rfl ?_
 refine .gs 106 rfl rfl rfl ?_
 refine .gs 106 rfl rfl rfl ?_
 refine .vl (Y.pick rfl rfl rfl) ?_
 refine AOps.nil ?_
 refine AWp.condT rfl ?_
 refine AWp.sr ?_
 refine .vl (Y.assign rfl rfl) ?_
 refine AOps.nil ?_
 refine AWp.ret ?_
 exact ⟨_, _, rfl, rfl, (cg1 (fun (z0 : Bool) => X.v (.bool z0)) (df (fun h => by have h1 := h.mems n77_10 (by omega); unfold MemOK at h1; obtain ⟨a1, a2, a3, a4, a5, a6⟩ := h1; first | contradiction | omega) : false = decide (Formed n)) : X.v (.bool false) = X.v (.bool (decide (Formed n)))), rfl⟩
 replace c91 : Wide ((n.mems.getD n77_10 default).width) := by simpa using c91
 refine .gv 91 rfl rfl (Y.fieldAddr fl48_2 rfl rfl) ?_
 refine .gv 91 rfl rfl (Y.load sh3 rfl rfl rfl rfl) ?_
 refine .gv 91 rfl rfl (Y.lss rfl rfl) ?_
 refine .vl (Y.pick rfl rfl rfl) ?_
 refine .vl (Y.move rfl rfl) ?_
 refine AOps.splitD (d := 96) rfl (fun c96 => ?_) (fun c96 => ?_)
 refine .gs 96 rfl rfl rfl ?_
 refine .gs 96 rfl rfl rfl ?_
 refine .gs 96 rfl rfl rfl ?_
 refine .vl (Y.pick rfl rfl rfl) ?_
 refine .vl (Y.move rfl rfl) ?_
 refine .gs 101 rfl rfl rfl ?_
 refine .gs 101 rfl rfl rfl ?_
 refine .gs 101 rfl rfl rfl ?_
 refine .vl (Y.pick rfl rfl rfl) ?_
 refine .vl (Y.move rfl rfl) ?_
 refine .gs 106 rfl rfl rfl ?_
 refine .gs 106 rfl rfl rfl ?_
 refine .gs 106 rfl rfl rfl ?_
 refine .vl (Y.pick rfl rfl rfl) ?_
 refine AOps.nil ?_
 refine AWp.condT rfl ?_
 refine AWp.sr ?_
 refine .vl (Y.assign rfl rfl) ?_
 refine AOps.nil ?_
 refine AWp.ret ?_
 exact ⟨_, _, rfl, rfl, (cg1 (fun (z0 : Bool) => X.v (.bool z0)) (df (fun h => by have h1 := h.mems n77_10 (by omega); unfold MemOK at h1; obtain ⟨a1, a2, a3, a4, a5, a6⟩ := h1; first | contradiction | omega) : false = decide (Formed n)) : X.v (.bool false) = X.v (.bool (decide (Formed n)))), rfl⟩
 refine .gv 96 rfl rfl (Y.fieldAddr fl48_2 rfl rfl) ?_
 refine .gv 96 rfl rfl (Y.load sh3 rfl rfl rfl rfl) ?_
 refine .gv 96 rfl rfl (Y.gtr rfl rfl) ?_
 refine .vl (Y.pick rfl rfl rfl) ?_
 refine .vl (Y.move rfl rfl) ?_
 refine AOps.splitD (d := 101) rfl (fun c101 => ?_) (fun c101 => ?_)
 refine .gs 101 rfl rfl rfl ?_
 refine .gs 101 rfl rfl rfl ?_
 refine .gs 101 rfl rfl rfl ?_
 refine .vl (Y.pick rfl rfl rfl) ?_
 refine .vl (Y.move rfl rfl) ?_
 refine .gs 106 rfl rfl rfl ?_
 refine .gs 106 rfl rfl rfl ?_
 refine .gs 106 rfl rfl rfl ?_
 refine .vl (Y.pick rfl rfl rfl) ?_
 refine AOps.nil ?_
 refine AWp.condT rfl ?_
 refine AWp.sr ?_
 refine .vl (Y.assign rfl rfl) ?_
 refine AOps.nil ?_
 refine AWp.ret ?_
 exact ⟨_, _, rfl, rfl, (cg1 (fun (z0 : Bool) => X.v (.bool z0)) (df (fun h => by have h1 := h.mems n77_10 (by omega); unfold MemOK at h1; obtain ⟨a1, a2, a3, a4, a5, a6⟩ := h1; first | contradiction | omega) : false = decide (Formed n)) : X.v (.bool false) = X.v (.bool (decide (Formed n)))), rfl⟩
 refine .gv 101 rfl rfl (Y.fieldAddr fl48_3 rfl rfl) ?_
 refine .gv 101 rfl rfl (Y.load sh3 rfl rfl rfl rfl) ?_
 refine .gv 101 rfl rfl (Y.neq rfl rfl) ?_
 refine .vl (Y.pick rfl rfl rfl) ?_
 refine .vl (Y.move rfl rfl) ?_
 refine AOps.splitD (d := 106) rfl (fun c106 => ?_) (fun c106 => ?_)
 refine .gs 106 rfl rfl rfl ?_
 refine .gs 106 rfl rfl rfl ?_
 refine .gs 106 rfl rfl rfl ?_
 refine .vl (Y.pick rfl rfl rfl) ?_
 refine AOps.nil ?_
 refine AWp.condT rfl ?_
 refine AWp.sr ?_
 refine .vl (Y.assign rfl rfl) ?_
 refine AOps.nil ?_
 refine AWp.ret ?_
 exact ⟨_, _, rfl, rfl, (cg1 (fun (z0 : Bool) => X.v (.bool z0)) (df (fun h => by have h1 := h.mems n77_10 (by omega); unfold MemOK at h1; obtain ⟨a1, a2, a3, a4, a5, a6⟩ := h1; first | contradiction | omega) : false = decide (Formed n)) : X.v (.bool false) = X.v (.bool (decide (Formed n)))), rfl⟩
 refine .gv 106 rfl rfl (Y.fieldAddr fl48_4 rfl rfl) ?_
 refine .gv 106 rfl rfl (Y.load sh3 rfl rfl rfl rfl) ?_
 refine .gv 106 rfl rfl (Y.neq rfl rfl) ?_
 refine .vl (Y.pick rfl rfl rfl) ?_
 refine AOps.nil ?_
 refine AWp.condD rfl (fun c110 => ?_) (fun c110 => ?_)
 refine AWp.sr ?_
 refine .vl (Y.assign rfl rfl) ?_
 refine AOps.nil ?_
 refine AWp.ret ?_
 exact ⟨_, _, rfl, rfl, (cg1 (fun (z0 : Bool) => X.v (.bool z0)) (df (fun h => by have h1 := h.mems n77_10 (by omega); unfold MemOK at h1; obtain ⟨a1, a2, a3, a4, a5, a6⟩ := h1; first | contradiction | omega) : false = decide (Formed n)) : X.v (.bool false) = X.v (.bool (decide (Formed n)))), rfl⟩
 refine AWp.skip ?_
 refine AWp.region ?_
 refine .vl (Y.addI rfl rfl (by first | omega | (simp [-List.getD_eq_getElem?_getD]; done) | (simp [-List.getD_eq_getElem?_getD]; omega) | (unfold In at *; omega))) ?_
 refine .vl (Y.move rfl rfl) ?_
 refine AOps.nil ?_
 exact ⟨n77_10 + 1, ⟨by first | omega | (simp [-List.getD_eq_getElem?_getD]; done) | (simp [-List.getD_eq_getElem?_getD]; omega) | (unfold In at *; omega), below_succ' hm (by unfold MemOK; refine ⟨?_, ?_, ?_, ?_, ?_, ?_⟩ <;> first | assumption | omega)⟩, by omega, Le.mk (SubL.cons rfl (SubL.cons rfl (SubL.cons rfl (SubL.cons (look_int rfl (by first | rfl | omega)) (SubL.nil))))) (SubL.cons rfl (SubL.nil))⟩
 refine AWp.exit ?_
 refine AWp.sr ?_
 refine AOps.sh (Sh.freezeO 101 rfl rfl) ?_
 refine .vl (Y.makeFunc rfl rfl rfl rfl) ?_
 refine AOps.alloc 107 ze45 rfl rfl (by decide) ?_
 refine AOps.storeC si45 rfl rfl rfl rfl rfl rfl (Nat.le_of_ble_eq_true rfl) rfl ?_
 refine AOps.nil ?_
 refine AWp.seq ?_
 refine AWp.seq ?_
 refine AWp.sh (Sh.freezeO 107 rfl rfl) ?_
 refine AWp.region ?_
 refine .vl (Y.fieldAddr fl27_5 rfl rfl) ?_
 refine .vl (Y.load sh25 rfl rfl rfl rfl) ?_
 refine .vl (Y.len (n := n.streams.length) sl25 rfl (congrArg some (List.length_map ..))) ?_
 refine .vl (Y.move rfl rfl) ?_
 refine AOps.nil ?_
 refine AWp.block ?_
 refine AWp.loop1 (fun (n116_17 : Nat) => ⟨[(1, .fp (Netlist.row n) 0), (7, .fp ([.clo (.func 94) [] [.fp (Netlist.row n) 0]]) 0), (114, .fz 3 (n.streams.map Strm.row)), (115, .v (.int .i64 ((n.streams.length : Nat) : Int))), (116, .v (.int .i64 (n116_17 : Int)))], []⟩) (fun (n116_17 : Nat) => ((n116_17 : Int) ≤ ((n.streams.length : Nat) : Int)) ∧ (∀ j, j < n116_17 → StrOK n j)) (fun (n116_17 : Nat) => (((n.streams.length : Nat) : Int) - (n116_17 : Int)).toNat) 0 (⟨by first | omega | (simp [-List.getD_eq_getElem?_getD]; done) | (simp [-List.getD_eq_getElem?_getD]; omega) | (unfold In at *; omega), fun j hj => by omega⟩) (Le.mk (SubL.cons rfl (SubL.cons rfl (SubL.cons rfl (SubL.cons rfl (SubL.cons (look_int rfl (by first | rfl | omega)) (SubL.nil)))))) (SubL.nil)) (fun n116_17 hI17 => ?_)
 obtain ⟨hb17, hst⟩ := hI17
 refine AWp.sr ?_
 refine .vl (Y.lss rfl rfl) ?_
 refine AOps.nil ?_
 refine AWp.seq ?_
 refine AWp.condD rfl (fun c117 => ?_) (fun c117 => ?_)
 refine AWp.skip ?_
 refine AWp.join4 (fun (n144_j21 : Bool) (n153_j21 : Bool) (n159_j21 : Bool) (n166_j21 : Bool) => ⟨[(1, .fp (Netlist.row n) 0), (7, .fp ([.clo (.func 94) [] [.fp (Netlist.row n) 0]]) 0), (114, .fz 3 (n.streams.map Strm.row)), (115, .v (.int .i64 ((n.streams.length : Nat) : Int))), (116, .v (.int .i64 (n116_17 : Int))), (126, .ptr 109 0 0 1), (127, .v (.int .i64 ((n.streams.getD n116_17 default).width))), (128, .v (.bool (decide (Wide ((n.streams.getD n116_17 default).width))))), (129, .v (.bool (!decide (Wide ((n.streams.getD n116_17 default).width))))), (132, .clo (.func 94) [] [.fp (Netlist.row n) 0]), (133, .fp (Netlist.row n) 6), (134, .fz 1 (n.active.map irow)), (135, .v (.int .i64 (n116_17 : Int))), (136, .fp (irow (n.active.getD n116_17 0)) 0), (137, .v (.int .i64 (n.active.getD n116_17 0))), (138, .v (.bool (decide (In (n.active.getD n116_17 0) n.widths.length)))), (139, .v (.bool (!decide (In (n.active.getD n116_17 0) n.widths.length)))), (142, .ptr 109 0 0 2), (143, .v (.bool ((n.streams.getD n116_17 default).out))), (144, .v (.bool n144_j21)), (153, .v (.bool n153_j21)), (156, .ptr 109 0 0 2), (157, .v (.bool ((n.streams.getD n116_17 default).out))), (158, .v (.bool (!((n.streams.getD n116_17 default).out)))), (159, .v (.bool n159_j21)), (166, .v (.bool n166_j21))], [(109, .cells [.v (.string ((n.streams.getD n116_17 default).name)), .v (.int .i64 ((n.streams.getD n116_17 default).width)), .v (.bool ((n.streams.getD n116_17 default).out))])]⟩) (fun (n144_j21 : Bool) (n153_j21 : Bool) (n159_j21 : Bool) (n166_j21 : Bool) => StrOK n n116_17) ?_ (fun n144_j21 n153_j21 n159_j21 n166_j21 hJ21 => ?_)
 refine AWp.block ?_
 refine AWp.sr ?_
 have hsn := hs.strNames _ (getD_mem' (l := n.streams) (i := n116_17) (d := default) (by omega))
 refine .vl (Y.move rfl rfl) ?_
 refine .vl (Y.indexF (m := n116_17) sl25 rfl rfl (by first | rfl | omega) (row_getD (d := default) (by first | omega | (simp [-List.getD_eq_getElem?_getD]; done) | (simp [-List.getD_eq_getElem?_getD]; omega) | (unfold In at *; omega)))) ?_
 refine .vl (Y.loadA sh83 rfl rfl (Nat.le_of_ble_eq_true rfl) rfl rfl) ?_
 refine AOps.alloc 109 ze83 rfl rfl (by decide) ?_
 refine .vl (Y.assign rfl rfl) ?_
 refine AOps.storeC si83 rfl rfl rfl rfl rfl rfl (Nat.le_of_ble_eq_true rfl) rfl ?_
 refine AOps.nil ?_
 refine AWp.seq ?_
 refine AWp.regionAny rfl ?_
 refine AAny.quietN (n := 45) [0, 1] [2, 3, 4, 5, 6, 7, 8, 9, 10, 11, 12, 13, 14, 15, 16, 17, 18, 19, 20, 21, 22, 23, 24, 25, 26, 27, 28, 29, 30, 31, 32, 33, 34, 35, 36, 37, 38, 39, 40, 41, 42, 43, 44, 45, 46] 2 rfl (by kernel_rfl) ?_
 refine .cn 0 rfl (Y.fieldAddr fl83_0 rfl rfl) ?_
 refine .cn 1 rfl (Y.load sh9 rfl rfl rfl rfl) ?_
 refine AQ.nil ?_
 refine AAny.one 2 rfl (by kernel_rfl) ?_
 refine AOps.callP ok92 (named_spec (s := ((n.streams.getD n116_17 default).name)) (by first | assumption | omega)) rfl (.keep rfl rfl .nil) (by decide) rfl ?_
 refine AOps.nil ⟨rfl, ?_⟩
 refine AAny.quietN (n := 40) [3, 4, 5, 6] [7, 8, 9, 10, 11, 12, 13, 14, 15, 16, 17, 18, 19, 20, 21, 22, 23, 24, 25, 26, 27, 28, 29, 30, 31, 32, 33, 34, 35, 36, 37, 38, 39, 40, 41, 42, 43, 44, 45, 46] 7 rfl (by kernel_rfl) ?_
 refine .cn 3 rfl (Y.not rfl) ?_
 refine .cn 4 rfl (Y.move rfl rfl) ?_
 refine AQ.split (d := 125) rfl (fun c125 => ?_) (fun c125 => ?_)
 replace c125 : ¬ (Named ((n.streams.getD n116_17 default).name)) := by simpa using c125
 refine .sk 5 rfl rfl rfl rfl ?_
 refine .sk 6 rfl rfl rfl rfl ?_
 refine AQ.nil ?_
 refine AAny.skipOp 7 rfl (by kernel_rfl) rfl (by decide) (by decide) rfl rfl ?_
 refine AAny.skipOp 8 rfl (by kernel_rfl) rfl (by decide) (by decide) rfl rfl ?_
 refine AAny.quietN (n := 30) [9, 10, 11, 12, 13, 14, 15, 16] [17, 18, 19, 20, 21, 22, 23, 24, 25, 26, 27, 28, 29, 30, 31, 32, 33, 34, 35, 36, 37, 38, 39, 40, 41, 42, 43, 44, 45, 46] 17 rfl (by kernel_rfl) ?_
 refine .cn 9 rfl (Y.pick rfl rfl rfl) ?_
 refine .cn 10 rfl (Y.move rfl rfl) ?_
 refine .sk 11 rfl rfl rfl rfl ?_
 refine .sk 12 rfl rfl rfl rfl ?_
 refine .sk 13 rfl rfl rfl rfl ?_
 refine .sk 14 rfl rfl rfl rfl ?_
 refine .sk 15 rfl rfl rfl rfl ?_
 refine .sk 16 rfl rfl rfl rfl ?_
 refine AQ.nil ?_
 refine AAny.skipOp 17 rfl (by kernel_rfl) rfl (by decide) (by decide) rfl rfl ?_
 refine AAny.skipOp 18 rfl (by kernel_rfl) rfl (by decide) (by decide) rfl rfl ?_
 refine AAny.quietN (n := 17) [19, 20, 21, 22, 23, 24, 25, 26, 27, 28, 29] [30, 31, 32, 33, 34, 35, 36, 37, 38, 39, 40, 41, 42, 43, 44, 45, 46] 30 rfl (by kernel_rfl) ?_
 refine .cn 19 rfl (Y.pick rfl rfl rfl) ?_
 refine .cn 20 rfl (Y.move rfl rfl) ?_
 refine .sk 21 rfl rfl rfl rfl ?_
 refine .sk 22 rfl rfl rfl rfl ?_
 refine .sk 23 rfl rfl rfl rfl ?_
 refine .sk 24 rfl rfl rfl rfl ?_
 refine .sk 25 rfl rfl rfl rfl ?_
 refine .sk 26 rfl rfl rfl rfl ?_
 refine .sk 27 rfl rfl rfl rfl ?_
 refine .sk 28 rfl rfl rfl rfl ?_
 refine .sk 29 rfl rfl rfl rfl ?_
 refine AQ.nil ?_
 refine AAny.skipOp 30 rfl (by kernel_rfl) rfl (by decide) (by decide) rfl rfl ?_
 refine AAny.skipOp 31 rfl (by kernel_rfl) rfl (by decide) (by decide) rfl rfl ?_
 refine AAny.skipOp 32 rfl (by kernel_rfl) rfl (by decide) (by decide) rfl rfl ?_
 refine AAny.quietN (n := 0) [33, 34, 35, 36, 37, 38, 39, 40, 41, 42, 43, 44, 45, 46] [] 0 rfl (by kernel_rfl) ?_
 refine .cn 33 rfl (Y.pick rfl rfl rfl) ?_
 refine .cn 34 rfl (Y.move rfl rfl) ?_
 refine .sk 35 rfl rfl rfl rfl ?_
 refine .sk 36 rfl rfl rfl rfl ?_
 refine .sk 37 rfl rfl rfl rfl ?_
 refine .sk 38 rfl rfl rfl rfl ?_
 refine .sk 39 rfl rfl rfl rfl ?_
 refine .sk 40 rfl rfl rfl rfl ?_
 refine .sk 41 rfl rfl rfl rfl ?_
 refine .sk 42 rfl rfl rfl rfl ?_
 refine .sk 43 rfl rfl rfl rfl ?_
 refine .sk 44 rfl rfl rfl rfl ?_
 refine .sk 45 rfl rfl rfl rfl ?_
 refine .cn 46 rfl (Y.pick rfl rfl rfl) ?_
 refine AQ.nil ?_
 refine AAny.done (by kernel_rfl) ?_
 refine AWp.condT rfl ?_
 refine AWp.sr ?_
 refine .vl (Y.assign rfl rfl) ?_
 refine AOps.nil ?_
 refine AWp.ret ?_
 exact ⟨_, _, rfl, rfl, (cg1 (fun (z0 : Bool) => X.v (.bool z0)) (df (fun h => by have h1 := h.strs n116_17 (by omega); unfold StrOK at h1; obtain ⟨a1, a2, a3, a4, a5⟩ := h1; first | contradiction | grind) : false = decide (Formed n)) : X.v (.bool false) = X.v (.bool (decide (Formed n)))), rfl⟩
 replace c125 : Named ((n.streams.getD n116_17 default).name) := by simpa using c125
 refine .rn 5 rfl rfl rfl (Y.fieldAddr fl83_1 rfl rfl) ?_
 refine .rn 6 rfl rfl rfl (Y.load sh3 rfl rfl rfl rfl) ?_
 refine AQ.nil ?_
 refine AAny.one 7 rfl (by kernel_rfl) ?_
 refine AOps.guardRun (d := 125) rfl (by decide) rfl ?_
 refine AOps.callP ok93 (wide_spec (w := ((n.streams.getD n116_17 default).width))) rfl (.keep rfl rfl .nil) (by decide) rfl ?_
 refine AOps.nil ⟨rfl, ?_⟩
 refine AAny.quietN (n := 30) [8, 9, 10, 11, 12, 13, 14, 15, 16] [17, 18, 19, 20, 21, 22, 23, 24, 25, 26, 27, 28, 29, 30, 31, 32, 33, 34, 35, 36, 37, 38, 39, 40, 41, 42, 43, 44, 45, 46] 17 rfl (by kernel_rfl) ?_
 refine .rn 8 rfl rfl rfl (Y.not rfl) ?_
 refine .cn 9 rfl (Y.pick rfl rfl rfl) ?_
 refine .cn 10 rfl (Y.move rfl rfl) ?_
 refine AQ.split (d := 131) rfl (fun c131 => ?_) (fun c131 => ?_)
 replace c131 : ¬ (Wide ((n.streams.getD n116_17 default).width)) := by simpa using c131
 refine .sk 11 rfl rfl rfl rfl ?_
 refine .sk 12 rfl rfl rfl rfl ?_
 refine .sk 13 rfl rfl rfl rfl ?_
 refine .sk 14 rfl rfl rfl rfl ?_
 refine .sk 15 rfl rfl rfl rfl ?_
 refine .sk 16 rfl rfl rfl rfl ?_
 refine AQ.nil ?_
 refine AAny.skipOp 17 rfl (by kernel_rfl) rfl (by decide) (by decide) rfl rfl ?_
 refine AAny.skipOp 18 rfl (by kernel_rfl) rfl (by decide) (by decide) rfl rfl ?_
 refine AAny.quietN (n := 17) [19, 20, 21, 22, 23, 24, 25, 26, 27, 28, 29] [30, 31, 32, 33, 34, 35, 36, 37, 38, 39, 40, 41, 42, 43, 44, 45, 46] 30 rfl (by kernel_rfl) ?_
 refine .cn 19 rfl (Y.pick rfl rfl rfl) ?_
 refine .cn 20 rfl (Y.move rfl rfl) ?_
 refine .sk 21 rfl rfl rfl rfl ?_
 refine .sk 22 rfl rfl rfl rfl ?_
 refine .sk 23 rfl rfl rfl rfl ?_
 refine .sk 24 rfl rfl rfl rfl ?_
 refine .sk 25 rfl rfl rfl rfl ?_
 refine .sk 26 rfl rfl rfl rfl ?_
 refine .sk 27 rfl rfl rfl rfl ?_
 refine .sk 28 rfl rfl rfl rfl ?_
 refine .sk 29 rfl rfl rfl rfl ?_
 refine AQ.nil ?_
 refine AAny.skipOp 30 rfl (by kernel_rfl) rfl (by decide) (by decide) rfl rfl ?_
 refine AAny.skipOp 31 rfl (by kernel_rfl) rfl (by decide) (by decide) rfl rfl ?_
 refine AAny.skipOp 32 rfl (by kernel_rfl) rfl (by decide) (by decide) rfl rfl ?_
 refine AAny.quietN (n := 0) [33, 34, 35, 36, 37, 38, 39, 40, 41, 42, 43, 44, 45, 46] [] 0 rfl (by kernel_rfl) ?_
 refine .cn 33 rfl (Y.pick rfl rfl rfl) ?_
 refine .cn 34 rfl (Y.move rfl rfl) ?_
 refine .sk 35 rfl rfl rfl rfl ?_
 refine .sk 36 rfl rfl rfl rfl ?_
 refine .sk 37 rfl rfl rfl rfl ?_
 refine .sk 38 rfl rfl rfl rfl ?_
 refine .sk 39 rfl rfl rfl rfl ?_
 refine .sk 40 rfl rfl rfl rfl ?_
 refine .sk 41 rfl rfl rfl rfl ?_
 refine .sk 42 rfl rfl rfl rfl ?_
 refine .sk 43 rfl rfl rfl rfl ?_
 refine .sk 44 rfl rfl rfl rfl ?_
 refine .sk 45 rfl rfl rfl rfl ?_
 refine .cn 46 rfl (Y.pick rfl rfl rfl) ?_
 refine AQ.nil ?_
 refine AAny.done (by kernel_rfl) ?_
 refine AWp.condT rfl ?_
 refine AWp.sr ?_
 refine .vl (Y.assign rfl rfl) ?_
 refine AOps.nil ?_
 refine AWp.ret ?_
 exact ⟨_, _, rfl, rfl, (cg1 (fun (z0 : Bool) => X.v (.bool z0)) (df (fun h => by have h1 := h.strs n116_17 (by omega); unfold StrOK at h1; obtain ⟨a1, a2, a3, a4, a5⟩ := h1; first | contradiction | grind) : false = decide (Formed n)) : X.v (.bool false) = X.v (.bool (decide (Formed n)))), rfl⟩
 replace c131 : Wide ((n.streams.getD n116_17 default).width) := by simpa using c131
 refine .rn 11 rfl rfl rfl (Y.load sh45 rfl rfl rfl rfl) ?_
 refine .rn 12 rfl rfl rfl (Y.fieldAddr fl27_6 rfl rfl) ?_
 refine .rn 13 rfl rfl rfl (Y.load sh22 rfl rfl rfl rfl) ?_
 refine .rn 14 rfl rfl rfl (Y.move rfl rfl) ?_
 refine .rn 15 rfl rfl rfl (Y.indexF (m := n116_17) sl22 rfl rfl (by first | rfl | omega) (row_getD (d := 0) (by first | omega | (simp [-List.getD_eq_getElem?_getD]; done) | (simp [-List.getD_eq_getElem?_getD]; omega) | (unfold In at *; omega)))) ?_
 refine .rn 16 rfl rfl rfl (Y.load sh3 rfl rfl rfl rfl) ?_
 refine AQ.nil ?_
 refine AAny.one 17 rfl (by kernel_rfl) ?_
 refine AOps.guardRun (d := 131) rfl (by decide) rfl ?_
 refine AOps.callCP rfl ok94 (formed1_spec (i := (n.active.getD n116_17 0))) rfl (.keep rfl rfl (.keep rfl rfl .nil)) (by decide) rfl ?_
 refine AOps.nil ⟨rfl, ?_⟩
 refine AAny.quietN (n := 17) [18, 19, 20, 21, 22, 23, 24, 25, 26, 27, 28, 29] [30, 31, 32, 33, 34, 35, 36, 37, 38, 39, 40, 41, 42, 43, 44, 45, 46] 30 rfl (by kernel_rfl) ?_
 refine .rn 18 rfl rfl rfl (Y.not rfl) ?_
 refine .cn 19 rfl (Y.pick rfl rfl rfl) ?_
 refine .cn 20 rfl (Y.move rfl rfl) ?_
 refine AQ.split (d := 141) rfl (fun c141 => ?_) (fun c141 => ?_)
 replace c141 : ¬ (In (n.active.getD n116_17 0) n.widths.length) := by simpa using c141
 refine .sk 21 rfl rfl rfl rfl ?_
 refine .sk 22 rfl rfl rfl rfl ?_
 refine .sk 23 rfl rfl rfl rfl ?_
 refine .sk 24 rfl rfl rfl rfl ?_
 refine .sk 25 rfl rfl rfl rfl ?_
 refine .sk 26 rfl rfl rfl rfl ?_
 refine .sk 27 rfl rfl rfl rfl ?_
 refine .sk 28 rfl rfl rfl rfl ?_
 refine .sk 29 rfl rfl rfl rfl ?_
 refine AQ.nil ?_
 refine AAny.skipOp 30 rfl (by kernel_rfl) rfl (by decide) (by decide) rfl rfl ?_
 refine AAny.skipOp 31 rfl (by kernel_rfl) rfl (by decide) (by decide) rfl rfl ?_
 refine AAny.skipOp 32 rfl (by kernel_rfl) rfl (by decide) (by decide) rfl rfl ?_
 refine AAny.quietN (n := 0) [33, 34, 35, 36, 37, 38, 39, 40, 41, 42, 43, 44, 45, 46] [] 0 rfl (by kernel_rfl) ?_
 refine .cn 33 rfl (Y.pick rfl rfl rfl) ?_
 refine .cn 34 rfl (Y.move rfl rfl) ?_
 refine .sk 35 rfl rfl rfl rfl ?_
 refine .sk 36 rfl rfl rfl rfl ?_
 refine .sk 37 rfl rfl rfl rfl ?_
 refine .sk 38 rfl rfl rfl rfl ?_
 refine .sk 39 rfl rfl rfl rfl ?_
 refine .sk 40 rfl rfl rfl rfl ?_
 refine .sk 41 rfl rfl rfl rfl ?_
 refine .sk 42 rfl rfl rfl rfl ?_
 refine .sk 43 rfl rfl rfl rfl ?_
 refine .sk 44 rfl rfl rfl rfl ?_
 refine .sk 45 rfl rfl rfl rfl ?_
 refine .cn 46 rfl (Y.pick rfl rfl rfl) ?_
 refine AQ.nil ?_
 refine AAny.done (by kernel_rfl) ?_
 refine AWp.condT rfl ?_
 refine AWp.sr ?_
 refine .vl (Y.assign rfl rfl) ?_
 refine AOps.nil ?_
 refine AWp.ret ?_
 exact ⟨_, _, rfl, rfl, (cg1 (fun (z0 : Bool) => X.v (.bool z0)) (df (fun h => by have h1 := h.strs n116_17 (by omega); unfold StrOK at h1; obtain ⟨a1, a2, a3, a4, a5⟩ := h1; first | contradiction | grind) : false = decide (Formed n)) : X.v (.bool false) = X.v (.bool (decide (Formed n)))), rfl⟩
 replace c141 : In (n.active.getD n116_17 0) n.widths.length := by simpa using c141
 refine .rn 21 rfl rfl rfl (Y.fieldAddr fl83_2 rfl rfl) ?_
 refine .rn 22 rfl rfl rfl (Y.load sh4 rfl rfl rfl rfl) ?_
 refine .rn 23 rfl rfl rfl (Y.move rfl rfl) ?_
 refine AQ.split (d := 144) rfl (fun c144 => ?_) (fun c144 => ?_)
 refine .rn 24 rfl rfl rfl (Y.load sh45 rfl rfl rfl rfl) ?_
 refine .rn 25 rfl rfl rfl (Y.fieldAddr fl27_7 rfl rfl) ?_
 refine .rn 26 rfl rfl rfl (Y.load sh22 rfl rfl rfl rfl) ?_
 refine .rn 27 rfl rfl rfl (Y.move rfl rfl) ?_
 refine .rn 28 rfl rfl rfl (Y.indexF (m := n116_17) sl22 rfl rfl (by first | rfl | omega) (row_getD (d := 0) (by first | omega | (simp [-List.getD_eq_getElem?_getD]; done) | (simp [-List.getD_eq_getElem?_getD]; omega) | (unfold In at *; omega)))) ?_
 refine .rn 29 rfl rfl rfl (Y.load sh3 rfl rfl rfl rfl) ?_
 refine AQ.nil ?_
 refine AAny.one 30 rfl (by kernel_rfl) ?_
 refine AOps.guardRun (d := 144) rfl (by decide) rfl ?_
 refine AOps.callCP rfl ok94 (formed1_spec (i := (n.data.getD n116_17 0))) rfl (.keep rfl rfl (.keep rfl rfl .nil)) (by decide) rfl ?_
 refine AOps.nil ⟨rfl, ?_⟩
 refine AAny.quietN (n := 0) [31, 32, 33, 34, 35, 36, 37, 38, 39, 40, 41, 42, 43, 44, 45, 46] [] 0 rfl (by kernel_rfl) ?_
 refine .rn 31 rfl rfl rfl (Y.not rfl) ?_
 refine .rn 32 rfl rfl rfl (Y.pick rfl rfl rfl) ?_
 refine .cn 33 rfl (Y.pick rfl rfl rfl) ?_
 refine .cn 34 rfl (Y.move rfl rfl) ?_
 refine AQ.split (d := 155) rfl (fun c155 => ?_) (fun c155 => ?_)
 replace c155 : ¬ (In (n.data.getD n116_17 0) n.widths.length) := by simpa using c155
 refine .sk 35 rfl rfl rfl rfl ?_
 refine .sk 36 rfl rfl rfl rfl ?_
 refine .sk 37 rfl rfl rfl rfl ?_
 refine .sk 38 rfl rfl rfl rfl ?_
 refine .sk 39 rfl rfl rfl rfl ?_
 refine .sk 40 rfl rfl rfl rfl ?_
 refine .sk 41 rfl rfl rfl rfl ?_
 refine .sk 42 rfl rfl rfl rfl ?_
 refine .sk 43 rfl rfl rfl rfl ?_
 refine .sk 44 rfl rfl rfl rfl ?_
 refine .sk 45 rfl rfl rfl rfl ?_
 refine .cn 46 rfl (Y.pick rfl rfl rfl) ?_
 refine AQ.nil ?_
 refine AAny.done (by kernel_rfl) ?_
 refine AWp.condT rfl ?_
 refine AWp.sr ?_
 refine .vl (Y.assign rfl rfl) ?_
 refine AOps.nil ?_
 refine AWp.ret ?_
 exact ⟨_, _, rfl, rfl, (cg1 (fun (z0 : Bool) => X.v (.bool z0)) (df (fun h => by have h1 := h.strs n116_17 (by omega); unfold StrOK at h1; obtain ⟨a1, a2, a3, a4, a5⟩ := h1; first | contradiction | grind) : false = decide (Formed n)) : X.v (.bool false) = X.v (.bool (decide (Formed n)))), rfl⟩
 replace c155 : In (n.data.getD n116_17 0) n.widths.length := by simpa using c155
 refine .rn 35 rfl rfl rfl (Y.fieldAddr fl83_2 rfl rfl) ?_
 refine .rn 36 rfl rfl rfl (Y.load sh4 rfl rfl rfl rfl) ?_
 refine .rn 37 rfl rfl rfl (Y.not rfl) ?_
 refine .rn 38 rfl rfl rfl (Y.move rfl rfl) ?_
 refine AQ.split (d := 159) rfl (fun c159 => ?_) (fun c159 => ?_)
 replace c159 : ((n.streams.getD n116_17 default).out) = false := by simpa using c159
 refine .rn 39 rfl rfl rfl (Y.fieldAddr fl27_7 rfl rfl) ?_
 refine .rn 40 rfl rfl rfl (Y.load sh22 rfl rfl rfl rfl) ?_
 refine .rn 41 rfl rfl rfl (Y.move rfl rfl) ?_
 refine .rn 42 rfl rfl rfl (Y.indexF (m := n116_17) sl22 rfl rfl (by first | rfl | omega) (row_getD (d := 0) (by first | omega | (simp [-List.getD_eq_getElem?_getD]; done) | (simp [-List.getD_eq_getElem?_getD]; omega) | (unfold In at *; omega)))) ?_
 refine .rn 43 rfl rfl rfl (Y.load sh3 rfl rfl rfl rfl) ?_
 refine .rn 44 rfl rfl rfl (Y.neq rfl rfl) ?_
 refine .rn 45 rfl rfl rfl (Y.pick rfl rfl rfl) ?_
 refine .cn 46 rfl (Y.pick rfl rfl rfl) ?_
 refine AQ.nil ?_
 refine AAny.done (by kernel_rfl) ?_
 refine AWp.condD rfl (fun c167 => ?_) (fun c167 => ?_)
 refine AWp.sr ?_
 refine .vl (Y.assign rfl rfl) ?_
 refine AOps.nil ?_
 refine AWp.ret ?_
 exact ⟨_, _, rfl, rfl, (cg1 (fun (z0 : Bool) => X.v (.bool z0)) (df (fun h => by have h1 := h.strs n116_17 (by omega); unfold StrOK at h1; obtain ⟨a1, a2, a3, a4, a5⟩ := h1; first | contradiction | grind) : false = decide (Formed n)) : X.v (.bool false) = X.v (.bool (decide (Formed n)))), rfl⟩
 refine AWp.skip ?_
 exact ⟨true, (!decide (In (n.data.getD n116_17 0) n.widths.length)), true, decide ((n.data.getD n116_17 0) ≠ (-1)), by unfold StrOK; grind, Le.mk (SubL.cons rfl (SubL.cons rfl (SubL.cons rfl (SubL.cons rfl (SubL.cons rfl (SubL.cons rfl (SubL.cons rfl (SubL.cons rfl (SubL.cons rfl (SubL.cons rfl (SubL.cons rfl (SubL.cons rfl (SubL.cons rfl (SubL.cons rfl (SubL.cons rfl (SubL.cons rfl (SubL.cons rfl (SubL.cons rfl (SubL.cons rfl (SubL.cons (look_bool rfl (by first | rfl | simp_all)) (SubL.cons (look_bool rfl (by first | rfl | simp_all)) (SubL.cons rfl (SubL.cons rfl (SubL.cons rfl (SubL.cons (look_bool rfl (by first | rfl | simp_all)) (SubL.cons (look_bool rfl (by first | rfl | simp_all)) (SubL.nil))))))))))))))))))))))))))) (SubL.cons rfl (SubL.nil))⟩
 replace c159 : ((n.streams.getD n116_17 default).out) = true := by simpa using c159
 refine .sk 39 rfl rfl rfl rfl ?_
 refine .sk 40 rfl rfl rfl rfl ?_
 refine .sk 41 rfl rfl rfl rfl ?_
 refine .sk 42 rfl rfl rfl rfl ?_
 refine .sk 43 rfl rfl rfl rfl ?_
 refine .sk 44 rfl rfl rfl rfl ?_
 refine .rn 45 rfl rfl rfl (Y.pick rfl rfl rfl) ?_
 refine .cn 46 rfl (Y.pick rfl rfl rfl) ?_
 refine AQ.nil ?_
 refine AAny.done (by kernel_rfl) ?_
 refine AWp.condF rfl ?_
 refine AWp.skip ?_
 exact ⟨true, (!decide (In (n.data.getD n116_17 0) n.widths.length)), false, false, by unfold StrOK; grind, Le.mk (SubL.cons rfl (SubL.cons rfl (SubL.cons rfl (SubL.cons rfl (SubL.cons rfl (SubL.cons rfl (SubL.cons rfl (SubL.cons rfl (SubL.cons rfl (SubL.cons rfl (SubL.cons rfl (SubL.cons rfl (SubL.cons rfl (SubL.cons rfl (SubL.cons rfl (SubL.cons rfl (SubL.cons rfl (SubL.cons rfl (SubL.cons rfl (SubL.cons (look_bool rfl (by first | rfl | simp_all)) (SubL.cons (look_bool rfl (by first | rfl | simp_all)) (SubL.cons rfl (SubL.cons rfl (SubL.cons rfl (SubL.cons (look_bool rfl (by first | rfl | simp_all)) (SubL.cons (look_bool rfl (by first | rfl | simp_all)) (SubL.nil))))))))))))))))))))))))))) (SubL.cons rfl (SubL.nil))⟩
 refine .sk 24 rfl rfl rfl rfl ?_
 refine .sk 25 rfl rfl rfl rfl ?_
 refine .sk 26 rfl rfl rfl rfl ?_
 refine .sk 27 rfl rfl rfl rfl ?_
 refine .sk 28 rfl rfl rfl rfl ?_
 refine .sk 29 rfl rfl rfl rfl ?_
 refine AQ.nil ?_
 refine AAny.skipOp 30 rfl (by kernel_rfl) rfl (by decide) (by decide) rfl rfl ?_
 refine AAny.skipOp 31 rfl (by kernel_rfl) rfl (by decide) (by decide) rfl rfl ?_
 refine AAny.quietN (n := 0) [32, 33, 34, 35, 36, 37, 38, 39, 40, 41, 42, 43, 44, 45, 46] [] 0 rfl (by kernel_rfl) ?_
 refine .rn 32 rfl rfl rfl (Y.pick rfl rfl rfl) ?_
 refine .cn 33 rfl (Y.pick rfl rfl rfl) ?_
 refine .cn 34 rfl (Y.move rfl rfl) ?_
 refine .rn 35 rfl rfl rfl (Y.fieldAddr fl83_2 rfl rfl) ?_
 refine .rn 36 rfl rfl rfl (Y.load sh4 rfl rfl rfl rfl) ?_
 refine .rn 37 rfl rfl rfl (Y.not rfl) ?_
 refine .rn 38 rfl rfl rfl (Y.move rfl rfl) ?_
 refine AQ.split (d := 159) rfl (fun c159 => ?_) (fun c159 => ?_)
 replace c159 : ((n.streams.getD n116_17 default).out) = false := by simpa using c159
 refine .rn 39 rfl rfl rfl (Y.fieldAddr fl27_7 rfl rfl) ?_
 refine .rn 40 rfl rfl rfl (Y.load sh22 rfl rfl rfl rfl) ?_
 refine .rn 41 rfl rfl rfl (Y.move rfl rfl) ?_
 refine .rn 42 rfl rfl rfl (Y.indexF (m := n116_17) sl22 rfl rfl (by first | rfl | omega) (row_getD (d := 0) (by first | omega | (simp [-List.getD_eq_getElem?_getD]; done) | (simp [-List.getD_eq_getElem?_getD]; omega) | (unfold In at *; omega)))) ?_
 refine .rn 43 rfl rfl rfl (Y.load sh3 rfl rfl rfl rfl) ?_
 refine .rn 44 rfl rfl rfl (Y.neq rfl rfl) ?_
 refine .rn 45 rfl rfl rfl (Y.pick rfl rfl rfl) ?_
 refine .cn 46 rfl (Y.pick rfl rfl rfl) ?_
 refine AQ.nil ?_
 refine AAny.done (by kernel_rfl) ?_
 refine AWp.condD rfl (fun c167 => ?_) (fun c167 => ?_)
 refine AWp.sr ?_
 refine .vl (Y.assign rfl rfl) ?_
 refine AOps.nil ?_
 refine AWp.ret ?_
 exact ⟨_, _, rfl, rfl, (cg1 (fun (z0 : Bool) => X.v (.bool z0)) (df (fun h => by have h1 := h.strs n116_17 (by omega); unfold StrOK at h1; obtain ⟨a1, a2, a3, a4, a5⟩ := h1; first | contradiction | grind) : false = decide (Formed n)) : X.v (.bool false) = X.v (.bool (decide (Formed n)))), rfl⟩
 refine AWp.skip ?_
 exact ⟨false, false, true, decide ((n.data.getD n116_17 0) ≠ (-1)), by unfold StrOK; grind, Le.mk (SubL.cons rfl (SubL.cons rfl (SubL.cons rfl (SubL.cons rfl (SubL.cons rfl (SubL.cons rfl (SubL.cons rfl (SubL.cons rfl (SubL.cons rfl (SubL.cons rfl (SubL.cons rfl (SubL.cons rfl (SubL.cons rfl (SubL.cons rfl (SubL.cons rfl (SubL.cons rfl (SubL.cons rfl (SubL.cons rfl (SubL.cons rfl (SubL.cons (look_bool rfl (by first | rfl | simp_all)) (SubL.cons (look_bool rfl (by first | rfl | simp_all)) (SubL.cons rfl (SubL.cons rfl (SubL.cons rfl (SubL.cons (look_bool rfl (by first | rfl | simp_all)) (SubL.cons (look_bool rfl (by first | rfl | simp_all)) (SubL.nil))))))))))))))))))))))))))) (SubL.cons rfl (SubL.nil))⟩
 replace c159 : ((n.streams.getD n116_17 default).out) = true := by simpa using c159
 refine .sk 39 rfl rfl rfl rfl ?_
 refine .sk 40 rfl rfl rfl rfl ?_
 refine .sk 41 rfl rfl rfl rfl ?_
 refine .sk 42 rfl rfl rfl rfl ?_
 refine .sk 43 rfl rfl rfl rfl ?_
 refine .sk 44 rfl rfl rfl rfl ?_
 refine .rn 45 rfl rfl rfl (Y.pick rfl rfl rfl) ?_
 refine .cn 46 rfl (Y.pick rfl rfl rfl) ?_
 refine AQ.nil ?_
 refine AAny.done (by kernel_rfl) ?_
 refine AWp.condF rfl ?_
 refine AWp.skip ?_
 exact ⟨false, false, false, false, by unfold StrOK; grind, Le.mk (SubL.cons rfl (SubL.cons rfl (SubL.cons rfl (SubL.cons rfl (SubL.cons rfl (SubL.cons rfl (SubL.cons rfl (SubL.cons rfl (SubL.cons rfl (SubL.cons rfl (SubL.cons rfl (SubL.cons rfl (SubL.cons rfl (SubL.cons rfl (SubL.cons rfl (SubL.cons rfl (SubL.cons rfl (SubL.cons rfl (SubL.cons rfl (SubL.cons (look_bool rfl (by first | rfl | simp_all)) (SubL.cons (look_bool rfl (by first | rfl | simp_all)) (SubL.cons rfl (SubL.cons rfl (SubL.cons rfl (SubL.cons (look_bool rfl (by first | rfl | simp_all)) (SubL.cons (look_bool rfl (by first | rfl | simp_all)) (SubL.nil))))))))))))))))))))))))))) (SubL.cons rfl (SubL.nil))⟩
 refine AWp.region ?_
 refine .vl (Y.addI rfl rfl (by first | omega | (simp [-List.getD_eq_getElem?_getD]; done) | (simp [-List.getD_eq_getElem?_getD]; omega) | (unfold In at *; omega))) ?_
 refine .vl (Y.move rfl rfl) ?_
 refine AOps.nil ?_
 exact ⟨n116_17 + 1, ⟨by first | omega | (simp [-List.getD_eq_getElem?_getD]; done) | (simp [-List.getD_eq_getElem?_getD]; omega) | (unfold In at *; omega), below_succ' hst hJ21⟩, by omega, Le.mk (SubL.cons rfl (SubL.cons rfl (SubL.cons rfl (SubL.cons rfl (SubL.cons (look_int rfl (by first | rfl | omega)) (SubL.nil)))))) (SubL.nil)⟩
 refine AWp.exit ?_
 refine AWp.seq ?_
 refine AWp.sr ?_
 refine .vl (Y.load sh45 rfl rfl rfl rfl) ?_
 refine .vl (Y.fieldAddr fl27_8 rfl rfl) ?_
 refine .vl (Y.load sh3 rfl rfl rfl rfl) ?_
 refine AOps.callCP rfl ok94 (formed1_spec (i := n.freeze)) rfl (.keep rfl rfl (.keep rfl rfl .nil)) (by decide) rfl ?_
 refine .vl (Y.not rfl) ?_
 refine .vl (Y.move rfl rfl) ?_
 refine AOps.split (d := 174) rfl (fun c174 => ?_) (fun c174 => ?_)
 replace c174 : ¬ (In n.freeze n.widths.length) := by simpa using c174
 refine .gs 174 rfl rfl rfl ?_
 refine .gs 174 rfl rfl rfl ?_
 refine .gs 174 rfl rfl rfl ?_
 refine .gs 174 rfl rfl rfl ?_
 refine .gs 174 rfl rfl rfl ?_
 refine .vl (Y.pick rfl rfl rfl) ?_
 refine .vl (Y.move rfl rfl) ?_
 refine .gs 181 rfl rfl rfl ?_
 refine .gs 181 rfl rfl rfl ?_
 refine .gs 181 rfl rfl rfl ?_
 refine .gs 181 rfl rfl rfl ?_
 refine .vl (Y.pick rfl rfl rfl) ?_
 refine AOps.nil ?_
 refine AWp.condT rfl ?_
 refine AWp.sr ?_
 refine .vl (Y.assign rfl rfl) ?_
 refine AOps.nil ?_
 refine AWp.ret ?_
 exact ⟨_, _, rfl, rfl, (cg1 (fun (z0 : Bool) => X.v (.bool z0)) (df (fun h => by have h1 := h.freeze; have h2 := h.done; contradiction) : false = decide (Formed n)) : X.v (.bool false) = X.v (.bool (decide (Formed n)))), rfl⟩
 replace c174 : In n.freeze n.widths.length := by simpa using c174
 refine .gv 174 rfl rfl (Y.load sh45 rfl rfl rfl rfl) ?_
 refine .gv 174 rfl rfl (Y.fieldAddr fl27_9 rfl rfl) ?_
 refine .gv 174 rfl rfl (Y.load sh3 rfl rfl rfl rfl) ?_
 refine AOps.guardRun (d := 174) rfl (by decide) rfl ?_
 refine AOps.callCP rfl ok94 (formed1_spec (i := n.done)) rfl (.keep rfl rfl (.keep rfl rfl .nil)) (by decide) rfl ?_
 refine .gv 174 rfl rfl (Y.not rfl) ?_
 refine .vl (Y.pick rfl rfl rfl) ?_
 refine .vl (Y.move rfl rfl) ?_
 refine AOps.split (d := 181) rfl (fun c181 => ?_) (fun c181 => ?_)
 replace c181 : ¬ (In n.done n.widths.length) := by simpa using c181
 refine .gs 181 rfl rfl rfl ?_
 refine .gs 181 rfl rfl rfl ?_
 refine .gs 181 rfl rfl rfl ?_
 refine .gs 181 rfl rfl rfl ?_
 refine .vl (Y.pick rfl rfl rfl) ?_
 refine AOps.nil ?_
 refine AWp.condT rfl ?_
 refine AWp.sr ?_
 refine .vl (Y.assign rfl rfl) ?_
 refine AOps.nil ?_
 refine AWp.ret ?_
 exact ⟨_, _, rfl, rfl, (cg1 (fun (z0 : Bool) => X.v (.bool z0)) (df (fun h => by have h1 := h.freeze; have h2 := h.done; contradiction) : false = decide (Formed n)) : X.v (.bool false) = X.v (.bool (decide (Formed n)))), rfl⟩
 replace c181 : In n.done n.widths.length := by simpa using c181
 refine .gv 181 rfl rfl (Y.fieldAddr fl27_10 rfl rfl) ?_
 refine .gv 181 rfl rfl (Y.load sh22 rfl rfl rfl rfl) ?_
 refine .gv 181 rfl rfl (Y.makeFunc rfl rfl rfl rfl) ?_
 refine AOps.guardRun (d := 181) rfl (by decide) rfl ?_
 refine AOps.callP ok95 (containsFuncInt_spec (l := n.rets) (p := fun z => !decide (In z n.widths.length)) ((by first | omega | (simp [-List.getD_eq_getElem?_getD]; done) | (simp [-List.getD_eq_getElem?_getD]; omega) | (unfold In at *; omega))) ok96 (fun z _ => formed2_spec)) rfl (.keep rfl rfl (.keep rfl rfl .nil)) (by decide) rfl ?_
 refine .vl (Y.pick rfl rfl rfl) ?_
 refine AOps.nil ?_
 refine AWp.cond rfl (fun c186 => ?_) (fun c186 => ?_)
 refine AWp.sr ?_
 refine .vl (Y.assign rfl rfl) ?_
 refine AOps.nil ?_
 refine AWp.ret ?_
 exact ⟨_, _, rfl, rfl, (cg1 (fun (z0 : Bool) => X.v (.bool z0)) (df (fun h => absurd h.rets (any_not.1 (by assumption))) : false = decide (Formed n)) : X.v (.bool false) = X.v (.bool (decide (Formed n)))), rfl⟩
 refine AWp.skip ?_
 refine AWp.sr ?_
 refine .vl (Y.fieldAddr fl27_1 rfl rfl) ?_
 refine .vl (Y.load sh22 rfl rfl rfl rfl) ?_
 refine .vl (Y.len (n := n.widths.length) sl22 rfl (congrArg some (List.length_map ..))) ?_
 refine AOps.makeSlice (n := n.widths.length) sl63 ze4 rfl rfl rfl rfl (by first | omega | (simp [-List.getD_eq_getElem?_getD]; done) | (simp [-List.getD_eq_getElem?_getD]; omega) | (unfold In at *; omega)) (by first | omega | (simp [-List.getD_eq_getElem?_getD]; done) | (simp [-List.getD_eq_getElem?_getD]; omega) | (unfold In at *; omega)) (by decide) ?_
 refine AOps.assignX rfl (by decide) ?_
 refine AOps.sh (Sh.adoptE (d := 10) (n := n.widths.length) 110 ((List.replicate n.widths.length false).map brow) rfl (by first | rfl | exact rep_map rfl) (len_map (by simp)) (by decide)) ?_
 refine AOps.nil ?_
 refine AWp.seq ?_
 refine AWp.sr ?_
 refine .vl (Y.fieldAddr fl27_2 rfl rfl) ?_
 refine .vl (Y.load sh23 rfl rfl rfl rfl) ?_
 refine .vl (Y.len (n := n.cells.length) sl23 rfl (congrArg some (List.length_map ..))) ?_
 refine .vl (Y.move rfl rfl) ?_
 refine AOps.nil ?_
 refine AWp.block ?_
 refine AWp.loop2 (fun (n194_26 : Nat) (driven10_26 : List Bool) => ⟨[(1, .fp (Netlist.row n) 0), (7, .fp ([.clo (.func 94) [] [.fp (Netlist.row n) 0]]) 0), (10, .slc 110 1 0 n.widths.length), (192, .fz 6 (n.cells.map Cell.row)), (193, .v (.int .i64 ((n.cells.length : Nat) : Int))), (194, .v (.int .i64 (n194_26 : Int)))], [(110, .rows 1 (driven10_26.map brow))]⟩) (fun (n194_26 : Nat) (driven10_26 : List Bool) => (driven10_26.length = n.widths.length) ∧ ((n194_26 : Int) ≤ ((n.cells.length : Nat) : Int)) ∧ (Drv n n194_26 driven10_26) ∧ (∀ j, j < n194_26 → CellOK n (n.cells.getD j default))) (fun (n194_26 : Nat) (driven10_26 : List Bool) => (((n.cells.length : Nat) : Int) - (n194_26 : Int)).toNat) 0 (List.replicate n.widths.length false) (⟨by first | omega | (simp [-List.getD_eq_getElem?_getD]; done) | (simp [-List.getD_eq_getElem?_getD]; omega) | (unfold In at *; omega), by first | omega | (simp [-List.getD_eq_getElem?_getD]; done) | (simp [-List.getD_eq_getElem?_getD]; omega) | (unfold In at *; omega), Drv.init n, fun j hj => by omega⟩) (Le.mk (SubL.cons rfl (SubL.cons rfl (SubL.cons rfl (SubL.cons rfl (SubL.cons rfl (SubL.cons (look_int rfl (by first | rfl | omega)) (SubL.nil))))))) (SubL.cons rfl (SubL.nil))) (fun n194_26 driven10_26 hI26 => ?_)
 obtain ⟨hl110, hb26, hd, hc⟩ := hI26
 refine AWp.sr ?_
 refine .vl (Y.lss rfl rfl) ?_
 refine AOps.nil ?_
 refine AWp.seq ?_
 refine AWp.condD rfl (fun c195 => ?_) (fun c195 => ?_)
 refine AWp.skip ?_
 refine AWp.join1 (fun (driven10_j36 : List Bool) => ⟨[(1, .fp (Netlist.row n) 0), (7, .fp ([.clo (.func 94) [] [.fp (Netlist.row n) 0]]) 0), (10, .slc 110 1 0 n.widths.length), (192, .fz 6 (n.cells.map Cell.row)), (193, .v (.int .i64 ((n.cells.length : Nat) : Int))), (194, .v (.int .i64 (n194_26 : Int))), (203, .agg [.v (.string n.name), .fz 1 (n.widths.map irow), .fz 6 (n.cells.map Cell.row), .fz 1 (n.ins.map irow), .fz 5 (n.mems.map Arr.row), .fz 3 (n.streams.map Strm.row), .fz 1 (n.active.map irow), .fz 1 (n.data.map irow), .v (.int .i64 n.freeze), .v (.int .i64 n.done), .fz 1 (n.rets.map irow)]), (204, .agg [.v (.int .i64 ((n.cells.getD n194_26 default).kind)), .v (.int .i64 ((n.cells.getD n194_26 default).op)), .v (.int .i64 ((n.cells.getD n194_26 default).out)), .fz 1 (((n.cells.getD n194_26 default).args).map irow), .v (.int .u64 (((n.cells.getD n194_26 default).num : Nat) : Int)), .v (.int .i64 ((n.cells.getD n194_26 default).mem))]), (205, .v (.bool (decide (Shaped n (n.cells.getD n194_26 default))))), (206, .v (.bool (!decide (Shaped n (n.cells.getD n194_26 default)))))], [(110, .rows 1 (driven10_j36.map brow))]⟩) (fun (driven10_j36 : List Bool) => (driven10_j36.length = n.widths.length) ∧ (CellOK n (n.cells.getD n194_26 default) ∧ Drv n (n194_26 + 1) driven10_j36)) ?_ (fun driven10_j36 hJx36 => ?_)
 refine AWp.block ?_
 refine AWp.sr ?_
 refine .vl (Y.indexF (m := n194_26) sl23 rfl rfl (by first | rfl | omega) (row_getD (d := default) (by first | omega | (simp [-List.getD_eq_getElem?_getD]; done) | (simp [-List.getD_eq_getElem?_getD]; omega) | (unfold In at *; omega)))) ?_
 refine .vl (Y.loadA sh39 rfl rfl (Nat.le_of_ble_eq_true rfl) rfl rfl) ?_
 refine AOps.alloc 112 ze39 rfl rfl (by decide) ?_
 refine AOps.storeC si39 rfl rfl rfl rfl rfl rfl (Nat.le_of_ble_eq_true rfl) rfl ?_
 refine AOps.nil ?_
 refine AWp.seq ?_
 refine AWp.sr ?_
 have hca := hs.args (n.cells.getD n194_26 default) (getD_mem' (by omega))
 refine .vl (Y.fieldAddr fl39_3 rfl rfl) ?_
 refine .vl (Y.load sh22 rfl rfl rfl rfl) ?_
 refine .vl (Y.makeFunc rfl rfl rfl rfl) ?_
 refine AOps.callP ok95 (containsFuncInt_spec (l := ((n.cells.getD n194_26 default).args)) (p := fun z => !decide (In z n.widths.length)) ((by first | omega | (simp [-List.getD_eq_getElem?_getD]; done) | (simp [-List.getD_eq_getElem?_getD]; omega) | (unfold In at *; omega))) ok97 (fun z _ => formed3_spec)) rfl (.keep rfl rfl (.keep rfl rfl .nil)) (by decide) rfl ?_
 refine .vl (Y.move rfl rfl) ?_
 refine AOps.split (d := 202) rfl (fun c202 => ?_) (fun c202 => ?_)
 refine .gs 202 rfl rfl rfl ?_
 refine .gs 202 rfl rfl rfl ?_
 refine .gs 202 rfl rfl rfl ?_
 refine .gs 202 rfl rfl rfl ?_
 refine .vl (Y.pick rfl rfl rfl) ?_
 refine AOps.nil ?_
 refine AWp.condT rfl ?_
 refine AWp.sr ?_
 refine .vl (Y.assign rfl rfl) ?_
 refine AOps.nil ?_
 refine AWp.ret ?_
 exact ⟨_, _, rfl, rfl, (cg1 (fun (z0 : Bool) => X.v (.bool z0)) (df (fun h => by have h1 := h.cells n194_26 (by omega); obtain ⟨a1, a2, a3, a4⟩ := h1; first | contradiction | exact absurd a1 (any_not.1 (by assumption)) | (have := a3 (by assumption); contradiction) | (have := a4 (by assumption); contradiction)) : false = decide (Formed n)) : X.v (.bool false) = X.v (.bool (decide (Formed n)))), rfl⟩
 refine .gv 202 rfl rfl (Y.loadA sh27 rfl rfl (Nat.le_of_ble_eq_true rfl) rfl rfl) ?_
 refine .gv 202 rfl rfl (Y.loadA sh39 rfl rfl (Nat.le_of_ble_eq_true rfl) rfl rfl) ?_
 refine AOps.guardRun (d := 202) rfl (by decide) rfl ?_
 refine AOps.callP ok98 (shaped_spec (n := n) (c := (n.cells.getD n194_26 default)) hs (by first | assumption | omega)) rfl (.keep rfl rfl (.keep rfl rfl .nil)) (by decide) rfl ?_
 refine .gv 202 rfl rfl (Y.not rfl) ?_
 refine .vl (Y.pick rfl rfl rfl) ?_
 refine AOps.nil ?_
 refine AWp.cond rfl (fun c207 => ?_) (fun c207 => ?_)
 replace c207 : ¬ (Shaped n (n.cells.getD n194_26 default)) := by simpa using c207
 refine AWp.sr ?_
 refine .vl (Y.assign rfl rfl) ?_
 refine AOps.nil ?_
 refine AWp.ret ?_
 exact ⟨_, _, rfl, rfl, (cg1 (fun (z0 : Bool) => X.v (.bool z0)) (df (fun h => by have h1 := h.cells n194_26 (by omega); obtain ⟨a1, a2, a3, a4⟩ := h1; first | contradiction | exact absurd a1 (any_not.1 (by assumption)) | (have := a3 (by assumption); contradiction) | (have := a4 (by assumption); contradiction)) : false = decide (Formed n)) : X.v (.bool false) = X.v (.bool (decide (Formed n)))), rfl⟩
 replace c207 : Shaped n (n.cells.getD n194_26 default) := by simpa using c207
 refine AWp.skip ?_
 refine AWp.seq ?_
 refine AWp.sr ?_
 refine .vl (Y.fieldAddr fl39_0 rfl rfl) ?_
 refine .vl (Y.load sh3 rfl rfl rfl rfl) ?_
 refine .vl (Y.eql rfl rfl) ?_
 refine AOps.nil ?_
 refine AWp.condD rfl (fun c210 => ?_) (fun c210 => ?_)
 refine AWp.seq ?_
 refine AWp.sr ?_
 refine .vl (Y.fieldAddr fl39_2 rfl rfl) ?_
 refine .vl (Y.load sh3 rfl rfl rfl rfl) ?_
 refine .vl (Y.neq rfl rfl) ?_
 refine AOps.nil ?_
 refine AWp.condD rfl (fun c213 => ?_) (fun c213 => ?_)
 refine AWp.sr ?_
 refine .vl (Y.assign rfl rfl) ?_
 refine AOps.nil ?_
 refine AWp.ret ?_
 exact ⟨_, _, rfl, rfl, (cg1 (fun (z0 : Bool) => X.v (.bool z0)) (df (fun h => by have h1 := h.cells n194_26 (by omega); obtain ⟨a1, a2, a3, a4⟩ := h1; first | contradiction | exact absurd a1 (any_not.1 (by assumption)) | (have := a3 (by assumption); contradiction) | (have := a4 (by assumption); contradiction)) : false = decide (Formed n)) : X.v (.bool false) = X.v (.bool (decide (Formed n)))), rfl⟩
 refine AWp.skip ?_
 refine AWp.exit ?_
 exact ⟨driven10_26, ⟨by first | omega | (simp [-List.getD_eq_getElem?_getD]; done) | (simp [-List.getD_eq_getElem?_getD]; omega) | (unfold In at *; omega), ⟨⟨any_not_false (by assumption), by assumption, fun _ => by omega, fun h => absurd (by assumption) h⟩, hd.skip (by omega) (by assumption)⟩⟩, Le.mk (SubL.cons rfl (SubL.cons rfl (SubL.cons rfl (SubL.cons rfl (SubL.cons rfl (SubL.cons rfl (SubL.cons rfl (SubL.cons rfl (SubL.cons rfl (SubL.cons rfl (SubL.nil))))))))))) (SubL.cons rfl (SubL.nil))⟩
 refine AWp.skip ?_
 refine AWp.seq ?_
 refine AWp.sr ?_
 refine .vl (Y.load sh45 rfl rfl rfl rfl) ?_
 refine .vl (Y.fieldAddr fl39_2 rfl rfl) ?_
 refine .vl (Y.load sh3 rfl rfl rfl rfl) ?_
 refine AOps.callCP rfl ok94 (formed1_spec (i := ((n.cells.getD n194_26 default).out))) rfl (.keep rfl rfl (.keep rfl rfl .nil)) (by decide) rfl ?_
 refine .vl (Y.not rfl) ?_
 refine .vl (Y.move rfl rfl) ?_
 refine AOps.split (d := 219) rfl (fun c219 => ?_) (fun c219 => ?_)
 replace c219 : ¬ (In ((n.cells.getD n194_26 default).out) n.widths.length) := by simpa using c219
 refine .gs 219 rfl rfl rfl ?_
 refine .gs 219 rfl rfl rfl ?_
 refine .gs 219 rfl rfl rfl ?_
 refine .gs 219 rfl rfl rfl ?_
 refine .gs 219 rfl rfl rfl ?_
 refine .vl (Y.pick rfl rfl rfl) ?_
 refine AOps.nil ?_
 refine AWp.condT rfl ?_
 refine AWp.sr ?_
 refine .vl (Y.assign rfl rfl) ?_
 refine AOps.nil ?_
 refine AWp.ret ?_
 exact ⟨_, _, rfl, rfl, (cg1 (fun (z0 : Bool) => X.v (.bool z0)) (df (fun h => by have h1 := h.cells n194_26 (by omega); obtain ⟨a1, a2, a3, a4⟩ := h1; first | contradiction | exact absurd a1 (any_not.1 (by assumption)) | (have := a3 (by assumption); contradiction) | (have := a4 (by assumption); contradiction)) : false = decide (Formed n)) : X.v (.bool false) = X.v (.bool (decide (Formed n)))), rfl⟩
 replace c219 : In ((n.cells.getD n194_26 default).out) n.widths.length := by simpa using c219
 refine .gv 219 rfl rfl (Y.move rfl rfl) ?_
 refine .gv 219 rfl rfl (Y.fieldAddr fl39_2 rfl rfl) ?_
 refine .gv 219 rfl rfl (Y.load sh3 rfl rfl rfl rfl) ?_
 refine .gv 219 rfl rfl (Y.indexO (m := ((n.cells.getD n194_26 default).out).toNat) sl63 rfl rfl (by first | omega | (simp [-List.getD_eq_getElem?_getD]; done) | (simp [-List.getD_eq_getElem?_getD]; omega) | (unfold In at *; omega)) (by first | omega | (simp [-List.getD_eq_getElem?_getD]; done) | (simp [-List.getD_eq_getElem?_getD]; omega) | (unfold In at *; omega))) ?_
 refine .gv 219 rfl rfl (Y.load sh4 rfl (row_getD0 (d := false) (by first | omega | (simp [-List.getD_eq_getElem?_getD]; done) | (simp [-List.getD_eq_getElem?_getD]; omega) | (unfold In at *; omega))) rfl rfl) ?_
 refine .vl (Y.pick rfl rfl rfl) ?_
 refine AOps.nil ?_
 refine AWp.cond rfl (fun c225 => ?_) (fun c225 => ?_)
 refine AWp.sr ?_
 refine .vl (Y.assign rfl rfl) ?_
 refine AOps.nil ?_
 refine AWp.ret ?_
 exact ⟨_, _, rfl, rfl, (cg1 (fun (z0 : Bool) => X.v (.bool z0)) (df (fun h => Drv.dup hd (by omega) (by assumption) (by assumption) (by assumption) h) : false = decide (Formed n)) : X.v (.bool false) = X.v (.bool (decide (Formed n)))), rfl⟩
 refine AWp.skip ?_
 refine AWp.region ?_
 refine .vl (Y.move rfl rfl) ?_
 refine .vl (Y.fieldAddr fl39_2 rfl rfl) ?_
 refine .vl (Y.load sh3 rfl rfl rfl rfl) ?_
 refine .vl (Y.indexO (m := ((n.cells.getD n194_26 default).out).toNat) sl63 rfl rfl (by first | omega | (simp [-List.getD_eq_getElem?_getD]; done) | (simp [-List.getD_eq_getElem?_getD]; omega) | (unfold In at *; omega)) (by first | omega | (simp [-List.getD_eq_getElem?_getD]; done) | (simp [-List.getD_eq_getElem?_getD]; omega) | (unfold In at *; omega))) ?_
 refine AOps.storeE ((driven10_26.set (((n.cells.getD n194_26 default).out).toNat) true).map brow) si4 rfl rfl rfl rfl rfl rfl rfl (row_getD0 (d := false) (by first | omega | (simp [-List.getD_eq_getElem?_getD]; done) | (simp [-List.getD_eq_getElem?_getD]; omega) | (unfold In at *; omega))) (Nat.le_of_ble_eq_true rfl) (set_map0 rfl) ?_
 refine AOps.nil ?_
 exact ⟨driven10_26.set (((n.cells.getD n194_26 default).out).toNat) true, ⟨by first | omega | (simp [-List.getD_eq_getElem?_getD]; done) | (simp [-List.getD_eq_getElem?_getD]; omega) | (unfold In at *; omega), ⟨⟨any_not_false (by assumption), by assumption, fun h => absurd h (by assumption), fun _ => by assumption⟩, hd.step (by omega) (by assumption) (by assumption) hl110 (by assumption)⟩⟩, Le.mk (SubL.cons rfl (SubL.cons rfl (SubL.cons rfl (SubL.cons rfl (SubL.cons rfl (SubL.cons rfl (SubL.cons rfl (SubL.cons rfl (SubL.cons rfl (SubL.cons rfl (SubL.nil))))))))))) (SubL.cons rfl (SubL.nil))⟩
 obtain ⟨hlj36_110, hJ36⟩ := hJx36
 refine AWp.region ?_
 refine .vl (Y.addI rfl rfl (by first | omega | (simp [-List.getD_eq_getElem?_getD]; done) | (simp [-List.getD_eq_getElem?_getD]; omega) | (unfold In at *; omega))) ?_
 refine .vl (Y.move rfl rfl) ?_
 refine AOps.nil ?_
 exact ⟨n194_26 + 1, driven10_j36, ⟨by first | omega | (simp [-List.getD_eq_getElem?_getD]; done) | (simp [-List.getD_eq_getElem?_getD]; omega) | (unfold In at *; omega), by first | omega | (simp [-List.getD_eq_getElem?_getD]; done) | (simp [-List.getD_eq_getElem?_getD]; omega) | (unfold In at *; omega), hJ36.2, below_succ' hc hJ36.1⟩, by omega, Le.mk (SubL.cons rfl (SubL.cons rfl (SubL.cons rfl (SubL.cons rfl (SubL.cons rfl (SubL.cons (look_int rfl (by first | rfl | omega)) (SubL.nil))))))) (SubL.cons rfl (SubL.nil))⟩
 refine AWp.exit ?_
 refine AWp.sr ?_
 refine .vl (Y.move rfl rfl) ?_
 refine AOps.callLP [110] ok99 (containsBool_spec (l := driven10_26) (b := false) ((by first | omega | (simp [-List.getD_eq_getElem?_getD]; done) | (simp [-List.getD_eq_getElem?_getD]; omega) | (unfold In at *; omega)))) rfl (.lend rfl rfl (lend_le (by first | omega | (simp [-List.getD_eq_getElem?_getD]; done) | (simp [-List.getD_eq_getElem?_getD]; omega) | (unfold In at *; omega))) (lend_eq (by first | omega | (simp [-List.getD_eq_getElem?_getD]; done) | (simp [-List.getD_eq_getElem?_getD]; omega) | (unfold In at *; omega))) (.keep rfl rfl .nil)) (lend1 rfl (owns_map brow_frees)) (by decide) rfl trivial ?_
 refine .vl (Y.not rfl) ?_
 refine .vl (Y.assign rfl rfl) ?_
 refine AOps.nil ?_
 refine AWp.ret ?_
 exact ⟨_, _, rfl, rfl, (cg1 (fun (z0 : Bool) => X.v (.bool z0)) (db ((Drv.all (d := driven10_26) (by rw [show n.cells.length = n194_26 by omega]; exact hd) hl110).trans ⟨fun h => ⟨by assumption, by omega, by omega, by omega, by omega, by omega, by omega, fun j hj => by have := hw j (by rw [List.length_append] at hj; omega); rw [hcat] at this; exact this, fun j hj => hm j (by omega), fun j hj => hst j (by omega), by assumption, by assumption, any_not_false (by assumption), fun j hj => hc j (by omega), h⟩, fun h => h.driven⟩) : (!(driven10_26.any (fun x => false == x))) = decide (Formed n)) : X.v (.bool (!(driven10_26.any (fun x => false == x)))) = X.v (.bool (decide (Formed n)))), rfl⟩

end Go.Proofs.Ytligpghohcfpnaa
