/- Walks through the widths of the specification. -/
import Derived.Test.YtjnpbojdjipboaaNetx0
set_option linter.unusedSimpArgs false
set_option linter.unusedVariables false
set_option linter.unusedSectionVars false
namespace Go.Proofs.Ytjnpbojdjipboaa
open Go Go.AW Go.Proofs



set_option maxRecDepth 4000 in
set_option maxHeartbeats 1000000 in
theorem refOperands_spec {op w : Int} {a : List Int} (h1 : 1 ≤ a.length) (h2 : op < 22 ∨ 24 < op → 2 ≤ a.length) (h3 : op = 21 → 3 ≤ a.length) (ha : a.length ≤ 17592186043904) : ACalls Try.prog 122 [.v (.int .i64 op), .fz 1 (a.map irow), .v (.int .i64 w)] [] [] (fun r o => r = .v (.bool (decide (OpFits op (a.getD 0 0) (a.getD 1 0) (a.getD 2 0) w))) ∧ o = []) := by
 refine ACalls.of Try.func122 rfl rfl rfl (n := 70) (by decide) (Nat.le_of_ble_eq_true rfl) ?_
 refine AWp.sr ?_
 refine .vl (Y.assign rfl rfl) ?_
 refine AOps.nil ?_
 refine AWp.seq ?_
 refine AWp.block ?_
 refine AWp.sr ?_
 refine .vl (Y.move rfl rfl) ?_
 refine .vl (Y.eql rfl rfl) ?_
 refine .vl (Y.assign rfl rfl) ?_
 refine AOps.nil ?_
 refine AWp.condD rfl (fun c7 => ?_) (fun c7 => ?_)
 refine AWp.sr ?_
 refine .vl (Y.move rfl rfl) ?_
 refine .vl (Y.indexF (m := 0) sl22 rfl rfl (by first | rfl | omega) (row_getD (d := 0) (by first | omega | (unfold Unary Cmp at *; omega)))) ?_
 refine .vl (Y.load sh3 rfl rfl rfl rfl) ?_
 refine .vl (Y.eql rfl rfl) ?_
 refine .vl (Y.move rfl rfl) ?_
 refine AOps.splitD (d := 14) rfl (fun c14 => ?_) (fun c14 => ?_)
 refine .gv 14 rfl rfl (Y.move rfl rfl) ?_
 refine .gv 14 rfl rfl (Y.indexF (m := 1) sl22 rfl rfl (by first | rfl | omega) (row_getD (d := 0) (by first | omega | (unfold Unary Cmp at *; omega)))) ?_
 refine .gv 14 rfl rfl (Y.load sh3 rfl rfl rfl rfl) ?_
 refine .gv 14 rfl rfl (Y.move rfl rfl) ?_
 refine .gv 14 rfl rfl (Y.eql rfl rfl) ?_
 refine .vl (Y.pick rfl rfl rfl) ?_
 refine .vl (Y.move rfl rfl) ?_
 refine AOps.splitD (d := 21) rfl (fun c21 => ?_) (fun c21 => ?_)
 refine .gv 21 rfl rfl (Y.move rfl rfl) ?_
 refine .gv 21 rfl rfl (Y.indexF (m := 2) sl22 rfl rfl (by first | rfl | omega) (row_getD (d := 0) (by first | omega | (unfold Unary Cmp at *; omega)))) ?_
 refine .gv 21 rfl rfl (Y.load sh3 rfl rfl rfl rfl) ?_
 refine .gv 21 rfl rfl (Y.move rfl rfl) ?_
 refine .gv 21 rfl rfl (Y.eql rfl rfl) ?_
 refine .vl (Y.pick rfl rfl rfl) ?_
 refine .vl (Y.assign rfl rfl) ?_
 refine AOps.nil ?_
 refine AWp.ret ?_
 exact ⟨_, _, rfl, rfl, (cg1 (fun (z0 : Bool) => X.v (.bool z0)) (dd (by unfold OpFits Cmp; (try unfold Unary at *); (try unfold Cmp at *); (first | omega | grind)) : (decide ((a.getD 2 0) = w)) = decide (OpFits op (a.getD 0 0) (a.getD 1 0) (a.getD 2 0) w)) : X.v (.bool (decide ((a.getD 2 0) = w))) = X.v (.bool (decide (OpFits op (a.getD 0 0) (a.getD 1 0) (a.getD 2 0) w)))), rfl⟩
 refine .gs 21 rfl rfl rfl ?_
 refine .gs 21 rfl rfl rfl ?_
 refine .gs 21 rfl rfl rfl ?_
 refine .gs 21 rfl rfl rfl ?_
 refine .gs 21 rfl rfl rfl ?_
 refine .vl (Y.pick rfl rfl rfl) ?_
 refine .vl (Y.assign rfl rfl) ?_
 refine AOps.nil ?_
 refine AWp.ret ?_
 exact ⟨_, _, rfl, rfl, (cg1 (fun (z0 : Bool) => X.v (.bool z0)) (df (by unfold OpFits Cmp; (try unfold Unary at *); (try unfold Cmp at *); (first | omega | grind)) : false = decide (OpFits op (a.getD 0 0) (a.getD 1 0) (a.getD 2 0) w)) : X.v (.bool false) = X.v (.bool (decide (OpFits op (a.getD 0 0) (a.getD 1 0) (a.getD 2 0) w)))), rfl⟩
 refine .gs 14 rfl rfl rfl ?_
 refine .gs 14 rfl rfl rfl ?_
 refine .gs 14 rfl rfl rfl ?_
 refine .gs 14 rfl rfl rfl ?_
 refine .gs 14 rfl rfl rfl ?_
 refine .vl (Y.pick rfl rfl rfl) ?_
 refine .vl (Y.move rfl rfl) ?_
 refine .gs 21 rfl rfl rfl ?_
 refine .gs 21 rfl rfl rfl ?_
 refine .gs 21 rfl rfl rfl ?_
 refine .gs 21 rfl rfl rfl ?_
 refine .gs 21 rfl rfl rfl ?_
 refine .vl (Y.pick rfl rfl rfl) ?_
 refine .vl (Y.assign rfl rfl) ?_
 refine AOps.nil ?_
 refine AWp.ret ?_
 exact ⟨_, _, rfl, rfl, (cg1 (fun (z0 : Bool) => X.v (.bool z0)) (df (by unfold OpFits Cmp; (try unfold Unary at *); (try unfold Cmp at *); (first | omega | grind)) : false = decide (OpFits op (a.getD 0 0) (a.getD 1 0) (a.getD 2 0) w)) : X.v (.bool false) = X.v (.bool (decide (OpFits op (a.getD 0 0) (a.getD 1 0) (a.getD 2 0) w)))), rfl⟩
 refine AWp.sr ?_
 refine .vl (Y.move rfl rfl) ?_
 refine .vl (Y.eql rfl rfl) ?_
 refine .vl (Y.assign rfl rfl) ?_
 refine AOps.nil ?_
 refine AWp.condD rfl (fun c28 => ?_) (fun c28 => ?_)
 refine AWp.sr ?_
 refine .vl (Y.move rfl rfl) ?_
 refine .vl (Y.indexF (m := 0) sl22 rfl rfl (by first | rfl | omega) (row_getD (d := 0) (by first | omega | (unfold Unary Cmp at *; omega)))) ?_
 refine .vl (Y.load sh3 rfl rfl rfl rfl) ?_
 refine .vl (Y.move rfl rfl) ?_
 refine .vl (Y.geq rfl rfl) ?_
 refine .vl (Y.assign rfl rfl) ?_
 refine AOps.nil ?_
 refine AWp.ret ?_
 exact ⟨_, _, rfl, rfl, (cg1 (fun (z0 : Bool) => X.v (.bool z0)) (dd (by unfold OpFits Cmp; (try unfold Unary at *); (try unfold Cmp at *); (first | omega | grind)) : (decide (w ≤ (a.getD 0 0))) = decide (OpFits op (a.getD 0 0) (a.getD 1 0) (a.getD 2 0) w)) : X.v (.bool (decide (w ≤ (a.getD 0 0)))) = X.v (.bool (decide (OpFits op (a.getD 0 0) (a.getD 1 0) (a.getD 2 0) w)))), rfl⟩
 refine AWp.sr ?_
 refine .vl (Y.move rfl rfl) ?_
 refine AOps.callP ok118 (unary_spec (w := op)) rfl (.keep rfl rfl .nil) (by decide) rfl ?_
 refine .vl (Y.assign rfl rfl) ?_
 refine AOps.nil ?_
 refine AWp.condD rfl (fun c36 => ?_) (fun c36 => ?_)
 refine AWp.sr ?_
 refine .vl (Y.move rfl rfl) ?_
 refine .vl (Y.indexF (m := 0) sl22 rfl rfl (by first | rfl | omega) (row_getD (d := 0) (by first | omega | (unfold Unary Cmp at *; omega)))) ?_
 refine .vl (Y.load sh3 rfl rfl rfl rfl) ?_
 refine .vl (Y.move rfl rfl) ?_
 refine .vl (Y.leq rfl rfl) ?_
 refine .vl (Y.assign rfl rfl) ?_
 refine AOps.nil ?_
 refine AWp.ret ?_
 exact ⟨_, _, rfl, rfl, (cg1 (fun (z0 : Bool) => X.v (.bool z0)) (dd (by unfold OpFits Cmp; (try unfold Unary at *); (try unfold Cmp at *); (first | omega | grind)) : (decide ((a.getD 0 0) ≤ w)) = decide (OpFits op (a.getD 0 0) (a.getD 1 0) (a.getD 2 0) w)) : X.v (.bool (decide ((a.getD 0 0) ≤ w))) = X.v (.bool (decide (OpFits op (a.getD 0 0) (a.getD 1 0) (a.getD 2 0) w)))), rfl⟩
 refine AWp.sr ?_
 refine .vl (Y.move rfl rfl) ?_
 refine AOps.callP ok77 (refIsCompare_spec (w := op)) rfl (.keep rfl rfl .nil) (by decide) rfl ?_
 refine .vl (Y.assign rfl rfl) ?_
 refine AOps.nil ?_
 refine AWp.condD rfl (fun c44 => ?_) (fun c44 => ?_)
 refine AWp.seq ?_
 refine AWp.regionS rfl (by kernel_rfl) ?_
 refine AHead.val (Y.move rfl rfl) (by decide) ?_
 refine AHead.val (Y.indexF (m := 0) sl22 rfl rfl (by first | rfl | omega) (row_getD (d := 0) (by first | omega | (unfold Unary Cmp at *; omega)))) (by decide) ?_
 refine AHead.val (Y.load sh3 rfl rfl rfl rfl) (by decide) ?_
 refine AHead.val (Y.move rfl rfl) (by decide) ?_
 refine AHead.val (Y.indexF (m := 1) sl22 rfl rfl (by first | rfl | omega) (row_getD (d := 0) (by first | omega | (unfold Unary Cmp at *; omega)))) (by decide) ?_
 refine AHead.val (Y.load sh3 rfl rfl rfl rfl) (by decide) ?_
 refine AHead.val (Y.eql rfl rfl) (by decide) ?_
 refine AHead.val (Y.move rfl rfl) (by decide) ?_
 refine AHead.splitD (d := 54) rfl (fun c54 => ?_) (fun c54 => ?_)
 refine AHead.guardRun (d := 54) rfl (by decide) rfl ?_
 refine AHead.val (Y.move rfl rfl) (by decide) ?_
 refine AHead.guardRun (d := 54) rfl (by decide) rfl ?_
 refine AHead.val (Y.eql rfl rfl) (by decide) ?_
 refine AHead.val (Y.pick rfl rfl rfl) (by decide) ?_
 refine AHead.val (Y.assign rfl rfl) (by decide) ?_
 refine AHead.nil ?_
 refine AWp.ret ?_
 exact ⟨_, _, rfl, rfl, (cg1 (fun (z0 : Bool) => X.v (.bool z0)) (dd (by unfold OpFits Cmp; (try unfold Unary at *); (try unfold Cmp at *); (first | omega | grind)) : (decide (w = 1)) = decide (OpFits op (a.getD 0 0) (a.getD 1 0) (a.getD 2 0) w)) : X.v (.bool (decide (w = 1))) = X.v (.bool (decide (OpFits op (a.getD 0 0) (a.getD 1 0) (a.getD 2 0) w)))), rfl⟩
 refine AHead.guardSkipV (d := 54) rfl (by decide) (by decide) rfl rfl ?_
 refine AHead.guardSkipV (d := 54) rfl (by decide) (by decide) rfl rfl ?_
 refine AHead.val (Y.pick rfl rfl rfl) (by decide) ?_
 refine AHead.val (Y.assign rfl rfl) (by decide) ?_
 refine AHead.nil ?_
 refine AWp.ret ?_
 exact ⟨_, _, rfl, rfl, (cg1 (fun (z0 : Bool) => X.v (.bool z0)) (df (by unfold OpFits Cmp; (try unfold Unary at *); (try unfold Cmp at *); (first | omega | grind)) : false = decide (OpFits op (a.getD 0 0) (a.getD 1 0) (a.getD 2 0) w)) : X.v (.bool false) = X.v (.bool (decide (OpFits op (a.getD 0 0) (a.getD 1 0) (a.getD 2 0) w)))), rfl⟩
 refine AWp.skip ?_
 refine AWp.sr ?_
 refine .vl (Y.move rfl rfl) ?_
 refine .vl (Y.indexF (m := 0) sl22 rfl rfl (by first | rfl | omega) (row_getD (d := 0) (by first | omega | (unfold Unary Cmp at *; omega)))) ?_
 refine .vl (Y.load sh3 rfl rfl rfl rfl) ?_
 refine .vl (Y.move rfl rfl) ?_
 refine .vl (Y.eql rfl rfl) ?_
 refine .vl (Y.move rfl rfl) ?_
 refine AOps.splitD (d := 63) rfl (fun c63 => ?_) (fun c63 => ?_)
 refine .gv 63 rfl rfl (Y.move rfl rfl) ?_
 refine .gv 63 rfl rfl (Y.indexF (m := 1) sl22 rfl rfl (by first | rfl | omega) (row_getD (d := 0) (by first | omega | (unfold Unary Cmp at *; omega)))) ?_
 refine .gv 63 rfl rfl (Y.load sh3 rfl rfl rfl rfl) ?_
 refine .gv 63 rfl rfl (Y.move rfl rfl) ?_
 refine .gv 63 rfl rfl (Y.eql rfl rfl) ?_
 refine .vl (Y.pick rfl rfl rfl) ?_
 refine .vl (Y.assign rfl rfl) ?_
 refine AOps.nil ?_
 refine AWp.ret ?_
 exact ⟨_, _, rfl, rfl, (cg1 (fun (z0 : Bool) => X.v (.bool z0)) (dd (by unfold OpFits Cmp; (try unfold Unary at *); (try unfold Cmp at *); (first | omega | grind)) : (decide ((a.getD 1 0) = w)) = decide (OpFits op (a.getD 0 0) (a.getD 1 0) (a.getD 2 0) w)) : X.v (.bool (decide ((a.getD 1 0) = w))) = X.v (.bool (decide (OpFits op (a.getD 0 0) (a.getD 1 0) (a.getD 2 0) w)))), rfl⟩
 refine .gs 63 rfl rfl rfl ?_
 refine .gs 63 rfl rfl rfl ?_
 refine .gs 63 rfl rfl rfl ?_
 refine .gs 63 rfl rfl rfl ?_
 refine .gs 63 rfl rfl rfl ?_
 refine .vl (Y.pick rfl rfl rfl) ?_
 refine .vl (Y.assign rfl rfl) ?_
 refine AOps.nil ?_
 refine AWp.ret ?_
 exact ⟨_, _, rfl, rfl, (cg1 (fun (z0 : Bool) => X.v (.bool z0)) (df (by unfold OpFits Cmp; (try unfold Unary at *); (try unfold Cmp at *); (first | omega | grind)) : false = decide (OpFits op (a.getD 0 0) (a.getD 1 0) (a.getD 2 0) w)) : X.v (.bool false) = X.v (.bool (decide (OpFits op (a.getD 0 0) (a.getD 1 0) (a.getD 2 0) w)))), rfl⟩

set_option maxRecDepth 4000 in
set_option maxHeartbeats 1000000 in
theorem refFits_k1 {n : Netlist} {op out mem : Int} {args : List Int} {num : Nat} (hs : n.Small) (hc : args.length ≤ 17592186043904) (hn : num < 18446744073709551616) (hsh : Shaped n (⟨1, op, out, args, num, mem⟩ : Cell)) (hw : Wired n (⟨1, op, out, args, num, mem⟩ : Cell)) : ACalls Try.prog 89 [.agg (Netlist.row n), .agg [.v (.int .i64 1), .v (.int .i64 op), .v (.int .i64 out), .fz 1 (args.map irow), .v (.int .u64 ((num : Nat) : Int)), .v (.int .i64 mem)]] [] [] (fun r o => r = .v (.bool (decide (Fits n (⟨1, op, out, args, num, mem⟩ : Cell)))) ∧ o = []) := by
 refine ACalls.of Try.func89 rfl rfl rfl (n := 155) (by decide) (Nat.le_of_ble_eq_true rfl) ?_
 have hs4 := hs.ins; have hs5 := hs.mems; have hs6 := hs.streams; have hs1 := hs.widths
 have ho : 0 ≤ out ∧ out < n.widths.length := by have := hw.out; simp only at this; omega
 have how : n.ow (⟨1, op, out, args, num, mem⟩ : Cell) = n.widths.getD out.toNat 0 := ow_eq ho.1
 have hol := pow_lt64 (limN (n.widths.getD out.toNat 0)) (by have := limN_le (n.widths.getD out.toNat 0); omega)
 refine AWp.sr ?_
 refine AOps.box 102 rfl rfl rfl rfl rfl (by decide) ?_
 refine AOps.box 103 rfl rfl rfl rfl rfl (by decide) ?_
 refine .vl (Y.assign rfl rfl) ?_
 refine AOps.nil ?_
 refine AWp.sr ?_
 refine .vl (Y.assign rfl rfl) ?_
 refine AOps.sh (Sh.nil (d := 5) 105 1 rfl (by decide)) ?_
 refine AOps.nil ?_
 refine AWp.seq ?_
 refine AWp.sr ?_
 refine .vl (Y.assign rfl rfl) ?_
 refine AOps.nil ?_
 refine AWp.block ?_
 refine AWp.loop2 (fun (i6_3 : Nat) (a5_3 : List Int) => ⟨[(2, .ptr 102 0 0 0), (3, .ptr 103 0 0 0), (5, .slc 105 1 0 a5_3.length), (6, .v (.int .i64 (i6_3 : Int)))], [(102, .cells (Netlist.row n)), (103, .cells [.v (.int .i64 1), .v (.int .i64 op), .v (.int .i64 out), .fz 1 (args.map irow), .v (.int .u64 ((num : Nat) : Int)), .v (.int .i64 mem)]), (105, .rows 1 (a5_3.map irow))]⟩) (fun (i6_3 : Nat) (a5_3 : List Int) => ((i6_3 : Int) ≤ ((args.length : Nat) : Int)) ∧ (a5_3.length = i6_3) ∧ (∀ j, j < i6_3 → a5_3.getD j 0 = n.av (⟨1, op, out, args, num, mem⟩ : Cell) j)) (fun (i6_3 : Nat) (a5_3 : List Int) => (((args.length : Nat) : Int) - (i6_3 : Int)).toNat) 0 ([] : List Int) (⟨by first | omega | (simp [-List.getD_eq_getElem?_getD]; done) | (simp [-List.getD_eq_getElem?_getD]; omega), rfl, fun j hj => by omega⟩) (Le.mk (SubL.cons rfl (SubL.cons rfl (SubL.cons (look_slc rfl (by first | omega | simp [-List.getD_eq_getElem?_getD] <;> omega)) (SubL.cons (look_int rfl (by first | rfl | omega)) (SubL.nil))))) (SubL.cons rfl (SubL.cons rfl (SubL.cons rfl (SubL.nil))))) (fun i6_3 a5_3 hI3 => ?_)
 obtain ⟨hb3, hal, ha⟩ := hI3
 refine AWp.seq ?_
 refine AWp.sr ?_
 refine .vl (Y.move rfl rfl) ?_
 refine .vl (Y.fieldAddr fl39_3 rfl rfl) ?_
 refine .vl (Y.load sh22 rfl rfl rfl rfl) ?_
 refine .vl (Y.len (n := args.length) sl22 rfl (congrArg some (List.length_map ..))) ?_
 refine .vl (Y.lss rfl rfl) ?_
 refine AOps.nil ?_
 refine AWp.condD rfl (fun c13 => ?_) (fun c13 => ?_)
 refine AWp.skip ?_
 refine AWp.seq ?_
 refine AWp.block ?_
 have hwa := hw.arg (k := i6_3) (by show _ < args.length; omega)
 simp only at hwa
 refine AWp.regionAny rfl ?_
 refine AAny.blind 0 rfl (by kernel_rfl) (Blind.move rfl rfl) (by decide) ?_
 refine AAny.quietN (n := 3) [1, 2, 3, 4, 5, 6, 7, 8, 9] [10, 11, 12] 10 rfl (by kernel_rfl) ?_
 refine .cn 1 rfl (Y.fieldAddr fl27_1 rfl rfl) ?_
 refine .cn 2 rfl (Y.load sh22 rfl rfl rfl rfl) ?_
 refine .cn 3 rfl (Y.fieldAddr fl39_3 rfl rfl) ?_
 refine .cn 4 rfl (Y.load sh22 rfl rfl rfl rfl) ?_
 refine .cn 5 rfl (Y.move rfl rfl) ?_
 refine .cn 6 rfl (Y.indexF (m := i6_3) sl22 rfl rfl (by first | rfl | omega) (row_getD (d := 0) (by first | omega | simp [-List.getD_eq_getElem?_getD] <;> omega))) ?_
 refine .cn 7 rfl (Y.load sh3 rfl rfl rfl rfl) ?_
 refine .cn 8 rfl (Y.indexF (m := (args.getD i6_3 0).toNat) sl22 rfl rfl (by first | omega | simp [-List.getD_eq_getElem?_getD] <;> omega) (row_getD (d := 0) (by first | omega | simp [-List.getD_eq_getElem?_getD] <;> omega))) ?_
 refine .cn 9 rfl (Y.load sh3 rfl rfl rfl rfl) ?_
 refine AQ.nil ?_
 refine AAny.one 10 rfl (by kernel_rfl) ?_
 refine AOps.buildSlice (([n.widths.getD ((args.getD i6_3 0).toNat) 0] : List Int).map irow) sl22 ze3 rfl rfl rfl rfl rfl (uniform_map (s := 1) (f := irow) (fun _ => rfl)) rfl rfl rfl (by decide) ?_
 refine AOps.nil ⟨rfl, ?_⟩
 refine AAny.one 11 rfl (by kernel_rfl) ?_
 refine AOps.appendE ((a5_3 ++ ([n.widths.getD ((args.getD i6_3 0).toNat) 0] : List Int)).map irow) (a5_3 ++ ([n.widths.getD ((args.getD i6_3 0).toNat) 0] : List Int)).length sl22 ze3 rfl rfl rfl rfl (app_le (by first | omega | simp [-List.getD_eq_getElem?_getD] <;> omega)) (app_map (by first | omega | simp [-List.getD_eq_getElem?_getD] <;> omega)) (app_n (by first | omega | simp [-List.getD_eq_getElem?_getD] <;> omega)) (by first | omega | simp [-List.getD_eq_getElem?_getD] <;> omega) (by first | omega | simp [-List.getD_eq_getElem?_getD] <;> omega) (by decide) (by decide) ?_
 refine AOps.nil ⟨rfl, ?_⟩
 refine AAny.quietN (n := 0) [12] [] 0 rfl (by kernel_rfl) ?_
 refine .cn 12 rfl (Y.assign rfl rfl) ?_
 refine AQ.nil ?_
 refine AAny.done (by kernel_rfl) ?_
 refine AWp.region ?_
 refine .vl (Y.move rfl rfl) ?_
 refine .vl (Y.addI rfl rfl (by first | omega | simp [-List.getD_eq_getElem?_getD] <;> omega)) ?_
 refine .vl (Y.assign rfl rfl) ?_
 refine AOps.nil ?_
 exact ⟨i6_3 + 1, a5_3 ++ ([n.widths.getD ((args.getD i6_3 0).toNat) 0] : List Int), ⟨by first | omega | (simp [-List.getD_eq_getElem?_getD]; done) | (simp [-List.getD_eq_getElem?_getD]; omega), by rw [List.length_append, hal]; rfl, push_succ hal ha rfl⟩, by omega, Le.mk (SubL.cons rfl (SubL.cons rfl (SubL.cons (look_slc rfl (by first | omega | simp [-List.getD_eq_getElem?_getD] <;> omega)) (SubL.cons (look_int rfl (by first | rfl | omega)) (SubL.nil))))) (SubL.cons rfl (SubL.cons rfl (SubL.cons rfl (SubL.nil))))⟩
 refine AWp.exit ?_
 refine AWp.seq ?_
 refine AWp.seq ?_
 have ha0 : 0 < args.length → a5_3.getD 0 0 = n.av (⟨1, op, out, args, num, mem⟩ : Cell) 0 := fun h => ha 0 (by omega)
 have ha1 : 1 < args.length → a5_3.getD 1 0 = n.av (⟨1, op, out, args, num, mem⟩ : Cell) 1 := fun h => ha 1 (by omega)
 have ha2 : 2 < args.length → a5_3.getD 2 0 = n.av (⟨1, op, out, args, num, mem⟩ : Cell) 2 := fun h => ha 2 (by omega)
 refine AWp.region ?_
 refine .vl (Y.fieldAddr fl39_0 rfl rfl) ?_
 refine .vl (Y.load sh3 rfl rfl rfl rfl) ?_
 refine .vl (Y.eql rfl rfl) ?_
 refine AOps.nil ?_
 refine AWp.condF rfl ?_
 refine AWp.skip ?_
 refine AWp.sr ?_
 refine .vl (Y.fieldAddr fl27_1 rfl rfl) ?_
 refine .vl (Y.load sh22 rfl rfl rfl rfl) ?_
 refine .vl (Y.fieldAddr fl39_2 rfl rfl) ?_
 refine .vl (Y.load sh3 rfl rfl rfl rfl) ?_
 refine .vl (Y.indexF (m := (out).toNat) sl22 rfl rfl (by first | omega | simp [-List.getD_eq_getElem?_getD] <;> omega) (row_getD (d := 0) (by first | omega | simp [-List.getD_eq_getElem?_getD] <;> omega))) ?_
 refine .vl (Y.load sh3 rfl rfl rfl rfl) ?_
 refine .vl (Y.assign rfl rfl) ?_
 refine AOps.nil ?_
 refine AWp.seq ?_
 refine AWp.sr ?_
 refine .vl (Y.fieldAddr fl39_0 rfl rfl) ?_
 refine .vl (Y.load sh3 rfl rfl rfl rfl) ?_
 refine AOps.nil ?_
 refine AWp.block ?_
 refine AWp.sr ?_
 refine .vl (Y.eql rfl rfl) ?_
 refine .vl (Y.assign rfl rfl) ?_
 refine AOps.nil ?_
 refine AWp.condT rfl ?_
 refine AWp.seq ?_
 refine AWp.regionAny rfl ?_
 refine AAny.blind 0 rfl (by kernel_rfl) (Blind.fieldAddr fl39_4 rfl rfl) (by decide) ?_
 refine AAny.blind 2 rfl (by kernel_rfl) (Blind.move rfl rfl) (by decide) ?_
 refine AAny.two 1 3 rfl rfl (by kernel_rfl) ?_ ?_
 refine .vl (Y.load sh37 rfl rfl rfl rfl) ?_
 refine AOps.nil ⟨rfl, ?_⟩
 refine AAny.one 3 rfl (by kernel_rfl) ?_
 refine AOps.callP ok121 (ones_spec (w := (n.widths.getD ((out).toNat) 0))) rfl (.keep rfl rfl .nil) (by decide) rfl ?_
 refine AOps.nil ⟨rfl, ?_⟩
 refine AAny.quietN (n := 0) [4, 5] [] 0 rfl (by kernel_rfl) ?_
 refine .cn 4 rfl (Y.leq rfl rfl) ?_
 refine .cn 5 rfl (Y.assign rfl rfl) ?_
 refine AQ.nil ?_
 refine AAny.done (by kernel_rfl) ?_
 refine AWp.ret ?_
 exact ⟨_, _, rfl, rfl, (cg1 (fun (z0 : Bool) => X.v (.bool z0)) (dd (by simp only [Fits, OpFits, Cmp, fit_iff, how, Int.reduceEq, Bool.not_eq_true, false_and, true_and, and_true, and_false, or_false, false_or, ne_eq] <;> (first | omega | grind)) : (decide (((num : Nat) : Int) ≤ ((2 ^ limN (n.widths.getD ((out).toNat) 0) - 1 : Nat) : Int))) = decide (Fits n (⟨1, op, out, args, num, mem⟩ : Cell))) : X.v (.bool (decide (((num : Nat) : Int) ≤ ((2 ^ limN (n.widths.getD ((out).toNat) 0) - 1 : Nat) : Int)))) = X.v (.bool (decide (Fits n (⟨1, op, out, args, num, mem⟩ : Cell))))), rfl⟩
 refine AOps.callP ok121 (ones_spec (w := (n.widths.getD ((out).toNat) 0))) rfl (.keep rfl rfl .nil) (by decide) rfl ?_
 refine AOps.nil ⟨rfl, ?_⟩
 refine AAny.quietN (n := 0) [1, 4, 5] [] 0 rfl (by kernel_rfl) ?_
 refine .cn 1 rfl (Y.load sh37 rfl rfl rfl rfl) ?_
 refine .cn 4 rfl (Y.leq rfl rfl) ?_
 refine .cn 5 rfl (Y.assign rfl rfl) ?_
 refine AQ.nil ?_
 refine AAny.done (by kernel_rfl) ?_
 refine AWp.ret ?_
 exact ⟨_, _, rfl, rfl, (cg1 (fun (z0 : Bool) => X.v (.bool z0)) (dd (by simp only [Fits, OpFits, Cmp, fit_iff, how, Int.reduceEq, Bool.not_eq_true, false_and, true_and, and_true, and_false, or_false, false_or, ne_eq] <;> (first | omega | grind)) : (decide (((num : Nat) : Int) ≤ ((2 ^ limN (n.widths.getD ((out).toNat) 0) - 1 : Nat) : Int))) = decide (Fits n (⟨1, op, out, args, num, mem⟩ : Cell))) : X.v (.bool (decide (((num : Nat) : Int) ≤ ((2 ^ limN (n.widths.getD ((out).toNat) 0) - 1 : Nat) : Int)))) = X.v (.bool (decide (Fits n (⟨1, op, out, args, num, mem⟩ : Cell))))), rfl⟩

set_option maxRecDepth 4000 in
set_option maxHeartbeats 1000000 in
theorem refFits_k2 {n : Netlist} {op out mem : Int} {args : List Int} {num : Nat} (hs : n.Small) (hc : args.length ≤ 17592186043904) (hn : num < 18446744073709551616) (hsh : Shaped n (⟨2, op, out, args, num, mem⟩ : Cell)) (hw : Wired n (⟨2, op, out, args, num, mem⟩ : Cell)) : ACalls Try.prog 89 [.agg (Netlist.row n), .agg [.v (.int .i64 2), .v (.int .i64 op), .v (.int .i64 out), .fz 1 (args.map irow), .v (.int .u64 ((num : Nat) : Int)), .v (.int .i64 mem)]] [] [] (fun r o => r = .v (.bool (decide (Fits n (⟨2, op, out, args, num, mem⟩ : Cell)))) ∧ o = []) := by
 refine ACalls.of Try.func89 rfl rfl rfl (n := 155) (by decide) (Nat.le_of_ble_eq_true rfl) ?_
 have hs4 := hs.ins; have hs5 := hs.mems; have hs6 := hs.streams; have hs1 := hs.widths
 have hk := hsh.k2 rfl; simp only at hk
 have ho : 0 ≤ out ∧ out < n.widths.length := by have := hw.out; simp only at this; omega
 have how : n.ow (⟨2, op, out, args, num, mem⟩ : Cell) = n.widths.getD out.toNat 0 := ow_eq ho.1
 refine AWp.sr ?_
 refine AOps.box 102 rfl rfl rfl rfl rfl (by decide) ?_
 refine AOps.box 103 rfl rfl rfl rfl rfl (by decide) ?_
 refine .vl (Y.assign rfl rfl) ?_
 refine AOps.nil ?_
 refine AWp.sr ?_
 refine .vl (Y.assign rfl rfl) ?_
 refine AOps.sh (Sh.nil (d := 5) 105 1 rfl (by decide)) ?_
 refine AOps.nil ?_
 refine AWp.seq ?_
 refine AWp.sr ?_
 refine .vl (Y.assign rfl rfl) ?_
 refine AOps.nil ?_
 refine AWp.block ?_
 refine AWp.loop2 (fun (i6_3 : Nat) (a5_3 : List Int) => ⟨[(2, .ptr 102 0 0 0), (3, .ptr 103 0 0 0), (5, .slc 105 1 0 a5_3.length), (6, .v (.int .i64 (i6_3 : Int)))], [(102, .cells (Netlist.row n)), (103, .cells [.v (.int .i64 2), .v (.int .i64 op), .v (.int .i64 out), .fz 1 (args.map irow), .v (.int .u64 ((num : Nat) : Int)), .v (.int .i64 mem)]), (105, .rows 1 (a5_3.map irow))]⟩) (fun (i6_3 : Nat) (a5_3 : List Int) => ((i6_3 : Int) ≤ ((args.length : Nat) : Int)) ∧ (a5_3.length = i6_3) ∧ (∀ j, j < i6_3 → a5_3.getD j 0 = n.av (⟨2, op, out, args, num, mem⟩ : Cell) j)) (fun (i6_3 : Nat) (a5_3 : List Int) => (((args.length : Nat) : Int) - (i6_3 : Int)).toNat) 0 ([] : List Int) (⟨by first | omega | (simp [-List.getD_eq_getElem?_getD]; done) | (simp [-List.getD_eq_getElem?_getD]; omega), rfl, fun j hj => by omega⟩) (Le.mk (SubL.cons rfl (SubL.cons rfl (SubL.cons (look_slc rfl (by first | omega | simp [-List.getD_eq_getElem?_getD] <;> omega)) (SubL.cons (look_int rfl (by first | rfl | omega)) (SubL.nil))))) (SubL.cons rfl (SubL.cons rfl (SubL.cons rfl (SubL.nil))))) (fun i6_3 a5_3 hI3 => ?_)
 obtain ⟨hb3, hal, ha⟩ := hI3
 refine AWp.seq ?_
 refine AWp.sr ?_
 refine .vl (Y.move rfl rfl) ?_
 refine .vl (Y.fieldAddr fl39_3 rfl rfl) ?_
 refine .vl (Y.load sh22 rfl rfl rfl rfl) ?_
 refine .vl (Y.len (n := args.length) sl22 rfl (congrArg some (List.length_map ..))) ?_
 refine .vl (Y.lss rfl rfl) ?_
 refine AOps.nil ?_
 refine AWp.condD rfl (fun c13 => ?_) (fun c13 => ?_)
 refine AWp.skip ?_
 refine AWp.seq ?_
 refine AWp.block ?_
 have hwa := hw.arg (k := i6_3) (by show _ < args.length; omega)
 simp only at hwa
 refine AWp.regionAny rfl ?_
 refine AAny.blind 0 rfl (by kernel_rfl) (Blind.move rfl rfl) (by decide) ?_
 refine AAny.quietN (n := 3) [1, 2, 3, 4, 5, 6, 7, 8, 9] [10, 11, 12] 10 rfl (by kernel_rfl) ?_
 refine .cn 1 rfl (Y.fieldAddr fl27_1 rfl rfl) ?_
 refine .cn 2 rfl (Y.load sh22 rfl rfl rfl rfl) ?_
 refine .cn 3 rfl (Y.fieldAddr fl39_3 rfl rfl) ?_
 refine .cn 4 rfl (Y.load sh22 rfl rfl rfl rfl) ?_
 refine .cn 5 rfl (Y.move rfl rfl) ?_
 refine .cn 6 rfl (Y.indexF (m := i6_3) sl22 rfl rfl (by first | rfl | omega) (row_getD (d := 0) (by first | omega | simp [-List.getD_eq_getElem?_getD] <;> omega))) ?_
 refine .cn 7 rfl (Y.load sh3 rfl rfl rfl rfl) ?_
 refine .cn 8 rfl (Y.indexF (m := (args.getD i6_3 0).toNat) sl22 rfl rfl (by first | omega | simp [-List.getD_eq_getElem?_getD] <;> omega) (row_getD (d := 0) (by first | omega | simp [-List.getD_eq_getElem?_getD] <;> omega))) ?_
 refine .cn 9 rfl (Y.load sh3 rfl rfl rfl rfl) ?_
 refine AQ.nil ?_
 refine AAny.one 10 rfl (by kernel_rfl) ?_
 refine AOps.buildSlice (([n.widths.getD ((args.getD i6_3 0).toNat) 0] : List Int).map irow) sl22 ze3 rfl rfl rfl rfl rfl (uniform_map (s := 1) (f := irow) (fun _ => rfl)) rfl rfl rfl (by decide) ?_
 refine AOps.nil ⟨rfl, ?_⟩
 refine AAny.one 11 rfl (by kernel_rfl) ?_
 refine AOps.appendE ((a5_3 ++ ([n.widths.getD ((args.getD i6_3 0).toNat) 0] : List Int)).map irow) (a5_3 ++ ([n.widths.getD ((args.getD i6_3 0).toNat) 0] : List Int)).length sl22 ze3 rfl rfl rfl rfl (app_le (by first | omega | simp [-List.getD_eq_getElem?_getD] <;> omega)) (app_map (by first | omega | simp [-List.getD_eq_getElem?_getD] <;> omega)) (app_n (by first | omega | simp [-List.getD_eq_getElem?_getD] <;> omega)) (by first | omega | simp [-List.getD_eq_getElem?_getD] <;> omega) (by first | omega | simp [-List.getD_eq_getElem?_getD] <;> omega) (by decide) (by decide) ?_
 refine AOps.nil ⟨rfl, ?_⟩
 refine AAny.quietN (n := 0) [12] [] 0 rfl (by kernel_rfl) ?_
 refine .cn 12 rfl (Y.assign rfl rfl) ?_
 refine AQ.nil ?_
 refine AAny.done (by kernel_rfl) ?_
 refine AWp.region ?_
 refine .vl (Y.move rfl rfl) ?_
 refine .vl (Y.addI rfl rfl (by first | omega | simp [-List.getD_eq_getElem?_getD] <;> omega)) ?_
 refine .vl (Y.assign rfl rfl) ?_
 refine AOps.nil ?_
 exact ⟨i6_3 + 1, a5_3 ++ ([n.widths.getD ((args.getD i6_3 0).toNat) 0] : List Int), ⟨by first | omega | (simp [-List.getD_eq_getElem?_getD]; done) | (simp [-List.getD_eq_getElem?_getD]; omega), by rw [List.length_append, hal]; rfl, push_succ hal ha rfl⟩, by omega, Le.mk (SubL.cons rfl (SubL.cons rfl (SubL.cons (look_slc rfl (by first | omega | simp [-List.getD_eq_getElem?_getD] <;> omega)) (SubL.cons (look_int rfl (by first | rfl | omega)) (SubL.nil))))) (SubL.cons rfl (SubL.cons rfl (SubL.cons rfl (SubL.nil))))⟩
 refine AWp.exit ?_
 refine AWp.seq ?_
 refine AWp.seq ?_
 have ha0 : 0 < args.length → a5_3.getD 0 0 = n.av (⟨2, op, out, args, num, mem⟩ : Cell) 0 := fun h => ha 0 (by omega)
 have ha1 : 1 < args.length → a5_3.getD 1 0 = n.av (⟨2, op, out, args, num, mem⟩ : Cell) 1 := fun h => ha 1 (by omega)
 have ha2 : 2 < args.length → a5_3.getD 2 0 = n.av (⟨2, op, out, args, num, mem⟩ : Cell) 2 := fun h => ha 2 (by omega)
 refine AWp.region ?_
 refine .vl (Y.fieldAddr fl39_0 rfl rfl) ?_
 refine .vl (Y.load sh3 rfl rfl rfl rfl) ?_
 refine .vl (Y.eql rfl rfl) ?_
 refine AOps.nil ?_
 refine AWp.condF rfl ?_
 refine AWp.skip ?_
 refine AWp.sr ?_
 refine .vl (Y.fieldAddr fl27_1 rfl rfl) ?_
 refine .vl (Y.load sh22 rfl rfl rfl rfl) ?_
 refine .vl (Y.fieldAddr fl39_2 rfl rfl) ?_
 refine .vl (Y.load sh3 rfl rfl rfl rfl) ?_
 refine .vl (Y.indexF (m := (out).toNat) sl22 rfl rfl (by first | omega | simp [-List.getD_eq_getElem?_getD] <;> omega) (row_getD (d := 0) (by first | omega | simp [-List.getD_eq_getElem?_getD] <;> omega))) ?_
 refine .vl (Y.load sh3 rfl rfl rfl rfl) ?_
 refine .vl (Y.assign rfl rfl) ?_
 refine AOps.nil ?_
 refine AWp.seq ?_
 refine AWp.sr ?_
 refine .vl (Y.fieldAddr fl39_0 rfl rfl) ?_
 refine .vl (Y.load sh3 rfl rfl rfl rfl) ?_
 refine AOps.nil ?_
 refine AWp.block ?_
 refine AWp.sr ?_
 refine .vl (Y.eql rfl rfl) ?_
 refine .vl (Y.assign rfl rfl) ?_
 refine AOps.nil ?_
 refine AWp.condF rfl ?_
 refine AWp.seq ?_
 refine AWp.sr ?_
 refine .vl (Y.eql rfl rfl) ?_
 refine .vl (Y.assign rfl rfl) ?_
 refine AOps.nil ?_
 refine AWp.condT rfl ?_
 refine AWp.skip ?_
 refine AWp.condT rfl ?_
 refine AWp.sr ?_
 refine .vl (Y.fieldAddr fl39_1 rfl rfl) ?_
 refine .vl (Y.load sh3 rfl rfl rfl rfl) ?_
 refine .vl (Y.move rfl rfl) ?_
 refine .vl (Y.move rfl rfl) ?_
 refine AOps.callLP [105] ok122 (refOperands_spec (op := op) (a := a5_3) (w := (n.widths.getD ((out).toNat) 0)) (by omega) (fun _ => by omega) (fun _ => by omega) (by omega)) rfl (.keep rfl rfl (.lend rfl rfl (lend_le (by first | omega | simp [-List.getD_eq_getElem?_getD] <;> omega)) (lend_eq (by first | omega | simp [-List.getD_eq_getElem?_getD] <;> omega)) (.keep rfl rfl .nil))) (lend1 rfl (owns_map irow_frees)) (by decide) rfl trivial ?_
 refine .vl (Y.assign rfl rfl) ?_
 refine AOps.nil ?_
 refine AWp.ret ?_
 exact ⟨_, _, rfl, rfl, (cg1 (fun (z0 : Bool) => X.v (.bool z0)) (dd ((OpFits_congr (ha0 (by omega)) (fun _ => ha1 (by omega)) (fun _ => ha2 (by omega))).trans (by simp only [Fits, how, Int.reduceEq, Bool.not_eq_true, false_and, true_and, and_true, and_false, or_false, false_or, ne_eq])) : (decide (OpFits op (a5_3.getD 0 0) (a5_3.getD 1 0) (a5_3.getD 2 0) (n.widths.getD ((out).toNat) 0))) = decide (Fits n (⟨2, op, out, args, num, mem⟩ : Cell))) : X.v (.bool (decide (OpFits op (a5_3.getD 0 0) (a5_3.getD 1 0) (a5_3.getD 2 0) (n.widths.getD ((out).toNat) 0)))) = X.v (.bool (decide (Fits n (⟨2, op, out, args, num, mem⟩ : Cell))))), rfl⟩

set_option maxRecDepth 4000 in
set_option maxHeartbeats 1000000 in
theorem refFits_k3 {n : Netlist} {op out mem : Int} {args : List Int} {num : Nat} (hs : n.Small) (hc : args.length ≤ 17592186043904) (hn : num < 18446744073709551616) (hsh : Shaped n (⟨3, op, out, args, num, mem⟩ : Cell)) (hw : Wired n (⟨3, op, out, args, num, mem⟩ : Cell)) : ACalls Try.prog 89 [.agg (Netlist.row n), .agg [.v (.int .i64 3), .v (.int .i64 op), .v (.int .i64 out), .fz 1 (args.map irow), .v (.int .u64 ((num : Nat) : Int)), .v (.int .i64 mem)]] [] [] (fun r o => r = .v (.bool (decide (Fits n (⟨3, op, out, args, num, mem⟩ : Cell)))) ∧ o = []) := by
 refine ACalls.of Try.func89 rfl rfl rfl (n := 155) (by decide) (Nat.le_of_ble_eq_true rfl) ?_
 have hs4 := hs.ins; have hs5 := hs.mems; have hs6 := hs.streams; have hs1 := hs.widths
 have hk := hsh.k3 rfl; simp only at hk
 have ho : 0 ≤ out ∧ out < n.widths.length := by have := hw.out; simp only at this; omega
 have how : n.ow (⟨3, op, out, args, num, mem⟩ : Cell) = n.widths.getD out.toNat 0 := ow_eq ho.1
 refine AWp.sr ?_
 refine AOps.box 102 rfl rfl rfl rfl rfl (by decide) ?_
 refine AOps.box 103 rfl rfl rfl rfl rfl (by decide) ?_
 refine .vl (Y.assign rfl rfl) ?_
 refine AOps.nil ?_
 refine AWp.sr ?_
 refine .vl (Y.assign rfl rfl) ?_
 refine AOps.sh (Sh.nil (d := 5) 105 1 rfl (by decide)) ?_
 refine AOps.nil ?_
 refine AWp.seq ?_
 refine AWp.sr ?_
 refine .vl (Y.assign rfl rfl) ?_
 refine AOps.nil ?_
 refine AWp.block ?_
 refine AWp.loop2 (fun (i6_3 : Nat) (a5_3 : List Int) => ⟨[(2, .ptr 102 0 0 0), (3, .ptr 103 0 0 0), (5, .slc 105 1 0 a5_3.length), (6, .v (.int .i64 (i6_3 : Int)))], [(102, .cells (Netlist.row n)), (103, .cells [.v (.int .i64 3), .v (.int .i64 op), .v (.int .i64 out), .fz 1 (args.map irow), .v (.int .u64 ((num : Nat) : Int)), .v (.int .i64 mem)]), (105, .rows 1 (a5_3.map irow))]⟩) (fun (i6_3 : Nat) (a5_3 : List Int) => ((i6_3 : Int) ≤ ((args.length : Nat) : Int)) ∧ (a5_3.length = i6_3) ∧ (∀ j, j < i6_3 → a5_3.getD j 0 = n.av (⟨3, op, out, args, num, mem⟩ : Cell) j)) (fun (i6_3 : Nat) (a5_3 : List Int) => (((args.length : Nat) : Int) - (i6_3 : Int)).toNat) 0 ([] : List Int) (⟨by first | omega | (simp [-List.getD_eq_getElem?_getD]; done) | (simp [-List.getD_eq_getElem?_getD]; omega), rfl, fun j hj => by omega⟩) (Le.mk (SubL.cons rfl (SubL.cons rfl (SubL.cons (look_slc rfl (by first | omega | simp [-List.getD_eq_getElem?_getD] <;> omega)) (SubL.cons (look_int rfl (by first | rfl | omega)) (SubL.nil))))) (SubL.cons rfl (SubL.cons rfl (SubL.cons rfl (SubL.nil))))) (fun i6_3 a5_3 hI3 => ?_)
 obtain ⟨hb3, hal, ha⟩ := hI3
 refine AWp.seq ?_
 refine AWp.sr ?_
 refine .vl (Y.move rfl rfl) ?_
 refine .vl (Y.fieldAddr fl39_3 rfl rfl) ?_
 refine .vl (Y.load sh22 rfl rfl rfl rfl) ?_
 refine .vl (Y.len (n := args.length) sl22 rfl (congrArg some (List.length_map ..))) ?_
 refine .vl (Y.lss rfl rfl) ?_
 refine AOps.nil ?_
 refine AWp.condD rfl (fun c13 => ?_) (fun c13 => ?_)
 refine AWp.skip ?_
 refine AWp.seq ?_
 refine AWp.block ?_
 have hwa := hw.arg (k := i6_3) (by show _ < args.length; omega)
 simp only at hwa
 refine AWp.regionAny rfl ?_
 refine AAny.blind 0 rfl (by kernel_rfl) (Blind.move rfl rfl) (by decide) ?_
 refine AAny.quietN (n := 3) [1, 2, 3, 4, 5, 6, 7, 8, 9] [10, 11, 12] 10 rfl (by kernel_rfl) ?_
 refine .cn 1 rfl (Y.fieldAddr fl27_1 rfl rfl) ?_
 refine .cn 2 rfl (Y.load sh22 rfl rfl rfl rfl) ?_
 refine .cn 3 rfl (Y.fieldAddr fl39_3 rfl rfl) ?_
 refine .cn 4 rfl (Y.load sh22 rfl rfl rfl rfl) ?_
 refine .cn 5 rfl (Y.move rfl rfl) ?_
 refine .cn 6 rfl (Y.indexF (m := i6_3) sl22 rfl rfl (by first | rfl | omega) (row_getD (d := 0) (by first | omega | simp [-List.getD_eq_getElem?_getD] <;> omega))) ?_
 refine .cn 7 rfl (Y.load sh3 rfl rfl rfl rfl) ?_
 refine .cn 8 rfl (Y.indexF (m := (args.getD i6_3 0).toNat) sl22 rfl rfl (by first | omega | simp [-List.getD_eq_getElem?_getD] <;> omega) (row_getD (d := 0) (by first | omega | simp [-List.getD_eq_getElem?_getD] <;> omega))) ?_
 refine .cn 9 rfl (Y.load sh3 rfl rfl rfl rfl) ?_
 refine AQ.nil ?_
 refine AAny.one 10 rfl (by kernel_rfl) ?_
 refine AOps.buildSlice (([n.widths.getD ((args.getD i6_3 0).toNat) 0] : List Int).map irow) sl22 ze3 rfl rfl rfl rfl rfl (uniform_map (s := 1) (f := irow) (fun _ => rfl)) rfl rfl rfl (by decide) ?_
 refine AOps.nil ⟨rfl, ?_⟩
 refine AAny.one 11 rfl (by kernel_rfl) ?_
 refine AOps.appendE ((a5_3 ++ ([n.widths.getD ((args.getD i6_3 0).toNat) 0] : List Int)).map irow) (a5_3 ++ ([n.widths.getD ((args.getD i6_3 0).toNat) 0] : List Int)).length sl22 ze3 rfl rfl rfl rfl (app_le (by first | omega | simp [-List.getD_eq_getElem?_getD] <;> omega)) (app_map (by first | omega | simp [-List.getD_eq_getElem?_getD] <;> omega)) (app_n (by first | omega | simp [-List.getD_eq_getElem?_getD] <;> omega)) (by first | omega | simp [-List.getD_eq_getElem?_getD] <;> omega) (by first | omega | simp [-List.getD_eq_getElem?_getD] <;> omega) (by decide) (by decide) ?_
 refine AOps.nil ⟨rfl, ?_⟩
 refine AAny.quietN (n := 0) [12] [] 0 rfl (by kernel_rfl) ?_
 refine .cn 12 rfl (Y.assign rfl rfl) ?_
 refine AQ.nil ?_
 refine AAny.done (by kernel_rfl) ?_
 refine AWp.region ?_
 refine .vl (Y.move rfl rfl) ?_
 refine .vl (Y.addI rfl rfl (by first | omega | simp [-List.getD_eq_getElem?_getD] <;> omega)) ?_
 refine .vl (Y.assign rfl rfl) ?_
 refine AOps.nil ?_
 exact ⟨i6_3 + 1, a5_3 ++ ([n.widths.getD ((args.getD i6_3 0).toNat) 0] : List Int), ⟨by first | omega | (simp [-List.getD_eq_getElem?_getD]; done) | (simp [-List.getD_eq_getElem?_getD]; omega), by rw [List.length_append, hal]; rfl, push_succ hal ha rfl⟩, by omega, Le.mk (SubL.cons rfl (SubL.cons rfl (SubL.cons (look_slc rfl (by first | omega | simp [-List.getD_eq_getElem?_getD] <;> omega)) (SubL.cons (look_int rfl (by first | rfl | omega)) (SubL.nil))))) (SubL.cons rfl (SubL.cons rfl (SubL.cons rfl (SubL.nil))))⟩
 refine AWp.exit ?_
 refine AWp.seq ?_
 refine AWp.seq ?_
 have ha0 : 0 < args.length → a5_3.getD 0 0 = n.av (⟨3, op, out, args, num, mem⟩ : Cell) 0 := fun h => ha 0 (by omega)
 have ha1 : 1 < args.length → a5_3.getD 1 0 = n.av (⟨3, op, out, args, num, mem⟩ : Cell) 1 := fun h => ha 1 (by omega)
 have ha2 : 2 < args.length → a5_3.getD 2 0 = n.av (⟨3, op, out, args, num, mem⟩ : Cell) 2 := fun h => ha 2 (by omega)
 refine AWp.region ?_
 refine .vl (Y.fieldAddr fl39_0 rfl rfl) ?_
 refine .vl (Y.load sh3 rfl rfl rfl rfl) ?_
 refine .vl (Y.eql rfl rfl) ?_
 refine AOps.nil ?_
 refine AWp.condF rfl ?_
 refine AWp.skip ?_
 refine AWp.sr ?_
 refine .vl (Y.fieldAddr fl27_1 rfl rfl) ?_
 refine .vl (Y.load sh22 rfl rfl rfl rfl) ?_
 refine .vl (Y.fieldAddr fl39_2 rfl rfl) ?_
 refine .vl (Y.load sh3 rfl rfl rfl rfl) ?_
 refine .vl (Y.indexF (m := (out).toNat) sl22 rfl rfl (by first | omega | simp [-List.getD_eq_getElem?_getD] <;> omega) (row_getD (d := 0) (by first | omega | simp [-List.getD_eq_getElem?_getD] <;> omega))) ?_
 refine .vl (Y.load sh3 rfl rfl rfl rfl) ?_
 refine .vl (Y.assign rfl rfl) ?_
 refine AOps.nil ?_
 refine AWp.seq ?_
 refine AWp.sr ?_
 refine .vl (Y.fieldAddr fl39_0 rfl rfl) ?_
 refine .vl (Y.load sh3 rfl rfl rfl rfl) ?_
 refine AOps.nil ?_
 refine AWp.block ?_
 refine AWp.sr ?_
 refine .vl (Y.eql rfl rfl) ?_
 refine .vl (Y.assign rfl rfl) ?_
 refine AOps.nil ?_
 refine AWp.condF rfl ?_
 refine AWp.seq ?_
 refine AWp.sr ?_
 refine .vl (Y.eql rfl rfl) ?_
 refine .vl (Y.assign rfl rfl) ?_
 refine AOps.nil ?_
 refine AWp.condF rfl ?_
 refine AWp.region ?_
 refine .vl (Y.eql rfl rfl) ?_
 refine .vl (Y.assign rfl rfl) ?_
 refine AOps.nil ?_
 refine AWp.condF rfl ?_
 refine AWp.sr ?_
 refine .vl (Y.eql rfl rfl) ?_
 refine .vl (Y.assign rfl rfl) ?_
 refine AOps.nil ?_
 refine AWp.condT rfl ?_
 refine AWp.sr ?_
 refine .vl (Y.assign rfl rfl) ?_
 refine AOps.nil ?_
 refine AWp.block ?_
 refine AWp.loop1 (fun (i8_17 : Nat) => ⟨[(5, .slc 105 1 0 a5_3.length), (7, .v (.int .i64 (n.widths.getD ((out).toNat) 0))), (8, .v (.int .i64 (i8_17 : Int)))], [(105, .rows 1 (a5_3.map irow))]⟩) (fun (i8_17 : Nat) => ((i8_17 : Int) ≤ ((a5_3.length : Nat) : Int)) ∧ (i8_17 % 2 = 0) ∧ (∀ k, k < i8_17 → MuxFit n (⟨3, op, out, args, num, mem⟩ : Cell) k)) (fun (i8_17 : Nat) => (((a5_3.length : Nat) : Int) - (i8_17 : Int)).toNat) 0 (⟨by first | omega | (simp [-List.getD_eq_getElem?_getD]; done) | (simp [-List.getD_eq_getElem?_getD]; omega), rfl, fun k hk => by omega⟩) (Le.mk (SubL.cons rfl (SubL.cons rfl (SubL.cons (look_int rfl (by first | rfl | omega)) (SubL.nil)))) (SubL.cons rfl (SubL.nil))) (fun i8_17 hI17 => ?_)
 obtain ⟨hb17, hp, hm⟩ := hI17
 refine AWp.seq ?_
 refine AWp.sr ?_
 refine .vl (Y.move rfl rfl) ?_
 refine .vl (Y.move rfl rfl) ?_
 refine .vl (Y.len (n := a5_3.length) sl22 rfl rfl) ?_
 refine .vl (Y.lss rfl rfl) ?_
 refine AOps.nil ?_
 refine AWp.condD rfl (fun c76 => ?_) (fun c76 => ?_)
 refine AWp.skip ?_
 refine AWp.seq ?_
 refine AWp.block ?_
 refine AWp.sr ?_
 refine .vl (Y.move rfl rfl) ?_
 refine .vl (Y.move rfl rfl) ?_
 refine .vl (Y.indexO (m := i8_17) sl22 rfl rfl (by first | rfl | omega) (by first | omega | simp [-List.getD_eq_getElem?_getD] <;> omega)) ?_
 refine .vl (Y.load sh3 rfl (row_getD0 (d := 0) (by first | omega | simp [-List.getD_eq_getElem?_getD] <;> omega)) rfl rfl) ?_
 refine .vl (Y.neq rfl rfl) ?_
 refine .vl (Y.move rfl rfl) ?_
 refine AOps.splitD (d := 84) rfl (fun c84 => ?_) (fun c84 => ?_)
 refine .gs 84 rfl rfl rfl ?_
 refine .gs 84 rfl rfl rfl ?_
 refine .gs 84 rfl rfl rfl ?_
 refine .gs 84 rfl rfl rfl ?_
 refine .gs 84 rfl rfl rfl ?_
 refine .gs 84 rfl rfl rfl ?_
 refine .gs 84 rfl rfl rfl ?_
 refine .vl (Y.pick rfl rfl rfl) ?_
 refine AOps.nil ?_
 refine AWp.condT rfl ?_
 refine AWp.sr ?_
 refine .vl (Y.assign rfl rfl) ?_
 refine AOps.nil ?_
 refine AWp.ret ?_
 exact ⟨_, _, rfl, rfl, (cg1 (fun (z0 : Bool) => X.v (.bool z0)) (df (fun h => by simp only [Fits, Int.reduceEq, Bool.not_eq_true, false_and, true_and, and_true, and_false, or_false, false_or, ne_eq] at h; have h1 := h i8_17 (by show _ < args.length; omega); have h2 := h (i8_17 + 1) (by show _ < args.length; omega); have h3 := ha i8_17 (by omega); have h4 := ha (i8_17 + 1) (by omega); unfold MuxFit at h1 h2; omega) : false = decide (Fits n (⟨3, op, out, args, num, mem⟩ : Cell))) : X.v (.bool false) = X.v (.bool (decide (Fits n (⟨3, op, out, args, num, mem⟩ : Cell))))), rfl⟩
 refine .gv 84 rfl rfl (Y.move rfl rfl) ?_
 refine .gv 84 rfl rfl (Y.move rfl rfl) ?_
 refine .gv 84 rfl rfl (Y.addI rfl rfl (by first | omega | simp [-List.getD_eq_getElem?_getD] <;> omega)) ?_
 refine .gv 84 rfl rfl (Y.indexO (m := i8_17 + 1) sl22 rfl rfl (by first | rfl | omega) (by first | omega | simp [-List.getD_eq_getElem?_getD] <;> omega)) ?_
 refine .gv 84 rfl rfl (Y.load sh3 rfl (row_getD0 (d := 0) (by first | omega | simp [-List.getD_eq_getElem?_getD] <;> omega)) rfl rfl) ?_
 refine .gv 84 rfl rfl (Y.move rfl rfl) ?_
 refine .gv 84 rfl rfl (Y.neq rfl rfl) ?_
 refine .vl (Y.pick rfl rfl rfl) ?_
 refine AOps.nil ?_
 refine AWp.condD rfl (fun c92 => ?_) (fun c92 => ?_)
 refine AWp.sr ?_
 refine .vl (Y.assign rfl rfl) ?_
 refine AOps.nil ?_
 refine AWp.ret ?_
 exact ⟨_, _, rfl, rfl, (cg1 (fun (z0 : Bool) => X.v (.bool z0)) (df (fun h => by simp only [Fits, Int.reduceEq, Bool.not_eq_true, false_and, true_and, and_true, and_false, or_false, false_or, ne_eq] at h; have h1 := h i8_17 (by show _ < args.length; omega); have h2 := h (i8_17 + 1) (by show _ < args.length; omega); have h3 := ha i8_17 (by omega); have h4 := ha (i8_17 + 1) (by omega); unfold MuxFit at h1 h2; omega) : false = decide (Fits n (⟨3, op, out, args, num, mem⟩ : Cell))) : X.v (.bool false) = X.v (.bool (decide (Fits n (⟨3, op, out, args, num, mem⟩ : Cell))))), rfl⟩
 refine AWp.skip ?_
 refine AWp.region ?_
 refine .vl (Y.move rfl rfl) ?_
 refine .vl (Y.addI rfl rfl (by first | omega | simp [-List.getD_eq_getElem?_getD] <;> omega)) ?_
 refine .vl (Y.assign rfl rfl) ?_
 refine AOps.nil ?_
 exact ⟨i8_17 + 2, ⟨by first | omega | (simp [-List.getD_eq_getElem?_getD]; done) | (simp [-List.getD_eq_getElem?_getD]; omega), by omega, mux_two hm (by have h2 := ha i8_17 (by omega); unfold MuxFit; omega) (by have h2 := ha (i8_17 + 1) (by omega); unfold MuxFit; omega)⟩, by omega, Le.mk (SubL.cons rfl (SubL.cons rfl (SubL.cons (look_int rfl (by first | rfl | omega)) (SubL.nil)))) (SubL.cons rfl (SubL.nil))⟩
 refine AWp.exit ?_
 refine AWp.sr ?_
 refine .vl (Y.assign rfl rfl) ?_
 refine AOps.nil ?_
 refine AWp.ret ?_
 exact ⟨_, _, rfl, rfl, (cg1 (fun (z0 : Bool) => X.v (.bool z0)) (dt (by simp only [Fits, Int.reduceEq, Bool.not_eq_true, false_and, true_and, and_true, and_false, or_false, false_or, ne_eq]; exact fun k hk => hm k (by have : k < args.length := hk; omega)) : true = decide (Fits n (⟨3, op, out, args, num, mem⟩ : Cell))) : X.v (.bool true) = X.v (.bool (decide (Fits n (⟨3, op, out, args, num, mem⟩ : Cell))))), rfl⟩

set_option maxRecDepth 4000 in
set_option maxHeartbeats 1000000 in
theorem refFits_k4 {n : Netlist} {op out mem : Int} {args : List Int} {num : Nat} (hs : n.Small) (hc : args.length ≤ 17592186043904) (hn : num < 18446744073709551616) (hsh : Shaped n (⟨4, op, out, args, num, mem⟩ : Cell)) (hw : Wired n (⟨4, op, out, args, num, mem⟩ : Cell)) : ACalls Try.prog 89 [.agg (Netlist.row n), .agg [.v (.int .i64 4), .v (.int .i64 op), .v (.int .i64 out), .fz 1 (args.map irow), .v (.int .u64 ((num : Nat) : Int)), .v (.int .i64 mem)]] [] [] (fun r o => r = .v (.bool (decide (Fits n (⟨4, op, out, args, num, mem⟩ : Cell)))) ∧ o = []) := by
 refine ACalls.of Try.func89 rfl rfl rfl (n := 155) (by decide) (Nat.le_of_ble_eq_true rfl) ?_
 have hs4 := hs.ins; have hs5 := hs.mems; have hs6 := hs.streams; have hs1 := hs.widths
 have hk := hsh.k4 rfl; simp only at hk
 have ho : 0 ≤ out ∧ out < n.widths.length := by have := hw.out; simp only at this; omega
 have how : n.ow (⟨4, op, out, args, num, mem⟩ : Cell) = n.widths.getD out.toNat 0 := ow_eq ho.1
 refine AWp.sr ?_
 refine AOps.box 102 rfl rfl rfl rfl rfl (by decide) ?_
 refine AOps.box 103 rfl rfl rfl rfl rfl (by decide) ?_
 refine .vl (Y.assign rfl rfl) ?_
 refine AOps.nil ?_
 refine AWp.sr ?_
 refine .vl (Y.assign rfl rfl) ?_
 refine AOps.sh (Sh.nil (d := 5) 105 1 rfl (by decide)) ?_
 refine AOps.nil ?_
 refine AWp.seq ?_
 refine AWp.sr ?_
 refine .vl (Y.assign rfl rfl) ?_
 refine AOps.nil ?_
 refine AWp.block ?_
 refine AWp.loop2 (fun (i6_3 : Nat) (a5_3 : List Int) => ⟨[(2, .ptr 102 0 0 0), (3, .ptr 103 0 0 0), (5, .slc 105 1 0 a5_3.length), (6, .v (.int .i64 (i6_3 : Int)))], [(102, .cells (Netlist.row n)), (103, .cells [.v (.int .i64 4), .v (.int .i64 op), .v (.int .i64 out), .fz 1 (args.map irow), .v (.int .u64 ((num : Nat) : Int)), .v (.int .i64 mem)]), (105, .rows 1 (a5_3.map irow))]⟩) (fun (i6_3 : Nat) (a5_3 : List Int) => ((i6_3 : Int) ≤ ((args.length : Nat) : Int)) ∧ (a5_3.length = i6_3) ∧ (∀ j, j < i6_3 → a5_3.getD j 0 = n.av (⟨4, op, out, args, num, mem⟩ : Cell) j)) (fun (i6_3 : Nat) (a5_3 : List Int) => (((args.length : Nat) : Int) - (i6_3 : Int)).toNat) 0 ([] : List Int) (⟨by first | omega | (simp [-List.getD_eq_getElem?_getD]; done) | (simp [-List.getD_eq_getElem?_getD]; omega), rfl, fun j hj => by omega⟩) (Le.mk (SubL.cons rfl (SubL.cons rfl (SubL.cons (look_slc rfl (by first | omega | simp [-List.getD_eq_getElem?_getD] <;> omega)) (SubL.cons (look_int rfl (by first | rfl | omega)) (SubL.nil))))) (SubL.cons rfl (SubL.cons rfl (SubL.cons rfl (SubL.nil))))) (fun i6_3 a5_3 hI3 => ?_)
 obtain ⟨hb3, hal, ha⟩ := hI3
 refine AWp.seq ?_
 refine AWp.sr ?_
 refine .vl (Y.move rfl rfl) ?_
 refine .vl (Y.fieldAddr fl39_3 rfl rfl) ?_
 refine .vl (Y.load sh22 rfl rfl rfl rfl) ?_
 refine .vl (Y.len (n := args.length) sl22 rfl (congrArg some (List.length_map ..))) ?_
 refine .vl (Y.lss rfl rfl) ?_
 refine AOps.nil ?_
 refine AWp.condD rfl (fun c13 => ?_) (fun c13 => ?_)
 refine AWp.skip ?_
 refine AWp.seq ?_
 refine AWp.block ?_
 have hwa := hw.arg (k := i6_3) (by show _ < args.length; omega)
 simp only at hwa
 refine AWp.regionAny rfl ?_
 refine AAny.blind 0 rfl (by kernel_rfl) (Blind.move rfl rfl) (by decide) ?_
 refine AAny.quietN (n := 3) [1, 2, 3, 4, 5, 6, 7, 8, 9] [10, 11, 12] 10 rfl (by kernel_rfl) ?_
 refine .cn 1 rfl (Y.fieldAddr fl27_1 rfl rfl) ?_
 refine .cn 2 rfl (Y.load sh22 rfl rfl rfl rfl) ?_
 refine .cn 3 rfl (Y.fieldAddr fl39_3 rfl rfl) ?_
 refine .cn 4 rfl (Y.load sh22 rfl rfl rfl rfl) ?_
 refine .cn 5 rfl (Y.move rfl rfl) ?_
 refine .cn 6 rfl (Y.indexF (m := i6_3) sl22 rfl rfl (by first | rfl | omega) (row_getD (d := 0) (by first | omega | simp [-List.getD_eq_getElem?_getD] <;> omega))) ?_
 refine .cn 7 rfl (Y.load sh3 rfl rfl rfl rfl) ?_
 refine .cn 8 rfl (Y.indexF (m := (args.getD i6_3 0).toNat) sl22 rfl rfl (by first | omega | simp [-List.getD_eq_getElem?_getD] <;> omega) (row_getD (d := 0) (by first | omega | simp [-List.getD_eq_getElem?_getD] <;> omega))) ?_
 refine .cn 9 rfl (Y.load sh3 rfl rfl rfl rfl) ?_
 refine AQ.nil ?_
 refine AAny.one 10 rfl (by kernel_rfl) ?_
 refine AOps.buildSlice (([n.widths.getD ((args.getD i6_3 0).toNat) 0] : List Int).map irow) sl22 ze3 rfl rfl rfl rfl rfl (uniform_map (s := 1) (f := irow) (fun _ => rfl)) rfl rfl rfl (by decide) ?_
 refine AOps.nil ⟨rfl, ?_⟩
 refine AAny.one 11 rfl (by kernel_rfl) ?_
 refine AOps.appendE ((a5_3 ++ ([n.widths.getD ((args.getD i6_3 0).toNat) 0] : List Int)).map irow) (a5_3 ++ ([n.widths.getD ((args.getD i6_3 0).toNat) 0] : List Int)).length sl22 ze3 rfl rfl rfl rfl (app_le (by first | omega | simp [-List.getD_eq_getElem?_getD] <;> omega)) (app_map (by first | omega | simp [-List.getD_eq_getElem?_getD] <;> omega)) (app_n (by first | omega | simp [-List.getD_eq_getElem?_getD] <;> omega)) (by first | omega | simp [-List.getD_eq_getElem?_getD] <;> omega) (by first | omega | simp [-List.getD_eq_getElem?_getD] <;> omega) (by decide) (by decide) ?_
 refine AOps.nil ⟨rfl, ?_⟩
 refine AAny.quietN (n := 0) [12] [] 0 rfl (by kernel_rfl) ?_
 refine .cn 12 rfl (Y.assign rfl rfl) ?_
 refine AQ.nil ?_
 refine AAny.done (by kernel_rfl) ?_
 refine AWp.region ?_
 refine .vl (Y.move rfl rfl) ?_
 refine .vl (Y.addI rfl rfl (by first | omega | simp [-List.getD_eq_getElem?_getD] <;> omega)) ?_
 refine .vl (Y.assign rfl rfl) ?_
 refine AOps.nil ?_
 exact ⟨i6_3 + 1, a5_3 ++ ([n.widths.getD ((args.getD i6_3 0).toNat) 0] : List Int), ⟨by first | omega | (simp [-List.getD_eq_getElem?_getD]; done) | (simp [-List.getD_eq_getElem?_getD]; omega), by rw [List.length_append, hal]; rfl, push_succ hal ha rfl⟩, by omega, Le.mk (SubL.cons rfl (SubL.cons rfl (SubL.cons (look_slc rfl (by first | omega | simp [-List.getD_eq_getElem?_getD] <;> omega)) (SubL.cons (look_int rfl (by first | rfl | omega)) (SubL.nil))))) (SubL.cons rfl (SubL.cons rfl (SubL.cons rfl (SubL.nil))))⟩
 refine AWp.exit ?_
 refine AWp.seq ?_
 refine AWp.seq ?_
 have ha0 : 0 < args.length → a5_3.getD 0 0 = n.av (⟨4, op, out, args, num, mem⟩ : Cell) 0 := fun h => ha 0 (by omega)
 have ha1 : 1 < args.length → a5_3.getD 1 0 = n.av (⟨4, op, out, args, num, mem⟩ : Cell) 1 := fun h => ha 1 (by omega)
 have ha2 : 2 < args.length → a5_3.getD 2 0 = n.av (⟨4, op, out, args, num, mem⟩ : Cell) 2 := fun h => ha 2 (by omega)
 refine AWp.region ?_
 refine .vl (Y.fieldAddr fl39_0 rfl rfl) ?_
 refine .vl (Y.load sh3 rfl rfl rfl rfl) ?_
 refine .vl (Y.eql rfl rfl) ?_
 refine AOps.nil ?_
 refine AWp.condF rfl ?_
 refine AWp.skip ?_
 refine AWp.sr ?_
 refine .vl (Y.fieldAddr fl27_1 rfl rfl) ?_
 refine .vl (Y.load sh22 rfl rfl rfl rfl) ?_
 refine .vl (Y.fieldAddr fl39_2 rfl rfl) ?_
 refine .vl (Y.load sh3 rfl rfl rfl rfl) ?_
 refine .vl (Y.indexF (m := (out).toNat) sl22 rfl rfl (by first | omega | simp [-List.getD_eq_getElem?_getD] <;> omega) (row_getD (d := 0) (by first | omega | simp [-List.getD_eq_getElem?_getD] <;> omega))) ?_
 refine .vl (Y.load sh3 rfl rfl rfl rfl) ?_
 refine .vl (Y.assign rfl rfl) ?_
 refine AOps.nil ?_
 refine AWp.seq ?_
 refine AWp.sr ?_
 refine .vl (Y.fieldAddr fl39_0 rfl rfl) ?_
 refine .vl (Y.load sh3 rfl rfl rfl rfl) ?_
 refine AOps.nil ?_
 refine AWp.block ?_
 refine AWp.sr ?_
 refine .vl (Y.eql rfl rfl) ?_
 refine .vl (Y.assign rfl rfl) ?_
 refine AOps.nil ?_
 refine AWp.condF rfl ?_
 refine AWp.seq ?_
 refine AWp.sr ?_
 refine .vl (Y.eql rfl rfl) ?_
 refine .vl (Y.assign rfl rfl) ?_
 refine AOps.nil ?_
 refine AWp.condF rfl ?_
 refine AWp.region ?_
 refine .vl (Y.eql rfl rfl) ?_
 refine .vl (Y.assign rfl rfl) ?_
 refine AOps.nil ?_
 refine AWp.condF rfl ?_
 refine AWp.sr ?_
 refine .vl (Y.eql rfl rfl) ?_
 refine .vl (Y.assign rfl rfl) ?_
 refine AOps.nil ?_
 refine AWp.condF rfl ?_
 refine AWp.sr ?_
 refine .vl (Y.eql rfl rfl) ?_
 refine .vl (Y.assign rfl rfl) ?_
 refine AOps.nil ?_
 refine AWp.condT rfl ?_
 refine AWp.seq ?_
 refine AWp.regionAny rfl ?_
 refine AAny.blind 0 rfl (by kernel_rfl) (Blind.move rfl rfl) (by decide) ?_
 refine AAny.one 1 rfl (by kernel_rfl) ?_
 refine .vl (Y.indexO (m := 0) sl22 rfl rfl (by first | rfl | omega) (by first | omega | simp [-List.getD_eq_getElem?_getD] <;> omega)) ?_
 refine AOps.nil ⟨rfl, ?_⟩
 refine AAny.one 2 rfl (by kernel_rfl) ?_
 refine .vl (Y.load sh3 rfl (row_getD0 (d := 0) (by first | omega | simp [-List.getD_eq_getElem?_getD] <;> omega)) rfl rfl) ?_
 refine AOps.nil ⟨rfl, ?_⟩
 refine AAny.one 3 rfl (by kernel_rfl) ?_
 refine .vl (Y.eql rfl rfl) ?_
 refine AOps.nil ⟨rfl, ?_⟩
 refine AAny.blind 4 rfl (by kernel_rfl) (Blind.move rfl rfl) (by decide) ?_
 refine AAny.splitD (d := 99) rfl (fun c99 => ?_) (fun c99 => ?_)
 refine AAny.blindRun 5 rfl (by kernel_rfl) rfl (by decide) rfl (Blind.move rfl rfl) (by decide) ?_
 refine AAny.blindRun 8 rfl (by kernel_rfl) rfl (by decide) rfl (Blind.move rfl rfl) (by decide) ?_
 refine AAny.one 6 rfl (by kernel_rfl) ?_
 refine .gv 99 rfl rfl (Y.indexO (m := 1) sl22 rfl rfl (by first | rfl | omega) (by first | omega | simp [-List.getD_eq_getElem?_getD] <;> omega)) ?_
 refine AOps.nil ⟨rfl, ?_⟩
 refine AAny.one 7 rfl (by kernel_rfl) ?_
 refine .gv 99 rfl rfl (Y.load sh3 rfl (row_getD0 (d := 0) (by first | omega | simp [-List.getD_eq_getElem?_getD] <;> omega)) rfl rfl) ?_
 refine AOps.nil ⟨rfl, ?_⟩
 refine AAny.one 9 rfl (by kernel_rfl) ?_
 refine .gv 99 rfl rfl (Y.eql rfl rfl) ?_
 refine AOps.nil ⟨rfl, ?_⟩
 refine AAny.one 10 rfl (by kernel_rfl) ?_
 refine .vl (Y.pick rfl rfl rfl) ?_
 refine AOps.nil ⟨rfl, ?_⟩
 refine AAny.blind 11 rfl (by kernel_rfl) (Blind.move rfl rfl) (by decide) ?_
 refine AAny.splitD (d := 106) rfl (fun c106 => ?_) (fun c106 => ?_)
 refine AAny.blindRun 12 rfl (by kernel_rfl) rfl (by decide) rfl (Blind.fieldAddr fl39_4 rfl rfl) (by decide) ?_
 refine AAny.blindRun 14 rfl (by kernel_rfl) rfl (by decide) rfl (Blind.move rfl rfl) (by decide) ?_
 refine AAny.two 13 15 rfl rfl (by kernel_rfl) ?_ ?_
 refine .gv 106 rfl rfl (Y.load sh37 rfl rfl rfl rfl) ?_
 refine AOps.nil ⟨rfl, ?_⟩
 refine AAny.one 15 rfl (by kernel_rfl) ?_
 refine AOps.guardRun (d := 106) rfl (by decide) rfl ?_
 refine AOps.callP ok121 (ones_spec (w := (n.widths.getD ((out).toNat) 0))) rfl (.keep rfl rfl .nil) (by decide) rfl ?_
 refine AOps.nil ⟨rfl, ?_⟩
 refine AAny.quietN (n := 0) [16, 17, 18] [] 0 rfl (by kernel_rfl) ?_
 refine .rn 16 rfl rfl rfl (Y.leq rfl rfl) ?_
 refine .cn 17 rfl (Y.pick rfl rfl rfl) ?_
 refine .cn 18 rfl (Y.assign rfl rfl) ?_
 refine AQ.nil ?_
 refine AAny.done (by kernel_rfl) ?_
 refine AWp.ret ?_
 exact ⟨_, _, rfl, rfl, (cg1 (fun (z0 : Bool) => X.v (.bool z0)) (dd (by simp only [Fits, OpFits, Cmp, fit_iff, how, Int.reduceEq, Bool.not_eq_true, false_and, true_and, and_true, and_false, or_false, false_or, ne_eq] <;> (first | omega | grind)) : (decide (((num : Nat) : Int) ≤ ((2 ^ limN (n.widths.getD ((out).toNat) 0) - 1 : Nat) : Int))) = decide (Fits n (⟨4, op, out, args, num, mem⟩ : Cell))) : X.v (.bool (decide (((num : Nat) : Int) ≤ ((2 ^ limN (n.widths.getD ((out).toNat) 0) - 1 : Nat) : Int)))) = X.v (.bool (decide (Fits n (⟨4, op, out, args, num, mem⟩ : Cell))))), rfl⟩
 refine AOps.guardRun (d := 106) rfl (by decide) rfl ?_
 refine AOps.callP ok121 (ones_spec (w := (n.widths.getD ((out).toNat) 0))) rfl (.keep rfl rfl .nil) (by decide) rfl ?_
 refine AOps.nil ⟨rfl, ?_⟩
 refine AAny.quietN (n := 0) [13, 16, 17, 18] [] 0 rfl (by kernel_rfl) ?_
 refine .rn 13 rfl rfl rfl (Y.load sh37 rfl rfl rfl rfl) ?_
 refine .rn 16 rfl rfl rfl (Y.leq rfl rfl) ?_
 refine .cn 17 rfl (Y.pick rfl rfl rfl) ?_
 refine .cn 18 rfl (Y.assign rfl rfl) ?_
 refine AQ.nil ?_
 refine AAny.done (by kernel_rfl) ?_
 refine AWp.ret ?_
 exact ⟨_, _, rfl, rfl, (cg1 (fun (z0 : Bool) => X.v (.bool z0)) (dd (by simp only [Fits, OpFits, Cmp, fit_iff, how, Int.reduceEq, Bool.not_eq_true, false_and, true_and, and_true, and_false, or_false, false_or, ne_eq] <;> (first | omega | grind)) : (decide (((num : Nat) : Int) ≤ ((2 ^ limN (n.widths.getD ((out).toNat) 0) - 1 : Nat) : Int))) = decide (Fits n (⟨4, op, out, args, num, mem⟩ : Cell))) : X.v (.bool (decide (((num : Nat) : Int) ≤ ((2 ^ limN (n.widths.getD ((out).toNat) 0) - 1 : Nat) : Int)))) = X.v (.bool (decide (Fits n (⟨4, op, out, args, num, mem⟩ : Cell))))), rfl⟩
 refine AAny.skipOp 12 rfl (by kernel_rfl) rfl (by decide) (by decide) rfl rfl ?_
 refine AAny.skipOp 13 rfl (by kernel_rfl) rfl (by decide) (by decide) rfl rfl ?_
 refine AAny.skipOp 14 rfl (by kernel_rfl) rfl (by decide) (by decide) rfl rfl ?_
 refine AAny.skipOp 15 rfl (by kernel_rfl) rfl (by decide) (by decide) rfl rfl ?_
 refine AAny.skipOp 16 rfl (by kernel_rfl) rfl (by decide) (by decide) rfl rfl ?_
 refine AAny.quietN (n := 0) [17, 18] [] 0 rfl (by kernel_rfl) ?_
 refine .cn 17 rfl (Y.pick rfl rfl rfl) ?_
 refine .cn 18 rfl (Y.assign rfl rfl) ?_
 refine AQ.nil ?_
 refine AAny.done (by kernel_rfl) ?_
 refine AWp.ret ?_
 exact ⟨_, _, rfl, rfl, (cg1 (fun (z0 : Bool) => X.v (.bool z0)) (df (by simp only [Fits, OpFits, Cmp, fit_iff, how, Int.reduceEq, Bool.not_eq_true, false_and, true_and, and_true, and_false, or_false, false_or, ne_eq] <;> (first | omega | grind)) : false = decide (Fits n (⟨4, op, out, args, num, mem⟩ : Cell))) : X.v (.bool false) = X.v (.bool (decide (Fits n (⟨4, op, out, args, num, mem⟩ : Cell))))), rfl⟩
 refine AAny.skipOp 5 rfl (by kernel_rfl) rfl (by decide) (by decide) rfl rfl ?_
 refine AAny.skipOp 6 rfl (by kernel_rfl) rfl (by decide) (by decide) rfl rfl ?_
 refine AAny.skipOp 7 rfl (by kernel_rfl) rfl (by decide) (by decide) rfl rfl ?_
 refine AAny.skipOp 8 rfl (by kernel_rfl) rfl (by decide) (by decide) rfl rfl ?_
 refine AAny.skipOp 9 rfl (by kernel_rfl) rfl (by decide) (by decide) rfl rfl ?_
 refine AAny.one 10 rfl (by kernel_rfl) ?_
 refine .vl (Y.pick rfl rfl rfl) ?_
 refine AOps.nil ⟨rfl, ?_⟩
 refine AAny.blind 11 rfl (by kernel_rfl) (Blind.move rfl rfl) (by decide) ?_
 refine AAny.skipOp 12 rfl (by kernel_rfl) rfl (by decide) (by decide) rfl rfl ?_
 refine AAny.skipOp 13 rfl (by kernel_rfl) rfl (by decide) (by decide) rfl rfl ?_
 refine AAny.skipOp 14 rfl (by kernel_rfl) rfl (by decide) (by decide) rfl rfl ?_
 refine AAny.skipOp 15 rfl (by kernel_rfl) rfl (by decide) (by decide) rfl rfl ?_
 refine AAny.skipOp 16 rfl (by kernel_rfl) rfl (by decide) (by decide) rfl rfl ?_
 refine AAny.quietN (n := 0) [17, 18] [] 0 rfl (by kernel_rfl) ?_
 refine .cn 17 rfl (Y.pick rfl rfl rfl) ?_
 refine .cn 18 rfl (Y.assign rfl rfl) ?_
 refine AQ.nil ?_
 refine AAny.done (by kernel_rfl) ?_
 refine AWp.ret ?_
 exact ⟨_, _, rfl, rfl, (cg1 (fun (z0 : Bool) => X.v (.bool z0)) (df (by simp only [Fits, OpFits, Cmp, fit_iff, how, Int.reduceEq, Bool.not_eq_true, false_and, true_and, and_true, and_false, or_false, false_or, ne_eq] <;> (first | omega | grind)) : false = decide (Fits n (⟨4, op, out, args, num, mem⟩ : Cell))) : X.v (.bool false) = X.v (.bool (decide (Fits n (⟨4, op, out, args, num, mem⟩ : Cell))))), rfl⟩

set_option maxRecDepth 4000 in
set_option maxHeartbeats 1000000 in
theorem refFits_k5 {n : Netlist} {op out mem : Int} {args : List Int} {num : Nat} (hs : n.Small) (hc : args.length ≤ 17592186043904) (hn : num < 18446744073709551616) (hsh : Shaped n (⟨5, op, out, args, num, mem⟩ : Cell)) (hw : Wired n (⟨5, op, out, args, num, mem⟩ : Cell)) : ACalls Try.prog 89 [.agg (Netlist.row n), .agg [.v (.int .i64 5), .v (.int .i64 op), .v (.int .i64 out), .fz 1 (args.map irow), .v (.int .u64 ((num : Nat) : Int)), .v (.int .i64 mem)]] [] [] (fun r o => r = .v (.bool (decide (Fits n (⟨5, op, out, args, num, mem⟩ : Cell)))) ∧ o = []) := by
 refine ACalls.of Try.func89 rfl rfl rfl (n := 155) (by decide) (Nat.le_of_ble_eq_true rfl) ?_
 have hs4 := hs.ins; have hs5 := hs.mems; have hs6 := hs.streams; have hs1 := hs.widths
 have hk := hsh.k5 rfl; simp only at hk
 have ho : 0 ≤ out ∧ out < n.widths.length := by have := hw.out; simp only at this; omega
 have how : n.ow (⟨5, op, out, args, num, mem⟩ : Cell) = n.widths.getD out.toNat 0 := ow_eq ho.1
 refine AWp.sr ?_
 refine AOps.box 102 rfl rfl rfl rfl rfl (by decide) ?_
 refine AOps.box 103 rfl rfl rfl rfl rfl (by decide) ?_
 refine .vl (Y.assign rfl rfl) ?_
 refine AOps.nil ?_
 refine AWp.sr ?_
 refine .vl (Y.assign rfl rfl) ?_
 refine AOps.sh (Sh.nil (d := 5) 105 1 rfl (by decide)) ?_
 refine AOps.nil ?_
 refine AWp.seq ?_
 refine AWp.sr ?_
 refine .vl (Y.assign rfl rfl) ?_
 refine AOps.nil ?_
 refine AWp.block ?_
 refine AWp.loop2 (fun (i6_3 : Nat) (a5_3 : List Int) => ⟨[(2, .ptr 102 0 0 0), (3, .ptr 103 0 0 0), (5, .slc 105 1 0 a5_3.length), (6, .v (.int .i64 (i6_3 : Int)))], [(102, .cells (Netlist.row n)), (103, .cells [.v (.int .i64 5), .v (.int .i64 op), .v (.int .i64 out), .fz 1 (args.map irow), .v (.int .u64 ((num : Nat) : Int)), .v (.int .i64 mem)]), (105, .rows 1 (a5_3.map irow))]⟩) (fun (i6_3 : Nat) (a5_3 : List Int) => ((i6_3 : Int) ≤ ((args.length : Nat) : Int)) ∧ (a5_3.length = i6_3) ∧ (∀ j, j < i6_3 → a5_3.getD j 0 = n.av (⟨5, op, out, args, num, mem⟩ : Cell) j)) (fun (i6_3 : Nat) (a5_3 : List Int) => (((args.length : Nat) : Int) - (i6_3 : Int)).toNat) 0 ([] : List Int) (⟨by first | omega | (simp [-List.getD_eq_getElem?_getD]; done) | (simp [-List.getD_eq_getElem?_getD]; omega), rfl, fun j hj => by omega⟩) (Le.mk (SubL.cons rfl (SubL.cons rfl (SubL.cons (look_slc rfl (by first | omega | simp [-List.getD_eq_getElem?_getD] <;> omega)) (SubL.cons (look_int rfl (by first | rfl | omega)) (SubL.nil))))) (SubL.cons rfl (SubL.cons rfl (SubL.cons rfl (SubL.nil))))) (fun i6_3 a5_3 hI3 => ?_)
 obtain ⟨hb3, hal, ha⟩ := hI3
 refine AWp.seq ?_
 refine AWp.sr ?_
 refine .vl (Y.move rfl rfl) ?_
 refine .vl (Y.fieldAddr fl39_3 rfl rfl) ?_
 refine .vl (Y.load sh22 rfl rfl rfl rfl) ?_
 refine .vl (Y.len (n := args.length) sl22 rfl (congrArg some (List.length_map ..))) ?_
 refine .vl (Y.lss rfl rfl) ?_
 refine AOps.nil ?_
 refine AWp.condD rfl (fun c13 => ?_) (fun c13 => ?_)
 refine AWp.skip ?_
 refine AWp.seq ?_
 refine AWp.block ?_
 have hwa := hw.arg (k := i6_3) (by show _ < args.length; omega)
 simp only at hwa
 refine AWp.regionAny rfl ?_
 refine AAny.blind 0 rfl (by kernel_rfl) (Blind.move rfl rfl) (by decide) ?_
 refine AAny.quietN (n := 3) [1, 2, 3, 4, 5, 6, 7, 8, 9] [10, 11, 12] 10 rfl (by kernel_rfl) ?_
 refine .cn 1 rfl (Y.fieldAddr fl27_1 rfl rfl) ?_
 refine .cn 2 rfl (Y.load sh22 rfl rfl rfl rfl) ?_
 refine .cn 3 rfl (Y.fieldAddr fl39_3 rfl rfl) ?_
 refine .cn 4 rfl (Y.load sh22 rfl rfl rfl rfl) ?_
 refine .cn 5 rfl (Y.move rfl rfl) ?_
 refine .cn 6 rfl (Y.indexF (m := i6_3) sl22 rfl rfl (by first | rfl | omega) (row_getD (d := 0) (by first | omega | simp [-List.getD_eq_getElem?_getD] <;> omega))) ?_
 refine .cn 7 rfl (Y.load sh3 rfl rfl rfl rfl) ?_
 refine .cn 8 rfl (Y.indexF (m := (args.getD i6_3 0).toNat) sl22 rfl rfl (by first | omega | simp [-List.getD_eq_getElem?_getD] <;> omega) (row_getD (d := 0) (by first | omega | simp [-List.getD_eq_getElem?_getD] <;> omega))) ?_
 refine .cn 9 rfl (Y.load sh3 rfl rfl rfl rfl) ?_
 refine AQ.nil ?_
 refine AAny.one 10 rfl (by kernel_rfl) ?_
 refine AOps.buildSlice (([n.widths.getD ((args.getD i6_3 0).toNat) 0] : List Int).map irow) sl22 ze3 rfl rfl rfl rfl rfl (uniform_map (s := 1) (f := irow) (fun _ => rfl)) rfl rfl rfl (by decide) ?_
 refine AOps.nil ⟨rfl, ?_⟩
 refine AAny.one 11 rfl (by kernel_rfl) ?_
 refine AOps.appendE ((a5_3 ++ ([n.widths.getD ((args.getD i6_3 0).toNat) 0] : List Int)).map irow) (a5_3 ++ ([n.widths.getD ((args.getD i6_3 0).toNat) 0] : List Int)).length sl22 ze3 rfl rfl rfl rfl (app_le (by first | omega | simp [-List.getD_eq_getElem?_getD] <;> omega)) (app_map (by first | omega | simp [-List.getD_eq_getElem?_getD] <;> omega)) (app_n (by first | omega | simp [-List.getD_eq_getElem?_getD] <;> omega)) (by first | omega | simp [-List.getD_eq_getElem?_getD] <;> omega) (by first | omega | simp [-List.getD_eq_getElem?_getD] <;> omega) (by decide) (by decide) ?_
 refine AOps.nil ⟨rfl, ?_⟩
 refine AAny.quietN (n := 0) [12] [] 0 rfl (by kernel_rfl) ?_
 refine .cn 12 rfl (Y.assign rfl rfl) ?_
 refine AQ.nil ?_
 refine AAny.done (by kernel_rfl) ?_
 refine AWp.region ?_
 refine .vl (Y.move rfl rfl) ?_
 refine .vl (Y.addI rfl rfl (by first | omega | simp [-List.getD_eq_getElem?_getD] <;> omega)) ?_
 refine .vl (Y.assign rfl rfl) ?_
 refine AOps.nil ?_
 exact ⟨i6_3 + 1, a5_3 ++ ([n.widths.getD ((args.getD i6_3 0).toNat) 0] : List Int), ⟨by first | omega | (simp [-List.getD_eq_getElem?_getD]; done) | (simp [-List.getD_eq_getElem?_getD]; omega), by rw [List.length_append, hal]; rfl, push_succ hal ha rfl⟩, by omega, Le.mk (SubL.cons rfl (SubL.cons rfl (SubL.cons (look_slc rfl (by first | omega | simp [-List.getD_eq_getElem?_getD] <;> omega)) (SubL.cons (look_int rfl (by first | rfl | omega)) (SubL.nil))))) (SubL.cons rfl (SubL.cons rfl (SubL.cons rfl (SubL.nil))))⟩
 refine AWp.exit ?_
 refine AWp.seq ?_
 refine AWp.seq ?_
 have ha0 : 0 < args.length → a5_3.getD 0 0 = n.av (⟨5, op, out, args, num, mem⟩ : Cell) 0 := fun h => ha 0 (by omega)
 have ha1 : 1 < args.length → a5_3.getD 1 0 = n.av (⟨5, op, out, args, num, mem⟩ : Cell) 1 := fun h => ha 1 (by omega)
 have ha2 : 2 < args.length → a5_3.getD 2 0 = n.av (⟨5, op, out, args, num, mem⟩ : Cell) 2 := fun h => ha 2 (by omega)
 refine AWp.region ?_
 refine .vl (Y.fieldAddr fl39_0 rfl rfl) ?_
 refine .vl (Y.load sh3 rfl rfl rfl rfl) ?_
 refine .vl (Y.eql rfl rfl) ?_
 refine AOps.nil ?_
 refine AWp.condF rfl ?_
 refine AWp.skip ?_
 refine AWp.sr ?_
 refine .vl (Y.fieldAddr fl27_1 rfl rfl) ?_
 refine .vl (Y.load sh22 rfl rfl rfl rfl) ?_
 refine .vl (Y.fieldAddr fl39_2 rfl rfl) ?_
 refine .vl (Y.load sh3 rfl rfl rfl rfl) ?_
 refine .vl (Y.indexF (m := (out).toNat) sl22 rfl rfl (by first | omega | simp [-List.getD_eq_getElem?_getD] <;> omega) (row_getD (d := 0) (by first | omega | simp [-List.getD_eq_getElem?_getD] <;> omega))) ?_
 refine .vl (Y.load sh3 rfl rfl rfl rfl) ?_
 refine .vl (Y.assign rfl rfl) ?_
 refine AOps.nil ?_
 refine AWp.seq ?_
 refine AWp.sr ?_
 refine .vl (Y.fieldAddr fl39_0 rfl rfl) ?_
 refine .vl (Y.load sh3 rfl rfl rfl rfl) ?_
 refine AOps.nil ?_
 refine AWp.block ?_
 refine AWp.sr ?_
 refine .vl (Y.eql rfl rfl) ?_
 refine .vl (Y.assign rfl rfl) ?_
 refine AOps.nil ?_
 refine AWp.condF rfl ?_
 refine AWp.seq ?_
 refine AWp.sr ?_
 refine .vl (Y.eql rfl rfl) ?_
 refine .vl (Y.assign rfl rfl) ?_
 refine AOps.nil ?_
 refine AWp.condF rfl ?_
 refine AWp.region ?_
 refine .vl (Y.eql rfl rfl) ?_
 refine .vl (Y.assign rfl rfl) ?_
 refine AOps.nil ?_
 refine AWp.condT rfl ?_
 refine AWp.sr ?_
 refine .vl (Y.fieldAddr fl39_1 rfl rfl) ?_
 refine .vl (Y.load sh3 rfl rfl rfl rfl) ?_
 refine .vl (Y.move rfl rfl) ?_
 refine .vl (Y.move rfl rfl) ?_
 refine AOps.callLP [105] ok122 (refOperands_spec (op := op) (a := a5_3) (w := (n.widths.getD ((out).toNat) 0)) (by omega) (fun _ => by omega) (fun _ => by omega) (by omega)) rfl (.keep rfl rfl (.lend rfl rfl (lend_le (by first | omega | simp [-List.getD_eq_getElem?_getD] <;> omega)) (lend_eq (by first | omega | simp [-List.getD_eq_getElem?_getD] <;> omega)) (.keep rfl rfl .nil))) (lend1 rfl (owns_map irow_frees)) (by decide) rfl trivial ?_
 refine .vl (Y.assign rfl rfl) ?_
 refine AOps.nil ?_
 refine AWp.ret ?_
 exact ⟨_, _, rfl, rfl, (cg1 (fun (z0 : Bool) => X.v (.bool z0)) (dd (by simp only [Fits, OpFits, Cmp, fit_iff, how, Int.reduceEq, Bool.not_eq_true, false_and, true_and, and_true, and_false, or_false, false_or, ne_eq] <;> (first | omega | grind)) : (decide (OpFits op (a5_3.getD 0 0) (a5_3.getD 1 0) (a5_3.getD 2 0) (n.widths.getD ((out).toNat) 0))) = decide (Fits n (⟨5, op, out, args, num, mem⟩ : Cell))) : X.v (.bool (decide (OpFits op (a5_3.getD 0 0) (a5_3.getD 1 0) (a5_3.getD 2 0) (n.widths.getD ((out).toNat) 0)))) = X.v (.bool (decide (Fits n (⟨5, op, out, args, num, mem⟩ : Cell))))), rfl⟩

set_option maxRecDepth 4000 in
set_option maxHeartbeats 1000000 in
theorem refFits_k6 {n : Netlist} {op out mem : Int} {args : List Int} {num : Nat} (hs : n.Small) (hc : args.length ≤ 17592186043904) (hn : num < 18446744073709551616) (hsh : Shaped n (⟨6, op, out, args, num, mem⟩ : Cell)) (hw : Wired n (⟨6, op, out, args, num, mem⟩ : Cell)) : ACalls Try.prog 89 [.agg (Netlist.row n), .agg [.v (.int .i64 6), .v (.int .i64 op), .v (.int .i64 out), .fz 1 (args.map irow), .v (.int .u64 ((num : Nat) : Int)), .v (.int .i64 mem)]] [] [] (fun r o => r = .v (.bool (decide (Fits n (⟨6, op, out, args, num, mem⟩ : Cell)))) ∧ o = []) := by
 refine ACalls.of Try.func89 rfl rfl rfl (n := 155) (by decide) (Nat.le_of_ble_eq_true rfl) ?_
 have hs4 := hs.ins; have hs5 := hs.mems; have hs6 := hs.streams; have hs1 := hs.widths
 have hk := hsh.k6 rfl; simp only at hk
 have ho : 0 ≤ out ∧ out < n.widths.length := by have := hw.out; simp only at this; omega
 have how : n.ow (⟨6, op, out, args, num, mem⟩ : Cell) = n.widths.getD out.toNat 0 := ow_eq ho.1
 refine AWp.sr ?_
 refine AOps.box 102 rfl rfl rfl rfl rfl (by decide) ?_
 refine AOps.box 103 rfl rfl rfl rfl rfl (by decide) ?_
 refine .vl (Y.assign rfl rfl) ?_
 refine AOps.nil ?_
 refine AWp.sr ?_
 refine .vl (Y.assign rfl rfl) ?_
 refine AOps.sh (Sh.nil (d := 5) 105 1 rfl (by decide)) ?_
 refine AOps.nil ?_
 refine AWp.seq ?_
 refine AWp.sr ?_
 refine .vl (Y.assign rfl rfl) ?_
 refine AOps.nil ?_
 refine AWp.block ?_
 refine AWp.loop2 (fun (i6_3 : Nat) (a5_3 : List Int) => ⟨[(2, .ptr 102 0 0 0), (3, .ptr 103 0 0 0), (5, .slc 105 1 0 a5_3.length), (6, .v (.int .i64 (i6_3 : Int)))], [(102, .cells (Netlist.row n)), (103, .cells [.v (.int .i64 6), .v (.int .i64 op), .v (.int .i64 out), .fz 1 (args.map irow), .v (.int .u64 ((num : Nat) : Int)), .v (.int .i64 mem)]), (105, .rows 1 (a5_3.map irow))]⟩) (fun (i6_3 : Nat) (a5_3 : List Int) => ((i6_3 : Int) ≤ ((args.length : Nat) : Int)) ∧ (a5_3.length = i6_3) ∧ (∀ j, j < i6_3 → a5_3.getD j 0 = n.av (⟨6, op, out, args, num, mem⟩ : Cell) j)) (fun (i6_3 : Nat) (a5_3 : List Int) => (((args.length : Nat) : Int) - (i6_3 : Int)).toNat) 0 ([] : List Int) (⟨by first | omega | (simp [-List.getD_eq_getElem?_getD]; done) | (simp [-List.getD_eq_getElem?_getD]; omega), rfl, fun j hj => by omega⟩) (Le.mk (SubL.cons rfl (SubL.cons rfl (SubL.cons (look_slc rfl (by first | omega | simp [-List.getD_eq_getElem?_getD] <;> omega)) (SubL.cons (look_int rfl (by first | rfl | omega)) (SubL.nil))))) (SubL.cons rfl (SubL.cons rfl (SubL.cons rfl (SubL.nil))))) (fun i6_3 a5_3 hI3 => ?_)
 obtain ⟨hb3, hal, ha⟩ := hI3
 refine AWp.seq ?_
 refine AWp.sr ?_
 refine .vl (Y.move rfl rfl) ?_
 refine .vl (Y.fieldAddr fl39_3 rfl rfl) ?_
 refine .vl (Y.load sh22 rfl rfl rfl rfl) ?_
 refine .vl (Y.len (n := args.length) sl22 rfl (congrArg some (List.length_map ..))) ?_
 refine .vl (Y.lss rfl rfl) ?_
 refine AOps.nil ?_
 refine AWp.condD rfl (fun c13 => ?_) (fun c13 => ?_)
 refine AWp.skip ?_
 refine AWp.seq ?_
 refine AWp.block ?_
 have hwa := hw.arg (k := i6_3) (by show _ < args.length; omega)
 simp only at hwa
 refine AWp.regionAny rfl ?_
 refine AAny.blind 0 rfl (by kernel_rfl) (Blind.move rfl rfl) (by decide) ?_
 refine AAny.quietN (n := 3) [1, 2, 3, 4, 5, 6, 7, 8, 9] [10, 11, 12] 10 rfl (by kernel_rfl) ?_
 refine .cn 1 rfl (Y.fieldAddr fl27_1 rfl rfl) ?_
 refine .cn 2 rfl (Y.load sh22 rfl rfl rfl rfl) ?_
 refine .cn 3 rfl (Y.fieldAddr fl39_3 rfl rfl) ?_
 refine .cn 4 rfl (Y.load sh22 rfl rfl rfl rfl) ?_
 refine .cn 5 rfl (Y.move rfl rfl) ?_
 refine .cn 6 rfl (Y.indexF (m := i6_3) sl22 rfl rfl (by first | rfl | omega) (row_getD (d := 0) (by first | omega | simp [-List.getD_eq_getElem?_getD] <;> omega))) ?_
 refine .cn 7 rfl (Y.load sh3 rfl rfl rfl rfl) ?_
 refine .cn 8 rfl (Y.indexF (m := (args.getD i6_3 0).toNat) sl22 rfl rfl (by first | omega | simp [-List.getD_eq_getElem?_getD] <;> omega) (row_getD (d := 0) (by first | omega | simp [-List.getD_eq_getElem?_getD] <;> omega))) ?_
 refine .cn 9 rfl (Y.load sh3 rfl rfl rfl rfl) ?_
 refine AQ.nil ?_
 refine AAny.one 10 rfl (by kernel_rfl) ?_
 refine AOps.buildSlice (([n.widths.getD ((args.getD i6_3 0).toNat) 0] : List Int).map irow) sl22 ze3 rfl rfl rfl rfl rfl (uniform_map (s := 1) (f := irow) (fun _ => rfl)) rfl rfl rfl (by decide) ?_
 refine AOps.nil ⟨rfl, ?_⟩
 refine AAny.one 11 rfl (by kernel_rfl) ?_
 refine AOps.appendE ((a5_3 ++ ([n.widths.getD ((args.getD i6_3 0).toNat) 0] : List Int)).map irow) (a5_3 ++ ([n.widths.getD ((args.getD i6_3 0).toNat) 0] : List Int)).length sl22 ze3 rfl rfl rfl rfl (app_le (by first | omega | simp [-List.getD_eq_getElem?_getD] <;> omega)) (app_map (by first | omega | simp [-List.getD_eq_getElem?_getD] <;> omega)) (app_n (by first | omega | simp [-List.getD_eq_getElem?_getD] <;> omega)) (by first | omega | simp [-List.getD_eq_getElem?_getD] <;> omega) (by first | omega | simp [-List.getD_eq_getElem?_getD] <;> omega) (by decide) (by decide) ?_
 refine AOps.nil ⟨rfl, ?_⟩
 refine AAny.quietN (n := 0) [12] [] 0 rfl (by kernel_rfl) ?_
 refine .cn 12 rfl (Y.assign rfl rfl) ?_
 refine AQ.nil ?_
 refine AAny.done (by kernel_rfl) ?_
 refine AWp.region ?_
 refine .vl (Y.move rfl rfl) ?_
 refine .vl (Y.addI rfl rfl (by first | omega | simp [-List.getD_eq_getElem?_getD] <;> omega)) ?_
 refine .vl (Y.assign rfl rfl) ?_
 refine AOps.nil ?_
 exact ⟨i6_3 + 1, a5_3 ++ ([n.widths.getD ((args.getD i6_3 0).toNat) 0] : List Int), ⟨by first | omega | (simp [-List.getD_eq_getElem?_getD]; done) | (simp [-List.getD_eq_getElem?_getD]; omega), by rw [List.length_append, hal]; rfl, push_succ hal ha rfl⟩, by omega, Le.mk (SubL.cons rfl (SubL.cons rfl (SubL.cons (look_slc rfl (by first | omega | simp [-List.getD_eq_getElem?_getD] <;> omega)) (SubL.cons (look_int rfl (by first | rfl | omega)) (SubL.nil))))) (SubL.cons rfl (SubL.cons rfl (SubL.cons rfl (SubL.nil))))⟩
 refine AWp.exit ?_
 refine AWp.seq ?_
 refine AWp.seq ?_
 have ha0 : 0 < args.length → a5_3.getD 0 0 = n.av (⟨6, op, out, args, num, mem⟩ : Cell) 0 := fun h => ha 0 (by omega)
 have ha1 : 1 < args.length → a5_3.getD 1 0 = n.av (⟨6, op, out, args, num, mem⟩ : Cell) 1 := fun h => ha 1 (by omega)
 have ha2 : 2 < args.length → a5_3.getD 2 0 = n.av (⟨6, op, out, args, num, mem⟩ : Cell) 2 := fun h => ha 2 (by omega)
 refine AWp.region ?_
 refine .vl (Y.fieldAddr fl39_0 rfl rfl) ?_
 refine .vl (Y.load sh3 rfl rfl rfl rfl) ?_
 refine .vl (Y.eql rfl rfl) ?_
 refine AOps.nil ?_
 refine AWp.condF rfl ?_
 refine AWp.skip ?_
 refine AWp.sr ?_
 refine .vl (Y.fieldAddr fl27_1 rfl rfl) ?_
 refine .vl (Y.load sh22 rfl rfl rfl rfl) ?_
 refine .vl (Y.fieldAddr fl39_2 rfl rfl) ?_
 refine .vl (Y.load sh3 rfl rfl rfl rfl) ?_
 refine .vl (Y.indexF (m := (out).toNat) sl22 rfl rfl (by first | omega | simp [-List.getD_eq_getElem?_getD] <;> omega) (row_getD (d := 0) (by first | omega | simp [-List.getD_eq_getElem?_getD] <;> omega))) ?_
 refine .vl (Y.load sh3 rfl rfl rfl rfl) ?_
 refine .vl (Y.assign rfl rfl) ?_
 refine AOps.nil ?_
 refine AWp.seq ?_
 refine AWp.sr ?_
 refine .vl (Y.fieldAddr fl39_0 rfl rfl) ?_
 refine .vl (Y.load sh3 rfl rfl rfl rfl) ?_
 refine AOps.nil ?_
 refine AWp.block ?_
 refine AWp.sr ?_
 refine .vl (Y.eql rfl rfl) ?_
 refine .vl (Y.assign rfl rfl) ?_
 refine AOps.nil ?_
 refine AWp.condF rfl ?_
 refine AWp.seq ?_
 refine AWp.sr ?_
 refine .vl (Y.eql rfl rfl) ?_
 refine .vl (Y.assign rfl rfl) ?_
 refine AOps.nil ?_
 refine AWp.condF rfl ?_
 refine AWp.region ?_
 refine .vl (Y.eql rfl rfl) ?_
 refine .vl (Y.assign rfl rfl) ?_
 refine AOps.nil ?_
 refine AWp.condF rfl ?_
 refine AWp.sr ?_
 refine .vl (Y.eql rfl rfl) ?_
 refine .vl (Y.assign rfl rfl) ?_
 refine AOps.nil ?_
 refine AWp.condF rfl ?_
 refine AWp.sr ?_
 refine .vl (Y.eql rfl rfl) ?_
 refine .vl (Y.assign rfl rfl) ?_
 refine AOps.nil ?_
 refine AWp.condF rfl ?_
 refine AWp.sr ?_
 refine .vl (Y.eql rfl rfl) ?_
 refine .vl (Y.assign rfl rfl) ?_
 refine AOps.nil ?_
 refine AWp.condT rfl ?_
 refine AWp.sr ?_
 refine .vl (Y.move rfl rfl) ?_
 refine .vl (Y.indexO (m := 0) sl22 rfl rfl (by first | rfl | omega) (by first | omega | simp [-List.getD_eq_getElem?_getD] <;> omega)) ?_
 refine .vl (Y.load sh3 rfl (row_getD0 (d := 0) (by first | omega | simp [-List.getD_eq_getElem?_getD] <;> omega)) rfl rfl) ?_
 refine .vl (Y.eql rfl rfl) ?_
 refine .vl (Y.move rfl rfl) ?_
 refine AOps.splitD (d := 119) rfl (fun c119 => ?_) (fun c119 => ?_)
 refine .gv 119 rfl rfl (Y.move rfl rfl) ?_
 refine .gv 119 rfl rfl (Y.fieldAddr fl27_4 rfl rfl) ?_
 refine .gv 119 rfl rfl (Y.load sh24 rfl rfl rfl rfl) ?_
 refine .gv 119 rfl rfl (Y.fieldAddr fl39_5 rfl rfl) ?_
 refine .gv 119 rfl rfl (Y.load sh3 rfl rfl rfl rfl) ?_
 refine .gv 119 rfl rfl (Y.indexF (m := (mem).toNat) sl24 rfl rfl (by first | omega | simp [-List.getD_eq_getElem?_getD] <;> omega) (row_getD (d := default) (by first | omega | simp [-List.getD_eq_getElem?_getD] <;> omega))) ?_
 refine .gv 119 rfl rfl (Y.fieldAddr fl48_1 rfl rfl) ?_
 refine .gv 119 rfl rfl (Y.load sh3 rfl rfl rfl rfl) ?_
 refine .gv 119 rfl rfl (Y.eql rfl rfl) ?_
 refine .vl (Y.pick rfl rfl rfl) ?_
 refine .vl (Y.assign rfl rfl) ?_
 refine AOps.nil ?_
 refine AWp.ret ?_
 exact ⟨_, _, rfl, rfl, (cg1 (fun (z0 : Bool) => X.v (.bool z0)) (dd (by simp only [Fits, OpFits, Cmp, fit_iff, how, Int.reduceEq, Bool.not_eq_true, false_and, true_and, and_true, and_false, or_false, false_or, ne_eq] <;> (first | omega | grind)) : (decide ((n.widths.getD ((out).toNat) 0) = ((n.mems.getD ((mem).toNat) default).width))) = decide (Fits n (⟨6, op, out, args, num, mem⟩ : Cell))) : X.v (.bool (decide ((n.widths.getD ((out).toNat) 0) = ((n.mems.getD ((mem).toNat) default).width)))) = X.v (.bool (decide (Fits n (⟨6, op, out, args, num, mem⟩ : Cell))))), rfl⟩
 refine .gs 119 rfl rfl rfl ?_
 refine .gs 119 rfl rfl rfl ?_
 refine .gs 119 rfl rfl rfl ?_
 refine .gs 119 rfl rfl rfl ?_
 refine .gs 119 rfl rfl rfl ?_
 refine .gs 119 rfl rfl rfl ?_
 refine .gs 119 rfl rfl rfl ?_
 refine .gs 119 rfl rfl rfl ?_
 refine .gs 119 rfl rfl rfl ?_
 refine .vl (Y.pick rfl rfl rfl) ?_
 refine .vl (Y.assign rfl rfl) ?_
 refine AOps.nil ?_
 refine AWp.ret ?_
 exact ⟨_, _, rfl, rfl, (cg1 (fun (z0 : Bool) => X.v (.bool z0)) (df (by simp only [Fits, OpFits, Cmp, fit_iff, how, Int.reduceEq, Bool.not_eq_true, false_and, true_and, and_true, and_false, or_false, false_or, ne_eq] <;> (first | omega | grind)) : false = decide (Fits n (⟨6, op, out, args, num, mem⟩ : Cell))) : X.v (.bool false) = X.v (.bool (decide (Fits n (⟨6, op, out, args, num, mem⟩ : Cell))))), rfl⟩

set_option maxRecDepth 4000 in
set_option maxHeartbeats 1000000 in
theorem refFits_k7 {n : Netlist} {op out mem : Int} {args : List Int} {num : Nat} (hs : n.Small) (hc : args.length ≤ 17592186043904) (hn : num < 18446744073709551616) (hsh : Shaped n (⟨7, op, out, args, num, mem⟩ : Cell)) (hw : Wired n (⟨7, op, out, args, num, mem⟩ : Cell)) : ACalls Try.prog 89 [.agg (Netlist.row n), .agg [.v (.int .i64 7), .v (.int .i64 op), .v (.int .i64 out), .fz 1 (args.map irow), .v (.int .u64 ((num : Nat) : Int)), .v (.int .i64 mem)]] [] [] (fun r o => r = .v (.bool (decide (Fits n (⟨7, op, out, args, num, mem⟩ : Cell)))) ∧ o = []) := by
 refine ACalls.of Try.func89 rfl rfl rfl (n := 155) (by decide) (Nat.le_of_ble_eq_true rfl) ?_
 have hs4 := hs.ins; have hs5 := hs.mems; have hs6 := hs.streams; have hs1 := hs.widths
 have hk := hsh.k7 rfl; simp only at hk
 refine AWp.sr ?_
 refine AOps.box 102 rfl rfl rfl rfl rfl (by decide) ?_
 refine AOps.box 103 rfl rfl rfl rfl rfl (by decide) ?_
 refine .vl (Y.assign rfl rfl) ?_
 refine AOps.nil ?_
 refine AWp.sr ?_
 refine .vl (Y.assign rfl rfl) ?_
 refine AOps.sh (Sh.nil (d := 5) 105 1 rfl (by decide)) ?_
 refine AOps.nil ?_
 refine AWp.seq ?_
 refine AWp.sr ?_
 refine .vl (Y.assign rfl rfl) ?_
 refine AOps.nil ?_
 refine AWp.block ?_
 refine AWp.loop2 (fun (i6_3 : Nat) (a5_3 : List Int) => ⟨[(2, .ptr 102 0 0 0), (3, .ptr 103 0 0 0), (5, .slc 105 1 0 a5_3.length), (6, .v (.int .i64 (i6_3 : Int)))], [(102, .cells (Netlist.row n)), (103, .cells [.v (.int .i64 7), .v (.int .i64 op), .v (.int .i64 out), .fz 1 (args.map irow), .v (.int .u64 ((num : Nat) : Int)), .v (.int .i64 mem)]), (105, .rows 1 (a5_3.map irow))]⟩) (fun (i6_3 : Nat) (a5_3 : List Int) => ((i6_3 : Int) ≤ ((args.length : Nat) : Int)) ∧ (a5_3.length = i6_3) ∧ (∀ j, j < i6_3 → a5_3.getD j 0 = n.av (⟨7, op, out, args, num, mem⟩ : Cell) j)) (fun (i6_3 : Nat) (a5_3 : List Int) => (((args.length : Nat) : Int) - (i6_3 : Int)).toNat) 0 ([] : List Int) (⟨by first | omega | (simp [-List.getD_eq_getElem?_getD]; done) | (simp [-List.getD_eq_getElem?_getD]; omega), rfl, fun j hj => by omega⟩) (Le.mk (SubL.cons rfl (SubL.cons rfl (SubL.cons (look_slc rfl (by first | omega | simp [-List.getD_eq_getElem?_getD] <;> omega)) (SubL.cons (look_int rfl (by first | rfl | omega)) (SubL.nil))))) (SubL.cons rfl (SubL.cons rfl (SubL.cons rfl (SubL.nil))))) (fun i6_3 a5_3 hI3 => ?_)
 obtain ⟨hb3, hal, ha⟩ := hI3
 refine AWp.seq ?_
 refine AWp.sr ?_
 refine .vl (Y.move rfl rfl) ?_
 refine .vl (Y.fieldAddr fl39_3 rfl rfl) ?_
 refine .vl (Y.load sh22 rfl rfl rfl rfl) ?_
 refine .vl (Y.len (n := args.length) sl22 rfl (congrArg some (List.length_map ..))) ?_
 refine .vl (Y.lss rfl rfl) ?_
 refine AOps.nil ?_
 refine AWp.condD rfl (fun c13 => ?_) (fun c13 => ?_)
 refine AWp.skip ?_
 refine AWp.seq ?_
 refine AWp.block ?_
 have hwa := hw.arg (k := i6_3) (by show _ < args.length; omega)
 simp only at hwa
 refine AWp.regionAny rfl ?_
 refine AAny.blind 0 rfl (by kernel_rfl) (Blind.move rfl rfl) (by decide) ?_
 refine AAny.quietN (n := 3) [1, 2, 3, 4, 5, 6, 7, 8, 9] [10, 11, 12] 10 rfl (by kernel_rfl) ?_
 refine .cn 1 rfl (Y.fieldAddr fl27_1 rfl rfl) ?_
 refine .cn 2 rfl (Y.load sh22 rfl rfl rfl rfl) ?_
 refine .cn 3 rfl (Y.fieldAddr fl39_3 rfl rfl) ?_
 refine .cn 4 rfl (Y.load sh22 rfl rfl rfl rfl) ?_
 refine .cn 5 rfl (Y.move rfl rfl) ?_
 refine .cn 6 rfl (Y.indexF (m := i6_3) sl22 rfl rfl (by first | rfl | omega) (row_getD (d := 0) (by first | omega | simp [-List.getD_eq_getElem?_getD] <;> omega))) ?_
 refine .cn 7 rfl (Y.load sh3 rfl rfl rfl rfl) ?_
 refine .cn 8 rfl (Y.indexF (m := (args.getD i6_3 0).toNat) sl22 rfl rfl (by first | omega | simp [-List.getD_eq_getElem?_getD] <;> omega) (row_getD (d := 0) (by first | omega | simp [-List.getD_eq_getElem?_getD] <;> omega))) ?_
 refine .cn 9 rfl (Y.load sh3 rfl rfl rfl rfl) ?_
 refine AQ.nil ?_
 refine AAny.one 10 rfl (by kernel_rfl) ?_
 refine AOps.buildSlice (([n.widths.getD ((args.getD i6_3 0).toNat) 0] : List Int).map irow) sl22 ze3 rfl rfl rfl rfl rfl (uniform_map (s := 1) (f := irow) (fun _ => rfl)) rfl rfl rfl (by decide) ?_
 refine AOps.nil ⟨rfl, ?_⟩
 refine AAny.one 11 rfl (by kernel_rfl) ?_
 refine AOps.appendE ((a5_3 ++ ([n.widths.getD ((args.getD i6_3 0).toNat) 0] : List Int)).map irow) (a5_3 ++ ([n.widths.getD ((args.getD i6_3 0).toNat) 0] : List Int)).length sl22 ze3 rfl rfl rfl rfl (app_le (by first | omega | simp [-List.getD_eq_getElem?_getD] <;> omega)) (app_map (by first | omega | simp [-List.getD_eq_getElem?_getD] <;> omega)) (app_n (by first | omega | simp [-List.getD_eq_getElem?_getD] <;> omega)) (by first | omega | simp [-List.getD_eq_getElem?_getD] <;> omega) (by first | omega | simp [-List.getD_eq_getElem?_getD] <;> omega) (by decide) (by decide) ?_
 refine AOps.nil ⟨rfl, ?_⟩
 refine AAny.quietN (n := 0) [12] [] 0 rfl (by kernel_rfl) ?_
 refine .cn 12 rfl (Y.assign rfl rfl) ?_
 refine AQ.nil ?_
 refine AAny.done (by kernel_rfl) ?_
 refine AWp.region ?_
 refine .vl (Y.move rfl rfl) ?_
 refine .vl (Y.addI rfl rfl (by first | omega | simp [-List.getD_eq_getElem?_getD] <;> omega)) ?_
 refine .vl (Y.assign rfl rfl) ?_
 refine AOps.nil ?_
 exact ⟨i6_3 + 1, a5_3 ++ ([n.widths.getD ((args.getD i6_3 0).toNat) 0] : List Int), ⟨by first | omega | (simp [-List.getD_eq_getElem?_getD]; done) | (simp [-List.getD_eq_getElem?_getD]; omega), by rw [List.length_append, hal]; rfl, push_succ hal ha rfl⟩, by omega, Le.mk (SubL.cons rfl (SubL.cons rfl (SubL.cons (look_slc rfl (by first | omega | simp [-List.getD_eq_getElem?_getD] <;> omega)) (SubL.cons (look_int rfl (by first | rfl | omega)) (SubL.nil))))) (SubL.cons rfl (SubL.cons rfl (SubL.cons rfl (SubL.nil))))⟩
 refine AWp.exit ?_
 refine AWp.seq ?_
 refine AWp.seq ?_
 have ha0 : 0 < args.length → a5_3.getD 0 0 = n.av (⟨7, op, out, args, num, mem⟩ : Cell) 0 := fun h => ha 0 (by omega)
 have ha1 : 1 < args.length → a5_3.getD 1 0 = n.av (⟨7, op, out, args, num, mem⟩ : Cell) 1 := fun h => ha 1 (by omega)
 have ha2 : 2 < args.length → a5_3.getD 2 0 = n.av (⟨7, op, out, args, num, mem⟩ : Cell) 2 := fun h => ha 2 (by omega)
 refine AWp.region ?_
 refine .vl (Y.fieldAddr fl39_0 rfl rfl) ?_
 refine .vl (Y.load sh3 rfl rfl rfl rfl) ?_
 refine .vl (Y.eql rfl rfl) ?_
 refine AOps.nil ?_
 refine AWp.condT rfl ?_
 refine AWp.seq ?_
 refine AWp.regionS rfl (by kernel_rfl) ?_
 refine AHead.val (Y.move rfl rfl) (by decide) ?_
 refine AHead.val (Y.indexO (m := 0) sl22 rfl rfl (by first | rfl | omega) (by first | omega | simp [-List.getD_eq_getElem?_getD] <;> omega)) (by decide) ?_
 refine AHead.val (Y.load sh3 rfl (row_getD0 (d := 0) (by first | omega | simp [-List.getD_eq_getElem?_getD] <;> omega)) rfl rfl) (by decide) ?_
 refine AHead.val (Y.eql rfl rfl) (by decide) ?_
 refine AHead.val (Y.move rfl rfl) (by decide) ?_
 refine AHead.splitD (d := 35) rfl (fun c35 => ?_) (fun c35 => ?_)
 refine AHead.guardRun (d := 35) rfl (by decide) rfl ?_
 refine AHead.val (Y.move rfl rfl) (by decide) ?_
 refine AHead.guardRun (d := 35) rfl (by decide) rfl ?_
 refine AHead.val (Y.indexO (m := 2) sl22 rfl rfl (by first | rfl | omega) (by first | omega | simp [-List.getD_eq_getElem?_getD] <;> omega)) (by decide) ?_
 refine AHead.guardRun (d := 35) rfl (by decide) rfl ?_
 refine AHead.val (Y.load sh3 rfl (row_getD0 (d := 0) (by first | omega | simp [-List.getD_eq_getElem?_getD] <;> omega)) rfl rfl) (by decide) ?_
 refine AHead.guardRun (d := 35) rfl (by decide) rfl ?_
 refine AHead.val (Y.fieldAddr fl27_4 rfl rfl) (by decide) ?_
 refine AHead.guardRun (d := 35) rfl (by decide) rfl ?_
 refine AHead.val (Y.load sh24 rfl rfl rfl rfl) (by decide) ?_
 refine AHead.guardRun (d := 35) rfl (by decide) rfl ?_
 refine AHead.val (Y.fieldAddr fl39_5 rfl rfl) (by decide) ?_
 refine AHead.guardRun (d := 35) rfl (by decide) rfl ?_
 refine AHead.val (Y.load sh3 rfl rfl rfl rfl) (by decide) ?_
 refine AHead.guardRun (d := 35) rfl (by decide) rfl ?_
 refine AHead.val (Y.indexF (m := (mem).toNat) sl24 rfl rfl (by first | omega | simp [-List.getD_eq_getElem?_getD] <;> omega) (row_getD (d := default) (by first | omega | simp [-List.getD_eq_getElem?_getD] <;> omega))) (by decide) ?_
 refine AHead.guardRun (d := 35) rfl (by decide) rfl ?_
 refine AHead.val (Y.fieldAddr fl48_1 rfl rfl) (by decide) ?_
 refine AHead.guardRun (d := 35) rfl (by decide) rfl ?_
 refine AHead.val (Y.load sh3 rfl rfl rfl rfl) (by decide) ?_
 refine AHead.guardRun (d := 35) rfl (by decide) rfl ?_
 refine AHead.val (Y.eql rfl rfl) (by decide) ?_
 refine AHead.val (Y.pick rfl rfl rfl) (by decide) ?_
 refine AHead.val (Y.assign rfl rfl) (by decide) ?_
 refine AHead.nil ?_
 refine AWp.ret ?_
 exact ⟨_, _, rfl, rfl, (cg1 (fun (z0 : Bool) => X.v (.bool z0)) (dd (by simp only [Fits, OpFits, Cmp, fit_iff, Int.reduceEq, Bool.not_eq_true, false_and, true_and, and_true, and_false, or_false, false_or, ne_eq] <;> (first | omega | grind)) : (decide ((a5_3.getD 2 0) = ((n.mems.getD ((mem).toNat) default).width))) = decide (Fits n (⟨7, op, out, args, num, mem⟩ : Cell))) : X.v (.bool (decide ((a5_3.getD 2 0) = ((n.mems.getD ((mem).toNat) default).width)))) = X.v (.bool (decide (Fits n (⟨7, op, out, args, num, mem⟩ : Cell))))), rfl⟩
 refine AHead.guardSkipV (d := 35) rfl (by decide) (by decide) rfl rfl ?_
 refine AHead.guardSkipV (d := 35) rfl (by decide) (by decide) rfl rfl ?_
 refine AHead.guardSkipV (d := 35) rfl (by decide) (by decide) rfl rfl ?_
 refine AHead.guardSkipV (d := 35) rfl (by decide) (by decide) rfl rfl ?_
 refine AHead.guardSkipV (d := 35) rfl (by decide) (by decide) rfl rfl ?_
 refine AHead.guardSkipV (d := 35) rfl (by decide) (by decide) rfl rfl ?_
 refine AHead.guardSkipV (d := 35) rfl (by decide) (by decide) rfl rfl ?_
 refine AHead.guardSkipV (d := 35) rfl (by decide) (by decide) rfl rfl ?_
 refine AHead.guardSkipV (d := 35) rfl (by decide) (by decide) rfl rfl ?_
 refine AHead.guardSkipV (d := 35) rfl (by decide) (by decide) rfl rfl ?_
 refine AHead.guardSkipV (d := 35) rfl (by decide) (by decide) rfl rfl ?_
 refine AHead.val (Y.pick rfl rfl rfl) (by decide) ?_
 refine AHead.val (Y.assign rfl rfl) (by decide) ?_
 refine AHead.nil ?_
 refine AWp.ret ?_
 exact ⟨_, _, rfl, rfl, (cg1 (fun (z0 : Bool) => X.v (.bool z0)) (df (by simp only [Fits, OpFits, Cmp, fit_iff, Int.reduceEq, Bool.not_eq_true, false_and, true_and, and_true, and_false, or_false, false_or, ne_eq] <;> (first | omega | grind)) : false = decide (Fits n (⟨7, op, out, args, num, mem⟩ : Cell))) : X.v (.bool false) = X.v (.bool (decide (Fits n (⟨7, op, out, args, num, mem⟩ : Cell))))), rfl⟩

set_option maxRecDepth 4000 in
set_option maxHeartbeats 1000000 in
theorem refFits_k8 {n : Netlist} {op out mem : Int} {args : List Int} {num : Nat} (hs : n.Small) (hc : args.length ≤ 17592186043904) (hn : num < 18446744073709551616) (hsh : Shaped n (⟨8, op, out, args, num, mem⟩ : Cell)) (hw : Wired n (⟨8, op, out, args, num, mem⟩ : Cell)) : ACalls Try.prog 89 [.agg (Netlist.row n), .agg [.v (.int .i64 8), .v (.int .i64 op), .v (.int .i64 out), .fz 1 (args.map irow), .v (.int .u64 ((num : Nat) : Int)), .v (.int .i64 mem)]] [] [] (fun r o => r = .v (.bool (decide (Fits n (⟨8, op, out, args, num, mem⟩ : Cell)))) ∧ o = []) := by
 refine ACalls.of Try.func89 rfl rfl rfl (n := 155) (by decide) (Nat.le_of_ble_eq_true rfl) ?_
 have hs4 := hs.ins; have hs5 := hs.mems; have hs6 := hs.streams; have hs1 := hs.widths
 have hk := hsh.k8 rfl; simp only at hk
 have ho : 0 ≤ out ∧ out < n.widths.length := by have := hw.out; simp only at this; omega
 have how : n.ow (⟨8, op, out, args, num, mem⟩ : Cell) = n.widths.getD out.toNat 0 := ow_eq ho.1
 refine AWp.sr ?_
 refine AOps.box 102 rfl rfl rfl rfl rfl (by decide) ?_
 refine AOps.box 103 rfl rfl rfl rfl rfl (by decide) ?_
 refine .vl (Y.assign rfl rfl) ?_
 refine AOps.nil ?_
 refine AWp.sr ?_
 refine .vl (Y.assign rfl rfl) ?_
 refine AOps.sh (Sh.nil (d := 5) 105 1 rfl (by decide)) ?_
 refine AOps.nil ?_
 refine AWp.seq ?_
 refine AWp.sr ?_
 refine .vl (Y.assign rfl rfl) ?_
 refine AOps.nil ?_
 refine AWp.block ?_
 refine AWp.loop2 (fun (i6_3 : Nat) (a5_3 : List Int) => ⟨[(2, .ptr 102 0 0 0), (3, .ptr 103 0 0 0), (5, .slc 105 1 0 a5_3.length), (6, .v (.int .i64 (i6_3 : Int)))], [(102, .cells (Netlist.row n)), (103, .cells [.v (.int .i64 8), .v (.int .i64 op), .v (.int .i64 out), .fz 1 (args.map irow), .v (.int .u64 ((num : Nat) : Int)), .v (.int .i64 mem)]), (105, .rows 1 (a5_3.map irow))]⟩) (fun (i6_3 : Nat) (a5_3 : List Int) => ((i6_3 : Int) ≤ ((args.length : Nat) : Int)) ∧ (a5_3.length = i6_3) ∧ (∀ j, j < i6_3 → a5_3.getD j 0 = n.av (⟨8, op, out, args, num, mem⟩ : Cell) j)) (fun (i6_3 : Nat) (a5_3 : List Int) => (((args.length : Nat) : Int) - (i6_3 : Int)).toNat) 0 ([] : List Int) (⟨by first | omega | (simp [-List.getD_eq_getElem?_getD]; done) | (simp [-List.getD_eq_getElem?_getD]; omega), rfl, fun j hj => by omega⟩) (Le.mk (SubL.cons rfl (SubL.cons rfl (SubL.cons (look_slc rfl (by first | omega | simp [-List.getD_eq_getElem?_getD] <;> omega)) (SubL.cons (look_int rfl (by first | rfl | omega)) (SubL.nil))))) (SubL.cons rfl (SubL.cons rfl (SubL.cons rfl (SubL.nil))))) (fun i6_3 a5_3 hI3 => ?_)
 obtain ⟨hb3, hal, ha⟩ := hI3
 refine AWp.seq ?_
 refine AWp.sr ?_
 refine .vl (Y.move rfl rfl) ?_
 refine .vl (Y.fieldAddr fl39_3 rfl rfl) ?_
 refine .vl (Y.load sh22 rfl rfl rfl rfl) ?_
 refine .vl (Y.len (n := args.length) sl22 rfl (congrArg some (List.length_map ..))) ?_
 refine .vl (Y.lss rfl rfl) ?_
 refine AOps.nil ?_
 refine AWp.condD rfl (fun c13 => ?_) (fun c13 => ?_)
 refine AWp.skip ?_
 refine AWp.seq ?_
 refine AWp.block ?_
 have hwa := hw.arg (k := i6_3) (by show _ < args.length; omega)
 simp only at hwa
 refine AWp.regionAny rfl ?_
 refine AAny.blind 0 rfl (by kernel_rfl) (Blind.move rfl rfl) (by decide) ?_
 refine AAny.quietN (n := 3) [1, 2, 3, 4, 5, 6, 7, 8, 9] [10, 11, 12] 10 rfl (by kernel_rfl) ?_
 refine .cn 1 rfl (Y.fieldAddr fl27_1 rfl rfl) ?_
 refine .cn 2 rfl (Y.load sh22 rfl rfl rfl rfl) ?_
 refine .cn 3 rfl (Y.fieldAddr fl39_3 rfl rfl) ?_
 refine .cn 4 rfl (Y.load sh22 rfl rfl rfl rfl) ?_
 refine .cn 5 rfl (Y.move rfl rfl) ?_
 refine .cn 6 rfl (Y.indexF (m := i6_3) sl22 rfl rfl (by first | rfl | omega) (row_getD (d := 0) (by first | omega | simp [-List.getD_eq_getElem?_getD] <;> omega))) ?_
 refine .cn 7 rfl (Y.load sh3 rfl rfl rfl rfl) ?_
 refine .cn 8 rfl (Y.indexF (m := (args.getD i6_3 0).toNat) sl22 rfl rfl (by first | omega | simp [-List.getD_eq_getElem?_getD] <;> omega) (row_getD (d := 0) (by first | omega | simp [-List.getD_eq_getElem?_getD] <;> omega))) ?_
 refine .cn 9 rfl (Y.load sh3 rfl rfl rfl rfl) ?_
 refine AQ.nil ?_
 refine AAny.one 10 rfl (by kernel_rfl) ?_
 refine AOps.buildSlice (([n.widths.getD ((args.getD i6_3 0).toNat) 0] : List Int).map irow) sl22 ze3 rfl rfl rfl rfl rfl (uniform_map (s := 1) (f := irow) (fun _ => rfl)) rfl rfl rfl (by decide) ?_
 refine AOps.nil ⟨rfl, ?_⟩
 refine AAny.one 11 rfl (by kernel_rfl) ?_
 refine AOps.appendE ((a5_3 ++ ([n.widths.getD ((args.getD i6_3 0).toNat) 0] : List Int)).map irow) (a5_3 ++ ([n.widths.getD ((args.getD i6_3 0).toNat) 0] : List Int)).length sl22 ze3 rfl rfl rfl rfl (app_le (by first | omega | simp [-List.getD_eq_getElem?_getD] <;> omega)) (app_map (by first | omega | simp [-List.getD_eq_getElem?_getD] <;> omega)) (app_n (by first | omega | simp [-List.getD_eq_getElem?_getD] <;> omega)) (by first | omega | simp [-List.getD_eq_getElem?_getD] <;> omega) (by first | omega | simp [-List.getD_eq_getElem?_getD] <;> omega) (by decide) (by decide) ?_
 refine AOps.nil ⟨rfl, ?_⟩
 refine AAny.quietN (n := 0) [12] [] 0 rfl (by kernel_rfl) ?_
 refine .cn 12 rfl (Y.assign rfl rfl) ?_
 refine AQ.nil ?_
 refine AAny.done (by kernel_rfl) ?_
 refine AWp.region ?_
 refine .vl (Y.move rfl rfl) ?_
 refine .vl (Y.addI rfl rfl (by first | omega | simp [-List.getD_eq_getElem?_getD] <;> omega)) ?_
 refine .vl (Y.assign rfl rfl) ?_
 refine AOps.nil ?_
 exact ⟨i6_3 + 1, a5_3 ++ ([n.widths.getD ((args.getD i6_3 0).toNat) 0] : List Int), ⟨by first | omega | (simp [-List.getD_eq_getElem?_getD]; done) | (simp [-List.getD_eq_getElem?_getD]; omega), by rw [List.length_append, hal]; rfl, push_succ hal ha rfl⟩, by omega, Le.mk (SubL.cons rfl (SubL.cons rfl (SubL.cons (look_slc rfl (by first | omega | simp [-List.getD_eq_getElem?_getD] <;> omega)) (SubL.cons (look_int rfl (by first | rfl | omega)) (SubL.nil))))) (SubL.cons rfl (SubL.cons rfl (SubL.cons rfl (SubL.nil))))⟩
 refine AWp.exit ?_
 refine AWp.seq ?_
 refine AWp.seq ?_
 have ha0 : 0 < args.length → a5_3.getD 0 0 = n.av (⟨8, op, out, args, num, mem⟩ : Cell) 0 := fun h => ha 0 (by omega)
 have ha1 : 1 < args.length → a5_3.getD 1 0 = n.av (⟨8, op, out, args, num, mem⟩ : Cell) 1 := fun h => ha 1 (by omega)
 have ha2 : 2 < args.length → a5_3.getD 2 0 = n.av (⟨8, op, out, args, num, mem⟩ : Cell) 2 := fun h => ha 2 (by omega)
 refine AWp.region ?_
 refine .vl (Y.fieldAddr fl39_0 rfl rfl) ?_
 refine .vl (Y.load sh3 rfl rfl rfl rfl) ?_
 refine .vl (Y.eql rfl rfl) ?_
 refine AOps.nil ?_
 refine AWp.condF rfl ?_
 refine AWp.skip ?_
 refine AWp.sr ?_
 refine .vl (Y.fieldAddr fl27_1 rfl rfl) ?_
 refine .vl (Y.load sh22 rfl rfl rfl rfl) ?_
 refine .vl (Y.fieldAddr fl39_2 rfl rfl) ?_
 refine .vl (Y.load sh3 rfl rfl rfl rfl) ?_
 refine .vl (Y.indexF (m := (out).toNat) sl22 rfl rfl (by first | omega | simp [-List.getD_eq_getElem?_getD] <;> omega) (row_getD (d := 0) (by first | omega | simp [-List.getD_eq_getElem?_getD] <;> omega))) ?_
 refine .vl (Y.load sh3 rfl rfl rfl rfl) ?_
 refine .vl (Y.assign rfl rfl) ?_
 refine AOps.nil ?_
 refine AWp.seq ?_
 refine AWp.sr ?_
 refine .vl (Y.fieldAddr fl39_0 rfl rfl) ?_
 refine .vl (Y.load sh3 rfl rfl rfl rfl) ?_
 refine AOps.nil ?_
 refine AWp.block ?_
 refine AWp.sr ?_
 refine .vl (Y.eql rfl rfl) ?_
 refine .vl (Y.assign rfl rfl) ?_
 refine AOps.nil ?_
 refine AWp.condF rfl ?_
 refine AWp.seq ?_
 refine AWp.sr ?_
 refine .vl (Y.eql rfl rfl) ?_
 refine .vl (Y.assign rfl rfl) ?_
 refine AOps.nil ?_
 refine AWp.condF rfl ?_
 refine AWp.region ?_
 refine .vl (Y.eql rfl rfl) ?_
 refine .vl (Y.assign rfl rfl) ?_
 refine AOps.nil ?_
 refine AWp.condF rfl ?_
 refine AWp.sr ?_
 refine .vl (Y.eql rfl rfl) ?_
 refine .vl (Y.assign rfl rfl) ?_
 refine AOps.nil ?_
 refine AWp.condF rfl ?_
 refine AWp.sr ?_
 refine .vl (Y.eql rfl rfl) ?_
 refine .vl (Y.assign rfl rfl) ?_
 refine AOps.nil ?_
 refine AWp.condF rfl ?_
 refine AWp.sr ?_
 refine .vl (Y.eql rfl rfl) ?_
 refine .vl (Y.assign rfl rfl) ?_
 refine AOps.nil ?_
 refine AWp.condF rfl ?_
 refine AWp.sr ?_
 refine .vl (Y.eql rfl rfl) ?_
 refine .vl (Y.assign rfl rfl) ?_
 refine AOps.nil ?_
 refine AWp.condT rfl ?_
 refine AWp.sr ?_
 refine .vl (Y.move rfl rfl) ?_
 refine .vl (Y.fieldAddr fl27_3 rfl rfl) ?_
 refine .vl (Y.load sh22 rfl rfl rfl rfl) ?_
 refine .vl (Y.fieldAddr fl39_4 rfl rfl) ?_
 refine .vl (Y.load sh37 rfl rfl rfl rfl) ?_
 refine .vl (Y.indexF (m := num) sl22 rfl rfl (by first | rfl | omega) (row_getD (d := 0) (by first | omega | simp [-List.getD_eq_getElem?_getD] <;> omega))) ?_
 refine .vl (Y.load sh3 rfl rfl rfl rfl) ?_
 refine .vl (Y.eql rfl rfl) ?_
 refine .vl (Y.assign rfl rfl) ?_
 refine AOps.nil ?_
 refine AWp.ret ?_
 exact ⟨_, _, rfl, rfl, (cg1 (fun (z0 : Bool) => X.v (.bool z0)) (dd (by simp only [Fits, OpFits, Cmp, fit_iff, how, Int.reduceEq, Bool.not_eq_true, false_and, true_and, and_true, and_false, or_false, false_or, ne_eq] <;> (first | omega | grind)) : (decide ((n.widths.getD ((out).toNat) 0) = (n.ins.getD num 0))) = decide (Fits n (⟨8, op, out, args, num, mem⟩ : Cell))) : X.v (.bool (decide ((n.widths.getD ((out).toNat) 0) = (n.ins.getD num 0)))) = X.v (.bool (decide (Fits n (⟨8, op, out, args, num, mem⟩ : Cell))))), rfl⟩

set_option maxRecDepth 4000 in
set_option maxHeartbeats 1000000 in
theorem refFits_k9 {n : Netlist} {op out mem : Int} {args : List Int} {num : Nat} (hs : n.Small) (hc : args.length ≤ 17592186043904) (hn : num < 18446744073709551616) (hsh : Shaped n (⟨9, op, out, args, num, mem⟩ : Cell)) (hw : Wired n (⟨9, op, out, args, num, mem⟩ : Cell)) : ACalls Try.prog 89 [.agg (Netlist.row n), .agg [.v (.int .i64 9), .v (.int .i64 op), .v (.int .i64 out), .fz 1 (args.map irow), .v (.int .u64 ((num : Nat) : Int)), .v (.int .i64 mem)]] [] [] (fun r o => r = .v (.bool (decide (Fits n (⟨9, op, out, args, num, mem⟩ : Cell)))) ∧ o = []) := by
 refine ACalls.of Try.func89 rfl rfl rfl (n := 155) (by decide) (Nat.le_of_ble_eq_true rfl) ?_
 have hs4 := hs.ins; have hs5 := hs.mems; have hs6 := hs.streams; have hs1 := hs.widths
 have hk := hsh.k9 rfl; simp only at hk
 have ho : 0 ≤ out ∧ out < n.widths.length := by have := hw.out; simp only at this; omega
 have how : n.ow (⟨9, op, out, args, num, mem⟩ : Cell) = n.widths.getD out.toNat 0 := ow_eq ho.1
 refine AWp.sr ?_
 refine AOps.box 102 rfl rfl rfl rfl rfl (by decide) ?_
 refine AOps.box 103 rfl rfl rfl rfl rfl (by decide) ?_
 refine .vl (Y.assign rfl rfl) ?_
 refine AOps.nil ?_
 refine AWp.sr ?_
 refine .vl (Y.assign rfl rfl) ?_
 refine AOps.sh (Sh.nil (d := 5) 105 1 rfl (by decide)) ?_
 refine AOps.nil ?_
 refine AWp.seq ?_
 refine AWp.sr ?_
 refine .vl (Y.assign rfl rfl) ?_
 refine AOps.nil ?_
 refine AWp.block ?_
 refine AWp.loop2 (fun (i6_3 : Nat) (a5_3 : List Int) => ⟨[(2, .ptr 102 0 0 0), (3, .ptr 103 0 0 0), (5, .slc 105 1 0 a5_3.length), (6, .v (.int .i64 (i6_3 : Int)))], [(102, .cells (Netlist.row n)), (103, .cells [.v (.int .i64 9), .v (.int .i64 op), .v (.int .i64 out), .fz 1 (args.map irow), .v (.int .u64 ((num : Nat) : Int)), .v (.int .i64 mem)]), (105, .rows 1 (a5_3.map irow))]⟩) (fun (i6_3 : Nat) (a5_3 : List Int) => ((i6_3 : Int) ≤ ((args.length : Nat) : Int)) ∧ (a5_3.length = i6_3) ∧ (∀ j, j < i6_3 → a5_3.getD j 0 = n.av (⟨9, op, out, args, num, mem⟩ : Cell) j)) (fun (i6_3 : Nat) (a5_3 : List Int) => (((args.length : Nat) : Int) - (i6_3 : Int)).toNat) 0 ([] : List Int) (⟨by first | omega | (simp [-List.getD_eq_getElem?_getD]; done) | (simp [-List.getD_eq_getElem?_getD]; omega), rfl, fun j hj => by omega⟩) (Le.mk (SubL.cons rfl (SubL.cons rfl (SubL.cons (look_slc rfl (by first | omega | simp [-List.getD_eq_getElem?_getD] <;> omega)) (SubL.cons (look_int rfl (by first | rfl | omega)) (SubL.nil))))) (SubL.cons rfl (SubL.cons rfl (SubL.cons rfl (SubL.nil))))) (fun i6_3 a5_3 hI3 => ?_)
 obtain ⟨hb3, hal, ha⟩ := hI3
 refine AWp.seq ?_
 refine AWp.sr ?_
 refine .vl (Y.move rfl rfl) ?_
 refine .vl (Y.fieldAddr fl39_3 rfl rfl) ?_
 refine .vl (Y.load sh22 rfl rfl rfl rfl) ?_
 refine .vl (Y.len (n := args.length) sl22 rfl (congrArg some (List.length_map ..))) ?_
 refine .vl (Y.lss rfl rfl) ?_
 refine AOps.nil ?_
 refine AWp.condD rfl (fun c13 => ?_) (fun c13 => ?_)
 refine AWp.skip ?_
 refine AWp.seq ?_
 refine AWp.block ?_
 have hwa := hw.arg (k := i6_3) (by show _ < args.length; omega)
 simp only at hwa
 refine AWp.regionAny rfl ?_
 refine AAny.blind 0 rfl (by kernel_rfl) (Blind.move rfl rfl) (by decide) ?_
 refine AAny.quietN (n := 3) [1, 2, 3, 4, 5, 6, 7, 8, 9] [10, 11, 12] 10 rfl (by kernel_rfl) ?_
 refine .cn 1 rfl (Y.fieldAddr fl27_1 rfl rfl) ?_
 refine .cn 2 rfl (Y.load sh22 rfl rfl rfl rfl) ?_
 refine .cn 3 rfl (Y.fieldAddr fl39_3 rfl rfl) ?_
 refine .cn 4 rfl (Y.load sh22 rfl rfl rfl rfl) ?_
 refine .cn 5 rfl (Y.move rfl rfl) ?_
 refine .cn 6 rfl (Y.indexF (m := i6_3) sl22 rfl rfl (by first | rfl | omega) (row_getD (d := 0) (by first | omega | simp [-List.getD_eq_getElem?_getD] <;> omega))) ?_
 refine .cn 7 rfl (Y.load sh3 rfl rfl rfl rfl) ?_
 refine .cn 8 rfl (Y.indexF (m := (args.getD i6_3 0).toNat) sl22 rfl rfl (by first | omega | simp [-List.getD_eq_getElem?_getD] <;> omega) (row_getD (d := 0) (by first | omega | simp [-List.getD_eq_getElem?_getD] <;> omega))) ?_
 refine .cn 9 rfl (Y.load sh3 rfl rfl rfl rfl) ?_
 refine AQ.nil ?_
 refine AAny.one 10 rfl (by kernel_rfl) ?_
 refine AOps.buildSlice (([n.widths.getD ((args.getD i6_3 0).toNat) 0] : List Int).map irow) sl22 ze3 rfl rfl rfl rfl rfl (uniform_map (s := 1) (f := irow) (fun _ => rfl)) rfl rfl rfl (by decide) ?_
 refine AOps.nil ⟨rfl, ?_⟩
 refine AAny.one 11 rfl (by kernel_rfl) ?_
 refine AOps.appendE ((a5_3 ++ ([n.widths.getD ((args.getD i6_3 0).toNat) 0] : List Int)).map irow) (a5_3 ++ ([n.widths.getD ((args.getD i6_3 0).toNat) 0] : List Int)).length sl22 ze3 rfl rfl rfl rfl (app_le (by first | omega | simp [-List.getD_eq_getElem?_getD] <;> omega)) (app_map (by first | omega | simp [-List.getD_eq_getElem?_getD] <;> omega)) (app_n (by first | omega | simp [-List.getD_eq_getElem?_getD] <;> omega)) (by first | omega | simp [-List.getD_eq_getElem?_getD] <;> omega) (by first | omega | simp [-List.getD_eq_getElem?_getD] <;> omega) (by decide) (by decide) ?_
 refine AOps.nil ⟨rfl, ?_⟩
 refine AAny.quietN (n := 0) [12] [] 0 rfl (by kernel_rfl) ?_
 refine .cn 12 rfl (Y.assign rfl rfl) ?_
 refine AQ.nil ?_
 refine AAny.done (by kernel_rfl) ?_
 refine AWp.region ?_
 refine .vl (Y.move rfl rfl) ?_
 refine .vl (Y.addI rfl rfl (by first | omega | simp [-List.getD_eq_getElem?_getD] <;> omega)) ?_
 refine .vl (Y.assign rfl rfl) ?_
 refine AOps.nil ?_
 exact ⟨i6_3 + 1, a5_3 ++ ([n.widths.getD ((args.getD i6_3 0).toNat) 0] : List Int), ⟨by first | omega | (simp [-List.getD_eq_getElem?_getD]; done) | (simp [-List.getD_eq_getElem?_getD]; omega), by rw [List.length_append, hal]; rfl, push_succ hal ha rfl⟩, by omega, Le.mk (SubL.cons rfl (SubL.cons rfl (SubL.cons (look_slc rfl (by first | omega | simp [-List.getD_eq_getElem?_getD] <;> omega)) (SubL.cons (look_int rfl (by first | rfl | omega)) (SubL.nil))))) (SubL.cons rfl (SubL.cons rfl (SubL.cons rfl (SubL.nil))))⟩
 refine AWp.exit ?_
 refine AWp.seq ?_
 refine AWp.seq ?_
 have ha0 : 0 < args.length → a5_3.getD 0 0 = n.av (⟨9, op, out, args, num, mem⟩ : Cell) 0 := fun h => ha 0 (by omega)
 have ha1 : 1 < args.length → a5_3.getD 1 0 = n.av (⟨9, op, out, args, num, mem⟩ : Cell) 1 := fun h => ha 1 (by omega)
 have ha2 : 2 < args.length → a5_3.getD 2 0 = n.av (⟨9, op, out, args, num, mem⟩ : Cell) 2 := fun h => ha 2 (by omega)
 refine AWp.region ?_
 refine .vl (Y.fieldAddr fl39_0 rfl rfl) ?_
 refine .vl (Y.load sh3 rfl rfl rfl rfl) ?_
 refine .vl (Y.eql rfl rfl) ?_
 refine AOps.nil ?_
 refine AWp.condF rfl ?_
 refine AWp.skip ?_
 refine AWp.sr ?_
 refine .vl (Y.fieldAddr fl27_1 rfl rfl) ?_
 refine .vl (Y.load sh22 rfl rfl rfl rfl) ?_
 refine .vl (Y.fieldAddr fl39_2 rfl rfl) ?_
 refine .vl (Y.load sh3 rfl rfl rfl rfl) ?_
 refine .vl (Y.indexF (m := (out).toNat) sl22 rfl rfl (by first | omega | simp [-List.getD_eq_getElem?_getD] <;> omega) (row_getD (d := 0) (by first | omega | simp [-List.getD_eq_getElem?_getD] <;> omega))) ?_
 refine .vl (Y.load sh3 rfl rfl rfl rfl) ?_
 refine .vl (Y.assign rfl rfl) ?_
 refine AOps.nil ?_
 refine AWp.seq ?_
 refine AWp.sr ?_
 refine .vl (Y.fieldAddr fl39_0 rfl rfl) ?_
 refine .vl (Y.load sh3 rfl rfl rfl rfl) ?_
 refine AOps.nil ?_
 refine AWp.block ?_
 refine AWp.sr ?_
 refine .vl (Y.eql rfl rfl) ?_
 refine .vl (Y.assign rfl rfl) ?_
 refine AOps.nil ?_
 refine AWp.condF rfl ?_
 refine AWp.seq ?_
 refine AWp.sr ?_
 refine .vl (Y.eql rfl rfl) ?_
 refine .vl (Y.assign rfl rfl) ?_
 refine AOps.nil ?_
 refine AWp.condF rfl ?_
 refine AWp.region ?_
 refine .vl (Y.eql rfl rfl) ?_
 refine .vl (Y.assign rfl rfl) ?_
 refine AOps.nil ?_
 refine AWp.condF rfl ?_
 refine AWp.sr ?_
 refine .vl (Y.eql rfl rfl) ?_
 refine .vl (Y.assign rfl rfl) ?_
 refine AOps.nil ?_
 refine AWp.condF rfl ?_
 refine AWp.sr ?_
 refine .vl (Y.eql rfl rfl) ?_
 refine .vl (Y.assign rfl rfl) ?_
 refine AOps.nil ?_
 refine AWp.condF rfl ?_
 refine AWp.sr ?_
 refine .vl (Y.eql rfl rfl) ?_
 refine .vl (Y.assign rfl rfl) ?_
 refine AOps.nil ?_
 refine AWp.condF rfl ?_
 refine AWp.sr ?_
 refine .vl (Y.eql rfl rfl) ?_
 refine .vl (Y.assign rfl rfl) ?_
 refine AOps.nil ?_
 refine AWp.condF rfl ?_
 refine AWp.sr ?_
 refine .vl (Y.eql rfl rfl) ?_
 refine .vl (Y.assign rfl rfl) ?_
 refine AOps.nil ?_
 refine AWp.condT rfl ?_
 refine AWp.sr ?_
 refine .vl (Y.move rfl rfl) ?_
 refine .vl (Y.eql rfl rfl) ?_
 refine .vl (Y.assign rfl rfl) ?_
 refine AOps.nil ?_
 refine AWp.ret ?_
 exact ⟨_, _, rfl, rfl, (cg1 (fun (z0 : Bool) => X.v (.bool z0)) (dd (by simp only [Fits, OpFits, Cmp, fit_iff, how, Int.reduceEq, Bool.not_eq_true, false_and, true_and, and_true, and_false, or_false, false_or, ne_eq] <;> (first | omega | grind)) : (decide ((n.widths.getD ((out).toNat) 0) = 1)) = decide (Fits n (⟨9, op, out, args, num, mem⟩ : Cell))) : X.v (.bool (decide ((n.widths.getD ((out).toNat) 0) = 1))) = X.v (.bool (decide (Fits n (⟨9, op, out, args, num, mem⟩ : Cell))))), rfl⟩

set_option maxRecDepth 4000 in
set_option maxHeartbeats 1000000 in
theorem refFits_k10 {n : Netlist} {op out mem : Int} {args : List Int} {num : Nat} (hs : n.Small) (hc : args.length ≤ 17592186043904) (hn : num < 18446744073709551616) (hsh : Shaped n (⟨10, op, out, args, num, mem⟩ : Cell)) (hw : Wired n (⟨10, op, out, args, num, mem⟩ : Cell)) : ACalls Try.prog 89 [.agg (Netlist.row n), .agg [.v (.int .i64 10), .v (.int .i64 op), .v (.int .i64 out), .fz 1 (args.map irow), .v (.int .u64 ((num : Nat) : Int)), .v (.int .i64 mem)]] [] [] (fun r o => r = .v (.bool (decide (Fits n (⟨10, op, out, args, num, mem⟩ : Cell)))) ∧ o = []) := by
 refine ACalls.of Try.func89 rfl rfl rfl (n := 155) (by decide) (Nat.le_of_ble_eq_true rfl) ?_
 have hs4 := hs.ins; have hs5 := hs.mems; have hs6 := hs.streams; have hs1 := hs.widths
 have hk := hsh.k10 rfl; simp only at hk
 have ho : 0 ≤ out ∧ out < n.widths.length := by have := hw.out; simp only at this; omega
 have how : n.ow (⟨10, op, out, args, num, mem⟩ : Cell) = n.widths.getD out.toNat 0 := ow_eq ho.1
 refine AWp.sr ?_
 refine AOps.box 102 rfl rfl rfl rfl rfl (by decide) ?_
 refine AOps.box 103 rfl rfl rfl rfl rfl (by decide) ?_
 refine .vl (Y.assign rfl rfl) ?_
 refine AOps.nil ?_
 refine AWp.sr ?_
 refine .vl (Y.assign rfl rfl) ?_
 refine AOps.sh (Sh.nil (d := 5) 105 1 rfl (by decide)) ?_
 refine AOps.nil ?_
 refine AWp.seq ?_
 refine AWp.sr ?_
 refine .vl (Y.assign rfl rfl) ?_
 refine AOps.nil ?_
 refine AWp.block ?_
 refine AWp.loop2 (fun (i6_3 : Nat) (a5_3 : List Int) => ⟨[(2, .ptr 102 0 0 0), (3, .ptr 103 0 0 0), (5, .slc 105 1 0 a5_3.length), (6, .v (.int .i64 (i6_3 : Int)))], [(102, .cells (Netlist.row n)), (103, .cells [.v (.int .i64 10), .v (.int .i64 op), .v (.int .i64 out), .fz 1 (args.map irow), .v (.int .u64 ((num : Nat) : Int)), .v (.int .i64 mem)]), (105, .rows 1 (a5_3.map irow))]⟩) (fun (i6_3 : Nat) (a5_3 : List Int) => ((i6_3 : Int) ≤ ((args.length : Nat) : Int)) ∧ (a5_3.length = i6_3) ∧ (∀ j, j < i6_3 → a5_3.getD j 0 = n.av (⟨10, op, out, args, num, mem⟩ : Cell) j)) (fun (i6_3 : Nat) (a5_3 : List Int) => (((args.length : Nat) : Int) - (i6_3 : Int)).toNat) 0 ([] : List Int) (⟨by first | omega | (simp [-List.getD_eq_getElem?_getD]; done) | (simp [-List.getD_eq_getElem?_getD]; omega), rfl, fun j hj => by omega⟩) (Le.mk (SubL.cons rfl (SubL.cons rfl (SubL.cons (look_slc rfl (by first | omega | simp [-List.getD_eq_getElem?_getD] <;> omega)) (SubL.cons (look_int rfl (by first | rfl | omega)) (SubL.nil))))) (SubL.cons rfl (SubL.cons rfl (SubL.cons rfl (SubL.nil))))) (fun i6_3 a5_3 hI3 => ?_)
 obtain ⟨hb3, hal, ha⟩ := hI3
 refine AWp.seq ?_
 refine AWp.sr ?_
 refine .vl (Y.move rfl rfl) ?_
 refine .vl (Y.fieldAddr fl39_3 rfl rfl) ?_
 refine .vl (Y.load sh22 rfl rfl rfl rfl) ?_
 refine .vl (Y.len (n := args.length) sl22 rfl (congrArg some (List.length_map ..))) ?_
 refine .vl (Y.lss rfl rfl) ?_
 refine AOps.nil ?_
 refine AWp.condD rfl (fun c13 => ?_) (fun c13 => ?_)
 refine AWp.skip ?_
 refine AWp.seq ?_
 refine AWp.block ?_
 have hwa := hw.arg (k := i6_3) (by show _ < args.length; omega)
 simp only at hwa
 refine AWp.regionAny rfl ?_
 refine AAny.blind 0 rfl (by kernel_rfl) (Blind.move rfl rfl) (by decide) ?_
 refine AAny.quietN (n := 3) [1, 2, 3, 4, 5, 6, 7, 8, 9] [10, 11, 12] 10 rfl (by kernel_rfl) ?_
 refine .cn 1 rfl (Y.fieldAddr fl27_1 rfl rfl) ?_
 refine .cn 2 rfl (Y.load sh22 rfl rfl rfl rfl) ?_
 refine .cn 3 rfl (Y.fieldAddr fl39_3 rfl rfl) ?_
 refine .cn 4 rfl (Y.load sh22 rfl rfl rfl rfl) ?_
 refine .cn 5 rfl (Y.move rfl rfl) ?_
 refine .cn 6 rfl (Y.indexF (m := i6_3) sl22 rfl rfl (by first | rfl | omega) (row_getD (d := 0) (by first | omega | simp [-List.getD_eq_getElem?_getD] <;> omega))) ?_
 refine .cn 7 rfl (Y.load sh3 rfl rfl rfl rfl) ?_
 refine .cn 8 rfl (Y.indexF (m := (args.getD i6_3 0).toNat) sl22 rfl rfl (by first | omega | simp [-List.getD_eq_getElem?_getD] <;> omega) (row_getD (d := 0) (by first | omega | simp [-List.getD_eq_getElem?_getD] <;> omega))) ?_
 refine .cn 9 rfl (Y.load sh3 rfl rfl rfl rfl) ?_
 refine AQ.nil ?_
 refine AAny.one 10 rfl (by kernel_rfl) ?_
 refine AOps.buildSlice (([n.widths.getD ((args.getD i6_3 0).toNat) 0] : List Int).map irow) sl22 ze3 rfl rfl rfl rfl rfl (uniform_map (s := 1) (f := irow) (fun _ => rfl)) rfl rfl rfl (by decide) ?_
 refine AOps.nil ⟨rfl, ?_⟩
 refine AAny.one 11 rfl (by kernel_rfl) ?_
 refine AOps.appendE ((a5_3 ++ ([n.widths.getD ((args.getD i6_3 0).toNat) 0] : List Int)).map irow) (a5_3 ++ ([n.widths.getD ((args.getD i6_3 0).toNat) 0] : List Int)).length sl22 ze3 rfl rfl rfl rfl (app_le (by first | omega | simp [-List.getD_eq_getElem?_getD] <;> omega)) (app_map (by first | omega | simp [-List.getD_eq_getElem?_getD] <;> omega)) (app_n (by first | omega | simp [-List.getD_eq_getElem?_getD] <;> omega)) (by first | omega | simp [-List.getD_eq_getElem?_getD] <;> omega) (by first | omega | simp [-List.getD_eq_getElem?_getD] <;> omega) (by decide) (by decide) ?_
 refine AOps.nil ⟨rfl, ?_⟩
 refine AAny.quietN (n := 0) [12] [] 0 rfl (by kernel_rfl) ?_
 refine .cn 12 rfl (Y.assign rfl rfl) ?_
 refine AQ.nil ?_
 refine AAny.done (by kernel_rfl) ?_
 refine AWp.region ?_
 refine .vl (Y.move rfl rfl) ?_
 refine .vl (Y.addI rfl rfl (by first | omega | simp [-List.getD_eq_getElem?_getD] <;> omega)) ?_
 refine .vl (Y.assign rfl rfl) ?_
 refine AOps.nil ?_
 exact ⟨i6_3 + 1, a5_3 ++ ([n.widths.getD ((args.getD i6_3 0).toNat) 0] : List Int), ⟨by first | omega | (simp [-List.getD_eq_getElem?_getD]; done) | (simp [-List.getD_eq_getElem?_getD]; omega), by rw [List.length_append, hal]; rfl, push_succ hal ha rfl⟩, by omega, Le.mk (SubL.cons rfl (SubL.cons rfl (SubL.cons (look_slc rfl (by first | omega | simp [-List.getD_eq_getElem?_getD] <;> omega)) (SubL.cons (look_int rfl (by first | rfl | omega)) (SubL.nil))))) (SubL.cons rfl (SubL.cons rfl (SubL.cons rfl (SubL.nil))))⟩
 refine AWp.exit ?_
 refine AWp.seq ?_
 refine AWp.seq ?_
 have ha0 : 0 < args.length → a5_3.getD 0 0 = n.av (⟨10, op, out, args, num, mem⟩ : Cell) 0 := fun h => ha 0 (by omega)
 have ha1 : 1 < args.length → a5_3.getD 1 0 = n.av (⟨10, op, out, args, num, mem⟩ : Cell) 1 := fun h => ha 1 (by omega)
 have ha2 : 2 < args.length → a5_3.getD 2 0 = n.av (⟨10, op, out, args, num, mem⟩ : Cell) 2 := fun h => ha 2 (by omega)
 refine AWp.region ?_
 refine .vl (Y.fieldAddr fl39_0 rfl rfl) ?_
 refine .vl (Y.load sh3 rfl rfl rfl rfl) ?_
 refine .vl (Y.eql rfl rfl) ?_
 refine AOps.nil ?_
 refine AWp.condF rfl ?_
 refine AWp.skip ?_
 refine AWp.sr ?_
 refine .vl (Y.fieldAddr fl27_1 rfl rfl) ?_
 refine .vl (Y.load sh22 rfl rfl rfl rfl) ?_
 refine .vl (Y.fieldAddr fl39_2 rfl rfl) ?_
 refine .vl (Y.load sh3 rfl rfl rfl rfl) ?_
 refine .vl (Y.indexF (m := (out).toNat) sl22 rfl rfl (by first | omega | simp [-List.getD_eq_getElem?_getD] <;> omega) (row_getD (d := 0) (by first | omega | simp [-List.getD_eq_getElem?_getD] <;> omega))) ?_
 refine .vl (Y.load sh3 rfl rfl rfl rfl) ?_
 refine .vl (Y.assign rfl rfl) ?_
 refine AOps.nil ?_
 refine AWp.seq ?_
 refine AWp.sr ?_
 refine .vl (Y.fieldAddr fl39_0 rfl rfl) ?_
 refine .vl (Y.load sh3 rfl rfl rfl rfl) ?_
 refine AOps.nil ?_
 refine AWp.block ?_
 refine AWp.sr ?_
 refine .vl (Y.eql rfl rfl) ?_
 refine .vl (Y.assign rfl rfl) ?_
 refine AOps.nil ?_
 refine AWp.condF rfl ?_
 refine AWp.seq ?_
 refine AWp.sr ?_
 refine .vl (Y.eql rfl rfl) ?_
 refine .vl (Y.assign rfl rfl) ?_
 refine AOps.nil ?_
 refine AWp.condF rfl ?_
 refine AWp.region ?_
 refine .vl (Y.eql rfl rfl) ?_
 refine .vl (Y.assign rfl rfl) ?_
 refine AOps.nil ?_
 refine AWp.condF rfl ?_
 refine AWp.sr ?_
 refine .vl (Y.eql rfl rfl) ?_
 refine .vl (Y.assign rfl rfl) ?_
 refine AOps.nil ?_
 refine AWp.condF rfl ?_
 refine AWp.sr ?_
 refine .vl (Y.eql rfl rfl) ?_
 refine .vl (Y.assign rfl rfl) ?_
 refine AOps.nil ?_
 refine AWp.condF rfl ?_
 refine AWp.sr ?_
 refine .vl (Y.eql rfl rfl) ?_
 refine .vl (Y.assign rfl rfl) ?_
 refine AOps.nil ?_
 refine AWp.condF rfl ?_
 refine AWp.sr ?_
 refine .vl (Y.eql rfl rfl) ?_
 refine .vl (Y.assign rfl rfl) ?_
 refine AOps.nil ?_
 refine AWp.condF rfl ?_
 refine AWp.sr ?_
 refine .vl (Y.eql rfl rfl) ?_
 refine .vl (Y.assign rfl rfl) ?_
 refine AOps.nil ?_
 refine AWp.condF rfl ?_
 refine AWp.sr ?_
 refine .vl (Y.eql rfl rfl) ?_
 refine .vl (Y.assign rfl rfl) ?_
 refine AOps.nil ?_
 refine AWp.condT rfl ?_
 refine AWp.sr ?_
 refine .vl (Y.move rfl rfl) ?_
 refine .vl (Y.fieldAddr fl27_5 rfl rfl) ?_
 refine .vl (Y.load sh25 rfl rfl rfl rfl) ?_
 refine .vl (Y.fieldAddr fl39_5 rfl rfl) ?_
 refine .vl (Y.load sh3 rfl rfl rfl rfl) ?_
 refine .vl (Y.indexF (m := (mem).toNat) sl25 rfl rfl (by first | omega | simp [-List.getD_eq_getElem?_getD] <;> omega) (row_getD (d := default) (by first | omega | simp [-List.getD_eq_getElem?_getD] <;> omega))) ?_
 refine .vl (Y.fieldAddr fl83_1 rfl rfl) ?_
 refine .vl (Y.load sh3 rfl rfl rfl rfl) ?_
 refine .vl (Y.eql rfl rfl) ?_
 refine .vl (Y.assign rfl rfl) ?_
 refine AOps.nil ?_
 refine AWp.ret ?_
 exact ⟨_, _, rfl, rfl, (cg1 (fun (z0 : Bool) => X.v (.bool z0)) (dd (by simp only [Fits, OpFits, Cmp, fit_iff, how, Int.reduceEq, Bool.not_eq_true, false_and, true_and, and_true, and_false, or_false, false_or, ne_eq] <;> (first | omega | grind)) : (decide ((n.widths.getD ((out).toNat) 0) = ((n.streams.getD ((mem).toNat) default).width))) = decide (Fits n (⟨10, op, out, args, num, mem⟩ : Cell))) : X.v (.bool (decide ((n.widths.getD ((out).toNat) 0) = ((n.streams.getD ((mem).toNat) default).width)))) = X.v (.bool (decide (Fits n (⟨10, op, out, args, num, mem⟩ : Cell))))), rfl⟩

end Go.Proofs.Ytjnpbojdjipboaa
/- The widths of the specification, whatever the kind. -/
namespace Go.Proofs.Ytjnpbojdjipboaa
open Go Go.AW Go.Proofs
theorem refFits_spec {n : Netlist} {c : Cell} (hs : n.Small) (hc : c.args.length ≤ 17592186043904) (hn : c.num < 18446744073709551616) (hsh : Shaped n c) (hw : Wired n c) : ACalls Try.prog 89 [.agg (Netlist.row n), .agg (Cell.row c)] [] [] (fun r o => r = .v (.bool (decide (Fits n c))) ∧ o = []) := by
  have h := hsh.kind
  obtain ⟨k, op, out, args, num, mem⟩ := c
  have : k = 1 ∨ k = 2 ∨ k = 3 ∨ k = 4 ∨ k = 5 ∨ k = 6 ∨ k = 7 ∨ k = 8 ∨ k = 9 ∨ k = 10 := by simp only at h; omega
  rcases this with rfl | rfl | rfl | rfl | rfl | rfl | rfl | rfl | rfl | rfl
  · exact refFits_k1 hs hc hn hsh hw
  · exact refFits_k2 hs hc hn hsh hw
  · exact refFits_k3 hs hc hn hsh hw
  · exact refFits_k4 hs hc hn hsh hw
  · exact refFits_k5 hs hc hn hsh hw
  · exact refFits_k6 hs hc hn hsh hw
  · exact refFits_k7 hs hc hn hsh hw
  · exact refFits_k8 hs hc hn hsh hw
  · exact refFits_k9 hs hc hn hsh hw
  · exact refFits_k10 hs hc hn hsh hw
end Go.Proofs.Ytjnpbojdjipboaa
