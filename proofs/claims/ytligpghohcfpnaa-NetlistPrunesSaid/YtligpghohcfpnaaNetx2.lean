/- The walk through fits. -/
import Derived.Test.YtligpghohcfpnaaNetx0
import Derived.Test.YtligpghohcfpnaaNetx1
import Derived.Test.YtligpghohcfpnaaAWx2
set_option linter.unusedSimpArgs false
set_option linter.unusedVariables false
set_option linter.unusedSectionVars false
set_option maxRecDepth 4000
set_option maxHeartbeats 8000000
namespace Go.Proofs.Ytligpghohcfpnaa
open Go Go.AW Go.Proofs
theorem fits_spec {n : Netlist} {c : Cell} (hs : n.Small) (hc : c.args.length ≤ 17592186043904) (hn : c.num < 18446744073709551616) (hsh : Shaped n c) (hw : Wired n c) : ACalls Try.prog 102 [.agg (Netlist.row n), .agg (Cell.row c)] [] [] (fun r o => r = .v (.bool (decide (Fits n c))) ∧ o = []) := by
 refine ACalls.of Try.func102 rfl rfl rfl (n := 239) (by decide) (nbE rfl) ?_
 have hs4 := hs.ins; have hs5 := hs.mems; have hs6 := hs.streams; have ho := hw.out; have hs1 := hs.widths
 refine .sr (.box 102 rfl rfl rfl rfl rfl (by decide) (.box 103 rfl rfl rfl rfl rfl (by decide) ?_))
 refine .an ?_
 refine .nil (.sr ?_)
 refine .an ?_
 refine .nil ?_
 refine .join1 (fun (w5_j4 : Int) => ⟨[(2, .ptr 102 0 0 0), (3, .ptr 103 0 0 0), (5, vi w5_j4)], [(102, .cells (Netlist.row n)), (103, .cells (Cell.row c))]⟩) (fun (w5_j4 : Int) => w5_j4 = n.ow c) ?_ (fun w5_j4 hJ4 => ?_)
 refine .sr ?_
 refine .fa fl39_2 ?_
 refine .ld sh3 ?_
 refine .vl (Y.geq rfl rfl) (.nil ?_)
 refine .condD rfl (fun c13 => ?_) (fun c13 => ?_)
 refine .region ?_
 refine .fa fl27_1 ?_
 refine .ld sh22 ?_
 refine .fa fl39_2 ?_
 refine .ld sh3 ?_
 refine .vl (Y.indexF (m := (c.out).toNat) sl22 rfl rfl (by omega) (row_getD (d := 0) (by omega))) ?_
 refine .ld sh3 ?_
 refine .an ?_
 refine .nil ?_
 exact ⟨n.widths.getD ((c.out).toNat) 0, by unfold Netlist.ow Netlist.wd; rw [if_pos c13], Le.mk (.c (.c (.cons (look_int rfl (by first | rfl | omega)) (.nil)))) (.c (.c (.nil)))⟩
 refine .skip ?_
 exact ⟨0, by unfold Netlist.ow; rw [if_neg c13], Le.mk (.c (.c (.cons (look_int rfl (by first | rfl | omega)) (.nil)))) (.c (.c (.nil)))⟩
 refine .sr ?_
 refine .fa fl39_3 ?_
 refine .ld sh22 ?_
 refine .vl (Y.len (n := c.args.length) sl22 rfl (congrArg some (List.length_map ..))) ?_
 refine .makeSlice (n := c.args.length) sl22 ze3 rfl rfl rfl rfl (by omega) (by omega) (by decide) ?_
 refine .assignX rfl (by decide) (.sh (Sh.adoptE (d := 6) (n := c.args.length) 106 ((List.replicate c.args.length 0).map irow) rfl (by first | rfl | exact rep_map rfl) (len_map (by simp)) (by decide)) (.nil ?_))
 refine .seq (.sr ?_)
 refine .fa fl39_3 ?_
 refine .ld sh22 ?_
 refine .vl (Y.len (n := c.args.length) sl22 rfl (congrArg some (List.length_map ..))) ?_
 refine .mv ?_
 refine .nil (.block ?_)
 refine .loop2 (fun (n27_6 : Nat) (a6_6 : List Int) => ⟨[(2, .ptr 102 0 0 0), (3, .ptr 103 0 0 0), (5, vi w5_j4), (6, .slc 106 1 0 c.args.length), (25, .fz 1 (c.args.map irow)), (26, vi ((c.args.length : Nat) : Int)), (27, vi (n27_6 : Int))], [(102, .cells (Netlist.row n)), (103, .cells (Cell.row c)), (106, .rows 1 (a6_6.map irow))]⟩) (fun (n27_6 : Nat) (a6_6 : List Int) => (a6_6.length = c.args.length) ∧ ((n27_6 : Int) ≤ ((c.args.length : Nat) : Int)) ∧ (∀ j, j < n27_6 → a6_6.getD j 0 = n.av c j)) (fun (n27_6 : Nat) (a6_6 : List Int) => (((c.args.length : Nat) : Int) - (n27_6 : Int)).toNat) 0 (List.replicate c.args.length 0) (⟨by first | omega | (simp [-List.getD_eq_getElem?_getD]; done) | (simp [-List.getD_eq_getElem?_getD]; omega), by first | omega | (simp [-List.getD_eq_getElem?_getD]; done) | (simp [-List.getD_eq_getElem?_getD]; omega), fun j hj => by omega⟩) (Le.mk (.c (.c (.c (.c (.c (.c (.cons (look_int rfl (by first | rfl | omega)) (.nil)))))))) (.c (.c (.c (.nil))))) (fun n27_6 a6_6 hI6 => ?_)
 obtain ⟨hl106, hb6, ha⟩ := hI6
 refine .sr (.vl (Y.lss rfl rfl) (.nil ?_))
 refine .seq ?_
 refine .condD rfl (fun c28 => ?_) (fun c28 => ?_)
 refine .skip (.seq (.block ?_))
 refine .sr ?_
 refine .mv ?_
 refine .vl (Y.indexF (m := n27_6) sl22 rfl rfl (by first | rfl | omega) (row_getD (d := 0) (by omega))) ?_
 refine .ld sh3 ?_
 refine .an ?_
 refine .an ?_
 refine .nil (.region ?_)
 have hwa := hw.arg (k := n27_6) (by omega)
 refine .mv ?_
 refine .mv ?_
 refine .fa fl27_1 ?_
 refine .ld sh22 ?_
 refine .mv ?_
 refine .vl (Y.indexF (m := (c.args.getD n27_6 0).toNat) sl22 rfl rfl (by omega) (row_getD (d := 0) (by omega))) ?_
 refine .ld sh3 ?_
 refine .vl (Y.indexO (m := n27_6) sl22 rfl rfl (by first | rfl | omega) (by omega)) ?_
 refine .storeE ((a6_6.set n27_6 (n.widths.getD ((c.args.getD n27_6 0).toNat) 0)).map irow) si3 rfl rfl rfl rfl rfl rfl rfl (row_getD0 (d := 0) (by omega)) (nbE rfl) (set_map0 rfl) ?_
 refine .nil (.region ?_)
 refine .vl (Y.addI rfl rfl (by omega)) ?_
 refine .mv ?_
 refine .nil ?_
 exact ⟨n27_6 + 1, a6_6.set n27_6 (n.widths.getD ((c.args.getD n27_6 0).toNat) 0), ⟨by first | omega | (simp [-List.getD_eq_getElem?_getD]; done) | (simp [-List.getD_eq_getElem?_getD]; omega), by first | omega | (simp [-List.getD_eq_getElem?_getD]; done) | (simp [-List.getD_eq_getElem?_getD]; omega), fill_succ ha rfl (by omega)⟩, by omega, Le.mk (.c (.c (.c (.c (.c (.c (.cons (look_int rfl (by first | rfl | omega)) (.nil)))))))) (.c (.c (.c (.nil))))⟩
 refine .exit (.seq (.seq ?_))
 have ha0 : 0 < c.args.length → a6_6.getD 0 0 = n.av c 0 := fun h => ha 0 (by omega)
 have ha1 : 1 < c.args.length → a6_6.getD 1 0 = n.av c 1 := fun h => ha 1 (by omega)
 have ha2 : 2 < c.args.length → a6_6.getD 2 0 = n.av c 2 := fun h => ha 2 (by omega)
 refine .region ?_
 refine .fa fl39_0 ?_
 refine .ld sh3 ?_
 refine .nil (.block (.sr ?_))
 refine .vl (Y.eql rfl rfl) ?_
 refine .an ?_
 refine .nil ?_
 refine .condD rfl (fun c43 => ?_) (fun c43 => ?_)
 refine .seq (.regionAny rfl (.blind 0 rfl (by kernel_rfl) (Blind.move rfl rfl) (by decide) ?_))
 refine .blind 1 rfl (by kernel_rfl) (Blind.fieldAddr fl39_4 rfl rfl) (by decide) (.blind 4 rfl (by kernel_rfl) (Blind.fieldAddr fl39_4 rfl rfl) (by decide) ?_)
 refine .two 2 5 rfl rfl (by kernel_rfl) ?_ ?_
 refine .ld sh37 ?_
 refine .nil ⟨rfl, ?_⟩
 refine .two 3 5 rfl rfl (by kernel_rfl) ?_ ?_
 refine .callP ok65 (bfit_spec (w := w5_j4) (x := c.num) ((by omega))) rfl (.keep rfl rfl (.keep rfl rfl .nil)) (by decide) rfl ?_
 refine .nil ⟨rfl, ?_⟩
 refine .quietN (n := 0) [5, 6, 7] [] 0 rfl (by kernel_rfl) (.cn 5 rfl (Y.load sh37 rfl rfl rfl rfl) (.cn 6 rfl (Y.eql rfl rfl) ?_))
 refine .cn 7 rfl (Y.assign rfl rfl) (.nil (.done (by kernel_rfl) ?_))
 refine .ret ?_
 exact .rb rfl (dd (by (simp only [Fits, OpFits, Cmp, ← hJ4, c43, Int.reduceEq, Bool.not_eq_true, false_and, true_and, and_true, and_false, or_false, false_or, ne_eq]) <;> omega))
 refine .ld sh37 ?_
 refine .nil ⟨rfl, ?_⟩
 refine .one 3 rfl (by kernel_rfl) ?_
 refine .callP ok65 (bfit_spec (w := w5_j4) (x := c.num) ((by omega))) rfl (.keep rfl rfl (.keep rfl rfl .nil)) (by decide) rfl ?_
 refine .nil ⟨rfl, ?_⟩
 refine .quietN (n := 0) [6, 7] [] 0 rfl (by kernel_rfl) (.cn 6 rfl (Y.eql rfl rfl) (.cn 7 rfl (Y.assign rfl rfl) ?_))
 refine .nil (.done (by kernel_rfl) (.ret ?_))
 exact .rb rfl (dd (by (simp only [Fits, OpFits, Cmp, ← hJ4, c43, Int.reduceEq, Bool.not_eq_true, false_and, true_and, and_true, and_false, or_false, false_or, ne_eq]) <;> omega))
 refine .ld sh37 ?_
 refine .nil ⟨rfl, ?_⟩
 refine .quietN (n := 3) [2] [3, 6, 7] 3 rfl (by kernel_rfl) (.cn 2 rfl (Y.load sh37 rfl rfl rfl rfl) (.nil ?_))
 refine .one 3 rfl (by kernel_rfl) ?_
 refine .callP ok65 (bfit_spec (w := w5_j4) (x := c.num) ((by omega))) rfl (.keep rfl rfl (.keep rfl rfl .nil)) (by decide) rfl ?_
 refine .nil ⟨rfl, ?_⟩
 refine .quietN (n := 0) [6, 7] [] 0 rfl (by kernel_rfl) (.cn 6 rfl (Y.eql rfl rfl) (.cn 7 rfl (Y.assign rfl rfl) ?_))
 refine .nil (.done (by kernel_rfl) (.ret ?_))
 exact .rb rfl (dd (by (simp only [Fits, OpFits, Cmp, ← hJ4, c43, Int.reduceEq, Bool.not_eq_true, false_and, true_and, and_true, and_false, or_false, false_or, ne_eq]) <;> omega))
 refine .sr (.vl (Y.eql rfl rfl) ?_)
 refine .an ?_
 refine .nil ?_
 refine .condD rfl (fun c52 => ?_) (fun c52 => ?_)
 have hk := hsh.k2 c52
 refine .seq (.sr ?_)
 refine .fa fl39_1 ?_
 refine .ld sh3 ?_
 refine .nil (.block (.sr ?_))
 refine .vl (Y.eql rfl rfl) ?_
 refine .an ?_
 refine .nil ?_
 refine .condD rfl (fun c56 => ?_) (fun c56 => ?_)
 refine .sr ?_
 refine .mv ?_
 refine .vl (Y.indexO (m := 0) sl22 rfl rfl (by first | rfl | omega) (by first | omega | simp [-List.getD_eq_getElem?_getD] <;> omega)) ?_
 refine .vl (Y.load sh3 rfl (row_getD0 (d := 0) (by omega)) rfl rfl) ?_
 refine .vl (Y.eql rfl rfl) ?_
 refine .mv ?_
 refine .splitD (d := 62) rfl (fun c62 => ?_) (fun c62 => ?_)
 refine .gw 62 (Y.move rfl rfl) ?_
 refine .gw 62 (Y.indexO (m := 1) sl22 rfl rfl (by first | rfl | omega) (by omega)) ?_
 refine .gw 62 (Y.load sh3 rfl (row_getD0 (d := 0) (by omega)) rfl rfl) ?_
 refine .gw 62 (Y.move rfl rfl) (.gw 62 (Y.eql rfl rfl) ?_)
 refine .pk ?_
 refine .mv ?_
 refine .splitD (d := 69) rfl (fun c69 => ?_) (fun c69 => ?_)
 refine .gw 69 (Y.move rfl rfl) ?_
 refine .gw 69 (Y.indexO (m := 2) sl22 rfl rfl (by first | rfl | omega) (by omega)) ?_
 refine .gw 69 (Y.load sh3 rfl (row_getD0 (d := 0) (by omega)) rfl rfl) ?_
 refine .gw 69 (Y.move rfl rfl) (.gw 69 (Y.eql rfl rfl) ?_)
 refine .pk ?_
 refine .an ?_
 refine .nil (.ret ?_)
 exact .rb rfl (dd (by (simp only [Fits, OpFits, Cmp, ← hJ4, c52, Int.reduceEq, Bool.not_eq_true, false_and, true_and, and_true, and_false, or_false, false_or, ne_eq]) <;> omega))
 refine .gz 69 (.gz 69 (.gz 69 ?_))
 refine .gz 69 (.gz 69 ?_)
 refine .pk ?_
 refine .an ?_
 refine .nil (.ret ?_)
 exact .rb rfl (df (by (simp only [Fits, OpFits, Cmp, ← hJ4, c52, Int.reduceEq, Bool.not_eq_true, false_and, true_and, and_true, and_false, or_false, false_or, ne_eq]) <;> omega))
 refine .gz 62 (.gz 62 (.gz 62 ?_))
 refine .gz 62 (.gz 62 ?_)
 refine .pk ?_
 refine .mv ?_
 refine .gz 69 (.gz 69 (.gz 69 ?_))
 refine .gz 69 (.gz 69 ?_)
 refine .pk ?_
 refine .an ?_
 refine .nil (.ret ?_)
 exact .rb rfl (df (by (simp only [Fits, OpFits, Cmp, ← hJ4, c52, Int.reduceEq, Bool.not_eq_true, false_and, true_and, and_true, and_false, or_false, false_or, ne_eq]) <;> omega))
 refine .seq (.sr (.vl (Y.eql rfl rfl) ?_))
 refine .an ?_
 refine .nil ?_
 refine .condKD rfl (fun c76 => ?_) (fun c76 => ?_)
 refine .skip (.condT rfl (.sr ?_))
 refine .mv ?_
 refine .vl (Y.indexO (m := 0) sl22 rfl rfl (by first | rfl | omega) (by first | omega | simp [-List.getD_eq_getElem?_getD] <;> omega)) ?_
 refine .vl (Y.load sh3 rfl (row_getD0 (d := 0) (by omega)) rfl rfl) ?_
 refine .mv ?_
 refine .vl (Y.leq rfl rfl) ?_
 refine .an ?_
 refine .nil (.ret ?_)
 exact .rb rfl (dd (by (simp only [Fits, OpFits, Cmp, ← hJ4, c52, Int.reduceEq, Bool.not_eq_true, false_and, true_and, and_true, and_false, or_false, false_or, ne_eq]) <;> omega))
 refine .region (.vl (Y.eql rfl rfl) ?_)
 refine .an ?_
 refine .nil ?_
 refine .condKD rfl (fun c76 => ?_) (fun c76 => ?_)
 refine .sr ?_
 refine .mv ?_
 refine .vl (Y.indexO (m := 0) sl22 rfl rfl (by first | rfl | omega) (by first | omega | simp [-List.getD_eq_getElem?_getD] <;> omega)) ?_
 refine .vl (Y.load sh3 rfl (row_getD0 (d := 0) (by omega)) rfl rfl) ?_
 refine .mv ?_
 refine .vl (Y.leq rfl rfl) ?_
 refine .an ?_
 refine .nil (.ret ?_)
 exact .rb rfl (dd (by (simp only [Fits, OpFits, Cmp, ← hJ4, c52, Int.reduceEq, Bool.not_eq_true, false_and, true_and, and_true, and_false, or_false, false_or, ne_eq]) <;> omega))
 refine .sr (.vl (Y.eql rfl rfl) ?_)
 refine .an ?_
 refine .nil ?_
 refine .condD rfl (fun c84 => ?_) (fun c84 => ?_)
 refine .sr ?_
 refine .mv ?_
 refine .vl (Y.indexO (m := 0) sl22 rfl rfl (by first | rfl | omega) (by first | omega | simp [-List.getD_eq_getElem?_getD] <;> omega)) ?_
 refine .vl (Y.load sh3 rfl (row_getD0 (d := 0) (by omega)) rfl rfl) ?_
 refine .mv ?_
 refine .vl (Y.geq rfl rfl) ?_
 refine .an ?_
 refine .nil (.ret ?_)
 exact .rb rfl (dd (by (simp only [Fits, OpFits, Cmp, ← hJ4, c52, Int.reduceEq, Bool.not_eq_true, false_and, true_and, and_true, and_false, or_false, false_or, ne_eq]) <;> omega))
 refine .skip (.seq (.sr ?_))
 refine .fa fl39_1 ?_
 refine .ld sh3 ?_
 refine .callP ok74 (isCompare_spec (w := c.op)) rfl (.keep rfl rfl .nil) (by decide) rfl (.nil ?_)
 refine .condD rfl (fun c93 => ?_) (fun c93 => ?_)
 unfold Cmp at c93
 refine .seq (.regionS rfl (by kernel_rfl) (.val (Y.move rfl rfl) (by decide) ?_))
 refine .val (Y.eql rfl rfl) (by decide) (.val (Y.move rfl rfl) (by decide) ?_)
 refine .splitD (d := 96) rfl (fun c96 => ?_) (fun c96 => ?_)
 refine .guardRun (d := 96) rfl (by decide) rfl (.val (Y.move rfl rfl) (by decide) (.guardRun (d := 96) rfl (by decide) rfl ?_))
 refine .val (Y.indexO (m := 0) sl22 rfl rfl (by first | rfl | omega) (by omega)) (by decide) ?_
 refine .guardRun (d := 96) rfl (by decide) rfl ?_
 refine .val (Y.load sh3 rfl (row_getD0 (d := 0) (by omega)) rfl rfl) (by decide) ?_
 refine .guardRun (d := 96) rfl (by decide) rfl (.val (Y.move rfl rfl) (by decide) (.guardRun (d := 96) rfl (by decide) rfl ?_))
 refine .val (Y.indexO (m := 1) sl22 rfl rfl (by first | rfl | omega) (by omega)) (by decide) ?_
 refine .guardRun (d := 96) rfl (by decide) rfl ?_
 refine .val (Y.load sh3 rfl (row_getD0 (d := 0) (by omega)) rfl rfl) (by decide) ?_
 refine .guardRun (d := 96) rfl (by decide) rfl (.val (Y.eql rfl rfl) (by decide) (.val (Y.pick rfl rfl rfl) (by decide) ?_))
 refine .val (Y.assign rfl rfl) (by decide) (.nil (.ret ?_))
 exact .rb rfl (dd (by (simp only [Fits, OpFits, Cmp, ← hJ4, c52, Int.reduceEq, Bool.not_eq_true, false_and, true_and, and_true, and_false, or_false, false_or, ne_eq]) <;> omega))
 refine .guardSkipV (d := 96) rfl (by decide) (by decide) rfl rfl (.guardSkipV (d := 96) rfl (by decide) (by decide) rfl rfl (.guardSkipV (d := 96) rfl (by decide) (by decide) rfl rfl ?_))
 refine .guardSkipV (d := 96) rfl (by decide) (by decide) rfl rfl (.guardSkipV (d := 96) rfl (by decide) (by decide) rfl rfl (.guardSkipV (d := 96) rfl (by decide) (by decide) rfl rfl ?_))
 refine .guardSkipV (d := 96) rfl (by decide) (by decide) rfl rfl (.val (Y.pick rfl rfl rfl) (by decide) (.val (Y.assign rfl rfl) (by decide) ?_))
 refine .nil (.ret ?_)
 exact .rb rfl (df (by (simp only [Fits, OpFits, Cmp, ← hJ4, c52, Int.reduceEq, Bool.not_eq_true, false_and, true_and, and_true, and_false, or_false, false_or, ne_eq]) <;> omega))
 unfold Cmp at c93
 refine .skip (.sr ?_)
 refine .mv ?_
 refine .vl (Y.indexO (m := 0) sl22 rfl rfl (by first | rfl | omega) (by first | omega | simp [-List.getD_eq_getElem?_getD] <;> omega)) ?_
 refine .vl (Y.load sh3 rfl (row_getD0 (d := 0) (by omega)) rfl rfl) ?_
 refine .mv ?_
 refine .vl (Y.eql rfl rfl) ?_
 refine .mv ?_
 refine .splitD (d := 110) rfl (fun c110 => ?_) (fun c110 => ?_)
 refine .gw 110 (Y.move rfl rfl) ?_
 refine .gw 110 (Y.indexO (m := 1) sl22 rfl rfl (by first | rfl | omega) (by omega)) ?_
 refine .gw 110 (Y.load sh3 rfl (row_getD0 (d := 0) (by omega)) rfl rfl) ?_
 refine .gw 110 (Y.move rfl rfl) (.gw 110 (Y.eql rfl rfl) ?_)
 refine .pk ?_
 refine .an ?_
 refine .nil (.ret ?_)
 exact .rb rfl (dd (by (simp only [Fits, OpFits, Cmp, ← hJ4, c52, Int.reduceEq, Bool.not_eq_true, false_and, true_and, and_true, and_false, or_false, false_or, ne_eq]) <;> omega))
 refine .gz 110 (.gz 110 (.gz 110 ?_))
 refine .gz 110 (.gz 110 ?_)
 refine .pk ?_
 refine .an ?_
 refine .nil (.ret ?_)
 exact .rb rfl (df (by (simp only [Fits, OpFits, Cmp, ← hJ4, c52, Int.reduceEq, Bool.not_eq_true, false_and, true_and, and_true, and_false, or_false, false_or, ne_eq]) <;> omega))
 refine .sr (.vl (Y.eql rfl rfl) ?_)
 refine .an ?_
 refine .nil ?_
 refine .condD rfl (fun c117 => ?_) (fun c117 => ?_)
 have hk := hsh.k3 c117
 refine .seq (.sr ?_)
 refine .mv ?_
 refine .vl (Y.len (n := c.args.length) sl22 rfl rfl) ?_
 refine .mv ?_
 refine .nil (.block ?_)
 refine .loop1 (fun (n121_27 : Nat) => ⟨[(5, vi w5_j4), (119, .slc 106 1 0 c.args.length), (120, vi ((c.args.length : Nat) : Int)), (121, vi (n121_27 : Int))], [(106, .rows 1 (a6_6.map irow))]⟩) (fun (n121_27 : Nat) => ((n121_27 : Int) ≤ ((c.args.length : Nat) : Int)) ∧ (∀ k, k < n121_27 → MuxFit n c k)) (fun (n121_27 : Nat) => (((c.args.length : Nat) : Int) - (n121_27 : Int)).toNat) 0 (⟨by omega, fun k hk => by omega⟩) (Le.mk (.c (.c (.c (.cons (look_int rfl (by first | rfl | omega)) (.nil))))) (.c (.nil))) (fun n121_27 hI27 => ?_)
 obtain ⟨hb27, hm⟩ := hI27
 refine .sr (.vl (Y.lss rfl rfl) (.nil ?_))
 refine .seq ?_
 refine .condD rfl (fun c122 => ?_) (fun c122 => ?_)
 refine .skip ?_
 refine .join2 (fun (n137_j31 : Bool) (n141_j31 : Bool) => ⟨[(5, vi w5_j4), (119, .slc 106 1 0 c.args.length), (120, vi ((c.args.length : Nat) : Int)), (121, vi (n121_27 : Int)), (134, vi (n121_27 : Int)), (135, vi ((n121_27 : Int) % 2)), (136, .v (.bool (decide (((n121_27 : Int) % 2) = 1)))), (137, .v (.bool n137_j31)), (141, .v (.bool n141_j31))], [(106, .rows 1 (a6_6.map irow))]⟩) (fun (n137_j31 : Bool) (n141_j31 : Bool) => ((((n121_27 : Int) % 2) = 0) ∧ (¬ ((a6_6.getD n121_27 0) ≠ 1)) ∧ (((n121_27 : Int) % 2) = 1) ∧ (¬ ((a6_6.getD n121_27 0) ≠ w5_j4)) ∧ (n137_j31 = true) ∧ (n141_j31 = (decide ((a6_6.getD n121_27 0) ≠ w5_j4)))) ∨ ((((n121_27 : Int) % 2) = 0) ∧ (¬ ((a6_6.getD n121_27 0) ≠ 1)) ∧ (¬ (((n121_27 : Int) % 2) = 1)) ∧ (n137_j31 = false) ∧ (n141_j31 = false)) ∨ ((¬ (((n121_27 : Int) % 2) = 0)) ∧ (((n121_27 : Int) % 2) = 1) ∧ (¬ ((a6_6.getD n121_27 0) ≠ w5_j4)) ∧ (n137_j31 = true) ∧ (n141_j31 = (decide ((a6_6.getD n121_27 0) ≠ w5_j4)))) ∨ ((¬ (((n121_27 : Int) % 2) = 0)) ∧ (¬ (((n121_27 : Int) % 2) = 1)) ∧ (n137_j31 = false) ∧ (n141_j31 = false))) ?_ (fun n137_j31 n141_j31 hJ31 => ?_)
 refine .block (.sr ?_)
 refine .mv ?_
 refine .vl (Y.indexO (m := n121_27) sl22 rfl rfl (by first | rfl | omega) (by omega)) ?_
 refine .vl (Y.load sh3 rfl (row_getD0 (d := 0) (by omega)) rfl rfl) ?_
 refine .an ?_
 refine .an ?_
 refine .nil (.sr ?_)
 refine .mv ?_
 refine .vl (Y.remI rfl rfl (by first | omega | simp [-List.getD_eq_getElem?_getD] <;> omega)) ?_
 refine .vl (Y.eql rfl rfl) ?_
 refine .mv ?_
 refine .splitD (d := 129) rfl (fun c129 => ?_) (fun c129 => ?_)
 refine .gw 129 (Y.move rfl rfl) (.gw 129 (Y.neq rfl rfl) ?_)
 refine .pk ?_
 refine .mv ?_
 refine .splitD (d := 133) rfl (fun c133 => ?_) (fun c133 => ?_)
 refine .gz 133 (.gz 133 (.gz 133 ?_))
 refine .gz 133 (.gz 137 (.gz 137 ?_))
 refine .gz 137 (.gz 133 ?_)
 refine .pk ?_
 refine .nil (.condT rfl (.sr ?_))
 refine .an ?_
 refine .nil (.ret ?_)
 exact .rb rfl (df (fun h => by simp only [Fits, c117, Int.reduceEq, Bool.not_eq_true, false_and, true_and, and_true, and_false, or_false, false_or, ne_eq] at h; have h1 := h n121_27 (by omega); have h2 := ha n121_27 (by omega); unfold MuxFit at h1; omega))
 refine .gw 133 (Y.move rfl rfl) ?_
 refine .gw 133 (Y.remI rfl rfl (by omega)) ?_
 refine .gw 133 (Y.eql rfl rfl) (.gw 133 (Y.move rfl rfl) ?_)
 refine .splitD (d := 137) rfl (fun c137 => ?_) (fun c137 => ?_)
 refine .gw 137 (Y.move rfl rfl) (.gw 137 (Y.move rfl rfl) (.gw 137 (Y.neq rfl rfl) ?_))
 refine .gw 133 (Y.pick rfl rfl rfl) ?_
 refine .pk ?_
 refine .nil ?_
 refine .condD rfl (fun c142 => ?_) (fun c142 => ?_)
 refine .sr ?_
 refine .an ?_
 refine .nil (.ret ?_)
 exact .rb rfl (df (fun h => by simp only [Fits, c117, Int.reduceEq, Bool.not_eq_true, false_and, true_and, and_true, and_false, or_false, false_or, ne_eq] at h; have h1 := h n121_27 (by omega); have h2 := ha n121_27 (by omega); unfold MuxFit at h1; omega))
 refine .skip ?_
 exact ⟨true, decide ((a6_6.getD n121_27 0) ≠ w5_j4), .inl ⟨c129, c133, c137, c142, rfl, rfl⟩, Le.mk (.c (.c (.c (.c (.c (.c (.c (.cons (look_bool rfl (by first | rfl | simp_all)) (.cons (look_bool rfl (by first | rfl | simp_all)) (.nil)))))))))) (.c (.nil))⟩
 refine .gz 137 (.gz 137 (.gz 137 ?_))
 refine .gw 133 (Y.pick rfl rfl rfl) ?_
 refine .pk ?_
 refine .nil (.condF rfl (.skip ?_))
 exact ⟨false, false, .inr (.inl ⟨c129, c133, c137, rfl, rfl⟩), Le.mk (.c (.c (.c (.c (.c (.c (.c (.cons (look_bool rfl (by first | rfl | simp_all)) (.cons (look_bool rfl (by first | rfl | simp_all)) (.nil)))))))))) (.c (.nil))⟩
 refine .gz 129 (.gz 129 ?_)
 refine .pk ?_
 refine .mv ?_
 refine .gw 133 (Y.move rfl rfl) ?_
 refine .gw 133 (Y.remI rfl rfl (by omega)) ?_
 refine .gw 133 (Y.eql rfl rfl) (.gw 133 (Y.move rfl rfl) ?_)
 refine .splitD (d := 137) rfl (fun c137 => ?_) (fun c137 => ?_)
 refine .gw 137 (Y.move rfl rfl) (.gw 137 (Y.move rfl rfl) (.gw 137 (Y.neq rfl rfl) ?_))
 refine .gw 133 (Y.pick rfl rfl rfl) ?_
 refine .pk ?_
 refine .nil ?_
 refine .condD rfl (fun c142 => ?_) (fun c142 => ?_)
 refine .sr ?_
 refine .an ?_
 refine .nil (.ret ?_)
 exact .rb rfl (df (fun h => by simp only [Fits, c117, Int.reduceEq, Bool.not_eq_true, false_and, true_and, and_true, and_false, or_false, false_or, ne_eq] at h; have h1 := h n121_27 (by omega); have h2 := ha n121_27 (by omega); unfold MuxFit at h1; omega))
 refine .skip ?_
 exact ⟨true, decide ((a6_6.getD n121_27 0) ≠ w5_j4), .inr (.inr (.inl ⟨c129, c137, c142, rfl, rfl⟩)), Le.mk (.c (.c (.c (.c (.c (.c (.c (.cons (look_bool rfl (by first | rfl | simp_all)) (.cons (look_bool rfl (by first | rfl | simp_all)) (.nil)))))))))) (.c (.nil))⟩
 refine .gz 137 (.gz 137 (.gz 137 ?_))
 refine .gw 133 (Y.pick rfl rfl rfl) ?_
 refine .pk ?_
 refine .nil (.condF rfl (.skip ?_))
 exact ⟨false, false, .inr (.inr (.inr (⟨c129, c137, rfl, rfl⟩))), Le.mk (.c (.c (.c (.c (.c (.c (.c (.cons (look_bool rfl (by first | rfl | simp_all)) (.cons (look_bool rfl (by first | rfl | simp_all)) (.nil)))))))))) (.c (.nil))⟩
 refine .region ?_
 refine .vl (Y.addI rfl rfl (by omega)) ?_
 refine .mv ?_
 refine .nil ?_
 exact ⟨n121_27 + 1, ⟨by omega, mux_succ hm (by have h2 := ha n121_27 (by omega); unfold MuxFit; omega)⟩, by omega, Le.mk (.c (.c (.c (.cons (look_int rfl (by first | rfl | omega)) (.nil))))) (.c (.nil))⟩
 refine .exit (.sr ?_)
 refine .an ?_
 refine .nil (.ret ?_)
 exact .rb rfl (dt (by simp only [Fits, c117, Int.reduceEq, Bool.not_eq_true, false_and, true_and, and_true, and_false, or_false, false_or, ne_eq]; exact fun k hk => hm k (by omega)))
 refine .sr (.vl (Y.eql rfl rfl) ?_)
 refine .an ?_
 refine .nil ?_
 refine .condD rfl (fun c144 => ?_) (fun c144 => ?_)
 have hk := hsh.k4 c144
 refine .seq (.regionAny rfl (.blind 0 rfl (by kernel_rfl) (Blind.move rfl rfl) (by decide) ?_))
 refine .one 1 rfl (by kernel_rfl) ?_
 refine .vl (Y.indexO (m := 0) sl22 rfl rfl (by first | rfl | omega) (by first | omega | simp [-List.getD_eq_getElem?_getD] <;> omega)) ?_
 refine .nil ⟨rfl, ?_⟩
 refine .one 2 rfl (by kernel_rfl) ?_
 refine .vl (Y.load sh3 rfl (row_getD0 (d := 0) (by omega)) rfl rfl) ?_
 refine .nil ⟨rfl, ?_⟩
 refine .one 3 rfl (by kernel_rfl) (.vl (Y.eql rfl rfl) ?_)
 refine .nil ⟨rfl, ?_⟩
 refine .blind 4 rfl (by kernel_rfl) (Blind.move rfl rfl) (by decide) ?_
 refine .splitD (d := 150) rfl (fun c150 => ?_) (fun c150 => ?_)
 refine .blindRun 5 rfl (by kernel_rfl) rfl (by decide) rfl (Blind.move rfl rfl) (by decide) (.blindRun 8 rfl (by kernel_rfl) rfl (by decide) rfl (Blind.move rfl rfl) (by decide) (.one 6 rfl (by kernel_rfl) ?_))
 refine .gw 150 (Y.indexO (m := 1) sl22 rfl rfl (by first | rfl | omega) (by omega)) ?_
 refine .nil ⟨rfl, ?_⟩
 refine .one 7 rfl (by kernel_rfl) ?_
 refine .gw 150 (Y.load sh3 rfl (row_getD0 (d := 0) (by omega)) rfl rfl) ?_
 refine .nil ⟨rfl, ?_⟩
 refine .one 9 rfl (by kernel_rfl) (.gw 150 (Y.eql rfl rfl) ?_)
 refine .nil ⟨rfl, ?_⟩
 refine .one 10 rfl (by kernel_rfl) ?_
 refine .pk ?_
 refine .nil ⟨rfl, ?_⟩
 refine .blind 11 rfl (by kernel_rfl) (Blind.move rfl rfl) (by decide) ?_
 refine .splitD (d := 157) rfl (fun c157 => ?_) (fun c157 => ?_)
 refine .blindRun 12 rfl (by kernel_rfl) rfl (by decide) rfl (Blind.move rfl rfl) (by decide) (.blindRun 13 rfl (by kernel_rfl) rfl (by decide) rfl (Blind.fieldAddr fl39_4 rfl rfl) (by decide) (.blindRun 16 rfl (by kernel_rfl) rfl (by decide) rfl (Blind.fieldAddr fl39_4 rfl rfl) (by decide) ?_))
 refine .two 14 17 rfl rfl (by kernel_rfl) ?_ ?_
 refine .gw 157 (Y.load sh37 rfl rfl rfl rfl) ?_
 refine .nil ⟨rfl, ?_⟩
 refine .two 15 17 rfl rfl (by kernel_rfl) ?_ ?_
 refine .guardRun (d := 157) rfl (by decide) rfl ?_
 refine .callP ok65 (bfit_spec (w := w5_j4) (x := c.num) ((by omega))) rfl (.keep rfl rfl (.keep rfl rfl .nil)) (by decide) rfl ?_
 refine .nil ⟨rfl, ?_⟩
 refine .quietN (n := 0) [17, 18, 19, 20] [] 0 rfl (by kernel_rfl) (.rn 17 rfl rfl rfl (Y.load sh37 rfl rfl rfl rfl) (.rn 18 rfl rfl rfl (Y.eql rfl rfl) ?_))
 refine .cn 19 rfl (Y.pick rfl rfl rfl) (.cn 20 rfl (Y.assign rfl rfl) (.nil ?_))
 refine .done (by kernel_rfl) (.ret ?_)
 exact .rb rfl (dd (by (simp only [Fits, OpFits, Cmp, ← hJ4, c144, Int.reduceEq, Bool.not_eq_true, false_and, true_and, and_true, and_false, or_false, false_or, ne_eq]) <;> omega))
 refine .gw 157 (Y.load sh37 rfl rfl rfl rfl) ?_
 refine .nil ⟨rfl, ?_⟩
 refine .one 15 rfl (by kernel_rfl) (.guardRun (d := 157) rfl (by decide) rfl ?_)
 refine .callP ok65 (bfit_spec (w := w5_j4) (x := c.num) ((by omega))) rfl (.keep rfl rfl (.keep rfl rfl .nil)) (by decide) rfl ?_
 refine .nil ⟨rfl, ?_⟩
 refine .quietN (n := 0) [18, 19, 20] [] 0 rfl (by kernel_rfl) (.rn 18 rfl rfl rfl (Y.eql rfl rfl) (.cn 19 rfl (Y.pick rfl rfl rfl) ?_))
 refine .cn 20 rfl (Y.assign rfl rfl) (.nil (.done (by kernel_rfl) ?_))
 refine .ret ?_
 exact .rb rfl (dd (by (simp only [Fits, OpFits, Cmp, ← hJ4, c144, Int.reduceEq, Bool.not_eq_true, false_and, true_and, and_true, and_false, or_false, false_or, ne_eq]) <;> omega))
 refine .gw 157 (Y.load sh37 rfl rfl rfl rfl) ?_
 refine .nil ⟨rfl, ?_⟩
 refine .quietN (n := 4) [14] [15, 18, 19, 20] 15 rfl (by kernel_rfl) (.rn 14 rfl rfl rfl (Y.load sh37 rfl rfl rfl rfl) (.nil ?_))
 refine .one 15 rfl (by kernel_rfl) (.guardRun (d := 157) rfl (by decide) rfl ?_)
 refine .callP ok65 (bfit_spec (w := w5_j4) (x := c.num) ((by omega))) rfl (.keep rfl rfl (.keep rfl rfl .nil)) (by decide) rfl ?_
 refine .nil ⟨rfl, ?_⟩
 refine .quietN (n := 0) [18, 19, 20] [] 0 rfl (by kernel_rfl) (.rn 18 rfl rfl rfl (Y.eql rfl rfl) (.cn 19 rfl (Y.pick rfl rfl rfl) ?_))
 refine .cn 20 rfl (Y.assign rfl rfl) (.nil (.done (by kernel_rfl) ?_))
 refine .ret ?_
 exact .rb rfl (dd (by (simp only [Fits, OpFits, Cmp, ← hJ4, c144, Int.reduceEq, Bool.not_eq_true, false_and, true_and, and_true, and_false, or_false, false_or, ne_eq]) <;> omega))
 refine .skipOp 12 rfl (by kernel_rfl) rfl (by decide) (by decide) rfl rfl (.skipOp 13 rfl (by kernel_rfl) rfl (by decide) (by decide) rfl rfl (.skipOp 14 rfl (by kernel_rfl) rfl (by decide) (by decide) rfl rfl ?_))
 refine .skipOp 15 rfl (by kernel_rfl) rfl (by decide) (by decide) rfl rfl (.skipOp 16 rfl (by kernel_rfl) rfl (by decide) (by decide) rfl rfl (.skipOp 17 rfl (by kernel_rfl) rfl (by decide) (by decide) rfl rfl ?_))
 refine .skipOp 18 rfl (by kernel_rfl) rfl (by decide) (by decide) rfl rfl (.quietN (n := 0) [19, 20] [] 0 rfl (by kernel_rfl) (.cn 19 rfl (Y.pick rfl rfl rfl) ?_))
 refine .cn 20 rfl (Y.assign rfl rfl) (.nil (.done (by kernel_rfl) ?_))
 refine .ret ?_
 exact .rb rfl (df (by (simp only [Fits, OpFits, Cmp, ← hJ4, c144, Int.reduceEq, Bool.not_eq_true, false_and, true_and, and_true, and_false, or_false, false_or, ne_eq]) <;> omega))
 refine .skipOp 5 rfl (by kernel_rfl) rfl (by decide) (by decide) rfl rfl (.skipOp 6 rfl (by kernel_rfl) rfl (by decide) (by decide) rfl rfl (.skipOp 7 rfl (by kernel_rfl) rfl (by decide) (by decide) rfl rfl ?_))
 refine .skipOp 8 rfl (by kernel_rfl) rfl (by decide) (by decide) rfl rfl (.skipOp 9 rfl (by kernel_rfl) rfl (by decide) (by decide) rfl rfl (.one 10 rfl (by kernel_rfl) ?_))
 refine .pk ?_
 refine .nil ⟨rfl, ?_⟩
 refine .blind 11 rfl (by kernel_rfl) (Blind.move rfl rfl) (by decide) (.skipOp 12 rfl (by kernel_rfl) rfl (by decide) (by decide) rfl rfl (.skipOp 13 rfl (by kernel_rfl) rfl (by decide) (by decide) rfl rfl ?_))
 refine .skipOp 14 rfl (by kernel_rfl) rfl (by decide) (by decide) rfl rfl (.skipOp 15 rfl (by kernel_rfl) rfl (by decide) (by decide) rfl rfl (.skipOp 16 rfl (by kernel_rfl) rfl (by decide) (by decide) rfl rfl ?_))
 refine .skipOp 17 rfl (by kernel_rfl) rfl (by decide) (by decide) rfl rfl (.skipOp 18 rfl (by kernel_rfl) rfl (by decide) (by decide) rfl rfl (.quietN (n := 0) [19, 20] [] 0 rfl (by kernel_rfl) ?_))
 refine .cn 19 rfl (Y.pick rfl rfl rfl) (.cn 20 rfl (Y.assign rfl rfl) (.nil ?_))
 refine .done (by kernel_rfl) (.ret ?_)
 exact .rb rfl (df (by (simp only [Fits, OpFits, Cmp, ← hJ4, c144, Int.reduceEq, Bool.not_eq_true, false_and, true_and, and_true, and_false, or_false, false_or, ne_eq]) <;> omega))
 refine .sr (.vl (Y.eql rfl rfl) ?_)
 refine .an ?_
 refine .nil ?_
 refine .condD rfl (fun c166 => ?_) (fun c166 => ?_)
 have hk := hsh.k5 c166
 refine .sr ?_
 refine .mv ?_
 refine .vl (Y.indexO (m := 0) sl22 rfl rfl (by first | rfl | omega) (by first | omega | simp [-List.getD_eq_getElem?_getD] <;> omega)) ?_
 refine .vl (Y.load sh3 rfl (row_getD0 (d := 0) (by omega)) rfl rfl) ?_
 refine .mv ?_
 refine .vl (Y.eql rfl rfl) ?_
 refine .mv ?_
 refine .splitD (d := 173) rfl (fun c173 => ?_) (fun c173 => ?_)
 refine .gw 173 (Y.move rfl rfl) ?_
 refine .gw 173 (Y.indexO (m := 1) sl22 rfl rfl (by first | rfl | omega) (by omega)) ?_
 refine .gw 173 (Y.load sh3 rfl (row_getD0 (d := 0) (by omega)) rfl rfl) ?_
 refine .gw 173 (Y.move rfl rfl) (.gw 173 (Y.eql rfl rfl) ?_)
 refine .pk ?_
 refine .an ?_
 refine .nil (.ret ?_)
 exact .rb rfl (dd (by (simp only [Fits, OpFits, Cmp, ← hJ4, c166, Int.reduceEq, Bool.not_eq_true, false_and, true_and, and_true, and_false, or_false, false_or, ne_eq]) <;> omega))
 refine .gz 173 (.gz 173 (.gz 173 ?_))
 refine .gz 173 (.gz 173 ?_)
 refine .pk ?_
 refine .an ?_
 refine .nil (.ret ?_)
 exact .rb rfl (df (by (simp only [Fits, OpFits, Cmp, ← hJ4, c166, Int.reduceEq, Bool.not_eq_true, false_and, true_and, and_true, and_false, or_false, false_or, ne_eq]) <;> omega))
 refine .sr (.vl (Y.eql rfl rfl) ?_)
 refine .an ?_
 refine .nil ?_
 refine .condD rfl (fun c180 => ?_) (fun c180 => ?_)
 have hk := hsh.k6 c180
 refine .sr ?_
 refine .mv ?_
 refine .vl (Y.indexO (m := 0) sl22 rfl rfl (by first | rfl | omega) (by first | omega | simp [-List.getD_eq_getElem?_getD] <;> omega)) ?_
 refine .vl (Y.load sh3 rfl (row_getD0 (d := 0) (by omega)) rfl rfl) ?_
 refine .vl (Y.eql rfl rfl) ?_
 refine .mv ?_
 refine .splitD (d := 186) rfl (fun c186 => ?_) (fun c186 => ?_)
 refine .gw 186 (Y.fieldAddr fl27_4 rfl rfl) (.gw 186 (Y.load sh24 rfl rfl rfl rfl) (.gw 186 (Y.fieldAddr fl39_5 rfl rfl) ?_))
 refine .gw 186 (Y.load sh3 rfl rfl rfl rfl) ?_
 refine .gw 186 (Y.indexF (m := (c.mem).toNat) sl24 rfl rfl (by omega) (row_getD (d := default) (by omega))) ?_
 refine .gw 186 (Y.fieldAddr fl48_1 rfl rfl) (.gw 186 (Y.load sh3 rfl rfl rfl rfl) (.gw 186 (Y.move rfl rfl) ?_))
 refine .gw 186 (Y.eql rfl rfl) ?_
 refine .pk ?_
 refine .an ?_
 refine .nil (.ret ?_)
 exact .rb rfl (dd (by (simp only [Fits, OpFits, Cmp, ← hJ4, c180, Int.reduceEq, Bool.not_eq_true, false_and, true_and, and_true, and_false, or_false, false_or, ne_eq]) <;> omega))
 refine .gz 186 (.gz 186 (.gz 186 ?_))
 refine .gz 186 (.gz 186 (.gz 186 ?_))
 refine .gz 186 (.gz 186 (.gz 186 ?_))
 refine .pk ?_
 refine .an ?_
 refine .nil (.ret ?_)
 exact .rb rfl (df (by (simp only [Fits, OpFits, Cmp, ← hJ4, c180, Int.reduceEq, Bool.not_eq_true, false_and, true_and, and_true, and_false, or_false, false_or, ne_eq]) <;> omega))
 refine .sr (.vl (Y.eql rfl rfl) ?_)
 refine .an ?_
 refine .nil ?_
 refine .condD rfl (fun c197 => ?_) (fun c197 => ?_)
 have hk := hsh.k7 c197
 refine .seq (.regionS rfl (by kernel_rfl) (.val (Y.move rfl rfl) (by decide) ?_))
 refine .val (Y.indexO (m := 0) sl22 rfl rfl (by first | rfl | omega) (by omega)) (by decide) ?_
 refine .val (Y.load sh3 rfl (row_getD0 (d := 0) (by omega)) rfl rfl) (by decide) ?_
 refine .val (Y.eql rfl rfl) (by decide) (.val (Y.move rfl rfl) (by decide) ?_)
 refine .splitD (d := 203) rfl (fun c203 => ?_) (fun c203 => ?_)
 refine .guardRun (d := 203) rfl (by decide) rfl (.val (Y.fieldAddr fl27_4 rfl rfl) (by decide) (.guardRun (d := 203) rfl (by decide) rfl ?_))
 refine .val (Y.load sh24 rfl rfl rfl rfl) (by decide) (.guardRun (d := 203) rfl (by decide) rfl (.val (Y.fieldAddr fl39_5 rfl rfl) (by decide) ?_))
 refine .guardRun (d := 203) rfl (by decide) rfl (.val (Y.load sh3 rfl rfl rfl rfl) (by decide) (.guardRun (d := 203) rfl (by decide) rfl ?_))
 refine .val (Y.indexF (m := (c.mem).toNat) sl24 rfl rfl (by omega) (row_getD (d := default) (by omega))) (by decide) ?_
 refine .guardRun (d := 203) rfl (by decide) rfl (.val (Y.fieldAddr fl48_1 rfl rfl) (by decide) (.guardRun (d := 203) rfl (by decide) rfl ?_))
 refine .val (Y.load sh3 rfl rfl rfl rfl) (by decide) (.guardRun (d := 203) rfl (by decide) rfl (.val (Y.move rfl rfl) (by decide) ?_))
 refine .guardRun (d := 203) rfl (by decide) rfl ?_
 refine .val (Y.indexO (m := 2) sl22 rfl rfl (by first | rfl | omega) (by omega)) (by decide) ?_
 refine .guardRun (d := 203) rfl (by decide) rfl ?_
 refine .val (Y.load sh3 rfl (row_getD0 (d := 0) (by omega)) rfl rfl) (by decide) ?_
 refine .guardRun (d := 203) rfl (by decide) rfl (.val (Y.eql rfl rfl) (by decide) (.val (Y.pick rfl rfl rfl) (by decide) ?_))
 refine .val (Y.assign rfl rfl) (by decide) (.nil (.ret ?_))
 exact .rb rfl (dd (by (simp only [Fits, OpFits, Cmp, ← hJ4, c197, Int.reduceEq, Bool.not_eq_true, false_and, true_and, and_true, and_false, or_false, false_or, ne_eq]) <;> omega))
 refine .guardSkipV (d := 203) rfl (by decide) (by decide) rfl rfl (.guardSkipV (d := 203) rfl (by decide) (by decide) rfl rfl (.guardSkipV (d := 203) rfl (by decide) (by decide) rfl rfl ?_))
 refine .guardSkipV (d := 203) rfl (by decide) (by decide) rfl rfl (.guardSkipV (d := 203) rfl (by decide) (by decide) rfl rfl (.guardSkipV (d := 203) rfl (by decide) (by decide) rfl rfl ?_))
 refine .guardSkipV (d := 203) rfl (by decide) (by decide) rfl rfl (.guardSkipV (d := 203) rfl (by decide) (by decide) rfl rfl (.guardSkipV (d := 203) rfl (by decide) (by decide) rfl rfl ?_))
 refine .guardSkipV (d := 203) rfl (by decide) (by decide) rfl rfl (.guardSkipV (d := 203) rfl (by decide) (by decide) rfl rfl (.val (Y.pick rfl rfl rfl) (by decide) ?_))
 refine .val (Y.assign rfl rfl) (by decide) (.nil (.ret ?_))
 exact .rb rfl (df (by (simp only [Fits, OpFits, Cmp, ← hJ4, c197, Int.reduceEq, Bool.not_eq_true, false_and, true_and, and_true, and_false, or_false, false_or, ne_eq]) <;> omega))
 refine .sr (.vl (Y.eql rfl rfl) ?_)
 refine .an ?_
 refine .nil ?_
 refine .condD rfl (fun c216 => ?_) (fun c216 => ?_)
 have hk := hsh.k8 c216
 refine .sr ?_
 refine .fa fl27_3 ?_
 refine .ld sh22 ?_
 refine .fa fl39_4 ?_
 refine .ld sh37 ?_
 refine .vl (Y.indexF (m := c.num) sl22 rfl rfl (by first | rfl | omega) (row_getD (d := 0) (by omega))) ?_
 refine .ld sh3 ?_
 refine .mv ?_
 refine .vl (Y.eql rfl rfl) ?_
 refine .an ?_
 refine .nil (.ret ?_)
 exact .rb rfl (dd (by (simp only [Fits, OpFits, Cmp, ← hJ4, c216, Int.reduceEq, Bool.not_eq_true, false_and, true_and, and_true, and_false, or_false, false_or, ne_eq]) <;> omega))
 refine .sr (.vl (Y.eql rfl rfl) ?_)
 refine .an ?_
 refine .nil ?_
 refine .condD rfl (fun c226 => ?_) (fun c226 => ?_)
 refine .sr ?_
 refine .mv ?_
 refine .vl (Y.eql rfl rfl) ?_
 refine .an ?_
 refine .nil (.ret ?_)
 exact .rb rfl (dd (by (simp only [Fits, OpFits, Cmp, ← hJ4, c226, Int.reduceEq, Bool.not_eq_true, false_and, true_and, and_true, and_false, or_false, false_or, ne_eq]) <;> omega))
 have k10 : c.kind = 10 := by have := hsh.kind; omega
 have hk := hsh.k10 k10
 refine .skip (.sr ?_)
 refine .fa fl27_5 ?_
 refine .ld sh25 ?_
 refine .fa fl39_5 ?_
 refine .ld sh3 ?_
 refine .vl (Y.indexF (m := (c.mem).toNat) sl25 rfl rfl (by omega) (row_getD (d := default) (by omega))) ?_
 refine .fa fl83_1 ?_
 refine .ld sh3 ?_
 refine .mv ?_
 refine .vl (Y.eql rfl rfl) ?_
 refine .an ?_
 refine .nil (.ret ?_)
 exact .rb rfl (dd (by (simp only [Fits, OpFits, Cmp, ← hJ4, k10, Int.reduceEq, Bool.not_eq_true, false_and, true_and, and_true, and_false, or_false, false_or, ne_eq]) <;> omega))
end Go.Proofs.Ytligpghohcfpnaa
/- The walk through widths. -/
namespace Go.Proofs.Ytligpghohcfpnaa
open Go Go.AW Go.Proofs
theorem widths1_spec {n : Netlist} {c : Cell} (hs : n.Small) (hf : Formed n) (hc : c ∈ n.cells) : ACalls Try.prog 101 [.agg (Cell.row c), .fp (Netlist.row n) 0] [] [] (fun r o => r = .v (.bool (!decide (Fits n c))) ∧ o = []) := by
 refine ACalls.of Try.func101 rfl rfl rfl (n := 8) (by decide) (nbE rfl) (.sr (.box 102 rfl rfl rfl rfl rfl (by decide) ?_))
 refine .an ?_
 refine .nil (.sr (.vl (Y.loadA sh27 rfl rfl (nbE rfl) rfl rfl) ?_))
 refine .vl (Y.loadA sh39 rfl rfl (nbE rfl) rfl rfl) (.callP ok102 (fits_spec (n := n) (c := c) hs (hs.args _ hc) (hs.nums _ hc) (hf.cell hc).2.1 (hf.cell hc).wired) rfl (.keep rfl rfl (.keep rfl rfl .nil)) (by decide) rfl (.vl (Y.not rfl) ?_))
 refine .an ?_
 refine .nil (.ret ?_)
 exact .rb rfl (rfl)
theorem widths_spec {n : Netlist} (hs : n.Small) (hf : Formed n) : ACalls Try.prog 58 [.agg (Netlist.row n)] [] [] (fun r o => r = .v (.bool (decide (Fit n))) ∧ o = []) := by
 refine ACalls.of Try.func58 rfl rfl rfl (n := 63) (by decide) (nbE rfl) ?_
 have hs1 := hf.nactive; have hs2 := hf.ndata; have hs3 := hf.nstreams; have hs4 := hf.freeze; have hs5 := hf.done; unfold In at hs4 hs5; have hs6 := hf.nwidths; have hs7 := hf.ncells
 refine .sr (.box 101 rfl rfl rfl rfl rfl (by decide) ?_)
 refine .an ?_
 refine .nil (.seq (.sr ?_))
 refine .fa fl27_1 ?_
 refine .ld sh22 ?_
 refine .fa fl27_8 ?_
 refine .ld sh3 ?_
 refine .vl (Y.indexF (m := (n.freeze).toNat) sl22 rfl rfl (by omega) (row_getD (d := 0) (by omega))) ?_
 refine .ld sh3 ?_
 refine .vl (Y.neq rfl rfl) ?_
 refine .mv ?_
 refine .splitD (d := 12) rfl (fun c12 => ?_) (fun c12 => ?_)
 refine .gz 12 (.gz 12 (.gz 12 ?_))
 refine .gz 12 (.gz 12 (.gz 12 ?_))
 refine .gz 12 ?_
 refine .pk ?_
 refine .nil (.condT rfl (.sr ?_))
 refine .an ?_
 refine .nil (.ret ?_)
 exact .rb rfl (df (fun h => by have h1 := h.freeze; have h2 := h.done; unfold Netlist.wd at h1 h2; first | contradiction | omega))
 refine .gw 12 (Y.fieldAddr fl27_1 rfl rfl) (.gw 12 (Y.load sh22 rfl rfl rfl rfl) (.gw 12 (Y.fieldAddr fl27_9 rfl rfl) ?_))
 refine .gw 12 (Y.load sh3 rfl rfl rfl rfl) ?_
 refine .gw 12 (Y.indexF (m := (n.done).toNat) sl22 rfl rfl (by omega) (row_getD (d := 0) (by omega))) ?_
 refine .gw 12 (Y.load sh3 rfl rfl rfl rfl) (.gw 12 (Y.neq rfl rfl) ?_)
 refine .pk ?_
 refine .nil ?_
 refine .condD rfl (fun c20 => ?_) (fun c20 => ?_)
 refine .sr ?_
 refine .an ?_
 refine .nil (.ret ?_)
 exact .rb rfl (df (fun h => by have h1 := h.freeze; have h2 := h.done; unfold Netlist.wd at h1 h2; first | contradiction | omega))
 refine .skip (.seq (.sr ?_))
 refine .fa fl27_5 ?_
 refine .ld sh25 ?_
 refine .vl (Y.len (n := n.streams.length) sl25 rfl (congrArg some (List.length_map ..))) ?_
 refine .mv ?_
 refine .nil (.block ?_)
 refine .loop1 (fun (n24_4 : Nat) => ⟨[(1, .ptr 101 0 0 0), (22, .fz 3 (n.streams.map Strm.row)), (23, vi ((n.streams.length : Nat) : Int)), (24, vi (n24_4 : Int))], [(101, .cells (Netlist.row n))]⟩) (fun (n24_4 : Nat) => ((n24_4 : Int) ≤ ((n.streams.length : Nat) : Int)) ∧ (∀ j, j < n24_4 → StrFit n j)) (fun (n24_4 : Nat) => (((n.streams.length : Nat) : Int) - (n24_4 : Int)).toNat) 0 (⟨by omega, fun j hj => by omega⟩) (Le.mk (.c (.c (.c (.cons (look_int rfl (by first | rfl | omega)) (.nil))))) (.c (.nil))) (fun n24_4 hI4 => ?_)
 obtain ⟨hb4, hst⟩ := hI4
 refine .sr (.vl (Y.lss rfl rfl) (.nil ?_))
 refine .seq ?_
 refine .condD rfl (fun c25 => ?_) (fun c25 => ?_)
 refine .skip ?_
 refine .join2 (fun (n42_j8 : Bool) (n55_j8 : Bool) => ⟨[(1, .ptr 101 0 0 0), (22, .fz 3 (n.streams.map Strm.row)), (23, vi ((n.streams.length : Nat) : Int)), (24, vi (n24_4 : Int)), (40, .ptr 104 0 0 2), (41, .v (.bool ((n.streams.getD n24_4 default).out))), (42, .v (.bool n42_j8)), (55, .v (.bool n55_j8))], [(101, .cells (Netlist.row n)), (104, .cells [.v (.string ((n.streams.getD n24_4 default).name)), vi ((n.streams.getD n24_4 default).width), .v (.bool ((n.streams.getD n24_4 default).out))])]⟩) (fun (n42_j8 : Bool) (n55_j8 : Bool) => StrFit n n24_4) ?_ (fun n42_j8 n55_j8 hJ8 => ?_)
 refine .block (.sr ?_)
 refine .mv ?_
 refine .vl (Y.indexF (m := n24_4) sl25 rfl rfl (by first | rfl | omega) (row_getD (d := default) (by omega))) ?_
 refine .vl (Y.loadA sh83 rfl rfl (nbE rfl) rfl rfl) (.alloc 104 ze83 rfl rfl (by decide) ?_)
 refine .an ?_
 refine .storeC si83 rfl rfl rfl rfl rfl rfl (nbE rfl) rfl (.nil (.seq ?_))
 refine .regionS rfl (by kernel_rfl) ?_
 obtain ⟨_, _, ha1, hd1, _⟩ := hf.strs n24_4 (by omega)
 unfold In at ha1 hd1
 refine .val (Y.fieldAddr fl27_1 rfl rfl) (by decide) (.val (Y.load sh22 rfl rfl rfl rfl) (by decide) (.val (Y.fieldAddr fl27_6 rfl rfl) (by decide) ?_))
 refine .val (Y.load sh22 rfl rfl rfl rfl) (by decide) (.val (Y.move rfl rfl) (by decide) ?_)
 refine .val (Y.indexF (m := n24_4) sl22 rfl rfl (by first | rfl | omega) (row_getD (d := 0) (by omega))) (by decide) ?_
 refine .val (Y.load sh3 rfl rfl rfl rfl) (by decide) ?_
 refine .val (Y.indexF (m := (n.active.getD n24_4 0).toNat) sl22 rfl rfl (by omega) (row_getD (d := 0) (by omega))) (by decide) ?_
 refine .val (Y.load sh3 rfl rfl rfl rfl) (by decide) (.val (Y.neq rfl rfl) (by decide) (.val (Y.move rfl rfl) (by decide) ?_))
 refine .splitD (d := 39) rfl (fun c39 => ?_) (fun c39 => ?_)
 refine .guardSkipV (d := 39) rfl (by decide) (by decide) rfl rfl (.guardSkipV (d := 39) rfl (by decide) (by decide) rfl rfl (.guardSkipV (d := 39) rfl (by decide) (by decide) rfl rfl ?_))
 refine .guardSkipV (d := 42) rfl (by decide) (by decide) rfl rfl (.guardSkipV (d := 42) rfl (by decide) (by decide) rfl rfl (.guardSkipV (d := 42) rfl (by decide) (by decide) rfl rfl ?_))
 refine .guardSkipV (d := 42) rfl (by decide) (by decide) rfl rfl (.guardSkipV (d := 42) rfl (by decide) (by decide) rfl rfl (.guardSkipV (d := 42) rfl (by decide) (by decide) rfl rfl ?_))
 refine .guardSkipV (d := 42) rfl (by decide) (by decide) rfl rfl (.guardSkipV (d := 42) rfl (by decide) (by decide) rfl rfl (.guardSkipV (d := 42) rfl (by decide) (by decide) rfl rfl ?_))
 refine .guardSkipV (d := 42) rfl (by decide) (by decide) rfl rfl (.guardSkipV (d := 42) rfl (by decide) (by decide) rfl rfl (.guardSkipV (d := 42) rfl (by decide) (by decide) rfl rfl ?_))
 refine .guardSkipV (d := 39) rfl (by decide) (by decide) rfl rfl (.val (Y.pick rfl rfl rfl) (by decide) (.nil ?_))
 refine .condT rfl (.sr ?_)
 refine .an ?_
 refine .nil (.ret ?_)
 exact .rb rfl (df (fun h => by have h1 := h.strs n24_4 (by omega); unfold StrFit Netlist.wd at h1; grind))
 refine .guardRun (d := 39) rfl (by decide) rfl (.val (Y.fieldAddr fl83_2 rfl rfl) (by decide) (.guardRun (d := 39) rfl (by decide) rfl ?_))
 refine .val (Y.load sh4 rfl rfl rfl rfl) (by decide) (.guardRun (d := 39) rfl (by decide) rfl (.val (Y.move rfl rfl) (by decide) ?_))
 refine .split (d := 42) rfl (fun c42 => ?_) (fun c42 => ?_)
 have hd2 := hd1 (by assumption)
 refine .guardRun (d := 42) rfl (by decide) rfl (.val (Y.fieldAddr fl27_1 rfl rfl) (by decide) (.guardRun (d := 42) rfl (by decide) rfl ?_))
 refine .val (Y.load sh22 rfl rfl rfl rfl) (by decide) (.guardRun (d := 42) rfl (by decide) rfl (.val (Y.fieldAddr fl27_7 rfl rfl) (by decide) ?_))
 refine .guardRun (d := 42) rfl (by decide) rfl (.val (Y.load sh22 rfl rfl rfl rfl) (by decide) (.guardRun (d := 42) rfl (by decide) rfl ?_))
 refine .val (Y.move rfl rfl) (by decide) (.guardRun (d := 42) rfl (by decide) rfl ?_)
 refine .val (Y.indexF (m := n24_4) sl22 rfl rfl (by first | rfl | omega) (row_getD (d := 0) (by omega))) (by decide) ?_
 refine .guardRun (d := 42) rfl (by decide) rfl (.val (Y.load sh3 rfl rfl rfl rfl) (by decide) (.guardRun (d := 42) rfl (by decide) rfl ?_))
 refine .val (Y.indexF (m := (n.data.getD n24_4 0).toNat) sl22 rfl rfl (by omega) (row_getD (d := 0) (by omega))) (by decide) ?_
 refine .guardRun (d := 42) rfl (by decide) rfl (.val (Y.load sh3 rfl rfl rfl rfl) (by decide) (.guardRun (d := 42) rfl (by decide) rfl ?_))
 refine .val (Y.fieldAddr fl83_1 rfl rfl) (by decide) (.guardRun (d := 42) rfl (by decide) rfl (.val (Y.load sh3 rfl rfl rfl rfl) (by decide) ?_))
 refine .guardRun (d := 42) rfl (by decide) rfl (.val (Y.neq rfl rfl) (by decide) (.guardRun (d := 39) rfl (by decide) rfl ?_))
 refine .val (Y.pick rfl rfl rfl) (by decide) (.val (Y.pick rfl rfl rfl) (by decide) (.nil ?_))
 refine .condD rfl (fun c56 => ?_) (fun c56 => ?_)
 refine .sr ?_
 refine .an ?_
 refine .nil (.ret ?_)
 exact .rb rfl (df (fun h => by have h1 := h.strs n24_4 (by omega); unfold StrFit Netlist.wd at h1; grind))
 refine .skip ?_
 exact ⟨true, decide ((n.widths.getD ((n.data.getD n24_4 0).toNat) 0) ≠ ((n.streams.getD n24_4 default).width)), by unfold StrFit Netlist.wd; grind, Le.mk (.c (.c (.c (.c (.c (.c (.cons (look_bool rfl (by first | rfl | simp_all)) (.cons (look_bool rfl (by first | rfl | simp_all)) (.nil))))))))) (.c (.c (.nil)))⟩
 refine .guardSkipV (d := 42) rfl (by decide) (by decide) rfl rfl (.guardSkipV (d := 42) rfl (by decide) (by decide) rfl rfl (.guardSkipV (d := 42) rfl (by decide) (by decide) rfl rfl ?_))
 refine .guardSkipV (d := 42) rfl (by decide) (by decide) rfl rfl (.guardSkipV (d := 42) rfl (by decide) (by decide) rfl rfl (.guardSkipV (d := 42) rfl (by decide) (by decide) rfl rfl ?_))
 refine .guardSkipV (d := 42) rfl (by decide) (by decide) rfl rfl (.guardSkipV (d := 42) rfl (by decide) (by decide) rfl rfl (.guardSkipV (d := 42) rfl (by decide) (by decide) rfl rfl ?_))
 refine .guardSkipV (d := 42) rfl (by decide) (by decide) rfl rfl (.guardSkipV (d := 42) rfl (by decide) (by decide) rfl rfl (.guardSkipV (d := 42) rfl (by decide) (by decide) rfl rfl ?_))
 refine .guardRun (d := 39) rfl (by decide) rfl (.val (Y.pick rfl rfl rfl) (by decide) (.val (Y.pick rfl rfl rfl) (by decide) ?_))
 refine .nil (.condF rfl (.skip ?_))
 exact ⟨false, false, by unfold StrFit Netlist.wd; grind, Le.mk (.c (.c (.c (.c (.c (.c (.cons (look_bool rfl (by first | rfl | simp_all)) (.cons (look_bool rfl (by first | rfl | simp_all)) (.nil))))))))) (.c (.c (.nil)))⟩
 refine .region ?_
 refine .vl (Y.addI rfl rfl (by omega)) ?_
 refine .mv ?_
 refine .nil ?_
 exact ⟨n24_4 + 1, ⟨by omega, below_succ' hst hJ8⟩, by omega, Le.mk (.c (.c (.c (.cons (look_int rfl (by first | rfl | omega)) (.nil))))) (.c (.nil))⟩
 refine .exit (.sr ?_)
 refine .fa fl27_2 ?_
 refine .ld sh23 ?_
 refine .sh (Sh.freezeO 101 rfl rfl) (.vl (Y.makeFunc rfl rfl rfl rfl) ?_)
 refine .callP ok100 (containsFuncCell_spec (l := n.cells) (p := fun z => !decide (Fits n z)) ((by omega)) ok101 (fun z hz => widths1_spec hs hf hz)) rfl (.keep rfl rfl (.keep rfl rfl .nil)) (by decide) rfl ?_
 refine .vl (Y.not rfl) ?_
 refine .an ?_
 refine .nil (.ret ?_)
 exact .rb rfl (db (not_any_fit (by unfold Netlist.wd; omega) (by unfold Netlist.wd; omega) (fun j hj => hst j (by omega))))
end Go.Proofs.Ytligpghohcfpnaa
/- The walk through Order. -/
namespace Go.Proofs.Ytligpghohcfpnaa
open Go Go.AW Go.Proofs
theorem order_spec {n : Netlist} (hs : n.Small) (hwi : n.widths.length + n.ins.length ≤ 17592186044416) : ACalls Try.prog 20 [.agg (Netlist.row n)] [] [] (fun r o => ∃ (l : List Int) (e : Int), OrderRes n l e ∧ r = .tup [.uni 1 (l.map irow), vi e] ∧ o = []) := by
 refine ACalls.of Try.func20 rfl rfl rfl (n := 169) (by decide) (nbE rfl) (.sr (.box 101 rfl rfl rfl rfl rfl (by decide) ?_))
 refine .an ?_
 refine .an ?_
 refine .nil (.seq (.sr ?_))
 refine .vl (Y.loadA sh27 rfl rfl (nbE rfl) rfl rfl) ?_
 refine .callP ok57 (formed_spec (n := n) hs ((by omega))) rfl (.keep rfl rfl .nil) (by decide) rfl ?_
 refine .vl (Y.not rfl) (.nil ?_)
 refine .cond rfl (fun c22 => ?_) (fun c22 => ?_)
 replace c22 : ¬ (Formed n) := by simpa using c22
 refine .sr ?_
 refine .an ?_
 refine .an ?_
 refine .nil (.sh (Sh.nilU (d := 2) 1 rfl) (.ret ?_))
 exact ⟨_, _, rfl, rfl, ([] : List Int), 3, .inl ⟨by assumption, rfl, rfl⟩, rfl, rfl⟩
 replace c22 : Formed n := by simpa using c22
 have hf : Formed n := by assumption
 refine .skip (.seq (.sr ?_))
 refine .vl (Y.loadA sh27 rfl rfl (nbE rfl) rfl rfl) (.callP ok58 (widths_spec (n := n) hs (by assumption)) rfl (.keep rfl rfl .nil) (by decide) rfl (.vl (Y.not rfl) ?_))
 refine .nil ?_
 refine .cond rfl (fun c25 => ?_) (fun c25 => ?_)
 replace c25 : ¬ (Fit n) := by simpa using c25
 refine .sr ?_
 refine .an ?_
 refine .an ?_
 refine .nil (.sh (Sh.nilU (d := 2) 1 rfl) (.ret ?_))
 exact ⟨_, _, rfl, rfl, ([] : List Int), 13, .inr (.inl ⟨by assumption, by assumption, rfl, rfl⟩), rfl, rfl⟩
 replace c25 : Fit n := by simpa using c25
 have hft : Fit n := by assumption
 have hz1 := hf.ncells; have hz2 := hf.nwidths
 refine .skip (.sr ?_)
 refine .an ?_
 refine .sh (Sh.nil (d := 4) 104 1 rfl (by decide)) (.nil (.sr ?_))
 refine .fa fl27_2 ?_
 refine .ld sh23 ?_
 refine .vl (Y.len (n := n.cells.length) sl23 rfl (congrArg some (List.length_map ..))) ?_
 refine .makeSlice (n := n.cells.length) sl22 ze3 rfl rfl rfl rfl (by omega) (by omega) (by decide) ?_
 refine .assignX rfl (by decide) (.sh (Sh.adoptE (d := 5) (n := n.cells.length) 105 ((List.replicate n.cells.length 0).map irow) rfl (by first | rfl | exact rep_map rfl) (len_map (by simp)) (by decide)) (.nil ?_))
 refine .sr ?_
 refine .fa fl27_1 ?_
 refine .ld sh22 ?_
 refine .vl (Y.len (n := n.widths.length) sl22 rfl (congrArg some (List.length_map ..))) ?_
 refine .makeSlice (n := n.widths.length) sl92 ze22 rfl rfl rfl rfl (by omega) (by omega) (by decide) ?_
 refine .sh (Sh.nilRows (d := 33) 1 rfl) (.assignX rfl (by decide) (.sh (Sh.adoptE (d := 6) (n := n.widths.length) 106 ((List.replicate n.widths.length []).map orow) rfl (by first | rfl | exact rep_map rfl) (len_map (by simp)) (by decide)) ?_))
 refine .nil (.sr ?_)
 refine .fa fl27_1 ?_
 refine .ld sh22 ?_
 refine .vl (Y.len (n := n.widths.length) sl22 rfl (congrArg some (List.length_map ..))) ?_
 refine .makeSlice (n := n.widths.length) sl63 ze4 rfl rfl rfl rfl (by omega) (by omega) (by decide) ?_
 refine .assignX rfl (by decide) (.sh (Sh.adoptE (d := 7) (n := n.widths.length) 107 ((List.replicate n.widths.length false).map brow) rfl (by first | rfl | exact rep_map rfl) (len_map (by simp)) (by decide)) (.nil ?_))
 refine .seq (.sr ?_)
 refine .fa fl27_2 ?_
 refine .ld sh23 ?_
 refine .vl (Y.len (n := n.cells.length) sl23 rfl (congrArg some (List.length_map ..))) ?_
 refine .mv ?_
 refine .nil (.block ?_)
 refine .loop2 (fun (n41_10 : Nat) (comb7_10 : List Bool) => ⟨[(1, .ptr 101 0 0 0), (4, .slc 104 1 0 0), (5, .slc 105 1 0 n.cells.length), (6, .slc 106 1 0 n.widths.length), (7, .slc 107 1 0 n.widths.length), (39, .fz 6 (n.cells.map Cell.row)), (40, vi ((n.cells.length : Nat) : Int)), (41, vi (n41_10 : Int))], [(101, .cells (Netlist.row n)), (104, .rows 1 (([] : List Int).map irow)), (105, .rows 1 ((List.replicate n.cells.length 0).map irow)), (106, .rows 1 ((List.replicate n.widths.length []).map orow)), (107, .rows 1 (comb7_10.map brow))]⟩) (fun (n41_10 : Nat) (comb7_10 : List Bool) => (comb7_10.length = n.widths.length) ∧ ((n41_10 : Int) ≤ ((n.cells.length : Nat) : Int)) ∧ (CombInv n n41_10 comb7_10)) (fun (n41_10 : Nat) (comb7_10 : List Bool) => (((n.cells.length : Nat) : Int) - (n41_10 : Int)).toNat) 0 (List.replicate n.widths.length false) (⟨by first | omega | (simp [-List.getD_eq_getElem?_getD]; done) | (simp [-List.getD_eq_getElem?_getD]; omega) | (unfold In at *; omega), by first | omega | (simp [-List.getD_eq_getElem?_getD]; done) | (simp [-List.getD_eq_getElem?_getD]; omega) | (unfold In at *; omega), CombInv.init n⟩) (Le.mk (.c (.c (.c (.c (.c (.c (.c (.cons (look_int rfl (by first | rfl | omega)) (.nil))))))))) (.c (.c (.c (.c (.c (.nil))))))) (fun n41_10 comb7_10 hI10 => ?_)
 obtain ⟨hl107, hb10, hci⟩ := hI10
 refine .sr (.vl (Y.lss rfl rfl) (.nil ?_))
 refine .seq ?_
 refine .condD rfl (fun c42 => ?_) (fun c42 => ?_)
 refine .skip ?_
 refine .join1 (fun (comb7_j14 : List Bool) => ⟨[(1, .ptr 101 0 0 0), (4, .slc 104 1 0 0), (5, .slc 105 1 0 n.cells.length), (6, .slc 106 1 0 n.widths.length), (7, .slc 107 1 0 n.widths.length), (39, .fz 6 (n.cells.map Cell.row)), (40, vi ((n.cells.length : Nat) : Int)), (41, vi (n41_10 : Int))], [(101, .cells (Netlist.row n)), (104, .rows 1 (([] : List Int).map irow)), (105, .rows 1 ((List.replicate n.cells.length 0).map irow)), (106, .rows 1 ((List.replicate n.widths.length []).map orow)), (107, .rows 1 (comb7_j14.map brow))]⟩) (fun (comb7_j14 : List Bool) => (comb7_j14.length = n.widths.length) ∧ (CombInv n (n41_10 + 1) comb7_j14)) ?_ (fun comb7_j14 hJx14 => ?_)
 refine .block (.sr ?_)
 refine .vl (Y.indexF (m := n41_10) sl23 rfl rfl (by first | rfl | omega) (row_getD (d := default) (by omega))) ?_
 refine .vl (Y.loadA sh39 rfl rfl (nbE rfl) rfl rfl) (.alloc 109 ze39 rfl rfl (by decide) (.storeC si39 rfl rfl rfl rfl rfl rfl (nbE rfl) rfl ?_))
 refine .nil (.sr ?_)
 refine .fa fl39_0 ?_
 refine .ld sh3 ?_
 refine .callP ok21 (comb_spec (w := ((n.cells.getD n41_10 default).kind))) rfl (.keep rfl rfl .nil) (by decide) rfl (.nil ?_)
 refine .condD rfl (fun c47 => ?_) (fun c47 => ?_)
 have hw1 := hf.outIn (CombAt.drives (n := n) (i := (n41_10 : Int)) ⟨⟨by omega, by omega⟩, c47⟩)
 rw [cell_nat] at hw1
 have hw2 := hw1; unfold In at hw2
 refine .region ?_
 refine .mv ?_
 refine .fa fl39_2 ?_
 refine .ld sh3 ?_
 refine .vl (Y.indexO (m := ((n.cells.getD n41_10 default).out).toNat) sl63 rfl rfl (by omega) (by omega)) ?_
 refine .storeE ((comb7_10.set (((n.cells.getD n41_10 default).out).toNat) true).map brow) si4 rfl rfl rfl rfl rfl rfl rfl (row_getD0 (d := false) (by omega)) (nbE rfl) (set_map0 rfl) ?_
 refine .nil ?_
 exact ⟨comb7_10.set (((n.cells.getD n41_10 default).out).toNat) true, ⟨by first | omega | (simp [-List.getD_eq_getElem?_getD]; done) | (simp [-List.getD_eq_getElem?_getD]; omega) | (unfold In at *; omega), hci.step (by omega) hl107 c47 hw1⟩, Le.mk (.c (.c (.c (.c (.c (.c (.c (.c (.nil))))))))) (.c (.c (.c (.c (.c (.nil))))))⟩
 refine .skip ?_
 exact ⟨comb7_10, ⟨by omega, hci.skip c47⟩, Le.mk (.c (.c (.c (.c (.c (.c (.c (.c (.nil))))))))) (.c (.c (.c (.c (.c (.nil))))))⟩
 obtain ⟨hlj14_107, hJ14⟩ := hJx14
 refine .region ?_
 refine .vl (Y.addI rfl rfl (by omega)) ?_
 refine .mv ?_
 refine .nil ?_
 exact ⟨n41_10 + 1, comb7_j14, ⟨by omega, by omega, hJ14⟩, by omega, Le.mk (.c (.c (.c (.c (.c (.c (.c (.cons (look_int rfl (by first | rfl | omega)) (.nil))))))))) (.c (.c (.c (.c (.c (.nil))))))⟩
 refine .exit (.seq (.seq ?_))
 have hci2 : CombInv n n.cells.length comb7_10 := by rw [show n.cells.length = n41_10 by omega]; exact hci
 refine .region ?_
 refine .fa fl27_2 ?_
 refine .ld sh23 ?_
 refine .vl (Y.len (n := n.cells.length) sl23 rfl (congrArg some (List.length_map ..))) ?_
 refine .mv ?_
 refine .nil (.block ?_)
 refine .loop2 (fun (n56_16 : Nat) (out4_16 : List Int) => ⟨[(1, .ptr 101 0 0 0), (4, .slc 104 1 0 out4_16.length), (5, .slc 105 1 0 n.cells.length), (6, .slc 106 1 0 n.widths.length), (7, .slc 107 1 0 n.widths.length), (54, .fz 6 (n.cells.map Cell.row)), (55, vi ((n.cells.length : Nat) : Int)), (56, vi (n56_16 : Int))], [(101, .cells (Netlist.row n)), (104, .rows 1 (out4_16.map irow)), (105, .rows 1 ((List.replicate n.cells.length 0).map irow)), (106, .rows 1 ((List.replicate n.widths.length []).map orow)), (107, .rows 1 (comb7_10.map brow))]⟩) (fun (n56_16 : Nat) (out4_16 : List Int) => ((n56_16 : Int) ≤ ((n.cells.length : Nat) : Int)) ∧ (out4_16 = seqL n n56_16)) (fun (n56_16 : Nat) (out4_16 : List Int) => (((n.cells.length : Nat) : Int) - (n56_16 : Int)).toNat) 0 ([] : List Int) (⟨by first | omega | (simp [-List.getD_eq_getElem?_getD]; done) | (simp [-List.getD_eq_getElem?_getD]; omega) | (unfold In at *; omega), rfl⟩) (Le.mk (.c (.cons (look_slc rfl (by first | omega | (simp [-List.getD_eq_getElem?_getD]; done) | (simp [-List.getD_eq_getElem?_getD]; omega) | (unfold In at *; omega))) (.c (.c (.c (.c (.c (.cons (look_int rfl (by first | rfl | omega)) (.nil))))))))) (.c (.c (.c (.c (.c (.nil))))))) (fun n56_16 out4_16 hI16 => ?_)
 obtain ⟨hb16, hsq⟩ := hI16
 refine .sr (.vl (Y.lss rfl rfl) (.nil ?_))
 refine .seq ?_
 refine .condD rfl (fun c57 => ?_) (fun c57 => ?_)
 refine .skip ?_
 refine .join1 (fun (out4_j20 : List Int) => ⟨[(1, .ptr 101 0 0 0), (4, .slc 104 1 0 out4_j20.length), (5, .slc 105 1 0 n.cells.length), (6, .slc 106 1 0 n.widths.length), (7, .slc 107 1 0 n.widths.length), (54, .fz 6 (n.cells.map Cell.row)), (55, vi ((n.cells.length : Nat) : Int)), (56, vi (n56_16 : Int))], [(101, .cells (Netlist.row n)), (104, .rows 1 (out4_j20.map irow)), (105, .rows 1 ((List.replicate n.cells.length 0).map irow)), (106, .rows 1 ((List.replicate n.widths.length []).map orow)), (107, .rows 1 (comb7_10.map brow))]⟩) (fun (out4_j20 : List Int) => out4_j20 = seqL n (n56_16 + 1)) ?_ (fun out4_j20 hJ20 => ?_)
 refine .block (.sr ?_)
 refine .mv ?_
 refine .vl (Y.indexF (m := n56_16) sl23 rfl rfl (by first | rfl | omega) (row_getD (d := default) (by omega))) ?_
 refine .vl (Y.loadA sh39 rfl rfl (nbE rfl) rfl rfl) (.alloc 111 ze39 rfl rfl (by decide) ?_)
 refine .an ?_
 refine .storeC si39 rfl rfl rfl rfl rfl rfl (nbE rfl) rfl (.nil (.sr ?_))
 have hsl := seqL_len n n56_16; rw [← hsq] at hsl
 refine .fa fl39_0 ?_
 refine .ld sh3 ?_
 refine .callP ok21 (comb_spec (w := ((n.cells.getD n56_16 default).kind))) rfl (.keep rfl rfl .nil) (by decide) rfl (.vl (Y.not rfl) (.nil ?_))
 refine .cond rfl (fun c64 => ?_) (fun c64 => ?_)
 replace c64 : ¬ (Comb ((n.cells.getD n56_16 default).kind)) := by simpa using c64
 refine .region ?_
 refine .mv ?_
 refine .mv ?_
 refine .buildSlice (([(n56_16 : Int)] : List Int).map irow) sl22 ze3 rfl rfl rfl rfl rfl (uniform_map (s := 1) (f := irow) (fun _ => rfl)) rfl rfl rfl (by decide) ?_
 refine .appendE ((out4_16 ++ ([(n56_16 : Int)] : List Int)).map irow) (out4_16 ++ ([(n56_16 : Int)] : List Int)).length sl22 ze3 rfl rfl rfl rfl (app_le (by first | omega | (simp [-List.getD_eq_getElem?_getD]; done) | (simp [-List.getD_eq_getElem?_getD]; omega) | (unfold In at *; omega))) (app_map (by first | omega | (simp [-List.getD_eq_getElem?_getD]; done) | (simp [-List.getD_eq_getElem?_getD]; omega) | (unfold In at *; omega))) (app_n (by first | omega | (simp [-List.getD_eq_getElem?_getD]; done) | (simp [-List.getD_eq_getElem?_getD]; omega) | (unfold In at *; omega))) (by first | omega | (simp [-List.getD_eq_getElem?_getD]; done) | (simp [-List.getD_eq_getElem?_getD]; omega) | (unfold In at *; omega)) (by first | omega | (simp [-List.getD_eq_getElem?_getD]; done) | (simp [-List.getD_eq_getElem?_getD]; omega) | (unfold In at *; omega)) (by decide) (by decide) ?_
 refine .an ?_
 refine .nil ?_
 exact ⟨out4_16 ++ ([(n56_16 : Int)] : List Int), by rw [seqL_succ, if_neg c64, hsq], Le.mk (.c (.cons (look_slc rfl (by omega)) (.c (.c (.c (.c (.c (.c (.nil))))))))) (.c (.c (.c (.c (.c (.nil))))))⟩
 replace c64 : Comb ((n.cells.getD n56_16 default).kind) := by simpa using c64
 refine .skip ?_
 exact ⟨out4_16, by rw [seqL_succ, if_pos c64, hsq, List.append_nil], Le.mk (.c (.cons (look_slc rfl (by omega)) (.c (.c (.c (.c (.c (.c (.nil))))))))) (.c (.c (.c (.c (.c (.nil))))))⟩
 refine .region ?_
 refine .vl (Y.addI rfl rfl (by omega)) ?_
 refine .mv ?_
 refine .nil ?_
 exact ⟨n56_16 + 1, out4_j20, ⟨by omega, hJ20⟩, by omega, Le.mk (.c (.cons (look_slc rfl (by omega)) (.c (.c (.c (.c (.c (.cons (look_int rfl (by first | rfl | omega)) (.nil))))))))) (.c (.c (.c (.c (.c (.nil))))))⟩
 refine .exit (.sr ?_)
 refine .an ?_
 refine .sh (Sh.nil (d := 12) 112 1 rfl (by decide)) (.nil (.seq ?_))
 refine .sr ?_
 refine .fa fl27_2 ?_
 refine .ld sh23 ?_
 refine .vl (Y.len (n := n.cells.length) sl23 rfl (congrArg some (List.length_map ..))) ?_
 refine .mv ?_
 refine .nil (.block ?_)
 refine .loop4 (fun (n73_23 : Nat) (remaining5_23 : List Int) (users6_23 : List (List Int)) (ready12_23 : List Int) => ⟨[(1, .ptr 101 0 0 0), (4, .slc 104 1 0 out4_16.length), (5, .slc 105 1 0 n.cells.length), (6, .slc 106 1 0 n.widths.length), (7, .slc 107 1 0 n.widths.length), (12, .slc 112 1 0 ready12_23.length), (71, .fz 6 (n.cells.map Cell.row)), (72, vi ((n.cells.length : Nat) : Int)), (73, vi (n73_23 : Int))], [(101, .cells (Netlist.row n)), (104, .rows 1 (out4_16.map irow)), (105, .rows 1 (remaining5_23.map irow)), (106, .rows 1 (users6_23.map orow)), (107, .rows 1 (comb7_10.map brow)), (112, .rows 1 (ready12_23.map irow))]⟩) (fun (n73_23 : Nat) (remaining5_23 : List Int) (users6_23 : List (List Int)) (ready12_23 : List Int) => (remaining5_23.length = n.cells.length) ∧ (users6_23.length = n.widths.length) ∧ ((n73_23 : Int) ≤ ((n.cells.length : Nat) : Int)) ∧ (BI n n73_23 remaining5_23 users6_23 ready12_23)) (fun (n73_23 : Nat) (remaining5_23 : List Int) (users6_23 : List (List Int)) (ready12_23 : List Int) => (((n.cells.length : Nat) : Int) - (n73_23 : Int)).toNat) 0 (List.replicate n.cells.length 0) (List.replicate n.widths.length []) ([] : List Int) (⟨by first | omega | (simp [-List.getD_eq_getElem?_getD]; done) | (simp [-List.getD_eq_getElem?_getD]; omega) | (unfold In at *; omega), by first | omega | (simp [-List.getD_eq_getElem?_getD]; done) | (simp [-List.getD_eq_getElem?_getD]; omega) | (unfold In at *; omega), by first | omega | (simp [-List.getD_eq_getElem?_getD]; done) | (simp [-List.getD_eq_getElem?_getD]; omega) | (unfold In at *; omega), BI.init n⟩) (Le.mk (.c (.c (.c (.c (.c (.cons (look_slc rfl (by first | omega | (simp [-List.getD_eq_getElem?_getD]; done) | (simp [-List.getD_eq_getElem?_getD]; omega) | (unfold In at *; omega))) (.c (.c (.cons (look_int rfl (by first | rfl | omega)) (.nil)))))))))) (.c (.c (.c (.c (.c (.c (.nil)))))))) (fun n73_23 remaining5_23 users6_23 ready12_23 hI23 => ?_)
 obtain ⟨hl105, hl106, hb23, hbi⟩ := hI23
 refine .sr (.vl (Y.lss rfl rfl) (.nil ?_))
 refine .seq ?_
 refine .condD rfl (fun c74 => ?_) (fun c74 => ?_)
 refine .skip ?_
 refine .join3 (fun (remaining5_j35 : List Int) (users6_j35 : List (List Int)) (ready12_j35 : List Int) => ⟨[(1, .ptr 101 0 0 0), (4, .slc 104 1 0 out4_16.length), (5, .slc 105 1 0 n.cells.length), (6, .slc 106 1 0 n.widths.length), (7, .slc 107 1 0 n.widths.length), (12, .slc 112 1 0 ready12_j35.length), (71, .fz 6 (n.cells.map Cell.row)), (72, vi ((n.cells.length : Nat) : Int)), (73, vi (n73_23 : Int))], [(101, .cells (Netlist.row n)), (104, .rows 1 (out4_16.map irow)), (105, .rows 1 (remaining5_j35.map irow)), (106, .rows 1 (users6_j35.map orow)), (107, .rows 1 (comb7_10.map brow)), (112, .rows 1 (ready12_j35.map irow))]⟩) (fun (remaining5_j35 : List Int) (users6_j35 : List (List Int)) (ready12_j35 : List Int) => (remaining5_j35.length = n.cells.length) ∧ ((users6_j35.length = n.widths.length) ∧ (BI n (n73_23 + 1) remaining5_j35 users6_j35 ready12_j35))) ?_ (fun remaining5_j35 users6_j35 ready12_j35 hJx35 => ?_)
 refine .block (.sr ?_)
 refine .mv ?_
 refine .vl (Y.indexF (m := n73_23) sl23 rfl rfl (by first | rfl | omega) (row_getD (d := default) (by omega))) ?_
 refine .vl (Y.loadA sh39 rfl rfl (nbE rfl) rfl rfl) (.alloc 114 ze39 rfl rfl (by decide) ?_)
 refine .an ?_
 refine .storeC si39 rfl rfl rfl rfl rfl rfl (nbE rfl) rfl (.nil (.seq ?_))
 refine .sr ?_
 have hca := hs.args (n.cells.getD n73_23 default) (getD_mem' (by omega))
 have hrl := hbi.rl
 refine .fa fl39_0 ?_
 refine .ld sh3 ?_
 refine .callP ok21 (comb_spec (w := ((n.cells.getD n73_23 default).kind))) rfl (.keep rfl rfl .nil) (by decide) rfl (.vl (Y.not rfl) (.nil ?_))
 refine .cond rfl (fun c81 => ?_) (fun c81 => ?_)
 replace c81 : ¬ (Comb ((n.cells.getD n73_23 default).kind)) := by simpa using c81
 refine .exit ?_
 exact ⟨remaining5_23, users6_23, ready12_23, ⟨by omega, ⟨by omega, hbi.skip (by omega) c81⟩⟩, Le.mk (.c (.c (.c (.c (.c (.cons (look_slc rfl (by omega)) (.c (.c (.c (.nil)))))))))) (.c (.c (.c (.c (.c (.c (.nil)))))))⟩
 replace c81 : Comb ((n.cells.getD n73_23 default).kind) := by simpa using c81
 refine .skip (.seq (.sr ?_))
 refine .fa fl39_3 ?_
 refine .ld sh22 ?_
 refine .vl (Y.len (n := ((n.cells.getD n73_23 default).args).length) sl22 rfl (congrArg some (List.length_map ..))) ?_
 refine .mv ?_
 refine .nil (.block ?_)
 refine .loop3 (fun (n85_27 : Nat) (remaining5_27 : List Int) (users6_27 : List (List Int)) => ⟨[(1, .ptr 101 0 0 0), (4, .slc 104 1 0 out4_16.length), (5, .slc 105 1 0 n.cells.length), (6, .slc 106 1 0 n.widths.length), (7, .slc 107 1 0 n.widths.length), (12, .slc 112 1 0 ready12_23.length), (13, vi (n73_23 : Int)), (71, .fz 6 (n.cells.map Cell.row)), (72, vi ((n.cells.length : Nat) : Int)), (73, vi (n73_23 : Int)), (83, .fz 1 (((n.cells.getD n73_23 default).args).map irow)), (84, vi ((((n.cells.getD n73_23 default).args).length : Nat) : Int)), (85, vi (n85_27 : Int))], [(101, .cells (Netlist.row n)), (104, .rows 1 (out4_16.map irow)), (105, .rows 1 (remaining5_27.map irow)), (106, .rows 1 (users6_27.map orow)), (107, .rows 1 (comb7_10.map brow)), (112, .rows 1 (ready12_23.map irow))]⟩) (fun (n85_27 : Nat) (remaining5_27 : List Int) (users6_27 : List (List Int)) => (remaining5_27.length = n.cells.length) ∧ (users6_27.length = n.widths.length) ∧ ((n85_27 : Int) ≤ ((((n.cells.getD n73_23 default).args).length : Nat) : Int)) ∧ (BJ n n73_23 n85_27 remaining5_23 users6_23 remaining5_27 users6_27)) (fun (n85_27 : Nat) (remaining5_27 : List Int) (users6_27 : List (List Int)) => (((((n.cells.getD n73_23 default).args).length : Nat) : Int) - (n85_27 : Int)).toNat) 0 remaining5_23 users6_23 (⟨by omega, by omega, by omega, BJ.init hbi (by omega)⟩) (Le.mk (.c (.c (.c (.c (.c (.c (.c (.c (.c (.c (.c (.c (.cons (look_int rfl (by first | rfl | omega)) (.nil)))))))))))))) (.c (.c (.c (.c (.c (.c (.nil)))))))) (fun n85_27 remaining5_27 users6_27 hI27 => ?_)
 obtain ⟨hl105, hl106, hb27, hbj⟩ := hI27
 refine .sr (.vl (Y.lss rfl rfl) (.nil ?_))
 refine .seq ?_
 refine .condD rfl (fun c86 => ?_) (fun c86 => ?_)
 refine .skip ?_
 refine .join2 (fun (remaining5_j32 : List Int) (users6_j32 : List (List Int)) => ⟨[(1, .ptr 101 0 0 0), (4, .slc 104 1 0 out4_16.length), (5, .slc 105 1 0 n.cells.length), (6, .slc 106 1 0 n.widths.length), (7, .slc 107 1 0 n.widths.length), (12, .slc 112 1 0 ready12_23.length), (13, vi (n73_23 : Int)), (71, .fz 6 (n.cells.map Cell.row)), (72, vi ((n.cells.length : Nat) : Int)), (73, vi (n73_23 : Int)), (83, .fz 1 (((n.cells.getD n73_23 default).args).map irow)), (84, vi ((((n.cells.getD n73_23 default).args).length : Nat) : Int)), (85, vi (n85_27 : Int))], [(101, .cells (Netlist.row n)), (104, .rows 1 (out4_16.map irow)), (105, .rows 1 (remaining5_j32.map irow)), (106, .rows 1 (users6_j32.map orow)), (107, .rows 1 (comb7_10.map brow)), (112, .rows 1 (ready12_23.map irow))]⟩) (fun (remaining5_j32 : List Int) (users6_j32 : List (List Int)) => (remaining5_j32.length = n.cells.length) ∧ ((users6_j32.length = n.widths.length) ∧ (BJ n n73_23 (n85_27 + 1) remaining5_23 users6_23 remaining5_j32 users6_j32))) ?_ (fun remaining5_j32 users6_j32 hJx32 => ?_)
 refine .block (.sr ?_)
 refine .vl (Y.indexF (m := n85_27) sl22 rfl rfl (by first | rfl | omega) (row_getD (d := 0) (by omega))) ?_
 refine .ld sh3 ?_
 refine .an ?_
 refine .nil (.sr ?_)
 have hax := hf.argIn (i := (n73_23 : Int)) ⟨by omega, by omega⟩ (getD_mem (i := n85_27) (by rw [cell_nat]; omega))
 rw [cell_nat] at hax
 have hax2 := hax; unfold In at hax2
 have hbo := hbj.own_le
 have hbl := BJ.len hbi hbj hax
 have htt := tot_le hs (n73_23 + 1); rw [tot_succ (by omega)] at htt
 refine .mv ?_
 refine .mv ?_
 refine .vl (Y.indexO (m := (((n.cells.getD n73_23 default).args).getD n85_27 0).toNat) sl63 rfl rfl (by omega) (by omega)) ?_
 refine .vl (Y.load sh4 rfl (row_getD0 (d := false) (by omega)) rfl rfl) ?_
 refine .nil ?_
 refine .cond rfl (fun c92 => ?_) (fun c92 => ?_)
 refine .sr ?_
 refine .mv ?_
 refine .mv ?_
 refine .vl (Y.indexO (m := n73_23) sl22 rfl rfl (by first | rfl | omega) (by omega)) ?_
 refine .vl (Y.load sh3 rfl (row_getD0 (d := 0) (by first | omega | (simp [-List.getD_eq_getElem?_getD]; done) | (simp [-List.getD_eq_getElem?_getD]; omega) | (unfold In at *; omega))) rfl rfl) ?_
 refine .vl (Y.addI rfl rfl (by omega)) ?_
 refine .vl (Y.indexO (m := n73_23) sl22 rfl rfl (by first | rfl | omega) (by omega)) ?_
 refine .storeE ((remaining5_27.set n73_23 ((remaining5_27.getD n73_23 0) + 1)).map irow) si3 rfl rfl rfl rfl rfl rfl rfl (row_getD0 (d := 0) (by omega)) (nbE rfl) (set_map0 rfl) ?_
 refine .nil (.region ?_)
 refine .mv ?_
 refine .mv ?_
 refine .mv ?_
 refine .mv ?_
 refine .vl (Y.indexO (m := (((n.cells.getD n73_23 default).args).getD n85_27 0).toNat) sl92 rfl rfl (by omega) (by omega)) ?_
 refine .loadU ((users6_27.map orow).set (0 + ((((n.cells.getD n73_23 default).args).getD n85_27 0).toNat)) [.no]) sh22 rfl rfl (row_getD0 (d := []) (by omega)) rfl rfl (by decide) ?_
 refine .mv ?_
 refine .buildSlice (([(n73_23 : Int)] : List Int).map irow) sl22 ze3 rfl rfl rfl rfl rfl (uniform_map (s := 1) (f := irow) (fun _ => rfl)) rfl rfl rfl (by decide) ?_
 refine .sh (Sh.adoptE (d := 104) (n := (users6_27.getD ((((n.cells.getD n73_23 default).args).getD n85_27 0).toNat) []).length) 204 ((users6_27.getD ((((n.cells.getD n73_23 default).args).getD n85_27 0).toNat) []).map irow) rfl (by first | rfl | exact rep_map rfl) (len_map rfl) (by decide)) ?_
 refine .appendE (((users6_27.getD ((((n.cells.getD n73_23 default).args).getD n85_27 0).toNat) []) ++ ([(n73_23 : Int)] : List Int)).map irow) ((users6_27.getD ((((n.cells.getD n73_23 default).args).getD n85_27 0).toNat) []) ++ ([(n73_23 : Int)] : List Int)).length sl22 ze3 rfl rfl rfl rfl (app_le (by first | omega | (simp [-List.getD_eq_getElem?_getD]; done) | (simp [-List.getD_eq_getElem?_getD]; omega) | (unfold In at *; omega))) (app_map (by first | omega | (simp [-List.getD_eq_getElem?_getD]; done) | (simp [-List.getD_eq_getElem?_getD]; omega) | (unfold In at *; omega))) (app_n (by first | omega | (simp [-List.getD_eq_getElem?_getD]; done) | (simp [-List.getD_eq_getElem?_getD]; omega) | (unfold In at *; omega))) (by first | omega | (simp [-List.getD_eq_getElem?_getD]; done) | (simp [-List.getD_eq_getElem?_getD]; omega) | (unfold In at *; omega)) (by first | omega | (simp [-List.getD_eq_getElem?_getD]; done) | (simp [-List.getD_eq_getElem?_getD]; omega) | (unfold In at *; omega)) (by decide) (by decide) ?_
 refine .vl (Y.indexO (m := (((n.cells.getD n73_23 default).args).getD n85_27 0).toNat) sl92 rfl rfl (by omega) (by omega)) ?_
 refine .sh (Sh.detach (d := 107) (o := 204) rfl rfl (len_map (by omega)) (by decide)) ?_
 refine .storeUE ((users6_27.set ((((n.cells.getD n73_23 default).args).getD n85_27 0).toNat) ((users6_27.getD ((((n.cells.getD n73_23 default).args).getD n85_27 0).toNat) []) ++ ([(n73_23 : Int)] : List Int))).map orow) si22 rfl rfl rfl (out_get (by omega)) (by decide) (out_back rfl) ?_
 refine .nil ?_
 exact ⟨remaining5_27.set n73_23 ((remaining5_27.getD n73_23 0) + 1), users6_27.set ((((n.cells.getD n73_23 default).args).getD n85_27 0).toNat) ((users6_27.getD ((((n.cells.getD n73_23 default).args).getD n85_27 0).toNat) []) ++ ([(n73_23 : Int)] : List Int)), ⟨by first | omega | (simp [-List.getD_eq_getElem?_getD]; done) | (simp [-List.getD_eq_getElem?_getD]; omega) | (unfold In at *; omega), ⟨by first | omega | (simp [-List.getD_eq_getElem?_getD]; done) | (simp [-List.getD_eq_getElem?_getD]; omega) | (unfold In at *; omega), hbj.step (by omega) hl105 hl106 (by omega) hax ((CombInv.all hci2 hax).1 c92)⟩⟩, Le.mk (.c (.c (.c (.c (.c (.c (.c (.c (.c (.c (.c (.c (.c (.nil)))))))))))))) (.c (.c (.c (.c (.c (.c (.nil)))))))⟩
 refine .skip ?_
 exact ⟨remaining5_27, users6_27, ⟨by omega, ⟨by omega, hbj.skip (by omega) (fun h => by rw [(CombInv.all hci2 hax).2 h] at c92; cases c92)⟩⟩, Le.mk (.c (.c (.c (.c (.c (.c (.c (.c (.c (.c (.c (.c (.c (.nil)))))))))))))) (.c (.c (.c (.c (.c (.c (.nil)))))))⟩
 obtain ⟨hlj32_105, hlj32_106, hJ32⟩ := hJx32
 refine .region ?_
 refine .vl (Y.addI rfl rfl (by omega)) ?_
 refine .mv ?_
 refine .nil ?_
 exact ⟨n85_27 + 1, remaining5_j32, users6_j32, ⟨by omega, by omega, by omega, hJ32⟩, by omega, Le.mk (.c (.c (.c (.c (.c (.c (.c (.c (.c (.c (.c (.c (.cons (look_int rfl (by first | rfl | omega)) (.nil)))))))))))))) (.c (.c (.c (.c (.c (.c (.nil)))))))⟩
 refine .exit (.sr ?_)
 refine .mv ?_
 refine .mv ?_
 refine .vl (Y.indexO (m := n73_23) sl22 rfl rfl (by first | rfl | omega) (by omega)) ?_
 refine .vl (Y.load sh3 rfl (row_getD0 (d := 0) (by first | omega | (simp [-List.getD_eq_getElem?_getD]; done) | (simp [-List.getD_eq_getElem?_getD]; omega) | (unfold In at *; omega))) rfl rfl) ?_
 refine .vl (Y.eql rfl rfl) (.nil ?_)
 refine .condD rfl (fun c114 => ?_) (fun c114 => ?_)
 refine .region ?_
 refine .mv ?_
 refine .mv ?_
 refine .buildSlice (([(n73_23 : Int)] : List Int).map irow) sl22 ze3 rfl rfl rfl rfl rfl (uniform_map (s := 1) (f := irow) (fun _ => rfl)) rfl rfl rfl (by decide) ?_
 refine .appendE ((ready12_23 ++ ([(n73_23 : Int)] : List Int)).map irow) (ready12_23 ++ ([(n73_23 : Int)] : List Int)).length sl22 ze3 rfl rfl rfl rfl (app_le (by first | omega | (simp [-List.getD_eq_getElem?_getD]; done) | (simp [-List.getD_eq_getElem?_getD]; omega) | (unfold In at *; omega))) (app_map (by first | omega | (simp [-List.getD_eq_getElem?_getD]; done) | (simp [-List.getD_eq_getElem?_getD]; omega) | (unfold In at *; omega))) (app_n (by first | omega | (simp [-List.getD_eq_getElem?_getD]; done) | (simp [-List.getD_eq_getElem?_getD]; omega) | (unfold In at *; omega))) (by first | omega | (simp [-List.getD_eq_getElem?_getD]; done) | (simp [-List.getD_eq_getElem?_getD]; omega) | (unfold In at *; omega)) (by first | omega | (simp [-List.getD_eq_getElem?_getD]; done) | (simp [-List.getD_eq_getElem?_getD]; omega) | (unfold In at *; omega)) (by decide) (by decide) ?_
 refine .an ?_
 refine .nil ?_
 exact ⟨remaining5_27, users6_27, ready12_23 ++ ([(n73_23 : Int)] : List Int), ⟨by omega, ⟨by omega, (BJ.fin hbi (by omega) c81 (by rw [show (n.cells.getD n73_23 default).args.length = n85_27 by omega]; exact hbj)).1 c114⟩⟩, Le.mk (.c (.c (.c (.c (.c (.cons (look_slc rfl (by omega)) (.c (.c (.c (.nil)))))))))) (.c (.c (.c (.c (.c (.c (.nil)))))))⟩
 refine .skip ?_
 exact ⟨remaining5_27, users6_27, ready12_23, ⟨by omega, ⟨by omega, (BJ.fin hbi (by omega) c81 (by rw [show (n.cells.getD n73_23 default).args.length = n85_27 by omega]; exact hbj)).2 c114⟩⟩, Le.mk (.c (.c (.c (.c (.c (.cons (look_slc rfl (by omega)) (.c (.c (.c (.nil)))))))))) (.c (.c (.c (.c (.c (.c (.nil)))))))⟩
 obtain ⟨hlj35_105, hlj35_106, hJ35⟩ := hJx35
 refine .region ?_
 refine .vl (Y.addI rfl rfl (by omega)) ?_
 refine .mv ?_
 refine .nil ?_
 exact ⟨n73_23 + 1, remaining5_j35, users6_j35, ready12_j35, ⟨by omega, by omega, by omega, hJ35⟩, by omega, Le.mk (.c (.c (.c (.c (.c (.cons (look_slc rfl (by omega)) (.c (.c (.cons (look_int rfl (by first | rfl | omega)) (.nil)))))))))) (.c (.c (.c (.c (.c (.c (.nil)))))))⟩
 refine .exit (.seq (.block ?_))
 have hbi2 : BI n n.cells.length remaining5_23 users6_23 ready12_23 := by rw [show n.cells.length = n73_23 by omega]; exact hbi
 have hus := hbi2.us
 refine .sh (Sh.detach (d := 6) (o := 106) rfl rfl (len_map (by omega)) (by decide)) ?_
 refine .sh (Sh.freezeNest (d := 6) (l := users6_23) (f := orow) (g := lrow) orow_ffz rfl) ?_
 refine .loop3 (fun (out4_36 : List Int) (remaining5_36 : List Int) (ready12_36 : List Int) => ⟨[(1, .ptr 101 0 0 0), (4, .slc 104 1 0 out4_36.length), (5, .slc 105 1 0 n.cells.length), (6, .fz 1 (users6_23.map lrow)), (12, .slc 112 1 0 ready12_36.length)], [(101, .cells (Netlist.row n)), (104, .rows 1 (out4_36.map irow)), (105, .rows 1 (remaining5_36.map irow)), (112, .rows 1 (ready12_36.map irow))]⟩) (fun (out4_36 : List Int) (remaining5_36 : List Int) (ready12_36 : List Int) => (remaining5_36.length = n.cells.length) ∧ (∃ done, out4_36 = seqL n n.cells.length ++ done ∧ KI n done ready12_36 remaining5_36)) (fun (out4_36 : List Int) (remaining5_36 : List Int) (ready12_36 : List Int) => n.cells.length - out4_36.length) out4_16 remaining5_23 ready12_23 (⟨by omega, ⟨[], by rw [hsq, show n56_16 = n.cells.length by omega, List.append_nil], hbi2.ki⟩⟩) (Le.mk (.c (.cons (look_slc rfl (by omega)) (.c (.c (.cons (look_slc rfl (by omega)) (.nil)))))) (.c (.c (.c (.c (.nil)))))) (fun out4_36 remaining5_36 ready12_36 hI36 => ?_)
 obtain ⟨hl105, hK⟩ := hI36
 refine .seq (.sr ?_)
 refine .mv ?_
 refine .vl (Y.len (n := ready12_36.length) sl22 rfl rfl) (.vl (Y.gtr rfl rfl) (.nil ?_))
 refine .condD rfl (fun c122 => ?_) (fun c122 => ?_)
 obtain ⟨done, hout, hki⟩ := hK
 have hln := hki.len
 rw [← hout] at hln
 have hi0 := hki.cm (ready12_36.getD 0 0) (List.mem_append.2 (.inr (getD_mem (by omega))))
 have hib := hi0.1
 have hio := hf.outIn hi0.drives
 have hio2 := hio; unfold In Netlist.cell at hio2
 have hcu : ∀ x, CombAt n x → (users6_23.getD (((n.cells.getD ((ready12_36.getD 0 0).toNat) default).out).toNat) []).count x = (n.cell x).args.count (n.cell (ready12_36.getD 0 0)).out := fun x hx => hus.cnt _ x hio ⟨_, hi0, rfl⟩ hx
 have hmu : ∀ x ∈ (users6_23.getD (((n.cells.getD ((ready12_36.getD 0 0).toNat) default).out).toNat) []), CombAt n x := fun x hx => hus.mem _ x hio hx
 have hut := hbi2.ul _ hio; unfold Netlist.cell at hut
 have htt := tot_le hs n.cells.length
 refine .skip (.block (.sr ?_))
 refine .mv ?_
 refine .vl (Y.indexO (m := 0) sl22 rfl rfl (by first | rfl | omega) (by omega)) ?_
 refine .vl (Y.load sh3 rfl (row_getD0 (d := 0) (by first | omega | (simp [-List.getD_eq_getElem?_getD]; done) | (simp [-List.getD_eq_getElem?_getD]; omega) | (unfold In at *; omega))) rfl rfl) ?_
 refine .an ?_
 refine .nil (.sr ?_)
 refine .mv ?_
 refine .vl (Y.sliceO (l := 1) (h := ready12_36.length) sl22 rfl (.some rfl) (.none _) (by omega) (by omega)) ?_
 refine .an ?_
 refine .sh (Sh.trimE (d := 12) (o := 112) ((ready12_36.drop 1).map irow) rfl rfl (by first | omega | (simp [-List.getD_eq_getElem?_getD]; done) | (simp [-List.getD_eq_getElem?_getD]; omega) | (unfold In at *; omega)) (trim_drop (by first | omega | (simp [-List.getD_eq_getElem?_getD]; done) | (simp [-List.getD_eq_getElem?_getD]; omega) | (unfold In at *; omega))) (by decide)) ?_
 refine .nil (.sr ?_)
 refine .mv ?_
 refine .mv ?_
 refine .buildSlice (([ready12_36.getD 0 0] : List Int).map irow) sl22 ze3 rfl rfl rfl rfl rfl (uniform_map (s := 1) (f := irow) (fun _ => rfl)) rfl rfl rfl (by decide) ?_
 refine .appendE ((out4_36 ++ ([ready12_36.getD 0 0] : List Int)).map irow) (out4_36 ++ ([ready12_36.getD 0 0] : List Int)).length sl22 ze3 rfl rfl rfl rfl (app_le (by first | omega | (simp [-List.getD_eq_getElem?_getD]; done) | (simp [-List.getD_eq_getElem?_getD]; omega) | (unfold In at *; omega))) (app_map (by first | omega | (simp [-List.getD_eq_getElem?_getD]; done) | (simp [-List.getD_eq_getElem?_getD]; omega) | (unfold In at *; omega))) (app_n (by first | omega | (simp [-List.getD_eq_getElem?_getD]; done) | (simp [-List.getD_eq_getElem?_getD]; omega) | (unfold In at *; omega))) (by first | omega | (simp [-List.getD_eq_getElem?_getD]; done) | (simp [-List.getD_eq_getElem?_getD]; omega) | (unfold In at *; omega)) (by first | omega | (simp [-List.getD_eq_getElem?_getD]; done) | (simp [-List.getD_eq_getElem?_getD]; omega) | (unfold In at *; omega)) (by decide) (by decide) ?_
 refine .an ?_
 refine .nil (.sr ?_)
 refine .mv ?_
 refine .fa fl27_2 ?_
 refine .ld sh23 ?_
 refine .mv ?_
 refine .vl (Y.indexF (m := (ready12_36.getD 0 0).toNat) sl23 rfl rfl (by omega) (row_getD (d := default) (by omega))) ?_
 refine .fa fl39_2 ?_
 refine .ld sh3 ?_
 refine .vl (Y.indexF (m := ((n.cells.getD ((ready12_36.getD 0 0).toNat) default).out).toNat) sl92 rfl rfl (by omega) (row_getD (d := []) (by omega))) ?_
 refine .ld sh22 ?_
 refine .vl (Y.len (n := (users6_23.getD (((n.cells.getD ((ready12_36.getD 0 0).toNat) default).out).toNat) []).length) sl22 rfl (congrArg some (List.length_map ..))) ?_
 refine .mv ?_
 refine .nil (.block ?_)
 refine .loop3 (fun (n142_41 : Nat) (remaining5_41 : List Int) (ready12_41 : List Int) => ⟨[(1, .ptr 101 0 0 0), (4, .slc 104 1 0 ((out4_36 ++ ([ready12_36.getD 0 0] : List Int)).length)), (5, .slc 105 1 0 n.cells.length), (6, .fz 1 (users6_23.map lrow)), (12, .slc 112 1 0 ready12_41.length), (140, .fz 1 ((users6_23.getD (((n.cells.getD ((ready12_36.getD 0 0).toNat) default).out).toNat) []).map irow)), (141, vi (((users6_23.getD (((n.cells.getD ((ready12_36.getD 0 0).toNat) default).out).toNat) []).length : Nat) : Int)), (142, vi (n142_41 : Int))], [(101, .cells (Netlist.row n)), (104, .rows 1 ((out4_36 ++ ([ready12_36.getD 0 0] : List Int)).map irow)), (105, .rows 1 (remaining5_41.map irow)), (112, .rows 1 (ready12_41.map irow))]⟩) (fun (n142_41 : Nat) (remaining5_41 : List Int) (ready12_41 : List Int) => (remaining5_41.length = n.cells.length) ∧ ((n142_41 : Int) ≤ (((users6_23.getD (((n.cells.getD ((ready12_36.getD 0 0).toNat) default).out).toNat) []).length : Nat) : Int)) ∧ (KJ n done (ready12_36.getD 0 0) (users6_23.getD (((n.cells.getD ((ready12_36.getD 0 0).toNat) default).out).toNat) []) n142_41 ready12_41 remaining5_41)) (fun (n142_41 : Nat) (remaining5_41 : List Int) (ready12_41 : List Int) => ((((users6_23.getD (((n.cells.getD ((ready12_36.getD 0 0).toNat) default).out).toNat) []).length : Nat) : Int) - (n142_41 : Int)).toNat) 0 remaining5_36 (ready12_36.drop 1) (⟨by first | omega | (simp [-List.getD_eq_getElem?_getD]; done) | (simp [-List.getD_eq_getElem?_getD]; omega) | (unfold In at *; omega), by first | omega | (simp [-List.getD_eq_getElem?_getD]; done) | (simp [-List.getD_eq_getElem?_getD]; omega) | (unfold In at *; omega), KJ.init hki (by omega)⟩) (Le.mk (.c (.c (.c (.c (.cons (look_slc rfl (by first | omega | (simp [-List.getD_eq_getElem?_getD]; done) | (simp [-List.getD_eq_getElem?_getD]; omega) | (unfold In at *; omega))) (.c (.c (.cons (look_int rfl (by first | rfl | omega)) (.nil))))))))) (.c (.c (.c (.c (.nil)))))) (fun n142_41 remaining5_41 ready12_41 hI41 => ?_)
 obtain ⟨hl105, hb41, hkj⟩ := hI41
 refine .sr (.vl (Y.lss rfl rfl) (.nil ?_))
 refine .seq ?_
 refine .condD rfl (fun c143 => ?_) (fun c143 => ?_)
 refine .skip ?_
 refine .join1 (fun (ready12_j46 : List Int) => ⟨[(1, .ptr 101 0 0 0), (4, .slc 104 1 0 ((out4_36 ++ ([ready12_36.getD 0 0] : List Int)).length)), (5, .slc 105 1 0 n.cells.length), (6, .fz 1 (users6_23.map lrow)), (12, .slc 112 1 0 ready12_j46.length), (140, .fz 1 ((users6_23.getD (((n.cells.getD ((ready12_36.getD 0 0).toNat) default).out).toNat) []).map irow)), (141, vi (((users6_23.getD (((n.cells.getD ((ready12_36.getD 0 0).toNat) default).out).toNat) []).length : Nat) : Int)), (142, vi (n142_41 : Int))], [(101, .cells (Netlist.row n)), (104, .rows 1 ((out4_36 ++ ([ready12_36.getD 0 0] : List Int)).map irow)), (105, .rows 1 ((remaining5_41.set (((users6_23.getD (((n.cells.getD ((ready12_36.getD 0 0).toNat) default).out).toNat) []).getD n142_41 0).toNat) ((remaining5_41.getD (((users6_23.getD (((n.cells.getD ((ready12_36.getD 0 0).toNat) default).out).toNat) []).getD n142_41 0).toNat) 0) - 1)).map irow)), (112, .rows 1 (ready12_j46.map irow))]⟩) (fun (ready12_j46 : List Int) => KJ n done (ready12_36.getD 0 0) (users6_23.getD (((n.cells.getD ((ready12_36.getD 0 0).toNat) default).out).toNat) []) (n142_41 + 1) ready12_j46 (remaining5_41.set ((users6_23.getD (((n.cells.getD ((ready12_36.getD 0 0).toNat) default).out).toNat) []).getD n142_41 0).toNat (remaining5_41.getD ((users6_23.getD (((n.cells.getD ((ready12_36.getD 0 0).toNat) default).out).toNat) []).getD n142_41 0).toNat 0 - 1))) ?_ (fun ready12_j46 hJ46 => ?_)
 refine .block (.sr ?_)
 refine .vl (Y.indexF (m := n142_41) sl22 rfl rfl (by first | rfl | omega) (row_getD (d := 0) (by omega))) ?_
 refine .ld sh3 ?_
 refine .an ?_
 refine .nil (.sr ?_)
 have hkb := hkj.bound hf hs (by omega) hcu hmu
 have hkr := (hmu _ (getD_mem (l := (users6_23.getD (((n.cells.getD ((ready12_36.getD 0 0).toNat) default).out).toNat) [])) (i := n142_41) (by omega))).1
 refine .mv ?_
 refine .mv ?_
 refine .vl (Y.indexO (m := ((users6_23.getD (((n.cells.getD ((ready12_36.getD 0 0).toNat) default).out).toNat) []).getD n142_41 0).toNat) sl22 rfl rfl (by omega) (by omega)) ?_
 refine .vl (Y.load sh3 rfl (row_getD0 (d := 0) (by first | omega | (simp [-List.getD_eq_getElem?_getD]; done) | (simp [-List.getD_eq_getElem?_getD]; omega) | (unfold In at *; omega))) rfl rfl) ?_
 refine .vl (Y.subI rfl rfl (by omega)) ?_
 refine .vl (Y.indexO (m := ((users6_23.getD (((n.cells.getD ((ready12_36.getD 0 0).toNat) default).out).toNat) []).getD n142_41 0).toNat) sl22 rfl rfl (by omega) (by omega)) ?_
 refine .storeE ((remaining5_41.set (((users6_23.getD (((n.cells.getD ((ready12_36.getD 0 0).toNat) default).out).toNat) []).getD n142_41 0).toNat) ((remaining5_41.getD (((users6_23.getD (((n.cells.getD ((ready12_36.getD 0 0).toNat) default).out).toNat) []).getD n142_41 0).toNat) 0) - 1)).map irow) si3 rfl rfl rfl rfl rfl rfl rfl (row_getD0 (d := 0) (by omega)) (nbE rfl) (set_map0 rfl) ?_
 refine .nil (.sr ?_)
 refine .mv ?_
 refine .mv ?_
 refine .vl (Y.indexO (m := ((users6_23.getD (((n.cells.getD ((ready12_36.getD 0 0).toNat) default).out).toNat) []).getD n142_41 0).toNat) sl22 rfl rfl (by omega) (by omega)) ?_
 refine .vl (Y.load sh3 rfl (row_getD0 (d := 0) (by first | omega | (simp [-List.getD_eq_getElem?_getD]; done) | (simp [-List.getD_eq_getElem?_getD]; omega) | (unfold In at *; omega))) rfl rfl) ?_
 refine .vl (Y.eql rfl rfl) (.nil ?_)
 refine .condD rfl (fun c156 => ?_) (fun c156 => ?_)
 rw [getD_set, if_pos ⟨rfl, by omega⟩] at c156
 refine .region ?_
 refine .mv ?_
 refine .mv ?_
 refine .buildSlice (([(users6_23.getD (((n.cells.getD ((ready12_36.getD 0 0).toNat) default).out).toNat) []).getD n142_41 0] : List Int).map irow) sl22 ze3 rfl rfl rfl rfl rfl (uniform_map (s := 1) (f := irow) (fun _ => rfl)) rfl rfl rfl (by decide) ?_
 refine .appendE ((ready12_41 ++ ([(users6_23.getD (((n.cells.getD ((ready12_36.getD 0 0).toNat) default).out).toNat) []).getD n142_41 0] : List Int)).map irow) (ready12_41 ++ ([(users6_23.getD (((n.cells.getD ((ready12_36.getD 0 0).toNat) default).out).toNat) []).getD n142_41 0] : List Int)).length sl22 ze3 rfl rfl rfl rfl (app_le (by first | omega | (simp [-List.getD_eq_getElem?_getD]; done) | (simp [-List.getD_eq_getElem?_getD]; omega) | (unfold In at *; omega))) (app_map (by first | omega | (simp [-List.getD_eq_getElem?_getD]; done) | (simp [-List.getD_eq_getElem?_getD]; omega) | (unfold In at *; omega))) (app_n (by first | omega | (simp [-List.getD_eq_getElem?_getD]; done) | (simp [-List.getD_eq_getElem?_getD]; omega) | (unfold In at *; omega))) (by first | omega | (simp [-List.getD_eq_getElem?_getD]; done) | (simp [-List.getD_eq_getElem?_getD]; omega) | (unfold In at *; omega)) (by first | omega | (simp [-List.getD_eq_getElem?_getD]; done) | (simp [-List.getD_eq_getElem?_getD]; omega) | (unfold In at *; omega)) (by decide) (by decide) ?_
 refine .an ?_
 refine .nil ?_
 exact ⟨ready12_41 ++ ([(users6_23.getD (((n.cells.getD ((ready12_36.getD 0 0).toNat) default).out).toNat) []).getD n142_41 0] : List Int), (hkj.step hf hl105 (by omega) hcu hmu).1 c156, Le.mk (.c (.c (.c (.c (.cons (look_slc rfl (by omega)) (.c (.c (.c (.nil))))))))) (.c (.c (.c (.c (.nil)))))⟩
 rw [getD_set, if_pos ⟨rfl, by omega⟩] at c156
 refine .skip ?_
 exact ⟨ready12_41, (hkj.step hf hl105 (by omega) hcu hmu).2 c156, Le.mk (.c (.c (.c (.c (.cons (look_slc rfl (by omega)) (.c (.c (.c (.nil))))))))) (.c (.c (.c (.c (.nil)))))⟩
 refine .region ?_
 refine .vl (Y.addI rfl rfl (by omega)) ?_
 refine .mv ?_
 refine .nil ?_
 exact ⟨n142_41 + 1, remaining5_41.set (((users6_23.getD (((n.cells.getD ((ready12_36.getD 0 0).toNat) default).out).toNat) []).getD n142_41 0).toNat) ((remaining5_41.getD (((users6_23.getD (((n.cells.getD ((ready12_36.getD 0 0).toNat) default).out).toNat) []).getD n142_41 0).toNat) 0) - 1), ready12_j46, ⟨by first | omega | (simp [-List.getD_eq_getElem?_getD]; done) | (simp [-List.getD_eq_getElem?_getD]; omega) | (unfold In at *; omega), by first | omega | (simp [-List.getD_eq_getElem?_getD]; done) | (simp [-List.getD_eq_getElem?_getD]; omega) | (unfold In at *; omega), hJ46⟩, by omega, Le.mk (.c (.c (.c (.c (.cons (look_slc rfl (by first | omega | (simp [-List.getD_eq_getElem?_getD]; done) | (simp [-List.getD_eq_getElem?_getD]; omega) | (unfold In at *; omega))) (.c (.c (.cons (look_int rfl (by first | rfl | omega)) (.nil))))))))) (.c (.c (.c (.c (.nil)))))⟩
 refine .exit ?_
 exact ⟨out4_36 ++ ([ready12_36.getD 0 0] : List Int), remaining5_41, ready12_41, ⟨by omega, ⟨done ++ [(ready12_36.getD 0 0)], by rw [hout, List.append_assoc], KJ.fin hf hki (getD_mem (by omega)) (by rw [show (users6_23.getD (((n.cells.getD ((ready12_36.getD 0 0).toNat) default).out).toNat) []).length = n142_41 by omega]; exact hkj) hcu⟩⟩, by rw [List.length_append]; simp only [List.length_cons, List.length_nil]; omega, Le.mk (.c (.cons (look_slc rfl (by omega)) (.c (.c (.cons (look_slc rfl (by omega)) (.nil)))))) (.c (.c (.c (.c (.nil)))))⟩
 obtain ⟨done, hout, hki⟩ := hK
 have hr0 : ready12_36 = [] := List.eq_nil_of_length_eq_zero (by omega)
 subst hr0
 refine .exit (.seq (.sr ?_))
 refine .mv ?_
 refine .vl (Y.len (n := out4_36.length) sl22 rfl rfl) ?_
 refine .fa fl27_2 ?_
 refine .ld sh23 ?_
 refine .vl (Y.len (n := n.cells.length) sl23 rfl (congrArg some (List.length_map ..))) (.vl (Y.lss rfl rfl) (.nil ?_))
 refine .condD rfl (fun c167 => ?_) (fun c167 => ?_)
 refine .sr ?_
 refine .an ?_
 refine .an ?_
 refine .nil (.sh (Sh.nilU (d := 2) 1 rfl) (.ret ?_))
 exact ⟨_, _, rfl, rfl, ([] : List Int), 12, .inr (.inr (.inl ⟨hf, hft, hki.cycle (by rw [← hout]; omega), rfl, rfl⟩)), rfl, rfl⟩
 refine .skip (.sr ?_)
 refine .mv ?_
 refine .an ?_
 refine .sh (Sh.detach (d := 2) (o := 104) rfl rfl (len_map (by omega)) (by decide)) ?_
 refine .an ?_
 refine .nil (.ret ?_)
 exact ⟨_, _, rfl, rfl, out4_36, 0, .inr (.inr (.inr ⟨hf, hft, (hki.ok hf (by rw [← hout]; omega)).1, by rw [hout]; exact (hki.ok hf (by rw [← hout]; omega)).2, rfl⟩)), rfl, rfl⟩
end Go.Proofs.Ytligpghohcfpnaa
/- Walks through Check, and through the specification of a cell. -/
namespace Go.Proofs.Ytligpghohcfpnaa
open Go Go.AW Go.Proofs
theorem check_spec {n : Netlist} (hs : n.Small) (hwi : n.widths.length + n.ins.length ≤ 17592186044416) : ACalls Try.prog 16 [.agg (Netlist.row n)] [] [] (fun r o => r = (vi (errOf n)) ∧ o = []) := by
 refine ACalls.of Try.func16 rfl rfl rfl (n := 11) (by decide) (nbE rfl) (.sr (.box 101 rfl rfl rfl rfl rfl (by decide) ?_))
 refine .an ?_
 refine .nil (.sr (.vl (Y.loadA sh27 rfl rfl (nbE rfl) rfl rfl) ?_))
 refine .callV ok20 (order_spec (n := n) hs ((by omega))) rfl (.keep rfl rfl .nil) (by decide) ?_
 rintro _ ⟨l7, e7, ho7, rfl, _⟩
 refine ⟨rfl, ?_⟩
 refine .moveX rfl (by decide) (.extractU rfl rfl (by decide) (.vl (Y.extract rfl rfl rfl) ?_))
 refine .assignX rfl (by decide) (.sh (Sh.freezeE (d := 3) (l7.map irow) rfl (by first | rfl | exact rep_map rfl) (Frees.map irow_frees)) ?_)
 refine .an ?_
 refine .nil (.sr ?_)
 refine .mv ?_
 refine .an ?_
 refine .nil (.ret ?_)
 exact .ri rfl (ho7.err)
end Go.Proofs.Ytligpghohcfpnaa
/- The specification of a cell, whatever its kind. -/
namespace Go.Proofs.Ytligpghohcfpnaa
open Go Go.AW Go.Proofs
end Go.Proofs.Ytligpghohcfpnaa
/- Walks through the specification of well-formed netlists. -/
namespace Go.Proofs.Ytligpghohcfpnaa
open Go Go.AW Go.Proofs
end Go.Proofs.Ytligpghohcfpnaa
/- Walks through the specification of netlists. -/
namespace Go.Proofs.Ytligpghohcfpnaa
open Go Go.AW Go.Proofs
end Go.Proofs.Ytligpghohcfpnaa
/- Walks through the builder. -/
namespace Go.Proofs.Ytligpghohcfpnaa
open Go Go.AW Go.Proofs
theorem cloneInt_spec {l : List Int} (hl : l.length ≤ 17592186043904) : ACalls Try.prog 68 [.fz 1 (l.map irow)] [] [] (fun r o => r = .uni 1 (l.map irow) ∧ o = []) := by
 refine ACalls.of Try.func68 rfl rfl rfl (n := 8) (by decide) (nbE rfl) (.sr ?_)
 refine .an ?_
 refine .nil (.seq (.sr ?_))
 refine .mv ?_
 refine .eqNil sl22 rfl rfl (by decide) (fun b4 hb4 => ?_)
 refine .nil ?_
 refine .cond rfl (fun c4 => ?_) (fun c4 => ?_)
 refine .sr ?_
 refine .an ?_
 refine .nil (.sh (Sh.nilU (d := 2) 1 rfl) (.ret ?_))
 exact ⟨_, _, rfl, rfl, (cg1 (fun (z0 : List Int) => X.uni 1 (z0.map irow)) (by have := hb4 (by assumption); simpa using this : ([] : List Int) = l) : X.uni 1 (([] : List Int).map irow) = X.uni 1 (l.map irow)), rfl⟩
 refine .skip (.sr ?_)
 refine .buildSlice (([] : List Int).map irow) sl22 ze3 rfl rfl rfl rfl rfl (uniform_map (s := 1) (f := irow) (fun _ => rfl)) rfl rfl rfl (by decide) ?_
 refine .mv ?_
 refine .sh (Sh.adoptE (d := 5) (n := ([] : List Int).length) 105 (([] : List Int).map irow) rfl (by first | rfl | exact rep_map rfl) (len_map rfl) (by decide)) ?_
 refine .appendFE ((([] : List Int) ++ l).map irow) (([] : List Int) ++ l).length sl22 ze3 rfl rfl rfl rfl (app_le (by first | omega | simp [-List.getD_eq_getElem?_getD] <;> omega)) (app_map (by first | omega | simp [-List.getD_eq_getElem?_getD] <;> omega)) (app_n (by first | omega | simp [-List.getD_eq_getElem?_getD] <;> omega)) (by first | omega | simp [-List.getD_eq_getElem?_getD] <;> omega) (by first | omega | simp [-List.getD_eq_getElem?_getD] <;> omega) (by decide) (by decide) ?_
 refine .an ?_
 refine .sh (Sh.detach (d := 2) (o := 105) rfl rfl (len_map (by omega)) (by decide)) ?_
 refine .nil (.ret ?_)
 exact ⟨_, _, rfl, rfl, (cg1 (fun (z0 : List Int) => X.uni 1 (z0.map irow)) (rfl : (([] : List Int) ++ l) = l) : X.uni 1 ((([] : List Int) ++ l).map irow) = X.uni 1 (l.map irow)), rfl⟩
theorem wire_spec {nm : ByteArray} {ws : List Int} {cs : List Cell} {fz dn : Int} {rl : List Int} (hws : ws.length ≤ 1048576) (hcs : cs.length ≤ 1048576) {w : Int} : ACalls Try.prog 33 [.ptr 0 0 0 0, vi w] [.cells [.v (.string nm), .slc 1 1 0 ws.length, .slc 2 6 0 cs.length, .v (.slice none 0 0), .v (.slice none 0 0), .v (.slice none 0 0), .v (.slice none 0 0), .v (.slice none 0 0), vi fz, vi dn, .fz 1 (rl.map irow)], .rows 1 (ws.map irow), .rows 6 (cs.map Cell.row)] [0] (fun r o => r = (vi ((ws.length : Nat) : Int)) ∧ o = [.cells [.v (.string nm), .slc 1 1 0 ((ws ++ [w]).length), .slc 2 6 0 cs.length, .v (.slice none 0 0), .v (.slice none 0 0), .v (.slice none 0 0), .v (.slice none 0 0), .v (.slice none 0 0), vi fz, vi dn, .fz 1 (rl.map irow)], .rows 1 ((ws ++ [w]).map irow), .rows 6 (cs.map Cell.row)]) := by
 refine ACalls.of Try.func33 rfl rfl rfl (n := 24) (by decide) (nbE rfl) (.sr ?_)
 refine .an ?_
 refine .nil (.sr ?_)
 refine .mv ?_
 refine .mv ?_
 refine .vl (Y.nilCheck rfl rfl) ?_
 refine .fa fl53_0 ?_
 refine .fa fl27_1 ?_
 refine .ld sh22 ?_
 refine .mv ?_
 refine .buildSlice (([w] : List Int).map irow) sl22 ze3 rfl rfl rfl rfl rfl (uniform_map (s := 1) (f := irow) (fun _ => rfl)) rfl rfl rfl (by decide) ?_
 refine .appendE ((ws ++ ([w] : List Int)).map irow) (ws ++ ([w] : List Int)).length sl22 ze3 rfl rfl rfl rfl (app_le (by first | omega | simp [-List.getD_eq_getElem?_getD] <;> omega)) (app_map (by first | omega | simp [-List.getD_eq_getElem?_getD] <;> omega)) (app_n (by first | omega | simp [-List.getD_eq_getElem?_getD] <;> omega)) (by first | omega | simp [-List.getD_eq_getElem?_getD] <;> omega) (by first | omega | simp [-List.getD_eq_getElem?_getD] <;> omega) (by decide) (by decide) ?_
 refine .vl (Y.nilCheck rfl rfl) ?_
 refine .fa fl53_0 ?_
 refine .fa fl27_1 ?_
 refine .storeC si22 rfl rfl rfl rfl rfl rfl (nbE rfl) rfl (.nil (.sr ?_))
 refine .mv ?_
 refine .vl (Y.nilCheck rfl rfl) ?_
 refine .fa fl53_0 ?_
 refine .fa fl27_1 ?_
 refine .ld sh22 ?_
 refine .vl (Y.len (n := (ws ++ ([w] : List Int)).length) sl22 rfl rfl) ?_
 refine .vl (Y.subI rfl rfl (by first | omega | simp [-List.getD_eq_getElem?_getD] <;> omega)) ?_
 refine .an ?_
 refine .nil (.ret ?_)
 exact ⟨_, _, rfl, rfl, cg1 (fun (z0 : Int) => X.v (.int .i64 z0)) (by simp : (((ws ++ ([w] : List Int)).length : Nat) : Int) - 1 = ((ws.length : Nat) : Int)), rfl⟩
theorem bcell_spec {nm : ByteArray} {ws : List Int} {cs : List Cell} {fz dn : Int} {rl : List Int} (hws : ws.length ≤ 1048576) (hcs : cs.length ≤ 1048576) {c : Cell} (hc : c.args.length ≤ 17592186043904) : ACalls Try.prog 32 [.ptr 0 0 0 0, .agg (Cell.row c)] [.cells [.v (.string nm), .slc 1 1 0 ws.length, .slc 2 6 0 cs.length, .v (.slice none 0 0), .v (.slice none 0 0), .v (.slice none 0 0), .v (.slice none 0 0), .v (.slice none 0 0), vi fz, vi dn, .fz 1 (rl.map irow)], .rows 1 (ws.map irow), .rows 6 (cs.map Cell.row)] [0] (fun r o => r = .tup [] ∧ o = [.cells [.v (.string nm), .slc 1 1 0 ws.length, .slc 2 6 0 ((cs ++ [c]).length), .v (.slice none 0 0), .v (.slice none 0 0), .v (.slice none 0 0), .v (.slice none 0 0), .v (.slice none 0 0), vi fz, vi dn, .fz 1 (rl.map irow)], .rows 1 (ws.map irow), .rows 6 ((cs ++ [c]).map Cell.row)]) := by
 refine ACalls.of Try.func32 rfl rfl rfl (n := 20) (by decide) (nbE rfl) (.sr (.box 103 rfl rfl rfl rfl rfl (by decide) ?_))
 refine .nil (.sr ?_)
 refine .fa fl39_3 ?_
 refine .ld sh22 ?_
 refine .callP ok68 (cloneInt_spec (l := c.args) ((by omega))) rfl (.keep rfl rfl .nil) (by decide) rfl ?_
 refine .fa fl39_3 ?_
 refine .sh (Sh.freezeE (d := 6) (c.args.map irow) rfl (by first | rfl | exact rep_map rfl) (Frees.map irow_frees)) (.storeC si22 rfl rfl rfl rfl rfl rfl (nbE rfl) rfl (.nil ?_))
 refine .regionAny rfl (.blind 0 rfl (by kernel_rfl) (Blind.move rfl rfl) (by decide) (.blind 1 rfl (by kernel_rfl) (Blind.move rfl rfl) (by decide) ?_))
 refine .blind 2 rfl (by kernel_rfl) (Blind.nilCheck rfl rfl) (by decide) (.blind 3 rfl (by kernel_rfl) (Blind.fieldAddr fl53_0 rfl rfl) (by decide) (.blind 4 rfl (by kernel_rfl) (Blind.fieldAddr fl27_2 rfl rfl) (by decide) ?_))
 refine .two 5 6 rfl rfl (by kernel_rfl) ?_ ?_
 refine .ld sh23 ?_
 refine .nil ⟨rfl, ?_⟩
 refine .quietN (n := 6) [6] [7, 8, 9, 10, 11, 12] 7 rfl (by kernel_rfl) (.cn 6 rfl (Y.loadA sh39 rfl rfl (nbE rfl) rfl rfl) (.nil ?_))
 refine .one 7 rfl (by kernel_rfl) ?_
 refine .buildSlice (([c] : List Cell).map Cell.row) sl23 ze39 rfl rfl rfl rfl rfl (uniform_map (s := 6) (f := Cell.row) (fun _ => rfl)) rfl rfl rfl (by decide) ?_
 refine .nil ⟨rfl, ?_⟩
 refine .one 8 rfl (by kernel_rfl) ?_
 refine .appendE ((cs ++ ([c] : List Cell)).map Cell.row) (cs ++ ([c] : List Cell)).length sl23 ze39 rfl rfl rfl rfl (app_le (by first | omega | simp [-List.getD_eq_getElem?_getD] <;> omega)) (app_map (by first | omega | simp [-List.getD_eq_getElem?_getD] <;> omega)) (app_n (by first | omega | simp [-List.getD_eq_getElem?_getD] <;> omega)) (by first | omega | simp [-List.getD_eq_getElem?_getD] <;> omega) (by first | omega | simp [-List.getD_eq_getElem?_getD] <;> omega) (by decide) (by decide) ?_
 refine .nil ⟨rfl, ?_⟩
 refine .quietN (n := 1) [9, 10, 11] [12] 12 rfl (by kernel_rfl) (.cn 9 rfl (Y.nilCheck rfl rfl) (.cn 10 rfl (Y.fieldAddr fl53_0 rfl rfl) ?_))
 refine .cn 11 rfl (Y.fieldAddr fl27_2 rfl rfl) (.nil (.one 12 rfl (by kernel_rfl) ?_))
 refine .storeC si23 rfl rfl rfl rfl rfl rfl (nbE rfl) rfl ?_
 refine .nil ⟨rfl, ?_⟩
 refine .done (by kernel_rfl) ?_
 exact ⟨_, _, rfl, rfl, rfl, rfl⟩
 refine .vl (Y.loadA sh39 rfl rfl (nbE rfl) rfl rfl) ?_
 refine .nil ⟨rfl, ?_⟩
 refine .two 5 7 rfl rfl (by kernel_rfl) ?_ ?_
 refine .ld sh23 ?_
 refine .nil ⟨rfl, ?_⟩
 refine .one 7 rfl (by kernel_rfl) ?_
 refine .buildSlice (([c] : List Cell).map Cell.row) sl23 ze39 rfl rfl rfl rfl rfl (uniform_map (s := 6) (f := Cell.row) (fun _ => rfl)) rfl rfl rfl (by decide) ?_
 refine .nil ⟨rfl, ?_⟩
 refine .one 8 rfl (by kernel_rfl) ?_
 refine .appendE ((cs ++ ([c] : List Cell)).map Cell.row) (cs ++ ([c] : List Cell)).length sl23 ze39 rfl rfl rfl rfl (app_le (by first | omega | simp [-List.getD_eq_getElem?_getD] <;> omega)) (app_map (by first | omega | simp [-List.getD_eq_getElem?_getD] <;> omega)) (app_n (by first | omega | simp [-List.getD_eq_getElem?_getD] <;> omega)) (by first | omega | simp [-List.getD_eq_getElem?_getD] <;> omega) (by first | omega | simp [-List.getD_eq_getElem?_getD] <;> omega) (by decide) (by decide) ?_
 refine .nil ⟨rfl, ?_⟩
 refine .quietN (n := 1) [9, 10, 11] [12] 12 rfl (by kernel_rfl) (.cn 9 rfl (Y.nilCheck rfl rfl) (.cn 10 rfl (Y.fieldAddr fl53_0 rfl rfl) ?_))
 refine .cn 11 rfl (Y.fieldAddr fl27_2 rfl rfl) (.nil (.one 12 rfl (by kernel_rfl) ?_))
 refine .storeC si23 rfl rfl rfl rfl rfl rfl (nbE rfl) rfl ?_
 refine .nil ⟨rfl, ?_⟩
 refine .done (by kernel_rfl) ?_
 exact ⟨_, _, rfl, rfl, rfl, rfl⟩
 refine .buildSlice (([c] : List Cell).map Cell.row) sl23 ze39 rfl rfl rfl rfl rfl (uniform_map (s := 6) (f := Cell.row) (fun _ => rfl)) rfl rfl rfl (by decide) ?_
 refine .nil ⟨rfl, ?_⟩
 refine .quietN (n := 5) [5] [8, 9, 10, 11, 12] 8 rfl (by kernel_rfl) (.cn 5 rfl (Y.load sh23 rfl rfl rfl rfl) (.nil ?_))
 refine .one 8 rfl (by kernel_rfl) ?_
 refine .appendE ((cs ++ ([c] : List Cell)).map Cell.row) (cs ++ ([c] : List Cell)).length sl23 ze39 rfl rfl rfl rfl (app_le (by first | omega | simp [-List.getD_eq_getElem?_getD] <;> omega)) (app_map (by first | omega | simp [-List.getD_eq_getElem?_getD] <;> omega)) (app_n (by first | omega | simp [-List.getD_eq_getElem?_getD] <;> omega)) (by first | omega | simp [-List.getD_eq_getElem?_getD] <;> omega) (by first | omega | simp [-List.getD_eq_getElem?_getD] <;> omega) (by decide) (by decide) ?_
 refine .nil ⟨rfl, ?_⟩
 refine .quietN (n := 1) [9, 10, 11] [12] 12 rfl (by kernel_rfl) (.cn 9 rfl (Y.nilCheck rfl rfl) (.cn 10 rfl (Y.fieldAddr fl53_0 rfl rfl) ?_))
 refine .cn 11 rfl (Y.fieldAddr fl27_2 rfl rfl) (.nil (.one 12 rfl (by kernel_rfl) ?_))
 refine .storeC si23 rfl rfl rfl rfl rfl rfl (nbE rfl) rfl ?_
 refine .nil ⟨rfl, ?_⟩
 refine .done (by kernel_rfl) ?_
 exact ⟨_, _, rfl, rfl, rfl, rfl⟩
theorem const_spec {nm : ByteArray} {ws : List Int} {cs : List Cell} {fz dn : Int} {rl : List Int} (hws : ws.length ≤ 1048000) (hcs : cs.length ≤ 1048000) {w : Int} {x : Nat} (hx : x < 18446744073709551616) : ACalls Try.prog 25 [.ptr 0 0 0 0, vi w, .v (.int .u64 ((x : Nat) : Int))] [.cells [.v (.string nm), .slc 1 1 0 ws.length, .slc 2 6 0 cs.length, .v (.slice none 0 0), .v (.slice none 0 0), .v (.slice none 0 0), .v (.slice none 0 0), .v (.slice none 0 0), vi fz, vi dn, .fz 1 (rl.map irow)], .rows 1 (ws.map irow), .rows 6 (cs.map Cell.row)] [0] (fun r o => r = (vi ((ws.length : Nat) : Int)) ∧ o = [.cells [.v (.string nm), .slc 1 1 0 ((ws ++ [w]).length), .slc 2 6 0 ((cs ++ [(⟨1, 0, (ws.length : Int), [], fitN w x, 0⟩ : Cell)]).length), .v (.slice none 0 0), .v (.slice none 0 0), .v (.slice none 0 0), .v (.slice none 0 0), .v (.slice none 0 0), vi fz, vi dn, .fz 1 (rl.map irow)], .rows 1 ((ws ++ [w]).map irow), .rows 6 ((cs ++ [(⟨1, 0, (ws.length : Int), [], fitN w x, 0⟩ : Cell)]).map Cell.row)]) := by
 refine ACalls.of Try.func25 rfl rfl rfl (n := 19) (by decide) (nbE rfl) (.sr ?_)
 refine .an ?_
 refine .nil (.sr ?_)
 refine .mv ?_
 refine .mv ?_
 refine .callO [0, 1, 2] [] ok33 (wire_spec (w := w) (ws := ws) (cs := cs) (nm := nm) (fz := fz) (dn := dn) (rl := rl) (by omega) (by omega)) rfl (.named rfl rfl (.keep rfl rfl .nil)) ⟨rfl, rfl, rfl, trivial⟩ rfl (by decide) (fun _ h => by cases h) (fun _ h => by cases h) (by decide) (by decide) ?_
 rintro r objs' ⟨rfl, rfl⟩ _
 refine ⟨⟨rfl, (by intro ob hob; simp only [List.mem_cons, List.not_mem_nil, or_false] at hob; rcases hob with rfl | rfl | rfl <;> rfl), .inl rfl⟩, ?_⟩
 refine .an ?_
 refine .nil (.sr ?_)
 refine .mv ?_
 refine .mv ?_
 refine .mv ?_
 refine .mv ?_
 refine .callP ok65 (bfit_spec (w := w) (x := x) ((by omega))) rfl (.keep rfl rfl (.keep rfl rfl .nil)) (by decide) rfl ?_
 refine .vl (Y.build pl39 ze39 rfl rfl rfl) (.sh (Sh.fzA (d := 16) 1 3 rfl rfl) ?_)
 refine .callO [0, 1, 2] [] ok32 (bcell_spec (c := (⟨1, 0, (((ws).length : Nat) : Int), ([] : List Int), fitN w x, 0⟩ : Cell)) (ws := ws ++ [w]) (cs := cs) (nm := nm) (fz := fz) (dn := dn) (rl := rl) (by first | omega | simp [-List.getD_eq_getElem?_getD] <;> omega) (by first | omega | simp [-List.getD_eq_getElem?_getD] <;> omega) (by first | omega | simp [-List.getD_eq_getElem?_getD] <;> omega)) rfl (.named rfl rfl (.keep rfl rfl .nil)) ⟨rfl, rfl, rfl, trivial⟩ rfl (by decide) (fun _ h => by cases h) (fun _ h => by cases h) (by decide) (by decide) ?_
 rintro r objs' ⟨rfl, rfl⟩ _
 refine ⟨⟨rfl, (by intro ob hob; simp only [List.mem_cons, List.not_mem_nil, or_false] at hob; rcases hob with rfl | rfl | rfl <;> rfl), .inl rfl⟩, ?_⟩
 refine .nil (.sr ?_)
 refine .mv ?_
 refine .an ?_
 refine .nil (.ret ?_)
 exact ⟨_, _, rfl, rfl, rfl, rfl⟩
theorem bop_spec {nm : ByteArray} {ws : List Int} {cs : List Cell} {fz dn : Int} {rl : List Int} (hws : ws.length ≤ 1048000) (hcs : cs.length ≤ 1048000) {op w : Int} {args : List Int} (hx : args.length ≤ 17592186043904) : ACalls Try.prog 27 [.ptr 0 0 0 0, vi op, vi w, .fz 1 (args.map irow)] [.cells [.v (.string nm), .slc 1 1 0 ws.length, .slc 2 6 0 cs.length, .v (.slice none 0 0), .v (.slice none 0 0), .v (.slice none 0 0), .v (.slice none 0 0), .v (.slice none 0 0), vi fz, vi dn, .fz 1 (rl.map irow)], .rows 1 (ws.map irow), .rows 6 (cs.map Cell.row)] [0] (fun r o => r = (vi ((ws.length : Nat) : Int)) ∧ o = [.cells [.v (.string nm), .slc 1 1 0 ((ws ++ [w]).length), .slc 2 6 0 ((cs ++ [(⟨2, op, (ws.length : Int), args, 0, 0⟩ : Cell)]).length), .v (.slice none 0 0), .v (.slice none 0 0), .v (.slice none 0 0), .v (.slice none 0 0), .v (.slice none 0 0), vi fz, vi dn, .fz 1 (rl.map irow)], .rows 1 ((ws ++ [w]).map irow), .rows 6 ((cs ++ [(⟨2, op, (ws.length : Int), args, 0, 0⟩ : Cell)]).map Cell.row)]) := by
 refine ACalls.of Try.func27 rfl rfl rfl (n := 20) (by decide) (nbE rfl) (.sr ?_)
 refine .an ?_
 refine .nil (.sr ?_)
 refine .mv ?_
 refine .mv ?_
 refine .callO [0, 1, 2] [] ok33 (wire_spec (w := w) (ws := ws) (cs := cs) (nm := nm) (fz := fz) (dn := dn) (rl := rl) (by omega) (by omega)) rfl (.named rfl rfl (.keep rfl rfl .nil)) ⟨rfl, rfl, rfl, trivial⟩ rfl (by decide) (fun _ h => by cases h) (fun _ h => by cases h) (by decide) (by decide) ?_
 rintro r objs' ⟨rfl, rfl⟩ _
 refine ⟨⟨rfl, (by intro ob hob; simp only [List.mem_cons, List.not_mem_nil, or_false] at hob; rcases hob with rfl | rfl | rfl <;> rfl), .inl rfl⟩, ?_⟩
 refine .an ?_
 refine .nil (.sr ?_)
 refine .mv ?_
 refine .mv ?_
 refine .mv ?_
 refine .mv ?_
 refine .vl (Y.build pl39 ze39 rfl rfl rfl) ?_
 refine .callO [0, 1, 2] [] ok32 (bcell_spec (c := (⟨2, op, (((ws).length : Nat) : Int), args, 0, 0⟩ : Cell)) (ws := ws ++ [w]) (cs := cs) (nm := nm) (fz := fz) (dn := dn) (rl := rl) (by first | omega | simp [-List.getD_eq_getElem?_getD] <;> omega) (by first | omega | simp [-List.getD_eq_getElem?_getD] <;> omega) (by first | omega | simp [-List.getD_eq_getElem?_getD] <;> omega)) rfl (.named rfl rfl (.keep rfl rfl .nil)) ⟨rfl, rfl, rfl, trivial⟩ rfl (by decide) (fun _ h => by cases h) (fun _ h => by cases h) (by decide) (by decide) ?_
 rintro r objs' ⟨rfl, rfl⟩ _
 refine ⟨⟨rfl, (by intro ob hob; simp only [List.mem_cons, List.not_mem_nil, or_false] at hob; rcases hob with rfl | rfl | rfl <;> rfl), .inl rfl⟩, ?_⟩
 refine .nil (.sr ?_)
 refine .mv ?_
 refine .an ?_
 refine .nil (.ret ?_)
 exact ⟨_, _, rfl, rfl, rfl, rfl⟩
theorem awake_spec  : ACalls Try.prog 15 [] [] [] (fun r o => r = .v (.bool true) ∧ o = []) := by
 refine ACalls.of Try.func15 rfl rfl rfl (n := 27) (by decide) (Nat.zero_le _) (.sr ?_)
 refine .an ?_
 refine .nil (.sr (.alloc 101 ze53 rfl rfl (by decide) ?_))
 refine .nil (.seq (.sh (Sh.nilCell 101 301 1 1 rfl rfl rfl rfl (by decide)) ?_))
 refine .sh (Sh.nilCell 101 302 6 2 rfl rfl rfl rfl (by decide)) (.sh (Sh.fzCell 101 1 10 rfl rfl rfl) (.region ?_))
 refine .callO [101, 301, 302] [] ok25 (const_spec (w := 8) (x := 5) (ws := ([] : List Int)) (cs := ([] : List Cell)) (nm := ByteArray.empty) (fz := 0) (dn := 0) (rl := ([] : List Int)) (by first | omega | simp [-List.getD_eq_getElem?_getD] <;> omega) (by first | omega | simp [-List.getD_eq_getElem?_getD] <;> omega) (by first | omega | simp [-List.getD_eq_getElem?_getD] <;> omega)) rfl (.named rfl rfl (.keep rfl rfl (.keep rfl rfl .nil))) ⟨rfl, rfl, rfl, trivial⟩ rfl (by decide) (fun _ h => by cases h) (fun _ h => by cases h) (by decide) (by decide) ?_
 rintro r objs' ⟨rfl, rfl⟩ _
 refine ⟨⟨rfl, (by intro ob hob; simp only [List.mem_cons, List.not_mem_nil, or_false] at hob; rcases hob with rfl | rfl | rfl <;> rfl), .inl rfl⟩, ?_⟩
 refine .an ?_
 refine .nil (.sr ?_)
 refine .mv ?_
 refine .mv ?_
 refine .buildSlice (([(((([] : List Int)).length : Nat) : Int), (((([] : List Int)).length : Nat) : Int)] : List Int).map irow) sl22 ze3 rfl rfl rfl rfl rfl (uniform_map (s := 1) (f := irow) (fun _ => rfl)) rfl rfl rfl (by decide) ?_
 refine .sh (Sh.freezeE (d := 7) (([(((([] : List Int)).length : Nat) : Int), (((([] : List Int)).length : Nat) : Int)] : List Int).map irow) rfl (by first | rfl | exact rep_map rfl) (Frees.map irow_frees)) ?_
 refine .callO [101, 301, 302] [] ok27 (bop_spec (op := 2) (w := 8) (args := ([(((([] : List Int)).length : Nat) : Int), (((([] : List Int)).length : Nat) : Int)] : List Int)) (ws := ([] : List Int) ++ [8]) (cs := ([] : List Cell) ++ [(⟨1, 0, ((([] : List Int)).length : Int), [], fitN 8 5, 0⟩ : Cell)]) (nm := ByteArray.empty) (fz := 0) (dn := 0) (rl := ([] : List Int)) (by first | omega | simp [-List.getD_eq_getElem?_getD] <;> omega) (by first | omega | simp [-List.getD_eq_getElem?_getD] <;> omega) (by first | omega | simp [-List.getD_eq_getElem?_getD] <;> omega)) rfl (.named rfl rfl (.keep rfl rfl (.keep rfl rfl (.keep rfl rfl .nil)))) ⟨rfl, rfl, rfl, trivial⟩ rfl (by decide) (fun _ h => by cases h) (fun _ h => by cases h) (by decide) (by decide) ?_
 rintro r objs' ⟨rfl, rfl⟩ _
 refine ⟨⟨rfl, (by intro ob hob; simp only [List.mem_cons, List.not_mem_nil, or_false] at hob; rcases hob with rfl | rfl | rfl <;> rfl), .inl rfl⟩, ?_⟩
 refine .an ?_
 refine .nil (.sr ?_)
 refine .mv ?_
 refine .vl (Y.eql rfl rfl) ?_
 refine .mv ?_
 refine .splitD (d := 11) rfl (fun c11 => ?_) (fun c11 => ?_)
 refine .gw 11 (Y.move rfl rfl) (.gw 11 (Y.eql rfl rfl) ?_)
 refine .pk ?_
 refine .mv ?_
 refine .splitD (d := 15) rfl (fun c15 => ?_) (fun c15 => ?_)
 refine .gw 15 (Y.fieldAddr fl53_0 rfl rfl) (.gw 15 (Y.fieldAddr fl27_2 rfl rfl) (.gw 15 (Y.load sh23 rfl rfl rfl rfl) ?_))
 refine .gw 15 (Y.len (n := ((([] : List Cell) ++ [(⟨1, 0, ((([] : List Int)).length : Int), [], fitN 8 5, 0⟩ : Cell)]) ++ [(⟨2, 2, (((([] : List Int) ++ [8])).length : Int), ([(((([] : List Int)).length : Nat) : Int), (((([] : List Int)).length : Nat) : Int)] : List Int), 0, 0⟩ : Cell)]).length) sl23 rfl rfl) ?_
 refine .gw 15 (Y.eql rfl rfl) ?_
 refine .pk ?_
 refine .mv ?_
 refine .splitD (d := 22) rfl (fun c22 => ?_) (fun c22 => ?_)
 refine .gw 22 (Y.build pl27 ze27 rfl rfl rfl) (.sh (Sh.fzA (d := 23) 1 1 rfl rfl) (.sh (Sh.fzA (d := 23) 6 2 rfl rfl) ?_))
 refine .sh (Sh.fzA (d := 23) 1 3 rfl rfl) (.sh (Sh.fzA (d := 23) 5 4 rfl rfl) (.sh (Sh.fzA (d := 23) 3 5 rfl rfl) ?_))
 refine .sh (Sh.fzA (d := 23) 1 6 rfl rfl) (.sh (Sh.fzA (d := 23) 1 7 rfl rfl) (.sh (Sh.fzA (d := 23) 1 10 rfl rfl) ?_))
 refine .guardRun (d := 22) rfl (by decide) rfl (.callP ok16 (check_spec (n := emptyN) emptyN_small (by decide)) rfl (.keep rfl rfl .nil) (by decide) rfl (.gw 22 (Y.eql rfl rfl) ?_))
 refine .pk ?_
 refine .an ?_
 refine .nil (.ret ?_)
 exact .rb rfl (by rw [emptyN_err]; rfl)
 refine .gz 22 (.gz 22 (.gz 22 ?_))
 refine .pk ?_
 refine .an ?_
 refine .nil (.ret ?_)
 exact .rb rfl (by exfalso; simp_all)
 refine .gz 15 (.gz 15 (.gz 15 ?_))
 refine .gz 15 (.gz 15 ?_)
 refine .pk ?_
 refine .mv ?_
 refine .gz 22 (.gz 22 (.gz 22 ?_))
 refine .pk ?_
 refine .an ?_
 refine .nil (.ret ?_)
 exact .rb rfl (by exfalso; simp_all)
 refine .gz 11 (.gz 11 ?_)
 refine .pk ?_
 refine .mv ?_
 refine .gz 15 (.gz 15 (.gz 15 ?_))
 refine .gz 15 (.gz 15 ?_)
 refine .pk ?_
 refine .mv ?_
 refine .gz 22 (.gz 22 (.gz 22 ?_))
 refine .pk ?_
 refine .an ?_
 refine .nil (.ret ?_)
 exact .rb rfl (by exfalso; simp_all)
end Go.Proofs.Ytligpghohcfpnaa
/- Walks of copies. -/
namespace Go.Proofs.Ytligpghohcfpnaa
open Go Go.AW Go.Proofs
theorem cloneArr_spec {l : List Arr} (hl : l.length ≤ 2932031007317) : ACalls Try.prog 105 [.fz 5 (l.map Arr.row)] [] [] (fun r o => r = .uni 5 (l.map Arr.row) ∧ o = []) := by
 refine ACalls.of Try.func105 rfl rfl rfl (n := 8) (by decide) (nbE rfl) (.sr ?_)
 refine .an ?_
 refine .nil (.seq (.sr ?_))
 refine .mv ?_
 refine .eqNil sl24 rfl rfl (by decide) (fun b4 hb4 => ?_)
 refine .nil ?_
 refine .cond rfl (fun c4 => ?_) (fun c4 => ?_)
 refine .sr ?_
 refine .an ?_
 refine .nil (.sh (Sh.nilU (d := 2) 5 rfl) (.ret ?_))
 exact ⟨_, _, rfl, rfl, (cg1 (fun (z0 : List Arr) => X.uni 5 (z0.map Arr.row)) (by have := hb4 (by assumption); simpa using this : ([] : List Arr) = l) : X.uni 5 (([] : List Arr).map Arr.row) = X.uni 5 (l.map Arr.row)), rfl⟩
 refine .skip (.sr ?_)
 refine .buildSlice (([] : List Arr).map Arr.row) sl24 ze48 rfl rfl rfl rfl rfl (uniform_map (s := 5) (f := Arr.row) (fun _ => rfl)) rfl rfl rfl (by decide) ?_
 refine .mv ?_
 refine .sh (Sh.adoptE (d := 5) (n := ([] : List Arr).length) 105 (([] : List Arr).map Arr.row) rfl (by first | rfl | exact rep_map rfl) (len_map rfl) (by decide)) ?_
 refine .appendFE ((([] : List Arr) ++ l).map Arr.row) (([] : List Arr) ++ l).length sl24 ze48 rfl rfl rfl rfl (app_le (by first | omega | simp [-List.getD_eq_getElem?_getD] <;> omega)) (app_map (by first | omega | simp [-List.getD_eq_getElem?_getD] <;> omega)) (app_n (by first | omega | simp [-List.getD_eq_getElem?_getD] <;> omega)) (by first | omega | simp [-List.getD_eq_getElem?_getD] <;> omega) (by first | omega | simp [-List.getD_eq_getElem?_getD] <;> omega) (by decide) (by decide) ?_
 refine .an ?_
 refine .sh (Sh.detach (d := 2) (o := 105) rfl rfl (len_map (by omega)) (by decide)) ?_
 refine .nil (.ret ?_)
 exact ⟨_, _, rfl, rfl, (cg1 (fun (z0 : List Arr) => X.uni 5 (z0.map Arr.row)) (rfl : (([] : List Arr) ++ l) = l) : X.uni 5 ((([] : List Arr) ++ l).map Arr.row) = X.uni 5 (l.map Arr.row)), rfl⟩
theorem cloneStrm_spec {l : List Strm} (hl : l.length ≤ 4398046510976) : ACalls Try.prog 106 [.fz 3 (l.map Strm.row)] [] [] (fun r o => r = .uni 3 (l.map Strm.row) ∧ o = []) := by
 refine ACalls.of Try.func106 rfl rfl rfl (n := 8) (by decide) (nbE rfl) (.sr ?_)
 refine .an ?_
 refine .nil (.seq (.sr ?_))
 refine .mv ?_
 refine .eqNil sl25 rfl rfl (by decide) (fun b4 hb4 => ?_)
 refine .nil ?_
 refine .cond rfl (fun c4 => ?_) (fun c4 => ?_)
 refine .sr ?_
 refine .an ?_
 refine .nil (.sh (Sh.nilU (d := 2) 3 rfl) (.ret ?_))
 exact ⟨_, _, rfl, rfl, (cg1 (fun (z0 : List Strm) => X.uni 3 (z0.map Strm.row)) (by have := hb4 (by assumption); simpa using this : ([] : List Strm) = l) : X.uni 3 (([] : List Strm).map Strm.row) = X.uni 3 (l.map Strm.row)), rfl⟩
 refine .skip (.sr ?_)
 refine .buildSlice (([] : List Strm).map Strm.row) sl25 ze83 rfl rfl rfl rfl rfl (uniform_map (s := 3) (f := Strm.row) (fun _ => rfl)) rfl rfl rfl (by decide) ?_
 refine .mv ?_
 refine .sh (Sh.adoptE (d := 5) (n := ([] : List Strm).length) 105 (([] : List Strm).map Strm.row) rfl (by first | rfl | exact rep_map rfl) (len_map rfl) (by decide)) ?_
 refine .appendFE ((([] : List Strm) ++ l).map Strm.row) (([] : List Strm) ++ l).length sl25 ze83 rfl rfl rfl rfl (app_le (by first | omega | simp [-List.getD_eq_getElem?_getD] <;> omega)) (app_map (by first | omega | simp [-List.getD_eq_getElem?_getD] <;> omega)) (app_n (by first | omega | simp [-List.getD_eq_getElem?_getD] <;> omega)) (by first | omega | simp [-List.getD_eq_getElem?_getD] <;> omega) (by first | omega | simp [-List.getD_eq_getElem?_getD] <;> omega) (by decide) (by decide) ?_
 refine .an ?_
 refine .sh (Sh.detach (d := 2) (o := 105) rfl rfl (len_map (by omega)) (by decide)) ?_
 refine .nil (.ret ?_)
 exact ⟨_, _, rfl, rfl, (cg1 (fun (z0 : List Strm) => X.uni 3 (z0.map Strm.row)) (rfl : (([] : List Strm) ++ l) = l) : X.uni 3 ((([] : List Strm) ++ l).map Strm.row) = X.uni 3 (l.map Strm.row)), rfl⟩
theorem cloneCell_spec {l : List Cell} (hl : l.length ≤ 2199023255488) : ACalls Try.prog 107 [.fz 6 (l.map Cell.row)] [] [] (fun r o => r = .uni 6 (l.map Cell.row) ∧ o = []) := by
 refine ACalls.of Try.func107 rfl rfl rfl (n := 8) (by decide) (nbE rfl) (.sr ?_)
 refine .an ?_
 refine .nil (.seq (.sr ?_))
 refine .mv ?_
 refine .eqNil sl23 rfl rfl (by decide) (fun b4 hb4 => ?_)
 refine .nil ?_
 refine .cond rfl (fun c4 => ?_) (fun c4 => ?_)
 refine .sr ?_
 refine .an ?_
 refine .nil (.sh (Sh.nilU (d := 2) 6 rfl) (.ret ?_))
 exact ⟨_, _, rfl, rfl, (cg1 (fun (z0 : List Cell) => X.uni 6 (z0.map Cell.row)) (by have := hb4 (by assumption); simpa using this : ([] : List Cell) = l) : X.uni 6 (([] : List Cell).map Cell.row) = X.uni 6 (l.map Cell.row)), rfl⟩
 refine .skip (.sr ?_)
 refine .buildSlice (([] : List Cell).map Cell.row) sl23 ze39 rfl rfl rfl rfl rfl (uniform_map (s := 6) (f := Cell.row) (fun _ => rfl)) rfl rfl rfl (by decide) ?_
 refine .mv ?_
 refine .sh (Sh.adoptE (d := 5) (n := ([] : List Cell).length) 105 (([] : List Cell).map Cell.row) rfl (by first | rfl | exact rep_map rfl) (len_map rfl) (by decide)) ?_
 refine .appendFE ((([] : List Cell) ++ l).map Cell.row) (([] : List Cell) ++ l).length sl23 ze39 rfl rfl rfl rfl (app_le (by first | omega | simp [-List.getD_eq_getElem?_getD] <;> omega)) (app_map (by first | omega | simp [-List.getD_eq_getElem?_getD] <;> omega)) (app_n (by first | omega | simp [-List.getD_eq_getElem?_getD] <;> omega)) (by first | omega | simp [-List.getD_eq_getElem?_getD] <;> omega) (by first | omega | simp [-List.getD_eq_getElem?_getD] <;> omega) (by decide) (by decide) ?_
 refine .an ?_
 refine .sh (Sh.detach (d := 2) (o := 105) rfl rfl (len_map (by omega)) (by decide)) ?_
 refine .nil (.ret ?_)
 exact ⟨_, _, rfl, rfl, (cg1 (fun (z0 : List Cell) => X.uni 6 (z0.map Cell.row)) (rfl : (([] : List Cell) ++ l) = l) : X.uni 6 ((([] : List Cell) ++ l).map Cell.row) = X.uni 6 (l.map Cell.row)), rfl⟩
end Go.Proofs.Ytligpghohcfpnaa
/- The walk of clone. -/
namespace Go.Proofs.Ytligpghohcfpnaa
open Go Go.AW Go.Proofs
theorem clone_spec {n : Netlist} (hM : VP n) : ACalls Try.prog 71 [.agg (Netlist.row n)] [] [] (fun r o => r = .agg (Netlist.row n) ∧ o = []) := by
 refine ACalls.of Try.func71 rfl rfl rfl (n := 55) (by decide) (nbE rfl) ?_
 have hs := hM.small; have hf := hM.formed; have hnc := hM.ncells; have hnw := hM.nwidths; have hna := hM.nargs; have hnr := hM.nrets; have hns := hM.nstreams; have hac := hf.nactive; have hda := hf.ndata; have hnm := hM.nmems; have hni := hM.nins
 refine .sr (.box 101 rfl rfl rfl rfl rfl (by decide) (.alloc 102 ze27 rfl rfl (by decide) ?_))
 refine .nil (.seq (.regionLate [13, 14, 15, 16, 17, 18, 19] [101] [101, 102] rfl ?_))
 refine .blind 0 rfl (by kernel_rfl) (by kernel_rfl) (Blind.fieldAddr fl27_1 rfl rfl) (by decide) (AFirstL.load 1 rfl (by kernel_rfl) (by kernel_rfl) sh22 rfl rfl rfl rfl rfl (by decide) (AFirstL.blind 3 rfl (by kernel_rfl) (by kernel_rfl) (Blind.fieldAddr fl27_3 rfl rfl) (by decide) ?_))
 refine .load 4 rfl (by kernel_rfl) (by kernel_rfl) sh22 rfl rfl rfl rfl rfl (by decide) (AFirstL.blind 6 rfl (by kernel_rfl) (by kernel_rfl) (Blind.fieldAddr fl27_4 rfl rfl) (by decide) (AFirstL.load 7 rfl (by kernel_rfl) (by kernel_rfl) sh24 rfl rfl rfl rfl rfl (by decide) ?_))
 refine .blind 9 rfl (by kernel_rfl) (by kernel_rfl) (Blind.fieldAddr fl27_5 rfl rfl) (by decide) (AFirstL.load 10 rfl (by kernel_rfl) (by kernel_rfl) sh25 rfl rfl rfl rfl rfl (by decide) (AFirstL.goL rfl rfl (namesIn.cells rfl rfl rfl namesIn.nil) ?_))
 refine .one 2 rfl (by kernel_rfl) ?_
 refine .callP ok68 (cloneInt_spec (l := n.widths) ((by omega))) rfl (.keep rfl rfl .nil) (by decide) rfl ?_
 refine .nil ⟨rfl, ?_⟩
 refine .blind 12 rfl (by kernel_rfl) (by kernel_rfl) (Blind.fieldAddr fl27_1 rfl rfl) (by decide) (AHeldL.one 5 rfl (by kernel_rfl) ?_)
 refine .callP ok68 (cloneInt_spec (l := n.ins) ((by omega))) rfl (.keep rfl rfl .nil) (by decide) rfl ?_
 refine .nil ⟨rfl, ?_⟩
 refine .one 8 rfl (by kernel_rfl) ?_
 refine .callP ok105 (cloneArr_spec (l := n.mems) ((by omega))) rfl (.keep rfl rfl .nil) (by decide) rfl ?_
 refine .nil ⟨rfl, ?_⟩
 refine .one 11 rfl (by kernel_rfl) ?_
 refine .callP ok106 (cloneStrm_spec (l := n.streams) ((by omega))) rfl (.keep rfl rfl .nil) (by decide) rfl ?_
 refine .nil ⟨rfl, ?_⟩
 refine .late rfl (.one 13 rfl (by kernel_rfl) (.sh (Sh.freezeE (d := 7) (n.widths.map irow) rfl (by first | rfl | exact rep_map rfl) (Frees.map irow_frees)) ?_))
 refine .storeC si22 rfl rfl rfl rfl rfl rfl (nbE rfl) rfl ?_
 refine .nil ⟨rfl, ?_⟩
 refine .quietN (n := 5) [14] [15, 16, 17, 18, 19] 15 rfl (by kernel_rfl) (.cn 14 rfl (Y.fieldAddr fl27_3 rfl rfl) (.nil ?_))
 refine .one 15 rfl (by kernel_rfl) (.sh (Sh.freezeE (d := 10) (n.ins.map irow) rfl (by first | rfl | exact rep_map rfl) (Frees.map irow_frees)) (.storeC si22 rfl rfl rfl rfl rfl rfl (nbE rfl) rfl ?_))
 refine .nil ⟨rfl, ?_⟩
 refine .quietN (n := 3) [16] [17, 18, 19] 17 rfl (by kernel_rfl) (.cn 16 rfl (Y.fieldAddr fl27_4 rfl rfl) (.nil ?_))
 refine .one 17 rfl (by kernel_rfl) (.sh (Sh.freezeE (d := 13) (n.mems.map Arr.row) rfl (by first | rfl | exact rep_map rfl) (Frees.map Arr.row_frees)) (.storeC si24 rfl rfl rfl rfl rfl rfl (nbE rfl) rfl ?_))
 refine .nil ⟨rfl, ?_⟩
 refine .quietN (n := 1) [18] [19] 19 rfl (by kernel_rfl) (.cn 18 rfl (Y.fieldAddr fl27_5 rfl rfl) (.nil ?_))
 refine .one 19 rfl (by kernel_rfl) (.sh (Sh.freezeE (d := 16) (n.streams.map Strm.row) rfl (by first | rfl | exact rep_map rfl) (Frees.map Strm.row_frees)) (.storeC si25 rfl rfl rfl rfl rfl rfl (nbE rfl) rfl ?_))
 refine .nil ⟨rfl, ?_⟩
 refine .done (by kernel_rfl) ?_
 refine .le (st' := ⟨[(1, .ptr 101 0 0 0), (2, .ptr 102 0 0 0)], [(101, .cells [.v (.string n.name), .fz 1 (n.widths.map irow), .fz 6 (n.cells.map Cell.row), .fz 1 (n.ins.map irow), .fz 5 (n.mems.map Arr.row), .fz 3 (n.streams.map Strm.row), .fz 1 (n.active.map irow), .fz 1 (n.data.map irow), vi n.freeze, vi n.done, .fz 1 (n.rets.map irow)]), (102, .cells [.v (.string ByteArray.empty), .v (.slice none 0 0), .v (.slice none 0 0), .v (.slice none 0 0), .v (.slice none 0 0), .v (.slice none 0 0), .v (.slice none 0 0), .v (.slice none 0 0), vi 0, vi 0, .v (.slice none 0 0)])]⟩) (Le.mk (.c (.c (.nil))) (.c (.c (.nil)))) ?_
 refine .seq (.regionLate [13, 14, 15, 16, 17, 18, 19] [101] [101, 102] rfl (AFirstL.blind 0 rfl (by kernel_rfl) (by kernel_rfl) (Blind.fieldAddr fl27_6 rfl rfl) (by decide) ?_))
 refine .load 1 rfl (by kernel_rfl) (by kernel_rfl) sh22 rfl rfl rfl rfl rfl (by decide) (AFirstL.blind 3 rfl (by kernel_rfl) (by kernel_rfl) (Blind.fieldAddr fl27_7 rfl rfl) (by decide) (AFirstL.load 4 rfl (by kernel_rfl) (by kernel_rfl) sh22 rfl rfl rfl rfl rfl (by decide) ?_))
 refine .blind 6 rfl (by kernel_rfl) (by kernel_rfl) (Blind.fieldAddr fl27_10 rfl rfl) (by decide) (AFirstL.load 7 rfl (by kernel_rfl) (by kernel_rfl) sh22 rfl rfl rfl rfl rfl (by decide) (AFirstL.blind 9 rfl (by kernel_rfl) (by kernel_rfl) (Blind.fieldAddr fl27_2 rfl rfl) (by decide) ?_))
 refine .load 10 rfl (by kernel_rfl) (by kernel_rfl) sh23 rfl rfl rfl rfl rfl (by decide) (AFirstL.goL rfl rfl (namesIn.cells rfl rfl rfl namesIn.nil) (AHeldL.one 2 rfl (by kernel_rfl) ?_))
 refine .callP ok68 (cloneInt_spec (l := n.active) ((by omega))) rfl (.keep rfl rfl .nil) (by decide) rfl ?_
 refine .nil ⟨rfl, ?_⟩
 refine .blind 12 rfl (by kernel_rfl) (by kernel_rfl) (Blind.fieldAddr fl27_6 rfl rfl) (by decide) (AHeldL.one 5 rfl (by kernel_rfl) ?_)
 refine .callP ok68 (cloneInt_spec (l := n.data) ((by omega))) rfl (.keep rfl rfl .nil) (by decide) rfl ?_
 refine .nil ⟨rfl, ?_⟩
 refine .one 8 rfl (by kernel_rfl) ?_
 refine .callP ok68 (cloneInt_spec (l := n.rets) ((by omega))) rfl (.keep rfl rfl .nil) (by decide) rfl ?_
 refine .nil ⟨rfl, ?_⟩
 refine .one 11 rfl (by kernel_rfl) ?_
 refine .callP ok107 (cloneCell_spec (l := n.cells) ((by omega))) rfl (.keep rfl rfl .nil) (by decide) rfl ?_
 refine .nil ⟨rfl, ?_⟩
 refine .late rfl (.one 13 rfl (by kernel_rfl) (.sh (Sh.freezeE (d := 23) (n.active.map irow) rfl (by first | rfl | exact rep_map rfl) (Frees.map irow_frees)) ?_))
 refine .storeC si22 rfl rfl rfl rfl rfl rfl (nbE rfl) rfl ?_
 refine .nil ⟨rfl, ?_⟩
 refine .quietN (n := 5) [14] [15, 16, 17, 18, 19] 15 rfl (by kernel_rfl) (.cn 14 rfl (Y.fieldAddr fl27_7 rfl rfl) (.nil ?_))
 refine .one 15 rfl (by kernel_rfl) (.sh (Sh.freezeE (d := 26) (n.data.map irow) rfl (by first | rfl | exact rep_map rfl) (Frees.map irow_frees)) (.storeC si22 rfl rfl rfl rfl rfl rfl (nbE rfl) rfl ?_))
 refine .nil ⟨rfl, ?_⟩
 refine .quietN (n := 3) [16] [17, 18, 19] 17 rfl (by kernel_rfl) (.cn 16 rfl (Y.fieldAddr fl27_10 rfl rfl) (.nil ?_))
 refine .one 17 rfl (by kernel_rfl) (.sh (Sh.freezeE (d := 29) (n.rets.map irow) rfl (by first | rfl | exact rep_map rfl) (Frees.map irow_frees)) (.storeC si22 rfl rfl rfl rfl rfl rfl (nbE rfl) rfl ?_))
 refine .nil ⟨rfl, ?_⟩
 refine .quietN (n := 1) [18] [19] 19 rfl (by kernel_rfl) (.cn 18 rfl (Y.fieldAddr fl27_2 rfl rfl) (.nil ?_))
 refine .one 19 rfl (by kernel_rfl) (.sh (Sh.adoptE (d := 32) (n := n.cells.length) 132 (n.cells.map Cell.row) rfl (by first | rfl | exact rep_map rfl) (len_map rfl) (by decide)) (.storeC si23 rfl rfl rfl rfl rfl rfl (nbE rfl) rfl ?_))
 refine .nil ⟨rfl, ?_⟩
 refine .done (by kernel_rfl) ?_
 refine .le (st' := ⟨[(1, .ptr 101 0 0 0), (2, .ptr 102 0 0 0)], [(101, .cells [.v (.string n.name), .fz 1 (n.widths.map irow), .slc 132 6 0 n.cells.length, .fz 1 (n.ins.map irow), .fz 5 (n.mems.map Arr.row), .fz 3 (n.streams.map Strm.row), .fz 1 (n.active.map irow), .fz 1 (n.data.map irow), vi n.freeze, vi n.done, .fz 1 (n.rets.map irow)]), (102, .cells [.v (.string ByteArray.empty), .v (.slice none 0 0), .v (.slice none 0 0), .v (.slice none 0 0), .v (.slice none 0 0), .v (.slice none 0 0), .v (.slice none 0 0), .v (.slice none 0 0), vi 0, vi 0, .v (.slice none 0 0)]), (132, .rows 6 (n.cells.map Cell.row))]⟩) (Le.mk (.c (.c (.nil))) (.c (.c (.c (.nil))))) ?_
 refine .seq (.sr ?_)
 refine .fa fl27_2 ?_
 refine .ld sh23 ?_
 refine .vl (Y.len (n := n.cells.length) sl23 rfl rfl) ?_
 refine .mv ?_
 refine .nil (.block ?_)
 refine .loop2 (fun (n40_4 : Nat) (n32_4 : List Cell) => ⟨[(1, .ptr 101 0 0 0), (2, .ptr 102 0 0 0), (38, .slc 132 6 0 n.cells.length), (39, vi ((n.cells.length : Nat) : Int)), (40, vi (n40_4 : Int))], [(101, .cells [.v (.string n.name), .fz 1 (n.widths.map irow), .slc 132 6 0 n.cells.length, .fz 1 (n.ins.map irow), .fz 5 (n.mems.map Arr.row), .fz 3 (n.streams.map Strm.row), .fz 1 (n.active.map irow), .fz 1 (n.data.map irow), vi n.freeze, vi n.done, .fz 1 (n.rets.map irow)]), (102, .cells [.v (.string ByteArray.empty), .v (.slice none 0 0), .v (.slice none 0 0), .v (.slice none 0 0), .v (.slice none 0 0), .v (.slice none 0 0), .v (.slice none 0 0), .v (.slice none 0 0), vi 0, vi 0, .v (.slice none 0 0)]), (132, .rows 6 (n32_4.map Cell.row))]⟩) (fun (n40_4 : Nat) (n32_4 : List Cell) => (n32_4.length = n.cells.length) ∧ ((n40_4 : Int) ≤ ((n.cells.length : Nat) : Int)) ∧ (n32_4 = n.cells)) (fun (n40_4 : Nat) (n32_4 : List Cell) => (((n.cells.length : Nat) : Int) - (n40_4 : Int)).toNat) 0 n.cells (⟨by omega, by omega, rfl⟩) (Le.mk (.c (.c (.c (.c (.cons (look_int rfl (by first | rfl | omega)) (.nil)))))) (.c (.c (.c (.nil))))) (fun n40_4 n32_4 hI4 => ?_)
 obtain ⟨hl132, hb4, hq4⟩ := hI4
 refine .sr (.vl (Y.lss rfl rfl) (.nil ?_))
 refine .seq ?_
 refine .condD rfl (fun c41 => ?_) (fun c41 => ?_)
 refine .skip (.seq (.block ?_))
 refine .sr ?_
 refine .mv ?_
 refine .vl (Y.indexO (m := n40_4) sl23 rfl rfl (by first | rfl | omega) (by omega)) ?_
 refine .vl (Y.loadA sh39 rfl (row_getD0 (d := default) (by first | omega | simp [-List.getD_eq_getElem?_getD] <;> omega)) (nbE rfl) rfl rfl) ?_
 refine .alloc 104 ze39 rfl rfl (by decide) ?_
 refine .an ?_
 refine .storeC si39 rfl rfl rfl rfl rfl rfl (nbE rfl) rfl (.nil ?_)
 refine .le (st' := ⟨[(1, .ptr 101 0 0 0), (2, .ptr 102 0 0 0), (3, vi (n40_4 : Int)), (4, .ptr 104 0 0 0), (38, .slc 132 6 0 n.cells.length), (39, vi ((n.cells.length : Nat) : Int)), (40, vi (n40_4 : Int))], [(101, .cells [.v (.string n.name), .fz 1 (n.widths.map irow), .slc 132 6 0 n.cells.length, .fz 1 (n.ins.map irow), .fz 5 (n.mems.map Arr.row), .fz 3 (n.streams.map Strm.row), .fz 1 (n.active.map irow), .fz 1 (n.data.map irow), vi n.freeze, vi n.done, .fz 1 (n.rets.map irow)]), (102, .cells [.v (.string ByteArray.empty), .v (.slice none 0 0), .v (.slice none 0 0), .v (.slice none 0 0), .v (.slice none 0 0), .v (.slice none 0 0), .v (.slice none 0 0), .v (.slice none 0 0), vi 0, vi 0, .v (.slice none 0 0)]), (104, .cells [vi ((n32_4.getD n40_4 default).kind), vi ((n32_4.getD n40_4 default).op), vi ((n32_4.getD n40_4 default).out), .fz 1 (((n32_4.getD n40_4 default).args).map irow), .v (.int .u64 (((n32_4.getD n40_4 default).num : Nat) : Int)), vi ((n32_4.getD n40_4 default).mem)]), (132, .rows 6 (n32_4.map Cell.row))]⟩) (Le.mk (.c (.c (.c (.c (.c (.c (.c (.nil)))))))) (.c (.c (.c (.c (.nil)))))) ?_
 have h6 := hna (n32_4.getD n40_4 default) (by rw [hq4]; exact getD_in (by omega))
 refine .regionHeld [101, 104] [101, 102, 104, 132] rfl (.blind 0 rfl (by kernel_rfl) (Blind.fieldAddr fl27_2 rfl rfl) (by decide) (.load 1 rfl (by kernel_rfl) sh23 rfl rfl rfl rfl rfl (by decide) ?_))
 refine .blind 2 rfl (by kernel_rfl) (Blind.move rfl rfl) (by decide) (.blind 3 rfl (by kernel_rfl) (Blind.fieldAddr fl39_3 rfl rfl) (by decide) (.load 4 rfl (by kernel_rfl) sh22 rfl rfl rfl rfl rfl (by decide) ?_))
 refine .goL rfl rfl (namesIn.cells rfl rfl rfl (namesIn.cells rfl rfl rfl namesIn.nil)) (.one 5 rfl (by kernel_rfl) ?_)
 refine .callP ok68 (cloneInt_spec (l := ((n32_4.getD n40_4 default).args)) ((by first | omega | simp [-List.getD_eq_getElem?_getD] <;> omega))) rfl (.keep rfl rfl .nil) (by decide) rfl ?_
 refine .nil ⟨rfl, ?_⟩
 refine .one 6 rfl (by kernel_rfl) ?_
 refine .vl (Y.indexO (m := n40_4) sl23 rfl rfl (by first | rfl | omega) (by omega)) ?_
 refine .nil ⟨rfl, ?_⟩
 refine .one 7 rfl (by kernel_rfl) ?_
 refine .fa fl39_3 ?_
 refine .nil ⟨rfl, ?_⟩
 refine .one 8 rfl (by kernel_rfl) (.sh (Sh.freezeE (d := 50) (((n32_4.getD n40_4 default).args).map irow) rfl (by first | rfl | exact rep_map rfl) (Frees.map irow_frees)) ?_)
 refine .storeE ((n32_4.set n40_4 (n32_4.getD n40_4 default)).map Cell.row) si22 rfl rfl rfl rfl rfl rfl rfl (row_getD0 (d := default) (by omega)) (nbE rfl) (set_map0 rfl) ?_
 refine .nil ⟨rfl, ?_⟩
 refine .done (by kernel_rfl) (.region ?_)
 refine .vl (Y.addI rfl rfl (by omega)) ?_
 refine .mv ?_
 refine .nil ?_
 exact ⟨n40_4 + 1, n32_4.set n40_4 (n32_4.getD n40_4 default), ⟨by first | omega | (simp [-List.getD_eq_getElem?_getD]; done) | (simp [-List.getD_eq_getElem?_getD]; omega), by first | omega | (simp [-List.getD_eq_getElem?_getD]; done) | (simp [-List.getD_eq_getElem?_getD]; omega), (set_getD_self ..).trans hq4⟩, by omega, Le.mk (.c (.c (.c (.c (.cons (look_int rfl (by first | rfl | omega)) (.nil)))))) (.c (.c (.c (.nil))))⟩
 refine .exit (.seq ?_)
 refine .sh (Sh.fzObj 101 132 2 rfl rfl rfl (len_map (by first | omega | simp [-List.getD_eq_getElem?_getD] <;> omega)) (Frees.map Cell.row_frees) (by decide) rfl rfl rfl) ?_
 refine .region (.vl (Y.loadA sh27 rfl rfl (nbE rfl) rfl rfl) (.storeC si27 rfl rfl rfl rfl rfl rfl (nbE rfl) rfl ?_))
 refine .nil (.ret ?_)
 subst hq4; exact ⟨_, _, rfl, rfl, rfl, rfl⟩
end Go.Proofs.Ytligpghohcfpnaa
/- The walk of renumbering. -/
namespace Go.Proofs.Ytligpghohcfpnaa
open Go Go.AW Go.Proofs
theorem renum_spec {p : Nat → Bool} {l nb : List Int} {k : Nat} (hl : l.length ≤ 17592186043904) (hn : NumL p k nb) (hk : k ≤ 1048576) (hr : ∀ x ∈ l, x < k) : ACalls Try.prog 73 [.fz 1 (l.map irow), .fp [.fz 1 (nb.map irow)] 0] [] [] (fun r o => r = .uni 1 ((l.map (rnB p)).map irow) ∧ o = []) := by
 refine ACalls.of Try.func73 rfl rfl rfl (n := 27) (by decide) (nbE rfl) ?_
 have hn1 := hn.1
 refine .sr ?_
 refine .an ?_
 refine .nil (.sr ?_)
 refine .mv ?_
 refine .callP ok68 (cloneInt_spec (l := l) ((by omega))) rfl (.keep rfl rfl .nil) (by decide) rfl ?_
 refine .assignX rfl (by decide) (.sh (Sh.adoptE (d := 4) (n := l.length) 104 (l.map irow) rfl (by first | rfl | exact rep_map rfl) (len_map rfl) (by decide)) (.nil ?_))
 refine .seq (.sr ?_)
 refine .mv ?_
 refine .vl (Y.len (n := l.length) sl22 rfl rfl) ?_
 refine .mv ?_
 refine .nil (.block ?_)
 refine .loop2 (fun (n11_3 : Nat) (l4_3 : List Int) => ⟨[(1, .fp [.fz 1 (nb.map irow)] 0), (4, .slc 104 1 0 l.length), (9, .slc 104 1 0 l.length), (10, vi ((l.length : Nat) : Int)), (11, vi (n11_3 : Int))], [(104, .rows 1 (l4_3.map irow))]⟩) (fun (n11_3 : Nat) (l4_3 : List Int) => (l4_3.length = l.length) ∧ ((n11_3 : Int) ≤ ((l.length : Nat) : Int)) ∧ (Rnm p l l4_3 n11_3)) (fun (n11_3 : Nat) (l4_3 : List Int) => (((l.length : Nat) : Int) - (n11_3 : Int)).toNat) 0 l (⟨by omega, by omega, Rnm.init p l⟩) (Le.mk (.c (.c (.c (.c (.cons (look_int rfl (by first | rfl | omega)) (.nil)))))) (.c (.nil))) (fun n11_3 l4_3 hI3 => ?_)
 obtain ⟨hl104, hb3, hR⟩ := hI3
 refine .sr (.vl (Y.lss rfl rfl) (.nil ?_))
 refine .seq ?_
 refine .condD rfl (fun c12 => ?_) (fun c12 => ?_)
 refine .skip ?_
 refine .join1 (fun (l4_j7 : List Int) => ⟨[(1, .fp [.fz 1 (nb.map irow)] 0), (4, .slc 104 1 0 l.length), (9, .slc 104 1 0 l.length), (10, vi ((l.length : Nat) : Int)), (11, vi (n11_3 : Int))], [(104, .rows 1 (l4_j7.map irow))]⟩) (fun (l4_j7 : List Int) => (l4_j7.length = l.length) ∧ (Rnm p l l4_j7 (n11_3 + 1))) ?_ (fun l4_j7 hJx7 => ?_)
 refine .block (.sr ?_)
 refine .mv ?_
 refine .vl (Y.indexO (m := n11_3) sl22 rfl rfl (by first | rfl | omega) (by omega)) ?_
 refine .vl (Y.load sh3 rfl (row_getD0 (d := 0) (by omega)) rfl rfl) ?_
 refine .an ?_
 refine .an ?_
 refine .nil (.seq ?_)
 have hx := hR.hi n11_3 (Nat.le_refl _)
 have hx2 := hr (l.getD n11_3 0) (getD_mem (by omega))
 rw [← hx] at hx2
 refine .region ?_
 refine .mv ?_
 refine .vl (Y.geq rfl rfl) (.nil ?_)
 refine .condD rfl (fun c17 => ?_) (fun c17 => ?_)
 refine .region ?_
 refine .mv ?_
 refine .mv ?_
 refine .ld sh22 ?_
 refine .mv ?_
 refine .vl (Y.indexF (m := (l4_3.getD n11_3 0).toNat) sl22 rfl rfl (by omega) (row_getD (d := 0) (by omega))) ?_
 refine .ld sh3 ?_
 refine .vl (Y.indexO (m := n11_3) sl22 rfl rfl (by first | rfl | omega) (by omega)) ?_
 refine .storeE ((l4_3.set n11_3 (nb.getD ((l4_3.getD n11_3 0).toNat) 0)).map irow) si3 rfl rfl rfl rfl rfl rfl rfl (row_getD0 (d := 0) (by omega)) (nbE rfl) (set_map0 rfl) ?_
 refine .nil ?_
 exact ⟨l4_3.set n11_3 (nb.getD ((l4_3.getD n11_3 0).toNat) 0), ⟨by first | omega | (simp [-List.getD_eq_getElem?_getD]; done) | (simp [-List.getD_eq_getElem?_getD]; omega), by first | exact hR.set (by omega) (by rw [hn.2 _ (by omega), hx]; exact (rnB_at (by omega)).symm) | exact hR.skip (by omega)⟩, Le.mk (.c (.c (.c (.c (.c (.nil)))))) (.c (.nil))⟩
 refine .skip ?_
 exact ⟨l4_3, ⟨by omega, by first | exact hR.set (by omega) (by rw [hn.2 _ (by omega), hx]; exact (rnB_at (by omega)).symm) | exact hR.skip (by omega)⟩, Le.mk (.c (.c (.c (.c (.c (.nil)))))) (.c (.nil))⟩
 obtain ⟨hlj7_104, hJ7⟩ := hJx7
 refine .region ?_
 refine .vl (Y.addI rfl rfl (by omega)) ?_
 refine .mv ?_
 refine .nil ?_
 exact ⟨n11_3 + 1, l4_j7, ⟨by omega, by omega, hJ7⟩, by omega, Le.mk (.c (.c (.c (.c (.cons (look_int rfl (by first | rfl | omega)) (.nil)))))) (.c (.nil))⟩
 refine .exit (.sr ?_)
 refine .mv ?_
 refine .an ?_
 refine .sh (Sh.detach (d := 3) (o := 104) rfl rfl (len_map (by omega)) (by decide)) ?_
 refine .nil (.ret ?_)
 exact ⟨_, _, rfl, rfl, by rw [Rnm.done (show Rnm p l l4_3 l.length by rw [show l.length = n11_3 by omega]; exact hR)]; exact ⟨rfl, rfl⟩⟩
end Go.Proofs.Ytligpghohcfpnaa
/- Walks through equality. -/
namespace Go.Proofs.Ytligpghohcfpnaa
open Go Go.AW Go.Proofs
theorem equal60_spec {l m : List Int} (hl : l.length ≤ 35184372088832) (hm : m.length ≤ 35184372088832) : ACalls Try.prog 60 [.fz 1 (l.map irow), .fz 1 (m.map irow)] [] [] (fun r o => r = .v (.bool (decide (EqL intB 0 l m))) ∧ o = []) := by
 refine ACalls.of Try.func60 rfl rfl rfl (n := 26) (by decide) (nbE rfl) (.sr ?_)
 refine .an ?_
 refine .nil (.seq (.sr ?_))
 refine .mv ?_
 refine .vl (Y.len (n := l.length) sl22 rfl (congrArg some (List.length_map ..))) ?_
 refine .mv ?_
 refine .vl (Y.len (n := m.length) sl22 rfl (congrArg some (List.length_map ..))) (.vl (Y.neq rfl rfl) (.nil ?_))
 refine .condD rfl (fun c10 => ?_) (fun c10 => ?_)
 refine .sr ?_
 refine .an ?_
 refine .nil (.ret ?_)
 exact .rb rfl (df (eqL_no_len (by omega)))
 refine .skip (.seq (.sr ?_))
 refine .mv ?_
 refine .vl (Y.len (n := l.length) sl22 rfl (congrArg some (List.length_map ..))) ?_
 refine .mv ?_
 refine .nil (.block ?_)
 refine .loop1 (fun (n13_4 : Nat) => ⟨[(0, .fz 1 (l.map irow)), (1, .fz 1 (m.map irow)), (12, vi ((l.length : Nat) : Int)), (13, vi (n13_4 : Int))], []⟩) (fun (n13_4 : Nat) => ((n13_4 : Int) ≤ ((l.length : Nat) : Int)) ∧ (∀ j, j < n13_4 → intB (l.getD j 0) (m.getD j 0) = true)) (fun (n13_4 : Nat) => (((l.length : Nat) : Int) - (n13_4 : Int)).toNat) 0 (⟨by omega, fun j hj => by omega⟩) (Le.mk (.c (.c (.c (.cons (look_int rfl (by first | rfl | omega)) (.nil))))) (.nil)) (fun n13_4 hI4 => ?_)
 obtain ⟨hb4, he⟩ := hI4
 refine .sr (.vl (Y.lss rfl rfl) (.nil ?_))
 refine .seq ?_
 refine .condD rfl (fun c14 => ?_) (fun c14 => ?_)
 refine .skip (.seq (.block ?_))
 refine .sr ?_
 refine .mv ?_
 refine .an ?_
 refine .nil (.seq (.regionS rfl (by kernel_rfl) ?_))
 refine .val (Y.move rfl rfl) (by decide) (.val (Y.move rfl rfl) (by decide) ?_)
 refine .val (Y.indexF (m := n13_4) sl22 rfl rfl (by first | rfl | omega) (row_getD (d := 0) (by omega))) (by decide) ?_
 refine .val (Y.load sh3 rfl rfl rfl rfl) (by decide) (.val (Y.move rfl rfl) (by decide) (.val (Y.move rfl rfl) (by decide) ?_))
 refine .val (Y.indexF (m := n13_4) sl22 rfl rfl (by first | rfl | omega) (row_getD (d := 0) (by omega))) (by decide) ?_
 refine .val (Y.load sh3 rfl rfl rfl rfl) (by decide) (.val (Y.neq rfl rfl) (by decide) (.nil ?_))
 refine .condD rfl (fun c24 => ?_) (fun c24 => ?_)
 refine .sr ?_
 refine .an ?_
 refine .nil (.ret ?_)
 exact .rb rfl (df (fun h => by have h1 := h.2 n13_4 (by omega); first | (rw [c24] at h1; cases h1) | (have h2 := of_decide_eq_true h1; exact c24 h2)))
 refine .skip (.region ?_)
 refine .vl (Y.addI rfl rfl (by omega)) ?_
 refine .mv ?_
 refine .nil ?_
 exact ⟨n13_4 + 1, ⟨by omega, below_succ' he (by first | exact decide_eq_true (by omega) | simpa using c24)⟩, by omega, Le.mk (.c (.c (.c (.cons (look_int rfl (by first | rfl | omega)) (.nil))))) (.nil)⟩
 refine .exit (.sr ?_)
 refine .an ?_
 refine .nil (.ret ?_)
 exact .rb rfl (dt ⟨by omega, fun j hj => he j (by omega)⟩)
theorem equal61_spec {l m : List Arr} (hl : l.length ≤ 35184372088832) (hm : m.length ≤ 35184372088832) : ACalls Try.prog 61 [.fz 5 (l.map Arr.row), .fz 5 (m.map Arr.row)] [] [] (fun r o => r = .v (.bool (decide (EqL Arr.eqB default l m))) ∧ o = []) := by
 refine ACalls.of Try.func61 rfl rfl rfl (n := 26) (by decide) (nbE rfl) (.sr ?_)
 refine .an ?_
 refine .nil (.seq (.sr ?_))
 refine .mv ?_
 refine .vl (Y.len (n := l.length) sl24 rfl (congrArg some (List.length_map ..))) ?_
 refine .mv ?_
 refine .vl (Y.len (n := m.length) sl24 rfl (congrArg some (List.length_map ..))) (.vl (Y.neq rfl rfl) (.nil ?_))
 refine .condD rfl (fun c10 => ?_) (fun c10 => ?_)
 refine .sr ?_
 refine .an ?_
 refine .nil (.ret ?_)
 exact .rb rfl (df (eqL_no_len (by omega)))
 refine .skip (.seq (.sr ?_))
 refine .mv ?_
 refine .vl (Y.len (n := l.length) sl24 rfl (congrArg some (List.length_map ..))) ?_
 refine .mv ?_
 refine .nil (.block ?_)
 refine .loop1 (fun (n13_4 : Nat) => ⟨[(0, .fz 5 (l.map Arr.row)), (1, .fz 5 (m.map Arr.row)), (12, vi ((l.length : Nat) : Int)), (13, vi (n13_4 : Int))], []⟩) (fun (n13_4 : Nat) => ((n13_4 : Int) ≤ ((l.length : Nat) : Int)) ∧ (∀ j, j < n13_4 → Arr.eqB (l.getD j default) (m.getD j default) = true)) (fun (n13_4 : Nat) => (((l.length : Nat) : Int) - (n13_4 : Int)).toNat) 0 (⟨by omega, fun j hj => by omega⟩) (Le.mk (.c (.c (.c (.cons (look_int rfl (by first | rfl | omega)) (.nil))))) (.nil)) (fun n13_4 hI4 => ?_)
 obtain ⟨hb4, he⟩ := hI4
 refine .sr (.vl (Y.lss rfl rfl) (.nil ?_))
 refine .seq ?_
 refine .condD rfl (fun c14 => ?_) (fun c14 => ?_)
 refine .skip (.seq (.block ?_))
 refine .sr ?_
 refine .mv ?_
 refine .an ?_
 refine .nil (.seq (.regionS rfl (by kernel_rfl) ?_))
 refine .val (Y.move rfl rfl) (by decide) (.val (Y.move rfl rfl) (by decide) ?_)
 refine .val (Y.indexF (m := n13_4) sl24 rfl rfl (by first | rfl | omega) (row_getD (d := default) (by omega))) (by decide) ?_
 refine .val (Y.loadA sh48 rfl rfl (nbE rfl) rfl rfl) (by decide) (.val (Y.move rfl rfl) (by decide) (.val (Y.move rfl rfl) (by decide) ?_))
 refine .val (Y.indexF (m := n13_4) sl24 rfl rfl (by first | rfl | omega) (row_getD (d := default) (by omega))) (by decide) ?_
 refine .val (Y.loadA sh48 rfl rfl (nbE rfl) rfl rfl) (by decide) (.val (Y.neqA (us := Arr.vals (l.getD n13_4 default)) (vs := Arr.vals (m.getD n13_4 default)) rfl rfl rfl rfl (by kernel_rfl) (eq48 _ _)) (by decide) (.nil ?_))
 refine .cond rfl (fun c24 => ?_) (fun c24 => ?_)
 replace c24 : (Arr.eqB (l.getD n13_4 default) (m.getD n13_4 default)) = false := by simpa using c24
 refine .sr ?_
 refine .an ?_
 refine .nil (.ret ?_)
 exact .rb rfl (df (fun h => by have h1 := h.2 n13_4 (by omega); first | (rw [c24] at h1; cases h1) | (have h2 := of_decide_eq_true h1; exact c24 h2)))
 replace c24 : (Arr.eqB (l.getD n13_4 default) (m.getD n13_4 default)) = true := by simpa using c24
 refine .skip (.region ?_)
 refine .vl (Y.addI rfl rfl (by omega)) ?_
 refine .mv ?_
 refine .nil ?_
 exact ⟨n13_4 + 1, ⟨by omega, below_succ' he (by first | exact decide_eq_true (by omega) | simpa using c24)⟩, by omega, Le.mk (.c (.c (.c (.cons (look_int rfl (by first | rfl | omega)) (.nil))))) (.nil)⟩
 refine .exit (.sr ?_)
 refine .an ?_
 refine .nil (.ret ?_)
 exact .rb rfl (dt ⟨by omega, fun j hj => he j (by omega)⟩)
theorem equal62_spec {l m : List Strm} (hl : l.length ≤ 35184372088832) (hm : m.length ≤ 35184372088832) : ACalls Try.prog 62 [.fz 3 (l.map Strm.row), .fz 3 (m.map Strm.row)] [] [] (fun r o => r = .v (.bool (decide (EqL Strm.eqB default l m))) ∧ o = []) := by
 refine ACalls.of Try.func62 rfl rfl rfl (n := 26) (by decide) (nbE rfl) (.sr ?_)
 refine .an ?_
 refine .nil (.seq (.sr ?_))
 refine .mv ?_
 refine .vl (Y.len (n := l.length) sl25 rfl (congrArg some (List.length_map ..))) ?_
 refine .mv ?_
 refine .vl (Y.len (n := m.length) sl25 rfl (congrArg some (List.length_map ..))) (.vl (Y.neq rfl rfl) (.nil ?_))
 refine .condD rfl (fun c10 => ?_) (fun c10 => ?_)
 refine .sr ?_
 refine .an ?_
 refine .nil (.ret ?_)
 exact .rb rfl (df (eqL_no_len (by omega)))
 refine .skip (.seq (.sr ?_))
 refine .mv ?_
 refine .vl (Y.len (n := l.length) sl25 rfl (congrArg some (List.length_map ..))) ?_
 refine .mv ?_
 refine .nil (.block ?_)
 refine .loop1 (fun (n13_4 : Nat) => ⟨[(0, .fz 3 (l.map Strm.row)), (1, .fz 3 (m.map Strm.row)), (12, vi ((l.length : Nat) : Int)), (13, vi (n13_4 : Int))], []⟩) (fun (n13_4 : Nat) => ((n13_4 : Int) ≤ ((l.length : Nat) : Int)) ∧ (∀ j, j < n13_4 → Strm.eqB (l.getD j default) (m.getD j default) = true)) (fun (n13_4 : Nat) => (((l.length : Nat) : Int) - (n13_4 : Int)).toNat) 0 (⟨by omega, fun j hj => by omega⟩) (Le.mk (.c (.c (.c (.cons (look_int rfl (by first | rfl | omega)) (.nil))))) (.nil)) (fun n13_4 hI4 => ?_)
 obtain ⟨hb4, he⟩ := hI4
 refine .sr (.vl (Y.lss rfl rfl) (.nil ?_))
 refine .seq ?_
 refine .condD rfl (fun c14 => ?_) (fun c14 => ?_)
 refine .skip (.seq (.block ?_))
 refine .sr ?_
 refine .mv ?_
 refine .an ?_
 refine .nil (.seq (.regionS rfl (by kernel_rfl) ?_))
 refine .val (Y.move rfl rfl) (by decide) (.val (Y.move rfl rfl) (by decide) ?_)
 refine .val (Y.indexF (m := n13_4) sl25 rfl rfl (by first | rfl | omega) (row_getD (d := default) (by omega))) (by decide) ?_
 refine .val (Y.loadA sh83 rfl rfl (nbE rfl) rfl rfl) (by decide) (.val (Y.move rfl rfl) (by decide) (.val (Y.move rfl rfl) (by decide) ?_))
 refine .val (Y.indexF (m := n13_4) sl25 rfl rfl (by first | rfl | omega) (row_getD (d := default) (by omega))) (by decide) ?_
 refine .val (Y.loadA sh83 rfl rfl (nbE rfl) rfl rfl) (by decide) (.val (Y.neqA (us := Strm.vals (l.getD n13_4 default)) (vs := Strm.vals (m.getD n13_4 default)) rfl rfl rfl rfl (by kernel_rfl) (eq83 _ _)) (by decide) (.nil ?_))
 refine .cond rfl (fun c24 => ?_) (fun c24 => ?_)
 replace c24 : (Strm.eqB (l.getD n13_4 default) (m.getD n13_4 default)) = false := by simpa using c24
 refine .sr ?_
 refine .an ?_
 refine .nil (.ret ?_)
 exact .rb rfl (df (fun h => by have h1 := h.2 n13_4 (by omega); first | (rw [c24] at h1; cases h1) | (have h2 := of_decide_eq_true h1; exact c24 h2)))
 replace c24 : (Strm.eqB (l.getD n13_4 default) (m.getD n13_4 default)) = true := by simpa using c24
 refine .skip (.region ?_)
 refine .vl (Y.addI rfl rfl (by omega)) ?_
 refine .mv ?_
 refine .nil ?_
 exact ⟨n13_4 + 1, ⟨by omega, below_succ' he (by first | exact decide_eq_true (by omega) | simpa using c24)⟩, by omega, Le.mk (.c (.c (.c (.cons (look_int rfl (by first | rfl | omega)) (.nil))))) (.nil)⟩
 refine .exit (.sr ?_)
 refine .an ?_
 refine .nil (.ret ?_)
 exact .rb rfl (dt ⟨by omega, fun j hj => he j (by omega)⟩)
theorem same1_spec {x y : Cell} (hx : x.args.length ≤ 35184372088832) (hy : y.args.length ≤ 35184372088832) : ACalls Try.prog 64 [.agg (Cell.row x), .agg (Cell.row y)] [] [] (fun r o => r = .v (.bool (cellB x y)) ∧ o = []) := by
 refine ACalls.of Try.func64 rfl rfl rfl (n := 45) (by decide) (nbE rfl) (.sr (.box 102 rfl rfl rfl rfl rfl (by decide) ?_))
 refine .box 103 rfl rfl rfl rfl rfl (by decide) ?_
 refine .an ?_
 refine .nil (.sr ?_)
 refine .fa fl39_0 ?_
 refine .ld sh3 ?_
 refine .fa fl39_0 ?_
 refine .ld sh3 ?_
 refine .vl (Y.eql rfl rfl) ?_
 refine .mv ?_
 refine .splitD (d := 10) rfl (fun c10 => ?_) (fun c10 => ?_)
 refine .gw 10 (Y.fieldAddr fl39_1 rfl rfl) (.gw 10 (Y.load sh3 rfl rfl rfl rfl) (.gw 10 (Y.fieldAddr fl39_1 rfl rfl) ?_))
 refine .gw 10 (Y.load sh3 rfl rfl rfl rfl) (.gw 10 (Y.eql rfl rfl) ?_)
 refine .pk ?_
 refine .mv ?_
 refine .splitD (d := 17) rfl (fun c17 => ?_) (fun c17 => ?_)
 refine .gw 17 (Y.fieldAddr fl39_2 rfl rfl) (.gw 17 (Y.load sh3 rfl rfl rfl rfl) (.gw 17 (Y.fieldAddr fl39_2 rfl rfl) ?_))
 refine .gw 17 (Y.load sh3 rfl rfl rfl rfl) (.gw 17 (Y.eql rfl rfl) ?_)
 refine .pk ?_
 refine .mv ?_
 refine .splitD (d := 24) rfl (fun c24 => ?_) (fun c24 => ?_)
 refine .gw 24 (Y.fieldAddr fl39_4 rfl rfl) (.gw 24 (Y.load sh37 rfl rfl rfl rfl) (.gw 24 (Y.fieldAddr fl39_4 rfl rfl) ?_))
 refine .gw 24 (Y.load sh37 rfl rfl rfl rfl) (.gw 24 (Y.eql rfl rfl) ?_)
 refine .pk ?_
 refine .mv ?_
 refine .splitD (d := 31) rfl (fun c31 => ?_) (fun c31 => ?_)
 refine .gw 31 (Y.fieldAddr fl39_5 rfl rfl) (.gw 31 (Y.load sh3 rfl rfl rfl rfl) (.gw 31 (Y.fieldAddr fl39_5 rfl rfl) ?_))
 refine .gw 31 (Y.load sh3 rfl rfl rfl rfl) (.gw 31 (Y.eql rfl rfl) ?_)
 refine .pk ?_
 refine .mv ?_
 refine .splitD (d := 38) rfl (fun c38 => ?_) (fun c38 => ?_)
 refine .gw 38 (Y.fieldAddr fl39_3 rfl rfl) (.gw 38 (Y.load sh22 rfl rfl rfl rfl) (.gw 38 (Y.fieldAddr fl39_3 rfl rfl) ?_))
 refine .gw 38 (Y.load sh22 rfl rfl rfl rfl) (.guardRun (d := 38) rfl (by decide) rfl (.callP ok60 (equal60_spec (l := x.args) (m := y.args) (by omega) (by omega)) rfl (.keep rfl rfl (.keep rfl rfl .nil)) (by decide) rfl ?_))
 refine .pk ?_
 refine .an ?_
 refine .nil (.ret ?_)
 exact .rb rfl (dd (by grind))
 refine .gz 38 (.gz 38 (.gz 38 ?_))
 refine .gz 38 (.gz 38 ?_)
 refine .pk ?_
 refine .an ?_
 refine .nil (.ret ?_)
 exact .rb rfl (df (by grind))
 refine .gz 31 (.gz 31 (.gz 31 ?_))
 refine .gz 31 (.gz 31 ?_)
 refine .pk ?_
 refine .mv ?_
 refine .gz 38 (.gz 38 (.gz 38 ?_))
 refine .gz 38 (.gz 38 ?_)
 refine .pk ?_
 refine .an ?_
 refine .nil (.ret ?_)
 exact .rb rfl (df (by grind))
 refine .gz 24 (.gz 24 (.gz 24 ?_))
 refine .gz 24 (.gz 24 ?_)
 refine .pk ?_
 refine .mv ?_
 refine .gz 31 (.gz 31 (.gz 31 ?_))
 refine .gz 31 (.gz 31 ?_)
 refine .pk ?_
 refine .mv ?_
 refine .gz 38 (.gz 38 (.gz 38 ?_))
 refine .gz 38 (.gz 38 ?_)
 refine .pk ?_
 refine .an ?_
 refine .nil (.ret ?_)
 exact .rb rfl (df (by grind))
 refine .gz 17 (.gz 17 (.gz 17 ?_))
 refine .gz 17 (.gz 17 ?_)
 refine .pk ?_
 refine .mv ?_
 refine .gz 24 (.gz 24 (.gz 24 ?_))
 refine .gz 24 (.gz 24 ?_)
 refine .pk ?_
 refine .mv ?_
 refine .gz 31 (.gz 31 (.gz 31 ?_))
 refine .gz 31 (.gz 31 ?_)
 refine .pk ?_
 refine .mv ?_
 refine .gz 38 (.gz 38 (.gz 38 ?_))
 refine .gz 38 (.gz 38 ?_)
 refine .pk ?_
 refine .an ?_
 refine .nil (.ret ?_)
 exact .rb rfl (df (by grind))
 refine .gz 10 (.gz 10 (.gz 10 ?_))
 refine .gz 10 (.gz 10 ?_)
 refine .pk ?_
 refine .mv ?_
 refine .gz 17 (.gz 17 (.gz 17 ?_))
 refine .gz 17 (.gz 17 ?_)
 refine .pk ?_
 refine .mv ?_
 refine .gz 24 (.gz 24 (.gz 24 ?_))
 refine .gz 24 (.gz 24 ?_)
 refine .pk ?_
 refine .mv ?_
 refine .gz 31 (.gz 31 (.gz 31 ?_))
 refine .gz 31 (.gz 31 ?_)
 refine .pk ?_
 refine .mv ?_
 refine .gz 38 (.gz 38 (.gz 38 ?_))
 refine .gz 38 (.gz 38 ?_)
 refine .pk ?_
 refine .an ?_
 refine .nil (.ret ?_)
 exact .rb rfl (df (by grind))
theorem equalFunc_spec {l m : List Cell} {g : Nat} {p : Cell → Cell → Bool} (hl : l.length ≤ 35184372088832) (hm : m.length ≤ 35184372088832) (hok : callOK Try.prog g = true) (hg : ∀ x ∈ l, ∀ y ∈ m, ACalls Try.prog g [.agg (Cell.row x), .agg (Cell.row y)] [] [] (fun r o => r = .v (.bool (p x y)) ∧ o = [])) : ACalls Try.prog 63 [.fz 6 (l.map Cell.row), .fz 6 (m.map Cell.row), .v (.func (.func g) #[] #[])] [] [] (fun r o => r = .v (.bool (decide (EqL p default l m))) ∧ o = []) := by
 refine ACalls.of Try.func63 rfl rfl rfl (n := 32) (by decide) (nbE rfl) (.seq (.sh (Sh.asClo (d := 2) rfl) ?_))
 refine .region ?_
 refine .an ?_
 refine .nil (.seq (.sr ?_))
 refine .mv ?_
 refine .vl (Y.len (n := l.length) sl23 rfl (congrArg some (List.length_map ..))) ?_
 refine .mv ?_
 refine .vl (Y.len (n := m.length) sl23 rfl (congrArg some (List.length_map ..))) (.vl (Y.neq rfl rfl) (.nil ?_))
 refine .condD rfl (fun c14 => ?_) (fun c14 => ?_)
 refine .sr ?_
 refine .an ?_
 refine .nil (.ret ?_)
 exact .rb rfl (df (eqL_no_len (by omega)))
 refine .skip (.seq (.sr ?_))
 refine .mv ?_
 refine .vl (Y.len (n := l.length) sl23 rfl (congrArg some (List.length_map ..))) ?_
 refine .mv ?_
 refine .nil (.block ?_)
 refine .loop1 (fun (n17_4 : Nat) => ⟨[(1, .fz 6 (m.map Cell.row)), (2, .clo (.func g) [] []), (15, .fz 6 (l.map Cell.row)), (16, vi ((l.length : Nat) : Int)), (17, vi (n17_4 : Int))], []⟩) (fun (n17_4 : Nat) => ((n17_4 : Int) ≤ ((l.length : Nat) : Int)) ∧ (∀ j, j < n17_4 → p (l.getD j default) (m.getD j default) = true)) (fun (n17_4 : Nat) => (((l.length : Nat) : Int) - (n17_4 : Int)).toNat) 0 (⟨by omega, fun j hj => by omega⟩) (Le.mk (.c (.c (.c (.c (.cons (look_int rfl (by first | rfl | omega)) (.nil)))))) (.nil)) (fun n17_4 hI4 => ?_)
 obtain ⟨hb4, he⟩ := hI4
 refine .sr (.vl (Y.lss rfl rfl) (.nil ?_))
 refine .seq ?_
 refine .condD rfl (fun c18 => ?_) (fun c18 => ?_)
 refine .skip (.seq (.block ?_))
 refine .sr ?_
 refine .mv ?_
 refine .vl (Y.indexF (m := n17_4) sl23 rfl rfl (by first | rfl | omega) (row_getD (d := default) (by omega))) ?_
 refine .vl (Y.loadA sh39 rfl rfl (nbE rfl) rfl rfl) (.alloc 108 ze39 rfl rfl (by decide) ?_)
 refine .an ?_
 refine .storeC si39 rfl rfl rfl rfl rfl rfl (nbE rfl) rfl (.nil (.sr ?_))
 refine .mv ?_
 refine .mv ?_
 refine .vl (Y.indexF (m := n17_4) sl23 rfl rfl (by first | rfl | omega) (row_getD (d := default) (by omega))) ?_
 refine .vl (Y.loadA sh39 rfl rfl (nbE rfl) rfl rfl) (.alloc 109 ze39 rfl rfl (by decide) (.storeC si39 rfl rfl rfl rfl rfl rfl (nbE rfl) rfl ?_))
 refine .nil (.sr ?_)
 refine .mv ?_
 refine .vl (Y.loadA sh39 rfl rfl (nbE rfl) rfl rfl) (.vl (Y.loadA sh39 rfl rfl (nbE rfl) rfl rfl) (.callCP rfl hok (hg _ (getD_mem' (by omega)) _ (getD_mem' (by omega))) rfl (.keep rfl rfl (.keep rfl rfl .nil)) (by decide) rfl ?_))
 refine .vl (Y.not rfl) (.nil ?_)
 refine .cond rfl (fun c30 => ?_) (fun c30 => ?_)
 replace c30 : (p (l.getD n17_4 default) (m.getD n17_4 default)) = false := by simpa using c30
 refine .sr ?_
 refine .an ?_
 refine .nil (.ret ?_)
 exact .rb rfl (df (fun h => by have h1 := h.2 n17_4 (by omega); simp_all))
 replace c30 : (p (l.getD n17_4 default) (m.getD n17_4 default)) = true := by simpa using c30
 refine .skip (.region ?_)
 refine .vl (Y.addI rfl rfl (by omega)) ?_
 refine .mv ?_
 refine .nil ?_
 exact ⟨n17_4 + 1, ⟨by omega, below_succ' he (by assumption)⟩, by omega, Le.mk (.c (.c (.c (.c (.cons (look_int rfl (by first | rfl | omega)) (.nil)))))) (.nil)⟩
 refine .exit (.sr ?_)
 refine .an ?_
 refine .nil (.ret ?_)
 exact .rb rfl (dt ⟨by omega, fun j hj => he j (by omega)⟩)
theorem same_spec {a b : Netlist} (ha : Lens a) (hb : Lens b) : ACalls Try.prog 24 [.agg (Netlist.row a), .agg (Netlist.row b)] [] [] (fun r o => r = .v (.bool (decide (SameP a b))) ∧ o = []) := by
 refine ACalls.of Try.func24 rfl rfl rfl (n := 80) (by decide) (nbE rfl) ?_
 have ha1 := ha.widths; have ha2 := ha.ins; have ha3 := ha.mems; have ha4 := ha.streams; have ha5 := ha.active; have ha6 := ha.data; have ha7 := ha.rets; have ha8 := ha.cells
 have hb1 := hb.widths; have hb2 := hb.ins; have hb3 := hb.mems; have hb4 := hb.streams; have hb5 := hb.active; have hb6 := hb.data; have hb7 := hb.rets; have hb8 := hb.cells
 refine .sr (.box 102 rfl rfl rfl rfl rfl (by decide) (.box 103 rfl rfl rfl rfl rfl (by decide) ?_))
 refine .an ?_
 refine .nil (.sr ?_)
 refine .fa fl27_0 ?_
 refine .ld sh9 ?_
 refine .fa fl27_0 ?_
 refine .ld sh9 ?_
 refine .vl (Y.eqlS rfl rfl) ?_
 refine .mv ?_
 refine .split (d := 10) rfl (fun c10 => ?_) (fun c10 => ?_)
 refine .gw 10 (Y.fieldAddr fl27_1 rfl rfl) (.gw 10 (Y.load sh22 rfl rfl rfl rfl) (.gw 10 (Y.fieldAddr fl27_1 rfl rfl) ?_))
 refine .gw 10 (Y.load sh22 rfl rfl rfl rfl) (.guardRun (d := 10) rfl (by decide) rfl (.callP ok60 (equal60_spec (l := a.widths) (m := b.widths) (by omega) (by omega)) rfl (.keep rfl rfl (.keep rfl rfl .nil)) (by decide) rfl ?_))
 refine .pk ?_
 refine .mv ?_
 refine .splitD (d := 17) rfl (fun c17 => ?_) (fun c17 => ?_)
 refine .gw 17 (Y.fieldAddr fl27_3 rfl rfl) (.gw 17 (Y.load sh22 rfl rfl rfl rfl) (.gw 17 (Y.fieldAddr fl27_3 rfl rfl) ?_))
 refine .gw 17 (Y.load sh22 rfl rfl rfl rfl) (.guardRun (d := 17) rfl (by decide) rfl (.callP ok60 (equal60_spec (l := a.ins) (m := b.ins) (by omega) (by omega)) rfl (.keep rfl rfl (.keep rfl rfl .nil)) (by decide) rfl ?_))
 refine .pk ?_
 refine .mv ?_
 refine .splitD (d := 24) rfl (fun c24 => ?_) (fun c24 => ?_)
 refine .gw 24 (Y.fieldAddr fl27_4 rfl rfl) (.gw 24 (Y.load sh24 rfl rfl rfl rfl) (.gw 24 (Y.fieldAddr fl27_4 rfl rfl) ?_))
 refine .gw 24 (Y.load sh24 rfl rfl rfl rfl) (.guardRun (d := 24) rfl (by decide) rfl (.callP ok61 (equal61_spec (l := a.mems) (m := b.mems) (by omega) (by omega)) rfl (.keep rfl rfl (.keep rfl rfl .nil)) (by decide) rfl ?_))
 refine .pk ?_
 refine .mv ?_
 refine .splitD (d := 31) rfl (fun c31 => ?_) (fun c31 => ?_)
 refine .gw 31 (Y.fieldAddr fl27_5 rfl rfl) (.gw 31 (Y.load sh25 rfl rfl rfl rfl) (.gw 31 (Y.fieldAddr fl27_5 rfl rfl) ?_))
 refine .gw 31 (Y.load sh25 rfl rfl rfl rfl) (.guardRun (d := 31) rfl (by decide) rfl (.callP ok62 (equal62_spec (l := a.streams) (m := b.streams) (by omega) (by omega)) rfl (.keep rfl rfl (.keep rfl rfl .nil)) (by decide) rfl ?_))
 refine .pk ?_
 refine .mv ?_
 refine .splitD (d := 38) rfl (fun c38 => ?_) (fun c38 => ?_)
 refine .gw 38 (Y.fieldAddr fl27_6 rfl rfl) (.gw 38 (Y.load sh22 rfl rfl rfl rfl) (.gw 38 (Y.fieldAddr fl27_6 rfl rfl) ?_))
 refine .gw 38 (Y.load sh22 rfl rfl rfl rfl) (.guardRun (d := 38) rfl (by decide) rfl (.callP ok60 (equal60_spec (l := a.active) (m := b.active) (by omega) (by omega)) rfl (.keep rfl rfl (.keep rfl rfl .nil)) (by decide) rfl ?_))
 refine .pk ?_
 refine .mv ?_
 refine .splitD (d := 45) rfl (fun c45 => ?_) (fun c45 => ?_)
 refine .gw 45 (Y.fieldAddr fl27_7 rfl rfl) (.gw 45 (Y.load sh22 rfl rfl rfl rfl) (.gw 45 (Y.fieldAddr fl27_7 rfl rfl) ?_))
 refine .gw 45 (Y.load sh22 rfl rfl rfl rfl) (.guardRun (d := 45) rfl (by decide) rfl (.callP ok60 (equal60_spec (l := a.data) (m := b.data) (by omega) (by omega)) rfl (.keep rfl rfl (.keep rfl rfl .nil)) (by decide) rfl ?_))
 refine .pk ?_
 refine .mv ?_
 refine .splitD (d := 52) rfl (fun c52 => ?_) (fun c52 => ?_)
 refine .gw 52 (Y.fieldAddr fl27_8 rfl rfl) (.gw 52 (Y.load sh3 rfl rfl rfl rfl) (.gw 52 (Y.fieldAddr fl27_8 rfl rfl) ?_))
 refine .gw 52 (Y.load sh3 rfl rfl rfl rfl) (.gw 52 (Y.eql rfl rfl) ?_)
 refine .pk ?_
 refine .mv ?_
 refine .splitD (d := 59) rfl (fun c59 => ?_) (fun c59 => ?_)
 refine .gw 59 (Y.fieldAddr fl27_9 rfl rfl) (.gw 59 (Y.load sh3 rfl rfl rfl rfl) (.gw 59 (Y.fieldAddr fl27_9 rfl rfl) ?_))
 refine .gw 59 (Y.load sh3 rfl rfl rfl rfl) (.gw 59 (Y.eql rfl rfl) ?_)
 refine .pk ?_
 refine .mv ?_
 refine .splitD (d := 66) rfl (fun c66 => ?_) (fun c66 => ?_)
 refine .gw 66 (Y.fieldAddr fl27_10 rfl rfl) (.gw 66 (Y.load sh22 rfl rfl rfl rfl) (.gw 66 (Y.fieldAddr fl27_10 rfl rfl) ?_))
 refine .gw 66 (Y.load sh22 rfl rfl rfl rfl) (.guardRun (d := 66) rfl (by decide) rfl (.callP ok60 (equal60_spec (l := a.rets) (m := b.rets) (by omega) (by omega)) rfl (.keep rfl rfl (.keep rfl rfl .nil)) (by decide) rfl ?_))
 refine .pk ?_
 refine .mv ?_
 refine .splitD (d := 73) rfl (fun c73 => ?_) (fun c73 => ?_)
 refine .gw 73 (Y.fieldAddr fl27_2 rfl rfl) (.gw 73 (Y.load sh23 rfl rfl rfl rfl) (.gw 73 (Y.fieldAddr fl27_2 rfl rfl) ?_))
 refine .gw 73 (Y.load sh23 rfl rfl rfl rfl) (.guardRun (d := 73) rfl (by decide) rfl ?_)
 refine .callP ok63 (equalFunc_spec (l := a.cells) (m := b.cells) (p := cellB) (by omega) (by omega) ok64 (fun x hx y hy => same1_spec (ha.args _ hx) (hb.args _ hy))) rfl (.keep rfl rfl (.keep rfl rfl (.keep rfl rfl .nil))) (by decide) rfl ?_
 refine .pk ?_
 refine .an ?_
 refine .nil (.ret ?_)
 exact .rb rfl (dd ⟨fun h => ⟨by simp_all, by assumption, by assumption, by assumption, by assumption, by assumption, by assumption, by assumption, by assumption, by assumption, h⟩, fun h => h.cells⟩)
 refine .gz 73 (.gz 73 (.gz 73 ?_))
 refine .gz 73 (.gz 73 ?_)
 refine .pk ?_
 refine .an ?_
 refine .nil (.ret ?_)
 exact .rb rfl (df (fun h => by have h1 := h.name; have h2 := h.widths; have h3 := h.ins; have h4 := h.mems; have h5 := h.streams; have h6 := h.active; have h7 := h.data; have h8 := h.freeze; have h9 := h.done; have h0 := h.rets; first | contradiction | simp_all))
 refine .gz 66 (.gz 66 (.gz 66 ?_))
 refine .gz 66 (.gz 66 ?_)
 refine .pk ?_
 refine .mv ?_
 refine .gz 73 (.gz 73 (.gz 73 ?_))
 refine .gz 73 (.gz 73 ?_)
 refine .pk ?_
 refine .an ?_
 refine .nil (.ret ?_)
 exact .rb rfl (df (fun h => by have h1 := h.name; have h2 := h.widths; have h3 := h.ins; have h4 := h.mems; have h5 := h.streams; have h6 := h.active; have h7 := h.data; have h8 := h.freeze; have h9 := h.done; have h0 := h.rets; first | contradiction | simp_all))
 refine .gz 59 (.gz 59 (.gz 59 ?_))
 refine .gz 59 (.gz 59 ?_)
 refine .pk ?_
 refine .mv ?_
 refine .gz 66 (.gz 66 (.gz 66 ?_))
 refine .gz 66 (.gz 66 ?_)
 refine .pk ?_
 refine .mv ?_
 refine .gz 73 (.gz 73 (.gz 73 ?_))
 refine .gz 73 (.gz 73 ?_)
 refine .pk ?_
 refine .an ?_
 refine .nil (.ret ?_)
 exact .rb rfl (df (fun h => by have h1 := h.name; have h2 := h.widths; have h3 := h.ins; have h4 := h.mems; have h5 := h.streams; have h6 := h.active; have h7 := h.data; have h8 := h.freeze; have h9 := h.done; have h0 := h.rets; first | contradiction | simp_all))
 refine .gz 52 (.gz 52 (.gz 52 ?_))
 refine .gz 52 (.gz 52 ?_)
 refine .pk ?_
 refine .mv ?_
 refine .gz 59 (.gz 59 (.gz 59 ?_))
 refine .gz 59 (.gz 59 ?_)
 refine .pk ?_
 refine .mv ?_
 refine .gz 66 (.gz 66 (.gz 66 ?_))
 refine .gz 66 (.gz 66 ?_)
 refine .pk ?_
 refine .mv ?_
 refine .gz 73 (.gz 73 (.gz 73 ?_))
 refine .gz 73 (.gz 73 ?_)
 refine .pk ?_
 refine .an ?_
 refine .nil (.ret ?_)
 exact .rb rfl (df (fun h => by have h1 := h.name; have h2 := h.widths; have h3 := h.ins; have h4 := h.mems; have h5 := h.streams; have h6 := h.active; have h7 := h.data; have h8 := h.freeze; have h9 := h.done; have h0 := h.rets; first | contradiction | simp_all))
 refine .gz 45 (.gz 45 (.gz 45 ?_))
 refine .gz 45 (.gz 45 ?_)
 refine .pk ?_
 refine .mv ?_
 refine .gz 52 (.gz 52 (.gz 52 ?_))
 refine .gz 52 (.gz 52 ?_)
 refine .pk ?_
 refine .mv ?_
 refine .gz 59 (.gz 59 (.gz 59 ?_))
 refine .gz 59 (.gz 59 ?_)
 refine .pk ?_
 refine .mv ?_
 refine .gz 66 (.gz 66 (.gz 66 ?_))
 refine .gz 66 (.gz 66 ?_)
 refine .pk ?_
 refine .mv ?_
 refine .gz 73 (.gz 73 (.gz 73 ?_))
 refine .gz 73 (.gz 73 ?_)
 refine .pk ?_
 refine .an ?_
 refine .nil (.ret ?_)
 exact .rb rfl (df (fun h => by have h1 := h.name; have h2 := h.widths; have h3 := h.ins; have h4 := h.mems; have h5 := h.streams; have h6 := h.active; have h7 := h.data; have h8 := h.freeze; have h9 := h.done; have h0 := h.rets; first | contradiction | simp_all))
 refine .gz 38 (.gz 38 (.gz 38 ?_))
 refine .gz 38 (.gz 38 ?_)
 refine .pk ?_
 refine .mv ?_
 refine .gz 45 (.gz 45 (.gz 45 ?_))
 refine .gz 45 (.gz 45 ?_)
 refine .pk ?_
 refine .mv ?_
 refine .gz 52 (.gz 52 (.gz 52 ?_))
 refine .gz 52 (.gz 52 ?_)
 refine .pk ?_
 refine .mv ?_
 refine .gz 59 (.gz 59 (.gz 59 ?_))
 refine .gz 59 (.gz 59 ?_)
 refine .pk ?_
 refine .mv ?_
 refine .gz 66 (.gz 66 (.gz 66 ?_))
 refine .gz 66 (.gz 66 ?_)
 refine .pk ?_
 refine .mv ?_
 refine .gz 73 (.gz 73 (.gz 73 ?_))
 refine .gz 73 (.gz 73 ?_)
 refine .pk ?_
 refine .an ?_
 refine .nil (.ret ?_)
 exact .rb rfl (df (fun h => by have h1 := h.name; have h2 := h.widths; have h3 := h.ins; have h4 := h.mems; have h5 := h.streams; have h6 := h.active; have h7 := h.data; have h8 := h.freeze; have h9 := h.done; have h0 := h.rets; first | contradiction | simp_all))
 refine .gz 31 (.gz 31 (.gz 31 ?_))
 refine .gz 31 (.gz 31 ?_)
 refine .pk ?_
 refine .mv ?_
 refine .gz 38 (.gz 38 (.gz 38 ?_))
 refine .gz 38 (.gz 38 ?_)
 refine .pk ?_
 refine .mv ?_
 refine .gz 45 (.gz 45 (.gz 45 ?_))
 refine .gz 45 (.gz 45 ?_)
 refine .pk ?_
 refine .mv ?_
 refine .gz 52 (.gz 52 (.gz 52 ?_))
 refine .gz 52 (.gz 52 ?_)
 refine .pk ?_
 refine .mv ?_
 refine .gz 59 (.gz 59 (.gz 59 ?_))
 refine .gz 59 (.gz 59 ?_)
 refine .pk ?_
 refine .mv ?_
 refine .gz 66 (.gz 66 (.gz 66 ?_))
 refine .gz 66 (.gz 66 ?_)
 refine .pk ?_
 refine .mv ?_
 refine .gz 73 (.gz 73 (.gz 73 ?_))
 refine .gz 73 (.gz 73 ?_)
 refine .pk ?_
 refine .an ?_
 refine .nil (.ret ?_)
 exact .rb rfl (df (fun h => by have h1 := h.name; have h2 := h.widths; have h3 := h.ins; have h4 := h.mems; have h5 := h.streams; have h6 := h.active; have h7 := h.data; have h8 := h.freeze; have h9 := h.done; have h0 := h.rets; first | contradiction | simp_all))
 refine .gz 24 (.gz 24 (.gz 24 ?_))
 refine .gz 24 (.gz 24 ?_)
 refine .pk ?_
 refine .mv ?_
 refine .gz 31 (.gz 31 (.gz 31 ?_))
 refine .gz 31 (.gz 31 ?_)
 refine .pk ?_
 refine .mv ?_
 refine .gz 38 (.gz 38 (.gz 38 ?_))
 refine .gz 38 (.gz 38 ?_)
 refine .pk ?_
 refine .mv ?_
 refine .gz 45 (.gz 45 (.gz 45 ?_))
 refine .gz 45 (.gz 45 ?_)
 refine .pk ?_
 refine .mv ?_
 refine .gz 52 (.gz 52 (.gz 52 ?_))
 refine .gz 52 (.gz 52 ?_)
 refine .pk ?_
 refine .mv ?_
 refine .gz 59 (.gz 59 (.gz 59 ?_))
 refine .gz 59 (.gz 59 ?_)
 refine .pk ?_
 refine .mv ?_
 refine .gz 66 (.gz 66 (.gz 66 ?_))
 refine .gz 66 (.gz 66 ?_)
 refine .pk ?_
 refine .mv ?_
 refine .gz 73 (.gz 73 (.gz 73 ?_))
 refine .gz 73 (.gz 73 ?_)
 refine .pk ?_
 refine .an ?_
 refine .nil (.ret ?_)
 exact .rb rfl (df (fun h => by have h1 := h.name; have h2 := h.widths; have h3 := h.ins; have h4 := h.mems; have h5 := h.streams; have h6 := h.active; have h7 := h.data; have h8 := h.freeze; have h9 := h.done; have h0 := h.rets; first | contradiction | simp_all))
 refine .gz 17 (.gz 17 (.gz 17 ?_))
 refine .gz 17 (.gz 17 ?_)
 refine .pk ?_
 refine .mv ?_
 refine .gz 24 (.gz 24 (.gz 24 ?_))
 refine .gz 24 (.gz 24 ?_)
 refine .pk ?_
 refine .mv ?_
 refine .gz 31 (.gz 31 (.gz 31 ?_))
 refine .gz 31 (.gz 31 ?_)
 refine .pk ?_
 refine .mv ?_
 refine .gz 38 (.gz 38 (.gz 38 ?_))
 refine .gz 38 (.gz 38 ?_)
 refine .pk ?_
 refine .mv ?_
 refine .gz 45 (.gz 45 (.gz 45 ?_))
 refine .gz 45 (.gz 45 ?_)
 refine .pk ?_
 refine .mv ?_
 refine .gz 52 (.gz 52 (.gz 52 ?_))
 refine .gz 52 (.gz 52 ?_)
 refine .pk ?_
 refine .mv ?_
 refine .gz 59 (.gz 59 (.gz 59 ?_))
 refine .gz 59 (.gz 59 ?_)
 refine .pk ?_
 refine .mv ?_
 refine .gz 66 (.gz 66 (.gz 66 ?_))
 refine .gz 66 (.gz 66 ?_)
 refine .pk ?_
 refine .mv ?_
 refine .gz 73 (.gz 73 (.gz 73 ?_))
 refine .gz 73 (.gz 73 ?_)
 refine .pk ?_
 refine .an ?_
 refine .nil (.ret ?_)
 exact .rb rfl (df (fun h => by have h1 := h.name; have h2 := h.widths; have h3 := h.ins; have h4 := h.mems; have h5 := h.streams; have h6 := h.active; have h7 := h.data; have h8 := h.freeze; have h9 := h.done; have h0 := h.rets; first | contradiction | simp_all))
 refine .gz 10 (.gz 10 (.gz 10 ?_))
 refine .gz 10 (.gz 10 ?_)
 refine .pk ?_
 refine .mv ?_
 refine .gz 17 (.gz 17 (.gz 17 ?_))
 refine .gz 17 (.gz 17 ?_)
 refine .pk ?_
 refine .mv ?_
 refine .gz 24 (.gz 24 (.gz 24 ?_))
 refine .gz 24 (.gz 24 ?_)
 refine .pk ?_
 refine .mv ?_
 refine .gz 31 (.gz 31 (.gz 31 ?_))
 refine .gz 31 (.gz 31 ?_)
 refine .pk ?_
 refine .mv ?_
 refine .gz 38 (.gz 38 (.gz 38 ?_))
 refine .gz 38 (.gz 38 ?_)
 refine .pk ?_
 refine .mv ?_
 refine .gz 45 (.gz 45 (.gz 45 ?_))
 refine .gz 45 (.gz 45 ?_)
 refine .pk ?_
 refine .mv ?_
 refine .gz 52 (.gz 52 (.gz 52 ?_))
 refine .gz 52 (.gz 52 ?_)
 refine .pk ?_
 refine .mv ?_
 refine .gz 59 (.gz 59 (.gz 59 ?_))
 refine .gz 59 (.gz 59 ?_)
 refine .pk ?_
 refine .mv ?_
 refine .gz 66 (.gz 66 (.gz 66 ?_))
 refine .gz 66 (.gz 66 ?_)
 refine .pk ?_
 refine .mv ?_
 refine .gz 73 (.gz 73 (.gz 73 ?_))
 refine .gz 73 (.gz 73 ?_)
 refine .pk ?_
 refine .an ?_
 refine .nil (.ret ?_)
 exact .rb rfl (df (fun h => by have h1 := h.name; have h2 := h.widths; have h3 := h.ins; have h4 := h.mems; have h5 := h.streams; have h6 := h.active; have h7 := h.data; have h8 := h.freeze; have h9 := h.done; have h0 := h.rets; first | contradiction | simp_all))
end Go.Proofs.Ytligpghohcfpnaa
/- Walks through what plans are made with. -/
namespace Go.Proofs.Ytligpghohcfpnaa
open Go Go.AW Go.Proofs
theorem width_spec {k : Nat} : ACalls Try.prog 53 [.v (.int .u8 (k : Int))] [] [] (fun r o => r = (vi (widthN k)) ∧ o = []) := by
 refine ACalls.of Try.func53 rfl rfl rfl (n := 8) (by decide) (nbE rfl) (.sr ?_)
 refine .an ?_
 refine .nil (.sr ?_)
 refine .buildSlice (([1, 2, 4, 7, 8, 13, 33, 64] : List Int).map irow) sl22 ze3 rfl rfl rfl rfl rfl (uniform_map (s := 1) (f := irow) (fun _ => rfl)) rfl rfl rfl (by decide) ?_
 refine .mv ?_
 refine .vl (Y.remI rfl rfl (by first | omega | simp [-List.getD_eq_getElem?_getD] <;> omega)) ?_
 refine .sh (Sh.freezeE (d := 3) (([1, 2, 4, 7, 8, 13, 33, 64] : List Int).map irow) rfl (by first | rfl | exact rep_map rfl) (Frees.map irow_frees)) ?_
 refine .vl (Y.indexF (m := k % 8) sl22 rfl rfl (by first | rfl | omega) (row_getD (d := 0) (by first | omega | simp [-List.getD_eq_getElem?_getD] <;> omega))) ?_
 refine .ld sh3 ?_
 refine .an ?_
 refine .nil (.ret ?_)
 exact .ri rfl (rfl)
theorem pick_spec {n : Netlist} {w : Int} {k : Nat} (hn : n.widths.length ≤ 1048576) (hk : k < 256) : ACalls Try.prog 56 [.agg (Netlist.prow n), vi w, .v (.int .u8 (k : Int))] [] [] (fun r o => r = (vi (pickN n.widths w k)) ∧ o = []) := by
 refine ACalls.of Try.func56 rfl rfl rfl (n := 38) (by decide) (nbE rfl) ?_
 have hpl0 := pickL_len n.widths w
 refine .sr (.box 103 rfl rfl rfl rfl rfl (by decide) ?_)
 refine .an ?_
 refine .nil (.sr ?_)
 refine .an ?_
 refine .sh (Sh.nil (d := 7) 107 1 rfl (by decide)) (.nil (.seq ?_))
 refine .sr ?_
 refine .an ?_
 refine .nil (.block ?_)
 refine .loop2 (fun (i_3 : Nat) (l_3 : List Int) => ⟨[(1, vi w), (2, .v (.int .u8 (k : Int))), (3, .ptr 103 0 0 0), (7, .slc 107 1 0 l_3.length), (8, vi (i_3 : Int))], [(103, .cells (Netlist.prow n)), (107, .rows 1 (l_3.map irow))]⟩) (fun (i_3 : Nat) (l_3 : List Int) => ((i_3 : Int) ≤ ((n.widths.length : Nat) : Int)) ∧ (l_3 = pickL n.widths w i_3)) (fun (i_3 : Nat) (l_3 : List Int) => (((n.widths.length : Nat) : Int) - (i_3 : Int)).toNat) 0 ([] : List Int) (⟨by first | omega | (simp [-List.getD_eq_getElem?_getD]; done) | (simp [-List.getD_eq_getElem?_getD]; omega), rfl⟩) (Le.mk (.c (.c (.c (.cons (look_slc rfl (by first | omega | simp [-List.getD_eq_getElem?_getD] <;> omega)) (.cons (look_int rfl (by first | rfl | omega)) (.nil)))))) (.c (.c (.nil)))) (fun i_3 l_3 hI3 => ?_)
 obtain ⟨hb3, hl⟩ := hI3
 refine .seq (.sr ?_)
 refine .mv ?_
 refine .fa fl27_1 ?_
 refine .ld sh22 ?_
 refine .vl (Y.len (n := n.widths.length) sl22 rfl (congrArg some (List.length_map ..))) (.vl (Y.lss rfl rfl) (.nil ?_))
 refine .condD rfl (fun c13 => ?_) (fun c13 => ?_)
 refine .skip ?_
 refine .join1 (fun (l_j4 : List Int) => ⟨[(1, vi w), (2, .v (.int .u8 (k : Int))), (3, .ptr 103 0 0 0), (7, .slc 107 1 0 l_j4.length), (8, vi (i_3 : Int))], [(103, .cells (Netlist.prow n)), (107, .rows 1 (l_j4.map irow))]⟩) (fun (l_j4 : List Int) => l_j4 = pickL n.widths w (i_3 + 1)) ?_ (fun l_j4 hJ4 => ?_)
 refine .block (.seq ?_)
 have hlb := hpl0 i_3; rw [← hl] at hlb
 refine .region ?_
 refine .fa fl27_1 ?_
 refine .ld sh22 ?_
 refine .mv ?_
 refine .vl (Y.indexF (m := i_3) sl22 rfl rfl (by first | rfl | omega) (row_getD (d := 0) (by omega))) ?_
 refine .ld sh3 ?_
 refine .mv ?_
 refine .vl (Y.eql rfl rfl) (.nil ?_)
 refine .condD rfl (fun c22 => ?_) (fun c22 => ?_)
 refine .region ?_
 refine .mv ?_
 refine .mv ?_
 refine .buildSlice (([(i_3 : Int)] : List Int).map irow) sl22 ze3 rfl rfl rfl rfl rfl (uniform_map (s := 1) (f := irow) (fun _ => rfl)) rfl rfl rfl (by decide) ?_
 refine .appendE ((l_3 ++ ([(i_3 : Int)] : List Int)).map irow) (l_3 ++ ([(i_3 : Int)] : List Int)).length sl22 ze3 rfl rfl rfl rfl (app_le (by first | omega | simp [-List.getD_eq_getElem?_getD] <;> omega)) (app_map (by first | omega | simp [-List.getD_eq_getElem?_getD] <;> omega)) (app_n (by first | omega | simp [-List.getD_eq_getElem?_getD] <;> omega)) (by first | omega | simp [-List.getD_eq_getElem?_getD] <;> omega) (by first | omega | simp [-List.getD_eq_getElem?_getD] <;> omega) (by decide) (by decide) ?_
 refine .an ?_
 refine .nil ?_
 exact ⟨l_3 ++ ([(i_3 : Int)] : List Int), by first | (rw [hl]; exact (pickL_yes (by assumption)).symm) | exact hl.trans (pickL_no (by assumption)).symm, Le.mk (.c (.c (.c (.cons (look_slc rfl (by omega)) (.c (.nil)))))) (.c (.c (.nil)))⟩
 refine .skip ?_
 exact ⟨l_3, by first | (rw [hl]; exact (pickL_yes (by assumption)).symm) | exact hl.trans (pickL_no (by assumption)).symm, Le.mk (.c (.c (.c (.cons (look_slc rfl (by omega)) (.c (.nil)))))) (.c (.c (.nil)))⟩
 refine .region ?_
 refine .mv ?_
 refine .vl (Y.addI rfl rfl (by omega)) ?_
 refine .an ?_
 refine .nil ?_
 exact ⟨i_3 + 1, l_j4, ⟨by omega, hJ4⟩, by omega, Le.mk (.c (.c (.c (.cons (look_slc rfl (by omega)) (.cons (look_int rfl (by first | rfl | omega)) (.nil)))))) (.c (.c (.nil)))⟩
 refine .exit (.seq (.seq ?_))
 have he : l_3 = pickL n.widths w n.widths.length := by rw [hl, show i_3 = n.widths.length by omega]
 have hlb := hpl0 i_3; rw [← hl] at hlb
 refine .region ?_
 refine .mv ?_
 refine .vl (Y.len (n := l_3.length) sl22 rfl rfl) (.vl (Y.eql rfl rfl) (.nil ?_))
 refine .condD rfl (fun c29 => ?_) (fun c29 => ?_)
 refine .sr ?_
 refine .an ?_
 refine .nil (.ret ?_)
 exact .ri rfl (by unfold pickN; rw [← he, if_pos (by omega)])
 refine .skip (.seq ?_)
 have hmod : k % l_3.length < l_3.length := Nat.mod_lt _ (by omega)
 refine .region ?_
 refine .mv ?_
 refine .mv ?_
 refine .vl (Y.convK ii5 ii3 rfl (by first | rfl | exact IntWalk.i64_in _ (by omega))) ?_
 refine .mv ?_
 refine .vl (Y.len (n := l_3.length) sl22 rfl rfl) ?_
 refine .vl (Y.remI rfl rfl (by first | omega | simp [-List.getD_eq_getElem?_getD] <;> omega)) ?_
 refine .vl (Y.indexO (m := k % l_3.length) sl22 rfl rfl (by first | rfl | omega) (by omega)) ?_
 refine .vl (Y.load sh3 rfl (row_getD0 (d := 0) (by omega)) rfl rfl) ?_
 refine .an ?_
 refine .nil (.ret ?_)
 exact .ri rfl (by unfold pickN; rw [← he, if_neg (by omega)])
theorem pickF_spec {n : Netlist} {w : Int} {k : Nat} (hn : n.widths.length ≤ 1048576) (hk : k < 256) : ACalls Try.prog 56 [.agg (Netlist.row n), vi w, .v (.int .u8 (k : Int))] [] [] (fun r o => r = (vi (pickN n.widths w k)) ∧ o = []) := by
 refine ACalls.of Try.func56 rfl rfl rfl (n := 38) (by decide) (nbE rfl) ?_
 have hpl0 := pickL_len n.widths w
 refine .sr (.box 103 rfl rfl rfl rfl rfl (by decide) ?_)
 refine .an ?_
 refine .nil (.sr ?_)
 refine .an ?_
 refine .sh (Sh.nil (d := 7) 107 1 rfl (by decide)) (.nil (.seq ?_))
 refine .sr ?_
 refine .an ?_
 refine .nil (.block ?_)
 refine .loop2 (fun (i_3 : Nat) (l_3 : List Int) => ⟨[(1, vi w), (2, .v (.int .u8 (k : Int))), (3, .ptr 103 0 0 0), (7, .slc 107 1 0 l_3.length), (8, vi (i_3 : Int))], [(103, .cells (Netlist.row n)), (107, .rows 1 (l_3.map irow))]⟩) (fun (i_3 : Nat) (l_3 : List Int) => ((i_3 : Int) ≤ ((n.widths.length : Nat) : Int)) ∧ (l_3 = pickL n.widths w i_3)) (fun (i_3 : Nat) (l_3 : List Int) => (((n.widths.length : Nat) : Int) - (i_3 : Int)).toNat) 0 ([] : List Int) (⟨by first | omega | (simp [-List.getD_eq_getElem?_getD]; done) | (simp [-List.getD_eq_getElem?_getD]; omega), rfl⟩) (Le.mk (.c (.c (.c (.cons (look_slc rfl (by first | omega | simp [-List.getD_eq_getElem?_getD] <;> omega)) (.cons (look_int rfl (by first | rfl | omega)) (.nil)))))) (.c (.c (.nil)))) (fun i_3 l_3 hI3 => ?_)
 obtain ⟨hb3, hl⟩ := hI3
 refine .seq (.sr ?_)
 refine .mv ?_
 refine .fa fl27_1 ?_
 refine .ld sh22 ?_
 refine .vl (Y.len (n := n.widths.length) sl22 rfl (congrArg some (List.length_map ..))) (.vl (Y.lss rfl rfl) (.nil ?_))
 refine .condD rfl (fun c13 => ?_) (fun c13 => ?_)
 refine .skip ?_
 refine .join1 (fun (l_j4 : List Int) => ⟨[(1, vi w), (2, .v (.int .u8 (k : Int))), (3, .ptr 103 0 0 0), (7, .slc 107 1 0 l_j4.length), (8, vi (i_3 : Int))], [(103, .cells (Netlist.row n)), (107, .rows 1 (l_j4.map irow))]⟩) (fun (l_j4 : List Int) => l_j4 = pickL n.widths w (i_3 + 1)) ?_ (fun l_j4 hJ4 => ?_)
 refine .block (.seq ?_)
 have hlb := hpl0 i_3; rw [← hl] at hlb
 refine .region ?_
 refine .fa fl27_1 ?_
 refine .ld sh22 ?_
 refine .mv ?_
 refine .vl (Y.indexF (m := i_3) sl22 rfl rfl (by first | rfl | omega) (row_getD (d := 0) (by omega))) ?_
 refine .ld sh3 ?_
 refine .mv ?_
 refine .vl (Y.eql rfl rfl) (.nil ?_)
 refine .condD rfl (fun c22 => ?_) (fun c22 => ?_)
 refine .region ?_
 refine .mv ?_
 refine .mv ?_
 refine .buildSlice (([(i_3 : Int)] : List Int).map irow) sl22 ze3 rfl rfl rfl rfl rfl (uniform_map (s := 1) (f := irow) (fun _ => rfl)) rfl rfl rfl (by decide) ?_
 refine .appendE ((l_3 ++ ([(i_3 : Int)] : List Int)).map irow) (l_3 ++ ([(i_3 : Int)] : List Int)).length sl22 ze3 rfl rfl rfl rfl (app_le (by first | omega | simp [-List.getD_eq_getElem?_getD] <;> omega)) (app_map (by first | omega | simp [-List.getD_eq_getElem?_getD] <;> omega)) (app_n (by first | omega | simp [-List.getD_eq_getElem?_getD] <;> omega)) (by first | omega | simp [-List.getD_eq_getElem?_getD] <;> omega) (by first | omega | simp [-List.getD_eq_getElem?_getD] <;> omega) (by decide) (by decide) ?_
 refine .an ?_
 refine .nil ?_
 exact ⟨l_3 ++ ([(i_3 : Int)] : List Int), by first | (rw [hl]; exact (pickL_yes (by assumption)).symm) | exact hl.trans (pickL_no (by assumption)).symm, Le.mk (.c (.c (.c (.cons (look_slc rfl (by omega)) (.c (.nil)))))) (.c (.c (.nil)))⟩
 refine .skip ?_
 exact ⟨l_3, by first | (rw [hl]; exact (pickL_yes (by assumption)).symm) | exact hl.trans (pickL_no (by assumption)).symm, Le.mk (.c (.c (.c (.cons (look_slc rfl (by omega)) (.c (.nil)))))) (.c (.c (.nil)))⟩
 refine .region ?_
 refine .mv ?_
 refine .vl (Y.addI rfl rfl (by omega)) ?_
 refine .an ?_
 refine .nil ?_
 exact ⟨i_3 + 1, l_j4, ⟨by omega, hJ4⟩, by omega, Le.mk (.c (.c (.c (.cons (look_slc rfl (by omega)) (.cons (look_int rfl (by first | rfl | omega)) (.nil)))))) (.c (.c (.nil)))⟩
 refine .exit (.seq (.seq ?_))
 have he : l_3 = pickL n.widths w n.widths.length := by rw [hl, show i_3 = n.widths.length by omega]
 have hlb := hpl0 i_3; rw [← hl] at hlb
 refine .region ?_
 refine .mv ?_
 refine .vl (Y.len (n := l_3.length) sl22 rfl rfl) (.vl (Y.eql rfl rfl) (.nil ?_))
 refine .condD rfl (fun c29 => ?_) (fun c29 => ?_)
 refine .sr ?_
 refine .an ?_
 refine .nil (.ret ?_)
 exact .ri rfl (by unfold pickN; rw [← he, if_pos (by omega)])
 refine .skip (.seq ?_)
 have hmod : k % l_3.length < l_3.length := Nat.mod_lt _ (by omega)
 refine .region ?_
 refine .mv ?_
 refine .mv ?_
 refine .vl (Y.convK ii5 ii3 rfl (by first | rfl | exact IntWalk.i64_in _ (by omega))) ?_
 refine .mv ?_
 refine .vl (Y.len (n := l_3.length) sl22 rfl rfl) ?_
 refine .vl (Y.remI rfl rfl (by first | omega | simp [-List.getD_eq_getElem?_getD] <;> omega)) ?_
 refine .vl (Y.indexO (m := k % l_3.length) sl22 rfl rfl (by first | rfl | omega) (by omega)) ?_
 refine .vl (Y.load sh3 rfl (row_getD0 (d := 0) (by omega)) rfl rfl) ?_
 refine .an ?_
 refine .nil (.ret ?_)
 exact .ri rfl (by unfold pickN; rw [← he, if_neg (by omega)])
end Go.Proofs.Ytligpghohcfpnaa
/- Walks through Few, Drivers, Ordered. -/
namespace Go.Proofs.Ytligpghohcfpnaa
open Go Go.AW Go.Proofs
theorem few_spec {p : Pln} : ACalls Try.prog 18 [.agg (Pln.row p)] [] [] (fun r o => r = .v (.bool (decide (p.Few))) ∧ o = []) := by
 refine ACalls.of Try.func18 rfl rfl rfl (n := 31) (by decide) (nbE rfl) (.sr (.box 101 rfl rfl rfl rfl rfl (by decide) ?_))
 refine .an ?_
 refine .nil (.sr ?_)
 refine .fa fl36_0 ?_
 refine .ld sh32 ?_
 refine .vl (Y.len (n := p.mems.length) sl32 rfl (congrArg some (List.length_map ..))) (.vl (Y.leq rfl rfl) ?_)
 refine .mv ?_
 refine .splitD (d := 7) rfl (fun c7 => ?_) (fun c7 => ?_)
 refine .gw 7 (Y.fieldAddr fl36_1 rfl rfl) (.gw 7 (Y.load sh32 rfl rfl rfl rfl) (.gw 7 (Y.len (n := p.streams.length) sl32 rfl (congrArg some (List.length_map ..))) ?_))
 refine .gw 7 (Y.leq rfl rfl) ?_
 refine .pk ?_
 refine .mv ?_
 refine .splitD (d := 13) rfl (fun c13 => ?_) (fun c13 => ?_)
 refine .gw 13 (Y.fieldAddr fl36_2 rfl rfl) (.gw 13 (Y.load sh33 rfl rfl rfl rfl) (.gw 13 (Y.len (n := p.ins.length) sl33 rfl (congrArg some (List.length_map ..))) ?_))
 refine .gw 13 (Y.leq rfl rfl) ?_
 refine .pk ?_
 refine .mv ?_
 refine .splitD (d := 19) rfl (fun c19 => ?_) (fun c19 => ?_)
 refine .gw 19 (Y.fieldAddr fl36_3 rfl rfl) (.gw 19 (Y.load sh34 rfl rfl rfl rfl) (.gw 19 (Y.len (n := p.parts.length) sl34 rfl (congrArg some (List.length_map ..))) ?_))
 refine .gw 19 (Y.leq rfl rfl) ?_
 refine .pk ?_
 refine .mv ?_
 refine .splitD (d := 25) rfl (fun c25 => ?_) (fun c25 => ?_)
 refine .gw 25 (Y.fieldAddr fl36_4 rfl rfl) (.gw 25 (Y.load sh33 rfl rfl rfl rfl) (.gw 25 (Y.len (n := p.rets.length) sl33 rfl (congrArg some (List.length_map ..))) ?_))
 refine .gw 25 (Y.leq rfl rfl) ?_
 refine .pk ?_
 refine .an ?_
 refine .nil (.ret ?_)
 exact .rb rfl (dd ⟨fun h => ⟨by omega, by omega, by omega, by omega, by omega⟩, fun h => by have h5 := h.rets; omega⟩)
 refine .gz 25 (.gz 25 (.gz 25 ?_))
 refine .gz 25 ?_
 refine .pk ?_
 refine .an ?_
 refine .nil (.ret ?_)
 exact .rb rfl (df (fun h => by have h1 := h.mems; have h2 := h.streams; have h3 := h.ins; have h4 := h.parts; have h5 := h.rets; omega))
 refine .gz 19 (.gz 19 (.gz 19 ?_))
 refine .gz 19 ?_
 refine .pk ?_
 refine .mv ?_
 refine .gz 25 (.gz 25 (.gz 25 ?_))
 refine .gz 25 ?_
 refine .pk ?_
 refine .an ?_
 refine .nil (.ret ?_)
 exact .rb rfl (df (fun h => by have h1 := h.mems; have h2 := h.streams; have h3 := h.ins; have h4 := h.parts; have h5 := h.rets; omega))
 refine .gz 13 (.gz 13 (.gz 13 ?_))
 refine .gz 13 ?_
 refine .pk ?_
 refine .mv ?_
 refine .gz 19 (.gz 19 (.gz 19 ?_))
 refine .gz 19 ?_
 refine .pk ?_
 refine .mv ?_
 refine .gz 25 (.gz 25 (.gz 25 ?_))
 refine .gz 25 ?_
 refine .pk ?_
 refine .an ?_
 refine .nil (.ret ?_)
 exact .rb rfl (df (fun h => by have h1 := h.mems; have h2 := h.streams; have h3 := h.ins; have h4 := h.parts; have h5 := h.rets; omega))
 refine .gz 7 (.gz 7 (.gz 7 ?_))
 refine .gz 7 ?_
 refine .pk ?_
 refine .mv ?_
 refine .gz 13 (.gz 13 (.gz 13 ?_))
 refine .gz 13 ?_
 refine .pk ?_
 refine .mv ?_
 refine .gz 19 (.gz 19 (.gz 19 ?_))
 refine .gz 19 ?_
 refine .pk ?_
 refine .mv ?_
 refine .gz 25 (.gz 25 (.gz 25 ?_))
 refine .gz 25 ?_
 refine .pk ?_
 refine .an ?_
 refine .nil (.ret ?_)
 exact .rb rfl (df (fun h => by have h1 := h.mems; have h2 := h.streams; have h3 := h.ins; have h4 := h.parts; have h5 := h.rets; omega))
theorem drivers_spec {n : Netlist} (hs : n.Small) (hf : Formed n) : ACalls Try.prog 38 [.agg (Netlist.row n)] [] [] (fun r o => ∃ l, DrvBy n l ∧ r = .uni 1 (l.map irow) ∧ o = []) := by
 refine ACalls.of Try.func38 rfl rfl rfl (n := 33) (by decide) (nbE rfl) ?_
 have hs1 := hs.widths; have hs2 := hs.cells
 refine .sr (.box 101 rfl rfl rfl rfl rfl (by decide) ?_)
 refine .an ?_
 refine .nil (.sr ?_)
 refine .fa fl27_1 ?_
 refine .ld sh22 ?_
 refine .vl (Y.len (n := n.widths.length) sl22 rfl (congrArg some (List.length_map ..))) ?_
 refine .makeSlice (n := n.widths.length) sl22 ze3 rfl rfl rfl rfl (by omega) (by omega) (by decide) ?_
 refine .assignX rfl (by decide) (.sh (Sh.adoptE (d := 3) (n := n.widths.length) 103 ((List.replicate n.widths.length 0).map irow) rfl (by first | rfl | exact rep_map rfl) (len_map (by simp)) (by decide)) (.nil ?_))
 refine .seq (.sr ?_)
 refine .an ?_
 refine .nil (.block ?_)
 refine .loop2 (fun (i4_3 : Nat) (out3_3 : List Int) => ⟨[(1, .ptr 101 0 0 0), (3, .slc 103 1 0 n.widths.length), (4, vi (i4_3 : Int))], [(101, .cells (Netlist.row n)), (103, .rows 1 (out3_3.map irow))]⟩) (fun (i4_3 : Nat) (out3_3 : List Int) => (out3_3.length = n.widths.length) ∧ ((i4_3 : Int) ≤ ((n.cells.length : Nat) : Int)) ∧ (DrvTo n i4_3 out3_3)) (fun (i4_3 : Nat) (out3_3 : List Int) => (((n.cells.length : Nat) : Int) - (i4_3 : Int)).toNat) 0 (List.replicate n.widths.length 0) (⟨by first | omega | (simp [-List.getD_eq_getElem?_getD]; done) | (simp [-List.getD_eq_getElem?_getD]; omega), by first | omega | (simp [-List.getD_eq_getElem?_getD]; done) | (simp [-List.getD_eq_getElem?_getD]; omega), ⟨by simp, fun j w hd hj => by have := hd.1; omega⟩⟩) (Le.mk (.c (.c (.cons (look_int rfl (by first | rfl | omega)) (.nil)))) (.c (.c (.nil)))) (fun i4_3 out3_3 hI3 => ?_)
 obtain ⟨hl103, hb3, hD⟩ := hI3
 refine .seq (.sr ?_)
 refine .mv ?_
 refine .fa fl27_2 ?_
 refine .ld sh23 ?_
 refine .vl (Y.len (n := n.cells.length) sl23 rfl (congrArg some (List.length_map ..))) (.vl (Y.lss rfl rfl) (.nil ?_))
 refine .condD rfl (fun c13 => ?_) (fun c13 => ?_)
 refine .skip ?_
 refine .join1 (fun (out3_j4 : List Int) => ⟨[(1, .ptr 101 0 0 0), (3, .slc 103 1 0 n.widths.length), (4, vi (i4_3 : Int))], [(101, .cells (Netlist.row n)), (103, .rows 1 (out3_j4.map irow))]⟩) (fun (out3_j4 : List Int) => (out3_j4.length = n.widths.length) ∧ (DrvTo n (i4_3 + 1) out3_j4)) ?_ (fun out3_j4 hJx4 => ?_)
 refine .block (.sr ?_)
 refine .fa fl27_2 ?_
 refine .ld sh23 ?_
 refine .mv ?_
 refine .vl (Y.indexF (m := i4_3) sl23 rfl rfl (by first | rfl | omega) (row_getD (d := default) (by omega))) ?_
 refine .fa fl39_2 ?_
 refine .ld sh3 ?_
 refine .vl (Y.geq rfl rfl) (.nil ?_)
 refine .condD rfl (fun c22 => ?_) (fun c22 => ?_)
 have ho6 : In (n.cells.getD i4_3 default).out n.widths.length := (hf.cells i4_3 (by omega)).2.2.2 (fun e => by have := (hf.cells i4_3 (by omega)).2.2.1 e; omega)
 unfold In at ho6
 refine .region ?_
 refine .mv ?_
 refine .fa fl27_2 ?_
 refine .ld sh23 ?_
 refine .mv ?_
 refine .vl (Y.indexF (m := i4_3) sl23 rfl rfl (by first | rfl | omega) (row_getD (d := default) (by omega))) ?_
 refine .fa fl39_2 ?_
 refine .ld sh3 ?_
 refine .mv ?_
 refine .vl (Y.indexO (m := ((n.cells.getD i4_3 default).out).toNat) sl22 rfl rfl (by omega) (by omega)) ?_
 refine .storeE ((out3_3.set (((n.cells.getD i4_3 default).out).toNat) (i4_3 : Int)).map irow) si3 rfl rfl rfl rfl rfl rfl rfl (row_getD0 (d := 0) (by omega)) (nbE rfl) (set_map0 rfl) ?_
 refine .nil ?_
 exact ⟨out3_3.set (((n.cells.getD i4_3 default).out).toNat) (i4_3 : Int), ⟨by first | omega | (simp [-List.getD_eq_getElem?_getD]; done) | (simp [-List.getD_eq_getElem?_getD]; omega), by first | exact hD.set hf (by omega) (by assumption) | exact hD.skip hf (by assumption)⟩, Le.mk (.c (.c (.c (.nil)))) (.c (.c (.nil)))⟩
 refine .skip ?_
 exact ⟨out3_3, ⟨by omega, by first | exact hD.set hf (by omega) (by assumption) | exact hD.skip hf (by assumption)⟩, Le.mk (.c (.c (.c (.nil)))) (.c (.c (.nil)))⟩
 obtain ⟨hlj4_103, hJ4⟩ := hJx4
 refine .region ?_
 refine .mv ?_
 refine .vl (Y.addI rfl rfl (by omega)) ?_
 refine .an ?_
 refine .nil ?_
 exact ⟨i4_3 + 1, out3_j4, ⟨by omega, by omega, hJ4⟩, by omega, Le.mk (.c (.c (.cons (look_int rfl (by first | rfl | omega)) (.nil)))) (.c (.c (.nil)))⟩
 refine .exit (.sr ?_)
 refine .mv ?_
 refine .an ?_
 refine .sh (Sh.detach (d := 2) (o := 103) rfl rfl (len_map (by omega)) (by decide)) ?_
 refine .nil (.ret ?_)
 exact ⟨_, _, rfl, rfl, out3_3, DrvTo.done hf (by rw [show n.cells.length = i4_3 by omega]; exact hD), rfl, rfl⟩
end Go.Proofs.Ytligpghohcfpnaa
