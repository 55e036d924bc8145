/- The walk through Order. -/
import Derived.Test.YtligpghohcfpnaaNetx0
import Derived.Test.YtligpghohcfpnaaNetx1
import Derived.Test.YtligpghohcfpnaaAWx2
set_option linter.unusedSimpArgs false
set_option linter.unusedVariables false
set_option linter.unusedSectionVars false
set_option maxRecDepth 4000
set_option maxHeartbeats 8000000
namespace Go.Proofs.Ytligpghohcfpnaa
open Go Go.AW Go.Proofs
theorem order_spec {n : Netlist} (hs : n.Small) (hwi : n.widths.length + n.ins.length ≤ 17592186044416) : ACalls Try.prog 20 [.agg (Netlist.row n)] [] [] (fun r o => ∃ (l : List Int) (e : Int), OrderRes n l e ∧ r = .tup [.uni 1 (l.map irow), vi e] ∧ o = []) := by
 refine ACalls.of Try.func20 rfl rfl rfl (n := 169) (by decide) (Nat.le_of_ble_eq_true rfl) (AWp.sr (AOps.box 101 rfl rfl rfl rfl rfl (by decide) ?_))
 refine .an ?_
 refine .an ?_
 refine AOps.nil (AWp.seq (AWp.sr ?_))
 refine .vl (Y.loadA sh27 rfl rfl (Nat.le_of_ble_eq_true rfl) rfl rfl) ?_
 refine AOps.callP ok57 (formed_spec (n := n) hs ((by omega))) rfl (.keep rfl rfl .nil) (by decide) rfl ?_
 refine .vl (Y.not rfl) (AOps.nil ?_)
 refine AWp.cond rfl (fun c22 => ?_) (fun c22 => ?_)
 replace c22 : ¬ (Formed n) := by simpa using c22
 refine AWp.sr ?_
 refine .an ?_
 refine .an ?_
 refine AOps.nil (AWp.sh (Sh.nilU (d := 2) 1 rfl) (AWp.ret ?_))
 exact ⟨_, _, rfl, rfl, ([] : List Int), 3, .inl ⟨by assumption, rfl, rfl⟩, rfl, rfl⟩
 replace c22 : Formed n := by simpa using c22
 have hf : Formed n := by assumption
 refine AWp.skip (AWp.seq (AWp.sr ?_))
 refine .vl (Y.loadA sh27 rfl rfl (Nat.le_of_ble_eq_true rfl) rfl rfl) (AOps.callP ok58 (widths_spec (n := n) hs (by assumption)) rfl (.keep rfl rfl .nil) (by decide) rfl (.vl (Y.not rfl) ?_))
 refine AOps.nil ?_
 refine AWp.cond rfl (fun c25 => ?_) (fun c25 => ?_)
 replace c25 : ¬ (Fit n) := by simpa using c25
 refine AWp.sr ?_
 refine .an ?_
 refine .an ?_
 refine AOps.nil (AWp.sh (Sh.nilU (d := 2) 1 rfl) (AWp.ret ?_))
 exact ⟨_, _, rfl, rfl, ([] : List Int), 13, .inr (.inl ⟨by assumption, by assumption, rfl, rfl⟩), rfl, rfl⟩
 replace c25 : Fit n := by simpa using c25
 have hft : Fit n := by assumption
 have hz1 := hf.ncells; have hz2 := hf.nwidths
 refine AWp.skip (AWp.sr ?_)
 refine .an ?_
 refine AOps.sh (Sh.nil (d := 4) 104 1 rfl (by decide)) (AOps.nil (AWp.sr ?_))
 refine .fa fl27_2 ?_
 refine .ld sh23 ?_
 refine .vl (Y.len (n := n.cells.length) sl23 rfl (congrArg some (List.length_map ..))) ?_
 refine AOps.makeSlice (n := n.cells.length) sl22 ze3 rfl rfl rfl rfl (by omega) (by omega) (by decide) ?_
 refine AOps.assignX rfl (by decide) (AOps.sh (Sh.adoptE (d := 5) (n := n.cells.length) 105 ((List.replicate n.cells.length 0).map irow) rfl (by first | rfl | exact rep_map rfl) (len_map (by simp)) (by decide)) (AOps.nil ?_))
 refine AWp.sr ?_
 refine .fa fl27_1 ?_
 refine .ld sh22 ?_
 refine .vl (Y.len (n := n.widths.length) sl22 rfl (congrArg some (List.length_map ..))) ?_
 refine AOps.makeSlice (n := n.widths.length) sl92 ze22 rfl rfl rfl rfl (by omega) (by omega) (by decide) ?_
 refine AOps.sh (Sh.nilRows (d := 33) 1 rfl) (AOps.assignX rfl (by decide) (AOps.sh (Sh.adoptE (d := 6) (n := n.widths.length) 106 ((List.replicate n.widths.length []).map orow) rfl (by first | rfl | exact rep_map rfl) (len_map (by simp)) (by decide)) ?_))
 refine AOps.nil (AWp.sr ?_)
 refine .fa fl27_1 ?_
 refine .ld sh22 ?_
 refine .vl (Y.len (n := n.widths.length) sl22 rfl (congrArg some (List.length_map ..))) ?_
 refine AOps.makeSlice (n := n.widths.length) sl63 ze4 rfl rfl rfl rfl (by omega) (by omega) (by decide) ?_
 refine AOps.assignX rfl (by decide) (AOps.sh (Sh.adoptE (d := 7) (n := n.widths.length) 107 ((List.replicate n.widths.length false).map brow) rfl (by first | rfl | exact rep_map rfl) (len_map (by simp)) (by decide)) (AOps.nil ?_))
 refine AWp.seq (AWp.sr ?_)
 refine .fa fl27_2 ?_
 refine .ld sh23 ?_
 refine .vl (Y.len (n := n.cells.length) sl23 rfl (congrArg some (List.length_map ..))) ?_
 refine .mv ?_
 refine AOps.nil (AWp.block ?_)
 refine AWp.loop2 (fun (n41_10 : Nat) (comb7_10 : List Bool) => ⟨[(1, .ptr 101 0 0 0), (4, .slc 104 1 0 0), (5, .slc 105 1 0 n.cells.length), (6, .slc 106 1 0 n.widths.length), (7, .slc 107 1 0 n.widths.length), (39, .fz 6 (n.cells.map Cell.row)), (40, vi ((n.cells.length : Nat) : Int)), (41, vi (n41_10 : Int))], [(101, .cells (Netlist.row n)), (104, .rows 1 (([] : List Int).map irow)), (105, .rows 1 ((List.replicate n.cells.length 0).map irow)), (106, .rows 1 ((List.replicate n.widths.length []).map orow)), (107, .rows 1 (comb7_10.map brow))]⟩) (fun (n41_10 : Nat) (comb7_10 : List Bool) => (comb7_10.length = n.widths.length) ∧ ((n41_10 : Int) ≤ ((n.cells.length : Nat) : Int)) ∧ (CombInv n n41_10 comb7_10)) (fun (n41_10 : Nat) (comb7_10 : List Bool) => (((n.cells.length : Nat) : Int) - (n41_10 : Int)).toNat) 0 (List.replicate n.widths.length false) (⟨by first | omega | (simp [-List.getD_eq_getElem?_getD]; done) | (simp [-List.getD_eq_getElem?_getD]; omega) | (unfold In at *; omega), by first | omega | (simp [-List.getD_eq_getElem?_getD]; done) | (simp [-List.getD_eq_getElem?_getD]; omega) | (unfold In at *; omega), CombInv.init n⟩) (Le.mk (.c (.c (.c (.c (.c (.c (.c (.cons (look_int rfl (by first | rfl | omega)) (.nil))))))))) (.c (.c (.c (.c (.c (.nil))))))) (fun n41_10 comb7_10 hI10 => ?_)
 obtain ⟨hl107, hb10, hci⟩ := hI10
 refine AWp.sr (.vl (Y.lss rfl rfl) (AOps.nil ?_))
 refine AWp.seq ?_
 refine AWp.condD rfl (fun c42 => ?_) (fun c42 => ?_)
 refine AWp.skip ?_
 refine AWp.join1 (fun (comb7_j14 : List Bool) => ⟨[(1, .ptr 101 0 0 0), (4, .slc 104 1 0 0), (5, .slc 105 1 0 n.cells.length), (6, .slc 106 1 0 n.widths.length), (7, .slc 107 1 0 n.widths.length), (39, .fz 6 (n.cells.map Cell.row)), (40, vi ((n.cells.length : Nat) : Int)), (41, vi (n41_10 : Int))], [(101, .cells (Netlist.row n)), (104, .rows 1 (([] : List Int).map irow)), (105, .rows 1 ((List.replicate n.cells.length 0).map irow)), (106, .rows 1 ((List.replicate n.widths.length []).map orow)), (107, .rows 1 (comb7_j14.map brow))]⟩) (fun (comb7_j14 : List Bool) => (comb7_j14.length = n.widths.length) ∧ (CombInv n (n41_10 + 1) comb7_j14)) ?_ (fun comb7_j14 hJx14 => ?_)
 refine AWp.block (AWp.sr ?_)
 refine .vl (Y.indexF (m := n41_10) sl23 rfl rfl (by first | rfl | omega) (row_getD (d := default) (by omega))) ?_
 refine .vl (Y.loadA sh39 rfl rfl (Nat.le_of_ble_eq_true rfl) rfl rfl) (AOps.alloc 109 ze39 rfl rfl (by decide) (AOps.storeC si39 rfl rfl rfl rfl rfl rfl (Nat.le_of_ble_eq_true rfl) rfl ?_))
 refine AOps.nil (AWp.sr ?_)
 refine .fa fl39_0 ?_
 refine .ld sh3 ?_
 refine AOps.callP ok21 (comb_spec (w := ((n.cells.getD n41_10 default).kind))) rfl (.keep rfl rfl .nil) (by decide) rfl (AOps.nil ?_)
 refine AWp.condD rfl (fun c47 => ?_) (fun c47 => ?_)
 have hw1 := hf.outIn (CombAt.drives (n := n) (i := (n41_10 : Int)) ⟨⟨by omega, by omega⟩, c47⟩)
 rw [cell_nat] at hw1
 have hw2 := hw1; unfold In at hw2
 refine AWp.region ?_
 refine .mv ?_
 refine .fa fl39_2 ?_
 refine .ld sh3 ?_
 refine .vl (Y.indexO (m := ((n.cells.getD n41_10 default).out).toNat) sl63 rfl rfl (by omega) (by omega)) ?_
 refine AOps.storeE ((comb7_10.set (((n.cells.getD n41_10 default).out).toNat) true).map brow) si4 rfl rfl rfl rfl rfl rfl rfl (row_getD0 (d := false) (by omega)) (Nat.le_of_ble_eq_true rfl) (set_map0 rfl) ?_
 refine AOps.nil ?_
 exact ⟨comb7_10.set (((n.cells.getD n41_10 default).out).toNat) true, ⟨by first | omega | (simp [-List.getD_eq_getElem?_getD]; done) | (simp [-List.getD_eq_getElem?_getD]; omega) | (unfold In at *; omega), hci.step (by omega) hl107 c47 hw1⟩, Le.mk (.c (.c (.c (.c (.c (.c (.c (.c (.nil))))))))) (.c (.c (.c (.c (.c (.nil))))))⟩
 refine AWp.skip ?_
 exact ⟨comb7_10, ⟨by omega, hci.skip c47⟩, Le.mk (.c (.c (.c (.c (.c (.c (.c (.c (.nil))))))))) (.c (.c (.c (.c (.c (.nil))))))⟩
 obtain ⟨hlj14_107, hJ14⟩ := hJx14
 refine AWp.region ?_
 refine .vl (Y.addI rfl rfl (by omega)) ?_
 refine .mv ?_
 refine AOps.nil ?_
 exact ⟨n41_10 + 1, comb7_j14, ⟨by omega, by omega, hJ14⟩, by omega, Le.mk (.c (.c (.c (.c (.c (.c (.c (.cons (look_int rfl (by first | rfl | omega)) (.nil))))))))) (.c (.c (.c (.c (.c (.nil))))))⟩
 refine AWp.exit (AWp.seq (AWp.seq ?_))
 have hci2 : CombInv n n.cells.length comb7_10 := by rw [show n.cells.length = n41_10 by omega]; exact hci
 refine AWp.region ?_
 refine .fa fl27_2 ?_
 refine .ld sh23 ?_
 refine .vl (Y.len (n := n.cells.length) sl23 rfl (congrArg some (List.length_map ..))) ?_
 refine .mv ?_
 refine AOps.nil (AWp.block ?_)
 refine AWp.loop2 (fun (n56_16 : Nat) (out4_16 : List Int) => ⟨[(1, .ptr 101 0 0 0), (4, .slc 104 1 0 out4_16.length), (5, .slc 105 1 0 n.cells.length), (6, .slc 106 1 0 n.widths.length), (7, .slc 107 1 0 n.widths.length), (54, .fz 6 (n.cells.map Cell.row)), (55, vi ((n.cells.length : Nat) : Int)), (56, vi (n56_16 : Int))], [(101, .cells (Netlist.row n)), (104, .rows 1 (out4_16.map irow)), (105, .rows 1 ((List.replicate n.cells.length 0).map irow)), (106, .rows 1 ((List.replicate n.widths.length []).map orow)), (107, .rows 1 (comb7_10.map brow))]⟩) (fun (n56_16 : Nat) (out4_16 : List Int) => ((n56_16 : Int) ≤ ((n.cells.length : Nat) : Int)) ∧ (out4_16 = seqL n n56_16)) (fun (n56_16 : Nat) (out4_16 : List Int) => (((n.cells.length : Nat) : Int) - (n56_16 : Int)).toNat) 0 ([] : List Int) (⟨by first | omega | (simp [-List.getD_eq_getElem?_getD]; done) | (simp [-List.getD_eq_getElem?_getD]; omega) | (unfold In at *; omega), rfl⟩) (Le.mk (.c (.cons (look_slc rfl (by first | omega | (simp [-List.getD_eq_getElem?_getD]; done) | (simp [-List.getD_eq_getElem?_getD]; omega) | (unfold In at *; omega))) (.c (.c (.c (.c (.c (.cons (look_int rfl (by first | rfl | omega)) (.nil))))))))) (.c (.c (.c (.c (.c (.nil))))))) (fun n56_16 out4_16 hI16 => ?_)
 obtain ⟨hb16, hsq⟩ := hI16
 refine AWp.sr (.vl (Y.lss rfl rfl) (AOps.nil ?_))
 refine AWp.seq ?_
 refine AWp.condD rfl (fun c57 => ?_) (fun c57 => ?_)
 refine AWp.skip ?_
 refine AWp.join1 (fun (out4_j20 : List Int) => ⟨[(1, .ptr 101 0 0 0), (4, .slc 104 1 0 out4_j20.length), (5, .slc 105 1 0 n.cells.length), (6, .slc 106 1 0 n.widths.length), (7, .slc 107 1 0 n.widths.length), (54, .fz 6 (n.cells.map Cell.row)), (55, vi ((n.cells.length : Nat) : Int)), (56, vi (n56_16 : Int))], [(101, .cells (Netlist.row n)), (104, .rows 1 (out4_j20.map irow)), (105, .rows 1 ((List.replicate n.cells.length 0).map irow)), (106, .rows 1 ((List.replicate n.widths.length []).map orow)), (107, .rows 1 (comb7_10.map brow))]⟩) (fun (out4_j20 : List Int) => out4_j20 = seqL n (n56_16 + 1)) ?_ (fun out4_j20 hJ20 => ?_)
 refine AWp.block (AWp.sr ?_)
 refine .mv ?_
 refine .vl (Y.indexF (m := n56_16) sl23 rfl rfl (by first | rfl | omega) (row_getD (d := default) (by omega))) ?_
 refine .vl (Y.loadA sh39 rfl rfl (Nat.le_of_ble_eq_true rfl) rfl rfl) (AOps.alloc 111 ze39 rfl rfl (by decide) ?_)
 refine .an ?_
 refine AOps.storeC si39 rfl rfl rfl rfl rfl rfl (Nat.le_of_ble_eq_true rfl) rfl (AOps.nil (AWp.sr ?_))
 have hsl := seqL_len n n56_16; rw [← hsq] at hsl
 refine .fa fl39_0 ?_
 refine .ld sh3 ?_
 refine AOps.callP ok21 (comb_spec (w := ((n.cells.getD n56_16 default).kind))) rfl (.keep rfl rfl .nil) (by decide) rfl (.vl (Y.not rfl) (AOps.nil ?_))
 refine AWp.cond rfl (fun c64 => ?_) (fun c64 => ?_)
 replace c64 : ¬ (Comb ((n.cells.getD n56_16 default).kind)) := by simpa using c64
 refine AWp.region ?_
 refine .mv ?_
 refine .mv ?_
 refine AOps.buildSlice (([(n56_16 : Int)] : List Int).map irow) sl22 ze3 rfl rfl rfl rfl rfl (uniform_map (s := 1) (f := irow) (fun _ => rfl)) rfl rfl rfl (by decide) ?_
 refine AOps.appendE ((out4_16 ++ ([(n56_16 : Int)] : List Int)).map irow) (out4_16 ++ ([(n56_16 : Int)] : List Int)).length sl22 ze3 rfl rfl rfl rfl (app_le (by first | omega | (simp [-List.getD_eq_getElem?_getD]; done) | (simp [-List.getD_eq_getElem?_getD]; omega) | (unfold In at *; omega))) (app_map (by first | omega | (simp [-List.getD_eq_getElem?_getD]; done) | (simp [-List.getD_eq_getElem?_getD]; omega) | (unfold In at *; omega))) (app_n (by first | omega | (simp [-List.getD_eq_getElem?_getD]; done) | (simp [-List.getD_eq_getElem?_getD]; omega) | (unfold In at *; omega))) (by first | omega | (simp [-List.getD_eq_getElem?_getD]; done) | (simp [-List.getD_eq_getElem?_getD]; omega) | (unfold In at *; omega)) (by first | omega | (simp [-List.getD_eq_getElem?_getD]; done) | (simp [-List.getD_eq_getElem?_getD]; omega) | (unfold In at *; omega)) (by decide) (by decide) ?_
 refine .an ?_
 refine AOps.nil ?_
 exact ⟨out4_16 ++ ([(n56_16 : Int)] : List Int), by rw [seqL_succ, if_neg c64, hsq], Le.mk (.c (.cons (look_slc rfl (by omega)) (.c (.c (.c (.c (.c (.c (.nil))))))))) (.c (.c (.c (.c (.c (.nil))))))⟩
 replace c64 : Comb ((n.cells.getD n56_16 default).kind) := by simpa using c64
 refine AWp.skip ?_
 exact ⟨out4_16, by rw [seqL_succ, if_pos c64, hsq, List.append_nil], Le.mk (.c (.cons (look_slc rfl (by omega)) (.c (.c (.c (.c (.c (.c (.nil))))))))) (.c (.c (.c (.c (.c (.nil))))))⟩
 refine AWp.region ?_
 refine .vl (Y.addI rfl rfl (by omega)) ?_
 refine .mv ?_
 refine AOps.nil ?_
 exact ⟨n56_16 + 1, out4_j20, ⟨by omega, hJ20⟩, by omega, Le.mk (.c (.cons (look_slc rfl (by omega)) (.c (.c (.c (.c (.c (.cons (look_int rfl (by first | rfl | omega)) (.nil))))))))) (.c (.c (.c (.c (.c (.nil))))))⟩
 refine AWp.exit (AWp.sr ?_)
 refine .an ?_
 refine AOps.sh (Sh.nil (d := 12) 112 1 rfl (by decide)) (AOps.nil (AWp.seq ?_))
 refine AWp.sr ?_
 refine .fa fl27_2 ?_
 refine .ld sh23 ?_
 refine .vl (Y.len (n := n.cells.length) sl23 rfl (congrArg some (List.length_map ..))) ?_
 refine .mv ?_
 refine AOps.nil (AWp.block ?_)
 refine AWp.loop4 (fun (n73_23 : Nat) (remaining5_23 : List Int) (users6_23 : List (List Int)) (ready12_23 : List Int) => ⟨[(1, .ptr 101 0 0 0), (4, .slc 104 1 0 out4_16.length), (5, .slc 105 1 0 n.cells.length), (6, .slc 106 1 0 n.widths.length), (7, .slc 107 1 0 n.widths.length), (12, .slc 112 1 0 ready12_23.length), (71, .fz 6 (n.cells.map Cell.row)), (72, vi ((n.cells.length : Nat) : Int)), (73, vi (n73_23 : Int))], [(101, .cells (Netlist.row n)), (104, .rows 1 (out4_16.map irow)), (105, .rows 1 (remaining5_23.map irow)), (106, .rows 1 (users6_23.map orow)), (107, .rows 1 (comb7_10.map brow)), (112, .rows 1 (ready12_23.map irow))]⟩) (fun (n73_23 : Nat) (remaining5_23 : List Int) (users6_23 : List (List Int)) (ready12_23 : List Int) => (remaining5_23.length = n.cells.length) ∧ (users6_23.length = n.widths.length) ∧ ((n73_23 : Int) ≤ ((n.cells.length : Nat) : Int)) ∧ (BI n n73_23 remaining5_23 users6_23 ready12_23)) (fun (n73_23 : Nat) (remaining5_23 : List Int) (users6_23 : List (List Int)) (ready12_23 : List Int) => (((n.cells.length : Nat) : Int) - (n73_23 : Int)).toNat) 0 (List.replicate n.cells.length 0) (List.replicate n.widths.length []) ([] : List Int) (⟨by first | omega | (simp [-List.getD_eq_getElem?_getD]; done) | (simp [-List.getD_eq_getElem?_getD]; omega) | (unfold In at *; omega), by first | omega | (simp [-List.getD_eq_getElem?_getD]; done) | (simp [-List.getD_eq_getElem?_getD]; omega) | (unfold In at *; omega), by first | omega | (simp [-List.getD_eq_getElem?_getD]; done) | (simp [-List.getD_eq_getElem?_getD]; omega) | (unfold In at *; omega), BI.init n⟩) (Le.mk (.c (.c (.c (.c (.c (.cons (look_slc rfl (by first | omega | (simp [-List.getD_eq_getElem?_getD]; done) | (simp [-List.getD_eq_getElem?_getD]; omega) | (unfold In at *; omega))) (.c (.c (.cons (look_int rfl (by first | rfl | omega)) (.nil)))))))))) (.c (.c (.c (.c (.c (.c (.nil)))))))) (fun n73_23 remaining5_23 users6_23 ready12_23 hI23 => ?_)
 obtain ⟨hl105, hl106, hb23, hbi⟩ := hI23
 refine AWp.sr (.vl (Y.lss rfl rfl) (AOps.nil ?_))
 refine AWp.seq ?_
 refine AWp.condD rfl (fun c74 => ?_) (fun c74 => ?_)
 refine AWp.skip ?_
 refine AWp.join3 (fun (remaining5_j35 : List Int) (users6_j35 : List (List Int)) (ready12_j35 : List Int) => ⟨[(1, .ptr 101 0 0 0), (4, .slc 104 1 0 out4_16.length), (5, .slc 105 1 0 n.cells.length), (6, .slc 106 1 0 n.widths.length), (7, .slc 107 1 0 n.widths.length), (12, .slc 112 1 0 ready12_j35.length), (71, .fz 6 (n.cells.map Cell.row)), (72, vi ((n.cells.length : Nat) : Int)), (73, vi (n73_23 : Int))], [(101, .cells (Netlist.row n)), (104, .rows 1 (out4_16.map irow)), (105, .rows 1 (remaining5_j35.map irow)), (106, .rows 1 (users6_j35.map orow)), (107, .rows 1 (comb7_10.map brow)), (112, .rows 1 (ready12_j35.map irow))]⟩) (fun (remaining5_j35 : List Int) (users6_j35 : List (List Int)) (ready12_j35 : List Int) => (remaining5_j35.length = n.cells.length) ∧ ((users6_j35.length = n.widths.length) ∧ (BI n (n73_23 + 1) remaining5_j35 users6_j35 ready12_j35))) ?_ (fun remaining5_j35 users6_j35 ready12_j35 hJx35 => ?_)
 refine AWp.block (AWp.sr ?_)
 refine .mv ?_
 refine .vl (Y.indexF (m := n73_23) sl23 rfl rfl (by first | rfl | omega) (row_getD (d := default) (by omega))) ?_
 refine .vl (Y.loadA sh39 rfl rfl (Nat.le_of_ble_eq_true rfl) rfl rfl) (AOps.alloc 114 ze39 rfl rfl (by decide) ?_)
 refine .an ?_
 refine AOps.storeC si39 rfl rfl rfl rfl rfl rfl (Nat.le_of_ble_eq_true rfl) rfl (AOps.nil (AWp.seq ?_))
 refine AWp.sr ?_
 have hca := hs.args (n.cells.getD n73_23 default) (getD_mem' (by omega))
 have hrl := hbi.rl
 refine .fa fl39_0 ?_
 refine .ld sh3 ?_
 refine AOps.callP ok21 (comb_spec (w := ((n.cells.getD n73_23 default).kind))) rfl (.keep rfl rfl .nil) (by decide) rfl (.vl (Y.not rfl) (AOps.nil ?_))
 refine AWp.cond rfl (fun c81 => ?_) (fun c81 => ?_)
 replace c81 : ¬ (Comb ((n.cells.getD n73_23 default).kind)) := by simpa using c81
 refine AWp.exit ?_
 exact ⟨remaining5_23, users6_23, ready12_23, ⟨by omega, ⟨by omega, hbi.skip (by omega) c81⟩⟩, Le.mk (.c (.c (.c (.c (.c (.cons (look_slc rfl (by omega)) (.c (.c (.c (.nil)))))))))) (.c (.c (.c (.c (.c (.c (.nil)))))))⟩
 replace c81 : Comb ((n.cells.getD n73_23 default).kind) := by simpa using c81
 refine AWp.skip (AWp.seq (AWp.sr ?_))
 refine .fa fl39_3 ?_
 refine .ld sh22 ?_
 refine .vl (Y.len (n := ((n.cells.getD n73_23 default).args).length) sl22 rfl (congrArg some (List.length_map ..))) ?_
 refine .mv ?_
 refine AOps.nil (AWp.block ?_)
 refine AWp.loop3 (fun (n85_27 : Nat) (remaining5_27 : List Int) (users6_27 : List (List Int)) => ⟨[(1, .ptr 101 0 0 0), (4, .slc 104 1 0 out4_16.length), (5, .slc 105 1 0 n.cells.length), (6, .slc 106 1 0 n.widths.length), (7, .slc 107 1 0 n.widths.length), (12, .slc 112 1 0 ready12_23.length), (13, vi (n73_23 : Int)), (71, .fz 6 (n.cells.map Cell.row)), (72, vi ((n.cells.length : Nat) : Int)), (73, vi (n73_23 : Int)), (83, .fz 1 (((n.cells.getD n73_23 default).args).map irow)), (84, vi ((((n.cells.getD n73_23 default).args).length : Nat) : Int)), (85, vi (n85_27 : Int))], [(101, .cells (Netlist.row n)), (104, .rows 1 (out4_16.map irow)), (105, .rows 1 (remaining5_27.map irow)), (106, .rows 1 (users6_27.map orow)), (107, .rows 1 (comb7_10.map brow)), (112, .rows 1 (ready12_23.map irow))]⟩) (fun (n85_27 : Nat) (remaining5_27 : List Int) (users6_27 : List (List Int)) => (remaining5_27.length = n.cells.length) ∧ (users6_27.length = n.widths.length) ∧ ((n85_27 : Int) ≤ ((((n.cells.getD n73_23 default).args).length : Nat) : Int)) ∧ (BJ n n73_23 n85_27 remaining5_23 users6_23 remaining5_27 users6_27)) (fun (n85_27 : Nat) (remaining5_27 : List Int) (users6_27 : List (List Int)) => (((((n.cells.getD n73_23 default).args).length : Nat) : Int) - (n85_27 : Int)).toNat) 0 remaining5_23 users6_23 (⟨by omega, by omega, by omega, BJ.init hbi (by omega)⟩) (Le.mk (.c (.c (.c (.c (.c (.c (.c (.c (.c (.c (.c (.c (.cons (look_int rfl (by first | rfl | omega)) (.nil)))))))))))))) (.c (.c (.c (.c (.c (.c (.nil)))))))) (fun n85_27 remaining5_27 users6_27 hI27 => ?_)
 obtain ⟨hl105, hl106, hb27, hbj⟩ := hI27
 refine AWp.sr (.vl (Y.lss rfl rfl) (AOps.nil ?_))
 refine AWp.seq ?_
 refine AWp.condD rfl (fun c86 => ?_) (fun c86 => ?_)
 refine AWp.skip ?_
 refine AWp.join2 (fun (remaining5_j32 : List Int) (users6_j32 : List (List Int)) => ⟨[(1, .ptr 101 0 0 0), (4, .slc 104 1 0 out4_16.length), (5, .slc 105 1 0 n.cells.length), (6, .slc 106 1 0 n.widths.length), (7, .slc 107 1 0 n.widths.length), (12, .slc 112 1 0 ready12_23.length), (13, vi (n73_23 : Int)), (71, .fz 6 (n.cells.map Cell.row)), (72, vi ((n.cells.length : Nat) : Int)), (73, vi (n73_23 : Int)), (83, .fz 1 (((n.cells.getD n73_23 default).args).map irow)), (84, vi ((((n.cells.getD n73_23 default).args).length : Nat) : Int)), (85, vi (n85_27 : Int))], [(101, .cells (Netlist.row n)), (104, .rows 1 (out4_16.map irow)), (105, .rows 1 (remaining5_j32.map irow)), (106, .rows 1 (users6_j32.map orow)), (107, .rows 1 (comb7_10.map brow)), (112, .rows 1 (ready12_23.map irow))]⟩) (fun (remaining5_j32 : List Int) (users6_j32 : List (List Int)) => (remaining5_j32.length = n.cells.length) ∧ ((users6_j32.length = n.widths.length) ∧ (BJ n n73_23 (n85_27 + 1) remaining5_23 users6_23 remaining5_j32 users6_j32))) ?_ (fun remaining5_j32 users6_j32 hJx32 => ?_)
 refine AWp.block (AWp.sr ?_)
 refine .vl (Y.indexF (m := n85_27) sl22 rfl rfl (by first | rfl | omega) (row_getD (d := 0) (by omega))) ?_
 refine .ld sh3 ?_
 refine .an ?_
 refine AOps.nil (AWp.sr ?_)
 have hax := hf.argIn (i := (n73_23 : Int)) ⟨by omega, by omega⟩ (getD_mem (i := n85_27) (by rw [cell_nat]; omega))
 rw [cell_nat] at hax
 have hax2 := hax; unfold In at hax2
 have hbo := hbj.own_le
 have hbl := BJ.len hbi hbj hax
 have htt := tot_le hs (n73_23 + 1); rw [tot_succ (by omega)] at htt
 refine .mv ?_
 refine .mv ?_
 refine .vl (Y.indexO (m := (((n.cells.getD n73_23 default).args).getD n85_27 0).toNat) sl63 rfl rfl (by omega) (by omega)) ?_
 refine .vl (Y.load sh4 rfl (row_getD0 (d := false) (by omega)) rfl rfl) ?_
 refine AOps.nil ?_
 refine AWp.cond rfl (fun c92 => ?_) (fun c92 => ?_)
 refine AWp.sr ?_
 refine .mv ?_
 refine .mv ?_
 refine .vl (Y.indexO (m := n73_23) sl22 rfl rfl (by first | rfl | omega) (by omega)) ?_
 refine .vl (Y.load sh3 rfl (row_getD0 (d := 0) (by first | omega | (simp [-List.getD_eq_getElem?_getD]; done) | (simp [-List.getD_eq_getElem?_getD]; omega) | (unfold In at *; omega))) rfl rfl) ?_
 refine .vl (Y.addI rfl rfl (by omega)) ?_
 refine .vl (Y.indexO (m := n73_23) sl22 rfl rfl (by first | rfl | omega) (by omega)) ?_
 refine AOps.storeE ((remaining5_27.set n73_23 ((remaining5_27.getD n73_23 0) + 1)).map irow) si3 rfl rfl rfl rfl rfl rfl rfl (row_getD0 (d := 0) (by omega)) (Nat.le_of_ble_eq_true rfl) (set_map0 rfl) ?_
 refine AOps.nil (AWp.region ?_)
 refine .mv ?_
 refine .mv ?_
 refine .mv ?_
 refine .mv ?_
 refine .vl (Y.indexO (m := (((n.cells.getD n73_23 default).args).getD n85_27 0).toNat) sl92 rfl rfl (by omega) (by omega)) ?_
 refine AOps.loadU ((users6_27.map orow).set (0 + ((((n.cells.getD n73_23 default).args).getD n85_27 0).toNat)) [.no]) sh22 rfl rfl (row_getD0 (d := []) (by omega)) rfl rfl (by decide) ?_
 refine .mv ?_
 refine AOps.buildSlice (([(n73_23 : Int)] : List Int).map irow) sl22 ze3 rfl rfl rfl rfl rfl (uniform_map (s := 1) (f := irow) (fun _ => rfl)) rfl rfl rfl (by decide) ?_
 refine AOps.sh (Sh.adoptE (d := 104) (n := (users6_27.getD ((((n.cells.getD n73_23 default).args).getD n85_27 0).toNat) []).length) 204 ((users6_27.getD ((((n.cells.getD n73_23 default).args).getD n85_27 0).toNat) []).map irow) rfl (by first | rfl | exact rep_map rfl) (len_map rfl) (by decide)) ?_
 refine AOps.appendE (((users6_27.getD ((((n.cells.getD n73_23 default).args).getD n85_27 0).toNat) []) ++ ([(n73_23 : Int)] : List Int)).map irow) ((users6_27.getD ((((n.cells.getD n73_23 default).args).getD n85_27 0).toNat) []) ++ ([(n73_23 : Int)] : List Int)).length sl22 ze3 rfl rfl rfl rfl (app_le (by first | omega | (simp [-List.getD_eq_getElem?_getD]; done) | (simp [-List.getD_eq_getElem?_getD]; omega) | (unfold In at *; omega))) (app_map (by first | omega | (simp [-List.getD_eq_getElem?_getD]; done) | (simp [-List.getD_eq_getElem?_getD]; omega) | (unfold In at *; omega))) (app_n (by first | omega | (simp [-List.getD_eq_getElem?_getD]; done) | (simp [-List.getD_eq_getElem?_getD]; omega) | (unfold In at *; omega))) (by first | omega | (simp [-List.getD_eq_getElem?_getD]; done) | (simp [-List.getD_eq_getElem?_getD]; omega) | (unfold In at *; omega)) (by first | omega | (simp [-List.getD_eq_getElem?_getD]; done) | (simp [-List.getD_eq_getElem?_getD]; omega) | (unfold In at *; omega)) (by decide) (by decide) ?_
 refine .vl (Y.indexO (m := (((n.cells.getD n73_23 default).args).getD n85_27 0).toNat) sl92 rfl rfl (by omega) (by omega)) ?_
 refine AOps.sh (Sh.detach (d := 107) (o := 204) rfl rfl (len_map (by omega)) (by decide)) ?_
 refine AOps.storeUE ((users6_27.set ((((n.cells.getD n73_23 default).args).getD n85_27 0).toNat) ((users6_27.getD ((((n.cells.getD n73_23 default).args).getD n85_27 0).toNat) []) ++ ([(n73_23 : Int)] : List Int))).map orow) si22 rfl rfl rfl (out_get (by omega)) (by decide) (out_back rfl) ?_
 refine AOps.nil ?_
 exact ⟨remaining5_27.set n73_23 ((remaining5_27.getD n73_23 0) + 1), users6_27.set ((((n.cells.getD n73_23 default).args).getD n85_27 0).toNat) ((users6_27.getD ((((n.cells.getD n73_23 default).args).getD n85_27 0).toNat) []) ++ ([(n73_23 : Int)] : List Int)), ⟨by first | omega | (simp [-List.getD_eq_getElem?_getD]; done) | (simp [-List.getD_eq_getElem?_getD]; omega) | (unfold In at *; omega), ⟨by first | omega | (simp [-List.getD_eq_getElem?_getD]; done) | (simp [-List.getD_eq_getElem?_getD]; omega) | (unfold In at *; omega), hbj.step (by omega) hl105 hl106 (by omega) hax ((CombInv.all hci2 hax).1 c92)⟩⟩, Le.mk (.c (.c (.c (.c (.c (.c (.c (.c (.c (.c (.c (.c (.c (.nil)))))))))))))) (.c (.c (.c (.c (.c (.c (.nil)))))))⟩
 refine AWp.skip ?_
 exact ⟨remaining5_27, users6_27, ⟨by omega, ⟨by omega, hbj.skip (by omega) (fun h => by rw [(CombInv.all hci2 hax).2 h] at c92; cases c92)⟩⟩, Le.mk (.c (.c (.c (.c (.c (.c (.c (.c (.c (.c (.c (.c (.c (.nil)))))))))))))) (.c (.c (.c (.c (.c (.c (.nil)))))))⟩
 obtain ⟨hlj32_105, hlj32_106, hJ32⟩ := hJx32
 refine AWp.region ?_
 refine .vl (Y.addI rfl rfl (by omega)) ?_
 refine .mv ?_
 refine AOps.nil ?_
 exact ⟨n85_27 + 1, remaining5_j32, users6_j32, ⟨by omega, by omega, by omega, hJ32⟩, by omega, Le.mk (.c (.c (.c (.c (.c (.c (.c (.c (.c (.c (.c (.c (.cons (look_int rfl (by first | rfl | omega)) (.nil)))))))))))))) (.c (.c (.c (.c (.c (.c (.nil)))))))⟩
 refine AWp.exit (AWp.sr ?_)
 refine .mv ?_
 refine .mv ?_
 refine .vl (Y.indexO (m := n73_23) sl22 rfl rfl (by first | rfl | omega) (by omega)) ?_
 refine .vl (Y.load sh3 rfl (row_getD0 (d := 0) (by first | omega | (simp [-List.getD_eq_getElem?_getD]; done) | (simp [-List.getD_eq_getElem?_getD]; omega) | (unfold In at *; omega))) rfl rfl) ?_
 refine .vl (Y.eql rfl rfl) (AOps.nil ?_)
 refine AWp.condD rfl (fun c114 => ?_) (fun c114 => ?_)
 refine AWp.region ?_
 refine .mv ?_
 refine .mv ?_
 refine AOps.buildSlice (([(n73_23 : Int)] : List Int).map irow) sl22 ze3 rfl rfl rfl rfl rfl (uniform_map (s := 1) (f := irow) (fun _ => rfl)) rfl rfl rfl (by decide) ?_
 refine AOps.appendE ((ready12_23 ++ ([(n73_23 : Int)] : List Int)).map irow) (ready12_23 ++ ([(n73_23 : Int)] : List Int)).length sl22 ze3 rfl rfl rfl rfl (app_le (by first | omega | (simp [-List.getD_eq_getElem?_getD]; done) | (simp [-List.getD_eq_getElem?_getD]; omega) | (unfold In at *; omega))) (app_map (by first | omega | (simp [-List.getD_eq_getElem?_getD]; done) | (simp [-List.getD_eq_getElem?_getD]; omega) | (unfold In at *; omega))) (app_n (by first | omega | (simp [-List.getD_eq_getElem?_getD]; done) | (simp [-List.getD_eq_getElem?_getD]; omega) | (unfold In at *; omega))) (by first | omega | (simp [-List.getD_eq_getElem?_getD]; done) | (simp [-List.getD_eq_getElem?_getD]; omega) | (unfold In at *; omega)) (by first | omega | (simp [-List.getD_eq_getElem?_getD]; done) | (simp [-List.getD_eq_getElem?_getD]; omega) | (unfold In at *; omega)) (by decide) (by decide) ?_
 refine .an ?_
 refine AOps.nil ?_
 exact ⟨remaining5_27, users6_27, ready12_23 ++ ([(n73_23 : Int)] : List Int), ⟨by omega, ⟨by omega, (BJ.fin hbi (by omega) c81 (by rw [show (n.cells.getD n73_23 default).args.length = n85_27 by omega]; exact hbj)).1 c114⟩⟩, Le.mk (.c (.c (.c (.c (.c (.cons (look_slc rfl (by omega)) (.c (.c (.c (.nil)))))))))) (.c (.c (.c (.c (.c (.c (.nil)))))))⟩
 refine AWp.skip ?_
 exact ⟨remaining5_27, users6_27, ready12_23, ⟨by omega, ⟨by omega, (BJ.fin hbi (by omega) c81 (by rw [show (n.cells.getD n73_23 default).args.length = n85_27 by omega]; exact hbj)).2 c114⟩⟩, Le.mk (.c (.c (.c (.c (.c (.cons (look_slc rfl (by omega)) (.c (.c (.c (.nil)))))))))) (.c (.c (.c (.c (.c (.c (.nil)))))))⟩
 obtain ⟨hlj35_105, hlj35_106, hJ35⟩ := hJx35
 refine AWp.region ?_
 refine .vl (Y.addI rfl rfl (by omega)) ?_
 refine .mv ?_
 refine AOps.nil ?_
 exact ⟨n73_23 + 1, remaining5_j35, users6_j35, ready12_j35, ⟨by omega, by omega, by omega, hJ35⟩, by omega, Le.mk (.c (.c (.c (.c (.c (.cons (look_slc rfl (by omega)) (.c (.c (.cons (look_int rfl (by first | rfl | omega)) (.nil)))))))))) (.c (.c (.c (.c (.c (.c (.nil)))))))⟩
 refine AWp.exit (AWp.seq (AWp.block ?_))
 have hbi2 : BI n n.cells.length remaining5_23 users6_23 ready12_23 := by rw [show n.cells.length = n73_23 by omega]; exact hbi
 have hus := hbi2.us
 refine AWp.sh (Sh.detach (d := 6) (o := 106) rfl rfl (len_map (by omega)) (by decide)) ?_
 refine AWp.sh (Sh.freezeNest (d := 6) (l := users6_23) (f := orow) (g := lrow) orow_ffz rfl) ?_
 refine AWp.loop3 (fun (out4_36 : List Int) (remaining5_36 : List Int) (ready12_36 : List Int) => ⟨[(1, .ptr 101 0 0 0), (4, .slc 104 1 0 out4_36.length), (5, .slc 105 1 0 n.cells.length), (6, .fz 1 (users6_23.map lrow)), (12, .slc 112 1 0 ready12_36.length)], [(101, .cells (Netlist.row n)), (104, .rows 1 (out4_36.map irow)), (105, .rows 1 (remaining5_36.map irow)), (112, .rows 1 (ready12_36.map irow))]⟩) (fun (out4_36 : List Int) (remaining5_36 : List Int) (ready12_36 : List Int) => (remaining5_36.length = n.cells.length) ∧ (∃ done, out4_36 = seqL n n.cells.length ++ done ∧ KI n done ready12_36 remaining5_36)) (fun (out4_36 : List Int) (remaining5_36 : List Int) (ready12_36 : List Int) => n.cells.length - out4_36.length) out4_16 remaining5_23 ready12_23 (⟨by omega, ⟨[], by rw [hsq, show n56_16 = n.cells.length by omega, List.append_nil], hbi2.ki⟩⟩) (Le.mk (.c (.cons (look_slc rfl (by omega)) (.c (.c (.cons (look_slc rfl (by omega)) (.nil)))))) (.c (.c (.c (.c (.nil)))))) (fun out4_36 remaining5_36 ready12_36 hI36 => ?_)
 obtain ⟨hl105, hK⟩ := hI36
 refine AWp.seq (AWp.sr ?_)
 refine .mv ?_
 refine .vl (Y.len (n := ready12_36.length) sl22 rfl rfl) (.vl (Y.gtr rfl rfl) (AOps.nil ?_))
 refine AWp.condD rfl (fun c122 => ?_) (fun c122 => ?_)
 obtain ⟨done, hout, hki⟩ := hK
 have hln := hki.len
 rw [← hout] at hln
 have hi0 := hki.cm (ready12_36.getD 0 0) (List.mem_append.2 (.inr (getD_mem (by omega))))
 have hib := hi0.1
 have hio := hf.outIn hi0.drives
 have hio2 := hio; unfold In Netlist.cell at hio2
 have hcu : ∀ x, CombAt n x → (users6_23.getD (((n.cells.getD ((ready12_36.getD 0 0).toNat) default).out).toNat) []).count x = (n.cell x).args.count (n.cell (ready12_36.getD 0 0)).out := fun x hx => hus.cnt _ x hio ⟨_, hi0, rfl⟩ hx
 have hmu : ∀ x ∈ (users6_23.getD (((n.cells.getD ((ready12_36.getD 0 0).toNat) default).out).toNat) []), CombAt n x := fun x hx => hus.mem _ x hio hx
 have hut := hbi2.ul _ hio; unfold Netlist.cell at hut
 have htt := tot_le hs n.cells.length
 refine AWp.skip (AWp.block (AWp.sr ?_))
 refine .mv ?_
 refine .vl (Y.indexO (m := 0) sl22 rfl rfl (by first | rfl | omega) (by omega)) ?_
 refine .vl (Y.load sh3 rfl (row_getD0 (d := 0) (by first | omega | (simp [-List.getD_eq_getElem?_getD]; done) | (simp [-List.getD_eq_getElem?_getD]; omega) | (unfold In at *; omega))) rfl rfl) ?_
 refine .an ?_
 refine AOps.nil (AWp.sr ?_)
 refine .mv ?_
 refine .vl (Y.sliceO (l := 1) (h := ready12_36.length) sl22 rfl (.some rfl) (.none _) (by omega) (by omega)) ?_
 refine .an ?_
 refine AOps.sh (Sh.trimE (d := 12) (o := 112) ((ready12_36.drop 1).map irow) rfl rfl (by first | omega | (simp [-List.getD_eq_getElem?_getD]; done) | (simp [-List.getD_eq_getElem?_getD]; omega) | (unfold In at *; omega)) (trim_drop (by first | omega | (simp [-List.getD_eq_getElem?_getD]; done) | (simp [-List.getD_eq_getElem?_getD]; omega) | (unfold In at *; omega))) (by decide)) ?_
 refine AOps.nil (AWp.sr ?_)
 refine .mv ?_
 refine .mv ?_
 refine AOps.buildSlice (([ready12_36.getD 0 0] : List Int).map irow) sl22 ze3 rfl rfl rfl rfl rfl (uniform_map (s := 1) (f := irow) (fun _ => rfl)) rfl rfl rfl (by decide) ?_
 refine AOps.appendE ((out4_36 ++ ([ready12_36.getD 0 0] : List Int)).map irow) (out4_36 ++ ([ready12_36.getD 0 0] : List Int)).length sl22 ze3 rfl rfl rfl rfl (app_le (by first | omega | (simp [-List.getD_eq_getElem?_getD]; done) | (simp [-List.getD_eq_getElem?_getD]; omega) | (unfold In at *; omega))) (app_map (by first | omega | (simp [-List.getD_eq_getElem?_getD]; done) | (simp [-List.getD_eq_getElem?_getD]; omega) | (unfold In at *; omega))) (app_n (by first | omega | (simp [-List.getD_eq_getElem?_getD]; done) | (simp [-List.getD_eq_getElem?_getD]; omega) | (unfold In at *; omega))) (by first | omega | (simp [-List.getD_eq_getElem?_getD]; done) | (simp [-List.getD_eq_getElem?_getD]; omega) | (unfold In at *; omega)) (by first | omega | (simp [-List.getD_eq_getElem?_getD]; done) | (simp [-List.getD_eq_getElem?_getD]; omega) | (unfold In at *; omega)) (by decide) (by decide) ?_
 refine .an ?_
 refine AOps.nil (AWp.sr ?_)
 refine .mv ?_
 refine .fa fl27_2 ?_
 refine .ld sh23 ?_
 refine .mv ?_
 refine .vl (Y.indexF (m := (ready12_36.getD 0 0).toNat) sl23 rfl rfl (by omega) (row_getD (d := default) (by omega))) ?_
 refine .fa fl39_2 ?_
 refine .ld sh3 ?_
 refine .vl (Y.indexF (m := ((n.cells.getD ((ready12_36.getD 0 0).toNat) default).out).toNat) sl92 rfl rfl (by omega) (row_getD (d := []) (by omega))) ?_
 refine .ld sh22 ?_
 refine .vl (Y.len (n := (users6_23.getD (((n.cells.getD ((ready12_36.getD 0 0).toNat) default).out).toNat) []).length) sl22 rfl (congrArg some (List.length_map ..))) ?_
 refine .mv ?_
 refine AOps.nil (AWp.block ?_)
 refine AWp.loop3 (fun (n142_41 : Nat) (remaining5_41 : List Int) (ready12_41 : List Int) => ⟨[(1, .ptr 101 0 0 0), (4, .slc 104 1 0 ((out4_36 ++ ([ready12_36.getD 0 0] : List Int)).length)), (5, .slc 105 1 0 n.cells.length), (6, .fz 1 (users6_23.map lrow)), (12, .slc 112 1 0 ready12_41.length), (140, .fz 1 ((users6_23.getD (((n.cells.getD ((ready12_36.getD 0 0).toNat) default).out).toNat) []).map irow)), (141, vi (((users6_23.getD (((n.cells.getD ((ready12_36.getD 0 0).toNat) default).out).toNat) []).length : Nat) : Int)), (142, vi (n142_41 : Int))], [(101, .cells (Netlist.row n)), (104, .rows 1 ((out4_36 ++ ([ready12_36.getD 0 0] : List Int)).map irow)), (105, .rows 1 (remaining5_41.map irow)), (112, .rows 1 (ready12_41.map irow))]⟩) (fun (n142_41 : Nat) (remaining5_41 : List Int) (ready12_41 : List Int) => (remaining5_41.length = n.cells.length) ∧ ((n142_41 : Int) ≤ (((users6_23.getD (((n.cells.getD ((ready12_36.getD 0 0).toNat) default).out).toNat) []).length : Nat) : Int)) ∧ (KJ n done (ready12_36.getD 0 0) (users6_23.getD (((n.cells.getD ((ready12_36.getD 0 0).toNat) default).out).toNat) []) n142_41 ready12_41 remaining5_41)) (fun (n142_41 : Nat) (remaining5_41 : List Int) (ready12_41 : List Int) => ((((users6_23.getD (((n.cells.getD ((ready12_36.getD 0 0).toNat) default).out).toNat) []).length : Nat) : Int) - (n142_41 : Int)).toNat) 0 remaining5_36 (ready12_36.drop 1) (⟨by first | omega | (simp [-List.getD_eq_getElem?_getD]; done) | (simp [-List.getD_eq_getElem?_getD]; omega) | (unfold In at *; omega), by first | omega | (simp [-List.getD_eq_getElem?_getD]; done) | (simp [-List.getD_eq_getElem?_getD]; omega) | (unfold In at *; omega), KJ.init hki (by omega)⟩) (Le.mk (.c (.c (.c (.c (.cons (look_slc rfl (by first | omega | (simp [-List.getD_eq_getElem?_getD]; done) | (simp [-List.getD_eq_getElem?_getD]; omega) | (unfold In at *; omega))) (.c (.c (.cons (look_int rfl (by first | rfl | omega)) (.nil))))))))) (.c (.c (.c (.c (.nil)))))) (fun n142_41 remaining5_41 ready12_41 hI41 => ?_)
 obtain ⟨hl105, hb41, hkj⟩ := hI41
 refine AWp.sr (.vl (Y.lss rfl rfl) (AOps.nil ?_))
 refine AWp.seq ?_
 refine AWp.condD rfl (fun c143 => ?_) (fun c143 => ?_)
 refine AWp.skip ?_
 refine AWp.join1 (fun (ready12_j46 : List Int) => ⟨[(1, .ptr 101 0 0 0), (4, .slc 104 1 0 ((out4_36 ++ ([ready12_36.getD 0 0] : List Int)).length)), (5, .slc 105 1 0 n.cells.length), (6, .fz 1 (users6_23.map lrow)), (12, .slc 112 1 0 ready12_j46.length), (140, .fz 1 ((users6_23.getD (((n.cells.getD ((ready12_36.getD 0 0).toNat) default).out).toNat) []).map irow)), (141, vi (((users6_23.getD (((n.cells.getD ((ready12_36.getD 0 0).toNat) default).out).toNat) []).length : Nat) : Int)), (142, vi (n142_41 : Int))], [(101, .cells (Netlist.row n)), (104, .rows 1 ((out4_36 ++ ([ready12_36.getD 0 0] : List Int)).map irow)), (105, .rows 1 ((remaining5_41.set (((users6_23.getD (((n.cells.getD ((ready12_36.getD 0 0).toNat) default).out).toNat) []).getD n142_41 0).toNat) ((remaining5_41.getD (((users6_23.getD (((n.cells.getD ((ready12_36.getD 0 0).toNat) default).out).toNat) []).getD n142_41 0).toNat) 0) - 1)).map irow)), (112, .rows 1 (ready12_j46.map irow))]⟩) (fun (ready12_j46 : List Int) => KJ n done (ready12_36.getD 0 0) (users6_23.getD (((n.cells.getD ((ready12_36.getD 0 0).toNat) default).out).toNat) []) (n142_41 + 1) ready12_j46 (remaining5_41.set ((users6_23.getD (((n.cells.getD ((ready12_36.getD 0 0).toNat) default).out).toNat) []).getD n142_41 0).toNat (remaining5_41.getD ((users6_23.getD (((n.cells.getD ((ready12_36.getD 0 0).toNat) default).out).toNat) []).getD n142_41 0).toNat 0 - 1))) ?_ (fun ready12_j46 hJ46 => ?_)
 refine AWp.block (AWp.sr ?_)
 refine .vl (Y.indexF (m := n142_41) sl22 rfl rfl (by first | rfl | omega) (row_getD (d := 0) (by omega))) ?_
 refine .ld sh3 ?_
 refine .an ?_
 refine AOps.nil (AWp.sr ?_)
 have hkb := hkj.bound hf hs (by omega) hcu hmu
 have hkr := (hmu _ (getD_mem (l := (users6_23.getD (((n.cells.getD ((ready12_36.getD 0 0).toNat) default).out).toNat) [])) (i := n142_41) (by omega))).1
 refine .mv ?_
 refine .mv ?_
 refine .vl (Y.indexO (m := ((users6_23.getD (((n.cells.getD ((ready12_36.getD 0 0).toNat) default).out).toNat) []).getD n142_41 0).toNat) sl22 rfl rfl (by omega) (by omega)) ?_
 refine .vl (Y.load sh3 rfl (row_getD0 (d := 0) (by first | omega | (simp [-List.getD_eq_getElem?_getD]; done) | (simp [-List.getD_eq_getElem?_getD]; omega) | (unfold In at *; omega))) rfl rfl) ?_
 refine .vl (Y.subI rfl rfl (by omega)) ?_
 refine .vl (Y.indexO (m := ((users6_23.getD (((n.cells.getD ((ready12_36.getD 0 0).toNat) default).out).toNat) []).getD n142_41 0).toNat) sl22 rfl rfl (by omega) (by omega)) ?_
 refine AOps.storeE ((remaining5_41.set (((users6_23.getD (((n.cells.getD ((ready12_36.getD 0 0).toNat) default).out).toNat) []).getD n142_41 0).toNat) ((remaining5_41.getD (((users6_23.getD (((n.cells.getD ((ready12_36.getD 0 0).toNat) default).out).toNat) []).getD n142_41 0).toNat) 0) - 1)).map irow) si3 rfl rfl rfl rfl rfl rfl rfl (row_getD0 (d := 0) (by omega)) (Nat.le_of_ble_eq_true rfl) (set_map0 rfl) ?_
 refine AOps.nil (AWp.sr ?_)
 refine .mv ?_
 refine .mv ?_
 refine .vl (Y.indexO (m := ((users6_23.getD (((n.cells.getD ((ready12_36.getD 0 0).toNat) default).out).toNat) []).getD n142_41 0).toNat) sl22 rfl rfl (by omega) (by omega)) ?_
 refine .vl (Y.load sh3 rfl (row_getD0 (d := 0) (by first | omega | (simp [-List.getD_eq_getElem?_getD]; done) | (simp [-List.getD_eq_getElem?_getD]; omega) | (unfold In at *; omega))) rfl rfl) ?_
 refine .vl (Y.eql rfl rfl) (AOps.nil ?_)
 refine AWp.condD rfl (fun c156 => ?_) (fun c156 => ?_)
 rw [getD_set, if_pos ⟨rfl, by omega⟩] at c156
 refine AWp.region ?_
 refine .mv ?_
 refine .mv ?_
 refine AOps.buildSlice (([(users6_23.getD (((n.cells.getD ((ready12_36.getD 0 0).toNat) default).out).toNat) []).getD n142_41 0] : List Int).map irow) sl22 ze3 rfl rfl rfl rfl rfl (uniform_map (s := 1) (f := irow) (fun _ => rfl)) rfl rfl rfl (by decide) ?_
 refine AOps.appendE ((ready12_41 ++ ([(users6_23.getD (((n.cells.getD ((ready12_36.getD 0 0).toNat) default).out).toNat) []).getD n142_41 0] : List Int)).map irow) (ready12_41 ++ ([(users6_23.getD (((n.cells.getD ((ready12_36.getD 0 0).toNat) default).out).toNat) []).getD n142_41 0] : List Int)).length sl22 ze3 rfl rfl rfl rfl (app_le (by first | omega | (simp [-List.getD_eq_getElem?_getD]; done) | (simp [-List.getD_eq_getElem?_getD]; omega) | (unfold In at *; omega))) (app_map (by first | omega | (simp [-List.getD_eq_getElem?_getD]; done) | (simp [-List.getD_eq_getElem?_getD]; omega) | (unfold In at *; omega))) (app_n (by first | omega | (simp [-List.getD_eq_getElem?_getD]; done) | (simp [-List.getD_eq_getElem?_getD]; omega) | (unfold In at *; omega))) (by first | omega | (simp [-List.getD_eq_getElem?_getD]; done) | (simp [-List.getD_eq_getElem?_getD]; omega) | (unfold In at *; omega)) (by first | omega | (simp [-List.getD_eq_getElem?_getD]; done) | (simp [-List.getD_eq_getElem?_getD]; omega) | (unfold In at *; omega)) (by decide) (by decide) ?_
 refine .an ?_
 refine AOps.nil ?_
 exact ⟨ready12_41 ++ ([(users6_23.getD (((n.cells.getD ((ready12_36.getD 0 0).toNat) default).out).toNat) []).getD n142_41 0] : List Int), (hkj.step hf hl105 (by omega) hcu hmu).1 c156, Le.mk (.c (.c (.c (.c (.cons (look_slc rfl (by omega)) (.c (.c (.c (.nil))))))))) (.c (.c (.c (.c (.nil)))))⟩
 rw [getD_set, if_pos ⟨rfl, by omega⟩] at c156
 refine AWp.skip ?_
 exact ⟨ready12_41, (hkj.step hf hl105 (by omega) hcu hmu).2 c156, Le.mk (.c (.c (.c (.c (.cons (look_slc rfl (by omega)) (.c (.c (.c (.nil))))))))) (.c (.c (.c (.c (.nil)))))⟩
 refine AWp.region ?_
 refine .vl (Y.addI rfl rfl (by omega)) ?_
 refine .mv ?_
 refine AOps.nil ?_
 exact ⟨n142_41 + 1, remaining5_41.set (((users6_23.getD (((n.cells.getD ((ready12_36.getD 0 0).toNat) default).out).toNat) []).getD n142_41 0).toNat) ((remaining5_41.getD (((users6_23.getD (((n.cells.getD ((ready12_36.getD 0 0).toNat) default).out).toNat) []).getD n142_41 0).toNat) 0) - 1), ready12_j46, ⟨by first | omega | (simp [-List.getD_eq_getElem?_getD]; done) | (simp [-List.getD_eq_getElem?_getD]; omega) | (unfold In at *; omega), by first | omega | (simp [-List.getD_eq_getElem?_getD]; done) | (simp [-List.getD_eq_getElem?_getD]; omega) | (unfold In at *; omega), hJ46⟩, by omega, Le.mk (.c (.c (.c (.c (.cons (look_slc rfl (by first | omega | (simp [-List.getD_eq_getElem?_getD]; done) | (simp [-List.getD_eq_getElem?_getD]; omega) | (unfold In at *; omega))) (.c (.c (.cons (look_int rfl (by first | rfl | omega)) (.nil))))))))) (.c (.c (.c (.c (.nil)))))⟩
 refine AWp.exit ?_
 exact ⟨out4_36 ++ ([ready12_36.getD 0 0] : List Int), remaining5_41, ready12_41, ⟨by omega, ⟨done ++ [(ready12_36.getD 0 0)], by rw [hout, List.append_assoc], KJ.fin hf hki (getD_mem (by omega)) (by rw [show (users6_23.getD (((n.cells.getD ((ready12_36.getD 0 0).toNat) default).out).toNat) []).length = n142_41 by omega]; exact hkj) hcu⟩⟩, by rw [List.length_append]; simp only [List.length_cons, List.length_nil]; omega, Le.mk (.c (.cons (look_slc rfl (by omega)) (.c (.c (.cons (look_slc rfl (by omega)) (.nil)))))) (.c (.c (.c (.c (.nil)))))⟩
 obtain ⟨done, hout, hki⟩ := hK
 have hr0 : ready12_36 = [] := List.eq_nil_of_length_eq_zero (by omega)
 subst hr0
 refine AWp.exit (AWp.seq (AWp.sr ?_))
 refine .mv ?_
 refine .vl (Y.len (n := out4_36.length) sl22 rfl rfl) ?_
 refine .fa fl27_2 ?_
 refine .ld sh23 ?_
 refine .vl (Y.len (n := n.cells.length) sl23 rfl (congrArg some (List.length_map ..))) (.vl (Y.lss rfl rfl) (AOps.nil ?_))
 refine AWp.condD rfl (fun c167 => ?_) (fun c167 => ?_)
 refine AWp.sr ?_
 refine .an ?_
 refine .an ?_
 refine AOps.nil (AWp.sh (Sh.nilU (d := 2) 1 rfl) (AWp.ret ?_))
 exact ⟨_, _, rfl, rfl, ([] : List Int), 12, .inr (.inr (.inl ⟨hf, hft, hki.cycle (by rw [← hout]; omega), rfl, rfl⟩)), rfl, rfl⟩
 refine AWp.skip (AWp.sr ?_)
 refine .mv ?_
 refine .an ?_
 refine AOps.sh (Sh.detach (d := 2) (o := 104) rfl rfl (len_map (by omega)) (by decide)) ?_
 refine .an ?_
 refine AOps.nil (AWp.ret ?_)
 exact ⟨_, _, rfl, rfl, out4_36, 0, .inr (.inr (.inr ⟨hf, hft, (hki.ok hf (by rw [← hout]; omega)).1, by rw [hout]; exact (hki.ok hf (by rw [← hout]; omega)).2, rfl⟩)), rfl, rfl⟩
end Go.Proofs.Ytligpghohcfpnaa
/- Walks through Check, and through the specification of a cell. -/
namespace Go.Proofs.Ytligpghohcfpnaa
open Go Go.AW Go.Proofs
theorem check_spec {n : Netlist} (hs : n.Small) (hwi : n.widths.length + n.ins.length ≤ 17592186044416) : ACalls Try.prog 16 [.agg (Netlist.row n)] [] [] (fun r o => r = (vi (errOf n)) ∧ o = []) := by
 refine ACalls.of Try.func16 rfl rfl rfl (n := 11) (by decide) (Nat.le_of_ble_eq_true rfl) (AWp.sr (AOps.box 101 rfl rfl rfl rfl rfl (by decide) ?_))
 refine .an ?_
 refine AOps.nil (AWp.sr (.vl (Y.loadA sh27 rfl rfl (Nat.le_of_ble_eq_true rfl) rfl rfl) ?_))
 refine AOps.callV ok20 (order_spec (n := n) hs ((by omega))) rfl (.keep rfl rfl .nil) (by decide) ?_
 rintro _ ⟨l7, e7, ho7, rfl, _⟩
 refine ⟨rfl, ?_⟩
 refine AOps.moveX rfl (by decide) (AOps.extractU rfl rfl (by decide) (.vl (Y.extract rfl rfl rfl) ?_))
 refine AOps.assignX rfl (by decide) (AOps.sh (Sh.freezeE (d := 3) (l7.map irow) rfl (by first | rfl | exact rep_map rfl) (Frees.map irow_frees)) ?_)
 refine .an ?_
 refine AOps.nil (AWp.sr ?_)
 refine .mv ?_
 refine .an ?_
 refine AOps.nil (AWp.ret ?_)
 exact .ri rfl (ho7.err)
end Go.Proofs.Ytligpghohcfpnaa
/- The specification of a cell, whatever its kind. -/
namespace Go.Proofs.Ytligpghohcfpnaa
open Go Go.AW Go.Proofs
end Go.Proofs.Ytligpghohcfpnaa
/- Walks through the specification of well-formed netlists. -/
namespace Go.Proofs.Ytligpghohcfpnaa
open Go Go.AW Go.Proofs
end Go.Proofs.Ytligpghohcfpnaa
/- Walks through the specification of netlists. -/
namespace Go.Proofs.Ytligpghohcfpnaa
open Go Go.AW Go.Proofs
end Go.Proofs.Ytligpghohcfpnaa
/- Walks through the builder. -/
namespace Go.Proofs.Ytligpghohcfpnaa
open Go Go.AW Go.Proofs
theorem cloneInt_spec {l : List Int} (hl : l.length ≤ 17592186043904) : ACalls Try.prog 68 [.fz 1 (l.map irow)] [] [] (fun r o => r = .uni 1 (l.map irow) ∧ o = []) := by
 refine ACalls.of Try.func68 rfl rfl rfl (n := 8) (by decide) (Nat.le_of_ble_eq_true rfl) (AWp.sr ?_)
 refine .an ?_
 refine AOps.nil (AWp.seq (AWp.sr ?_))
 refine .mv ?_
 refine AOps.eqNil sl22 rfl rfl (by decide) (fun b4 hb4 => ?_)
 refine AOps.nil ?_
 refine AWp.cond rfl (fun c4 => ?_) (fun c4 => ?_)
 refine AWp.sr ?_
 refine .an ?_
 refine AOps.nil (AWp.sh (Sh.nilU (d := 2) 1 rfl) (AWp.ret ?_))
 exact ⟨_, _, rfl, rfl, (cg1 (fun (z0 : List Int) => X.uni 1 (z0.map irow)) (by have := hb4 (by assumption); simpa using this : ([] : List Int) = l) : X.uni 1 (([] : List Int).map irow) = X.uni 1 (l.map irow)), rfl⟩
 refine AWp.skip (AWp.sr ?_)
 refine AOps.buildSlice (([] : List Int).map irow) sl22 ze3 rfl rfl rfl rfl rfl (uniform_map (s := 1) (f := irow) (fun _ => rfl)) rfl rfl rfl (by decide) ?_
 refine .mv ?_
 refine AOps.sh (Sh.adoptE (d := 5) (n := ([] : List Int).length) 105 (([] : List Int).map irow) rfl (by first | rfl | exact rep_map rfl) (len_map rfl) (by decide)) ?_
 refine AOps.appendFE ((([] : List Int) ++ l).map irow) (([] : List Int) ++ l).length sl22 ze3 rfl rfl rfl rfl (app_le (by first | omega | simp [-List.getD_eq_getElem?_getD] <;> omega)) (app_map (by first | omega | simp [-List.getD_eq_getElem?_getD] <;> omega)) (app_n (by first | omega | simp [-List.getD_eq_getElem?_getD] <;> omega)) (by first | omega | simp [-List.getD_eq_getElem?_getD] <;> omega) (by first | omega | simp [-List.getD_eq_getElem?_getD] <;> omega) (by decide) (by decide) ?_
 refine .an ?_
 refine AOps.sh (Sh.detach (d := 2) (o := 105) rfl rfl (len_map (by omega)) (by decide)) ?_
 refine AOps.nil (AWp.ret ?_)
 exact ⟨_, _, rfl, rfl, (cg1 (fun (z0 : List Int) => X.uni 1 (z0.map irow)) (rfl : (([] : List Int) ++ l) = l) : X.uni 1 ((([] : List Int) ++ l).map irow) = X.uni 1 (l.map irow)), rfl⟩
theorem wire_spec {nm : ByteArray} {ws : List Int} {cs : List Cell} {fz dn : Int} {rl : List Int} (hws : ws.length ≤ 1048576) (hcs : cs.length ≤ 1048576) {w : Int} : ACalls Try.prog 33 [.ptr 0 0 0 0, vi w] [.cells [.v (.string nm), .slc 1 1 0 ws.length, .slc 2 6 0 cs.length, .v (.slice none 0 0), .v (.slice none 0 0), .v (.slice none 0 0), .v (.slice none 0 0), .v (.slice none 0 0), vi fz, vi dn, .fz 1 (rl.map irow)], .rows 1 (ws.map irow), .rows 6 (cs.map Cell.row)] [0] (fun r o => r = (vi ((ws.length : Nat) : Int)) ∧ o = [.cells [.v (.string nm), .slc 1 1 0 ((ws ++ [w]).length), .slc 2 6 0 cs.length, .v (.slice none 0 0), .v (.slice none 0 0), .v (.slice none 0 0), .v (.slice none 0 0), .v (.slice none 0 0), vi fz, vi dn, .fz 1 (rl.map irow)], .rows 1 ((ws ++ [w]).map irow), .rows 6 (cs.map Cell.row)]) := by
 refine ACalls.of Try.func33 rfl rfl rfl (n := 24) (by decide) (Nat.le_of_ble_eq_true rfl) (AWp.sr ?_)
 refine .an ?_
 refine AOps.nil (AWp.sr ?_)
 refine .mv ?_
 refine .mv ?_
 refine .vl (Y.nilCheck rfl rfl) ?_
 refine .fa fl53_0 ?_
 refine .fa fl27_1 ?_
 refine .ld sh22 ?_
 refine .mv ?_
 refine AOps.buildSlice (([w] : List Int).map irow) sl22 ze3 rfl rfl rfl rfl rfl (uniform_map (s := 1) (f := irow) (fun _ => rfl)) rfl rfl rfl (by decide) ?_
 refine AOps.appendE ((ws ++ ([w] : List Int)).map irow) (ws ++ ([w] : List Int)).length sl22 ze3 rfl rfl rfl rfl (app_le (by first | omega | simp [-List.getD_eq_getElem?_getD] <;> omega)) (app_map (by first | omega | simp [-List.getD_eq_getElem?_getD] <;> omega)) (app_n (by first | omega | simp [-List.getD_eq_getElem?_getD] <;> omega)) (by first | omega | simp [-List.getD_eq_getElem?_getD] <;> omega) (by first | omega | simp [-List.getD_eq_getElem?_getD] <;> omega) (by decide) (by decide) ?_
 refine .vl (Y.nilCheck rfl rfl) ?_
 refine .fa fl53_0 ?_
 refine .fa fl27_1 ?_
 refine AOps.storeC si22 rfl rfl rfl rfl rfl rfl (Nat.le_of_ble_eq_true rfl) rfl (AOps.nil (AWp.sr ?_))
 refine .mv ?_
 refine .vl (Y.nilCheck rfl rfl) ?_
 refine .fa fl53_0 ?_
 refine .fa fl27_1 ?_
 refine .ld sh22 ?_
 refine .vl (Y.len (n := (ws ++ ([w] : List Int)).length) sl22 rfl rfl) ?_
 refine .vl (Y.subI rfl rfl (by first | omega | simp [-List.getD_eq_getElem?_getD] <;> omega)) ?_
 refine .an ?_
 refine AOps.nil (AWp.ret ?_)
 exact ⟨_, _, rfl, rfl, cg1 (fun (z0 : Int) => X.v (.int .i64 z0)) (by simp : (((ws ++ ([w] : List Int)).length : Nat) : Int) - 1 = ((ws.length : Nat) : Int)), rfl⟩
theorem bcell_spec {nm : ByteArray} {ws : List Int} {cs : List Cell} {fz dn : Int} {rl : List Int} (hws : ws.length ≤ 1048576) (hcs : cs.length ≤ 1048576) {c : Cell} (hc : c.args.length ≤ 17592186043904) : ACalls Try.prog 32 [.ptr 0 0 0 0, .agg (Cell.row c)] [.cells [.v (.string nm), .slc 1 1 0 ws.length, .slc 2 6 0 cs.length, .v (.slice none 0 0), .v (.slice none 0 0), .v (.slice none 0 0), .v (.slice none 0 0), .v (.slice none 0 0), vi fz, vi dn, .fz 1 (rl.map irow)], .rows 1 (ws.map irow), .rows 6 (cs.map Cell.row)] [0] (fun r o => r = .tup [] ∧ o = [.cells [.v (.string nm), .slc 1 1 0 ws.length, .slc 2 6 0 ((cs ++ [c]).length), .v (.slice none 0 0), .v (.slice none 0 0), .v (.slice none 0 0), .v (.slice none 0 0), .v (.slice none 0 0), vi fz, vi dn, .fz 1 (rl.map irow)], .rows 1 (ws.map irow), .rows 6 ((cs ++ [c]).map Cell.row)]) := by
 refine ACalls.of Try.func32 rfl rfl rfl (n := 20) (by decide) (Nat.le_of_ble_eq_true rfl) (AWp.sr (AOps.box 103 rfl rfl rfl rfl rfl (by decide) ?_))
 refine AOps.nil (AWp.sr ?_)
 refine .fa fl39_3 ?_
 refine .ld sh22 ?_
 refine AOps.callP ok68 (cloneInt_spec (l := c.args) ((by omega))) rfl (.keep rfl rfl .nil) (by decide) rfl ?_
 refine .fa fl39_3 ?_
 refine AOps.sh (Sh.freezeE (d := 6) (c.args.map irow) rfl (by first | rfl | exact rep_map rfl) (Frees.map irow_frees)) (AOps.storeC si22 rfl rfl rfl rfl rfl rfl (Nat.le_of_ble_eq_true rfl) rfl (AOps.nil ?_))
 refine AWp.regionAny rfl (AAny.blind 0 rfl (by kernel_rfl) (Blind.move rfl rfl) (by decide) (AAny.blind 1 rfl (by kernel_rfl) (Blind.move rfl rfl) (by decide) ?_))
 refine AAny.blind 2 rfl (by kernel_rfl) (Blind.nilCheck rfl rfl) (by decide) (AAny.blind 3 rfl (by kernel_rfl) (Blind.fieldAddr fl53_0 rfl rfl) (by decide) (AAny.blind 4 rfl (by kernel_rfl) (Blind.fieldAddr fl27_2 rfl rfl) (by decide) ?_))
 refine AAny.two 5 6 rfl rfl (by kernel_rfl) ?_ ?_
 refine .ld sh23 ?_
 refine AOps.nil ⟨rfl, ?_⟩
 refine AAny.quietN (n := 6) [6] [7, 8, 9, 10, 11, 12] 7 rfl (by kernel_rfl) (.cn 6 rfl (Y.loadA sh39 rfl rfl (Nat.le_of_ble_eq_true rfl) rfl rfl) (AQ.nil ?_))
 refine AAny.one 7 rfl (by kernel_rfl) ?_
 refine AOps.buildSlice (([c] : List Cell).map Cell.row) sl23 ze39 rfl rfl rfl rfl rfl (uniform_map (s := 6) (f := Cell.row) (fun _ => rfl)) rfl rfl rfl (by decide) ?_
 refine AOps.nil ⟨rfl, ?_⟩
 refine AAny.one 8 rfl (by kernel_rfl) ?_
 refine AOps.appendE ((cs ++ ([c] : List Cell)).map Cell.row) (cs ++ ([c] : List Cell)).length sl23 ze39 rfl rfl rfl rfl (app_le (by first | omega | simp [-List.getD_eq_getElem?_getD] <;> omega)) (app_map (by first | omega | simp [-List.getD_eq_getElem?_getD] <;> omega)) (app_n (by first | omega | simp [-List.getD_eq_getElem?_getD] <;> omega)) (by first | omega | simp [-List.getD_eq_getElem?_getD] <;> omega) (by first | omega | simp [-List.getD_eq_getElem?_getD] <;> omega) (by decide) (by decide) ?_
 refine AOps.nil ⟨rfl, ?_⟩
 refine AAny.quietN (n := 1) [9, 10, 11] [12] 12 rfl (by kernel_rfl) (.cn 9 rfl (Y.nilCheck rfl rfl) (.cn 10 rfl (Y.fieldAddr fl53_0 rfl rfl) ?_))
 refine .cn 11 rfl (Y.fieldAddr fl27_2 rfl rfl) (AQ.nil (AAny.one 12 rfl (by kernel_rfl) ?_))
 refine AOps.storeC si23 rfl rfl rfl rfl rfl rfl (Nat.le_of_ble_eq_true rfl) rfl ?_
 refine AOps.nil ⟨rfl, ?_⟩
 refine AAny.done (by kernel_rfl) ?_
 exact ⟨_, _, rfl, rfl, rfl, rfl⟩
 refine .vl (Y.loadA sh39 rfl rfl (Nat.le_of_ble_eq_true rfl) rfl rfl) ?_
 refine AOps.nil ⟨rfl, ?_⟩
 refine AAny.two 5 7 rfl rfl (by kernel_rfl) ?_ ?_
 refine .ld sh23 ?_
 refine AOps.nil ⟨rfl, ?_⟩
 refine AAny.one 7 rfl (by kernel_rfl) ?_
 refine AOps.buildSlice (([c] : List Cell).map Cell.row) sl23 ze39 rfl rfl rfl rfl rfl (uniform_map (s := 6) (f := Cell.row) (fun _ => rfl)) rfl rfl rfl (by decide) ?_
 refine AOps.nil ⟨rfl, ?_⟩
 refine AAny.one 8 rfl (by kernel_rfl) ?_
 refine AOps.appendE ((cs ++ ([c] : List Cell)).map Cell.row) (cs ++ ([c] : List Cell)).length sl23 ze39 rfl rfl rfl rfl (app_le (by first | omega | simp [-List.getD_eq_getElem?_getD] <;> omega)) (app_map (by first | omega | simp [-List.getD_eq_getElem?_getD] <;> omega)) (app_n (by first | omega | simp [-List.getD_eq_getElem?_getD] <;> omega)) (by first | omega | simp [-List.getD_eq_getElem?_getD] <;> omega) (by first | omega | simp [-List.getD_eq_getElem?_getD] <;> omega) (by decide) (by decide) ?_
 refine AOps.nil ⟨rfl, ?_⟩
 refine AAny.quietN (n := 1) [9, 10, 11] [12] 12 rfl (by kernel_rfl) (.cn 9 rfl (Y.nilCheck rfl rfl) (.cn 10 rfl (Y.fieldAddr fl53_0 rfl rfl) ?_))
 refine .cn 11 rfl (Y.fieldAddr fl27_2 rfl rfl) (AQ.nil (AAny.one 12 rfl (by kernel_rfl) ?_))
 refine AOps.storeC si23 rfl rfl rfl rfl rfl rfl (Nat.le_of_ble_eq_true rfl) rfl ?_
 refine AOps.nil ⟨rfl, ?_⟩
 refine AAny.done (by kernel_rfl) ?_
 exact ⟨_, _, rfl, rfl, rfl, rfl⟩
 refine AOps.buildSlice (([c] : List Cell).map Cell.row) sl23 ze39 rfl rfl rfl rfl rfl (uniform_map (s := 6) (f := Cell.row) (fun _ => rfl)) rfl rfl rfl (by decide) ?_
 refine AOps.nil ⟨rfl, ?_⟩
 refine AAny.quietN (n := 5) [5] [8, 9, 10, 11, 12] 8 rfl (by kernel_rfl) (.cn 5 rfl (Y.load sh23 rfl rfl rfl rfl) (AQ.nil ?_))
 refine AAny.one 8 rfl (by kernel_rfl) ?_
 refine AOps.appendE ((cs ++ ([c] : List Cell)).map Cell.row) (cs ++ ([c] : List Cell)).length sl23 ze39 rfl rfl rfl rfl (app_le (by first | omega | simp [-List.getD_eq_getElem?_getD] <;> omega)) (app_map (by first | omega | simp [-List.getD_eq_getElem?_getD] <;> omega)) (app_n (by first | omega | simp [-List.getD_eq_getElem?_getD] <;> omega)) (by first | omega | simp [-List.getD_eq_getElem?_getD] <;> omega) (by first | omega | simp [-List.getD_eq_getElem?_getD] <;> omega) (by decide) (by decide) ?_
 refine AOps.nil ⟨rfl, ?_⟩
 refine AAny.quietN (n := 1) [9, 10, 11] [12] 12 rfl (by kernel_rfl) (.cn 9 rfl (Y.nilCheck rfl rfl) (.cn 10 rfl (Y.fieldAddr fl53_0 rfl rfl) ?_))
 refine .cn 11 rfl (Y.fieldAddr fl27_2 rfl rfl) (AQ.nil (AAny.one 12 rfl (by kernel_rfl) ?_))
 refine AOps.storeC si23 rfl rfl rfl rfl rfl rfl (Nat.le_of_ble_eq_true rfl) rfl ?_
 refine AOps.nil ⟨rfl, ?_⟩
 refine AAny.done (by kernel_rfl) ?_
 exact ⟨_, _, rfl, rfl, rfl, rfl⟩
theorem const_spec {nm : ByteArray} {ws : List Int} {cs : List Cell} {fz dn : Int} {rl : List Int} (hws : ws.length ≤ 1048000) (hcs : cs.length ≤ 1048000) {w : Int} {x : Nat} (hx : x < 18446744073709551616) : ACalls Try.prog 25 [.ptr 0 0 0 0, vi w, .v (.int .u64 ((x : Nat) : Int))] [.cells [.v (.string nm), .slc 1 1 0 ws.length, .slc 2 6 0 cs.length, .v (.slice none 0 0), .v (.slice none 0 0), .v (.slice none 0 0), .v (.slice none 0 0), .v (.slice none 0 0), vi fz, vi dn, .fz 1 (rl.map irow)], .rows 1 (ws.map irow), .rows 6 (cs.map Cell.row)] [0] (fun r o => r = (vi ((ws.length : Nat) : Int)) ∧ o = [.cells [.v (.string nm), .slc 1 1 0 ((ws ++ [w]).length), .slc 2 6 0 ((cs ++ [(⟨1, 0, (ws.length : Int), [], fitN w x, 0⟩ : Cell)]).length), .v (.slice none 0 0), .v (.slice none 0 0), .v (.slice none 0 0), .v (.slice none 0 0), .v (.slice none 0 0), vi fz, vi dn, .fz 1 (rl.map irow)], .rows 1 ((ws ++ [w]).map irow), .rows 6 ((cs ++ [(⟨1, 0, (ws.length : Int), [], fitN w x, 0⟩ : Cell)]).map Cell.row)]) := by
 refine ACalls.of Try.func25 rfl rfl rfl (n := 19) (by decide) (Nat.le_of_ble_eq_true rfl) (AWp.sr ?_)
 refine .an ?_
 refine AOps.nil (AWp.sr ?_)
 refine .mv ?_
 refine .mv ?_
 refine AOps.callO [0, 1, 2] [] ok33 (wire_spec (w := w) (ws := ws) (cs := cs) (nm := nm) (fz := fz) (dn := dn) (rl := rl) (by omega) (by omega)) rfl (.named rfl rfl (.keep rfl rfl .nil)) ⟨rfl, rfl, rfl, trivial⟩ rfl (by decide) (fun _ h => by cases h) (fun _ h => by cases h) (by decide) (by decide) ?_
 rintro r objs' ⟨rfl, rfl⟩ _
 refine ⟨⟨rfl, (by intro ob hob; simp only [List.mem_cons, List.not_mem_nil, or_false] at hob; rcases hob with rfl | rfl | rfl <;> rfl), .inl rfl⟩, ?_⟩
 refine .an ?_
 refine AOps.nil (AWp.sr ?_)
 refine .mv ?_
 refine .mv ?_
 refine .mv ?_
 refine .mv ?_
 refine AOps.callP ok65 (bfit_spec (w := w) (x := x) ((by omega))) rfl (.keep rfl rfl (.keep rfl rfl .nil)) (by decide) rfl ?_
 refine .vl (Y.build pl39 ze39 rfl rfl rfl) (AOps.sh (Sh.fzA (d := 16) 1 3 rfl rfl) ?_)
 refine AOps.callO [0, 1, 2] [] ok32 (bcell_spec (c := (⟨1, 0, (((ws).length : Nat) : Int), ([] : List Int), fitN w x, 0⟩ : Cell)) (ws := ws ++ [w]) (cs := cs) (nm := nm) (fz := fz) (dn := dn) (rl := rl) (by first | omega | simp [-List.getD_eq_getElem?_getD] <;> omega) (by first | omega | simp [-List.getD_eq_getElem?_getD] <;> omega) (by first | omega | simp [-List.getD_eq_getElem?_getD] <;> omega)) rfl (.named rfl rfl (.keep rfl rfl .nil)) ⟨rfl, rfl, rfl, trivial⟩ rfl (by decide) (fun _ h => by cases h) (fun _ h => by cases h) (by decide) (by decide) ?_
 rintro r objs' ⟨rfl, rfl⟩ _
 refine ⟨⟨rfl, (by intro ob hob; simp only [List.mem_cons, List.not_mem_nil, or_false] at hob; rcases hob with rfl | rfl | rfl <;> rfl), .inl rfl⟩, ?_⟩
 refine AOps.nil (AWp.sr ?_)
 refine .mv ?_
 refine .an ?_
 refine AOps.nil (AWp.ret ?_)
 exact ⟨_, _, rfl, rfl, rfl, rfl⟩
theorem bop_spec {nm : ByteArray} {ws : List Int} {cs : List Cell} {fz dn : Int} {rl : List Int} (hws : ws.length ≤ 1048000) (hcs : cs.length ≤ 1048000) {op w : Int} {args : List Int} (hx : args.length ≤ 17592186043904) : ACalls Try.prog 27 [.ptr 0 0 0 0, vi op, vi w, .fz 1 (args.map irow)] [.cells [.v (.string nm), .slc 1 1 0 ws.length, .slc 2 6 0 cs.length, .v (.slice none 0 0), .v (.slice none 0 0), .v (.slice none 0 0), .v (.slice none 0 0), .v (.slice none 0 0), vi fz, vi dn, .fz 1 (rl.map irow)], .rows 1 (ws.map irow), .rows 6 (cs.map Cell.row)] [0] (fun r o => r = (vi ((ws.length : Nat) : Int)) ∧ o = [.cells [.v (.string nm), .slc 1 1 0 ((ws ++ [w]).length), .slc 2 6 0 ((cs ++ [(⟨2, op, (ws.length : Int), args, 0, 0⟩ : Cell)]).length), .v (.slice none 0 0), .v (.slice none 0 0), .v (.slice none 0 0), .v (.slice none 0 0), .v (.slice none 0 0), vi fz, vi dn, .fz 1 (rl.map irow)], .rows 1 ((ws ++ [w]).map irow), .rows 6 ((cs ++ [(⟨2, op, (ws.length : Int), args, 0, 0⟩ : Cell)]).map Cell.row)]) := by
 refine ACalls.of Try.func27 rfl rfl rfl (n := 20) (by decide) (Nat.le_of_ble_eq_true rfl) (AWp.sr ?_)
 refine .an ?_
 refine AOps.nil (AWp.sr ?_)
 refine .mv ?_
 refine .mv ?_
 refine AOps.callO [0, 1, 2] [] ok33 (wire_spec (w := w) (ws := ws) (cs := cs) (nm := nm) (fz := fz) (dn := dn) (rl := rl) (by omega) (by omega)) rfl (.named rfl rfl (.keep rfl rfl .nil)) ⟨rfl, rfl, rfl, trivial⟩ rfl (by decide) (fun _ h => by cases h) (fun _ h => by cases h) (by decide) (by decide) ?_
 rintro r objs' ⟨rfl, rfl⟩ _
 refine ⟨⟨rfl, (by intro ob hob; simp only [List.mem_cons, List.not_mem_nil, or_false] at hob; rcases hob with rfl | rfl | rfl <;> rfl), .inl rfl⟩, ?_⟩
 refine .an ?_
 refine AOps.nil (AWp.sr ?_)
 refine .mv ?_
 refine .mv ?_
 refine .mv ?_
 refine .mv ?_
 refine .vl (Y.build pl39 ze39 rfl rfl rfl) ?_
 refine AOps.callO [0, 1, 2] [] ok32 (bcell_spec (c := (⟨2, op, (((ws).length : Nat) : Int), args, 0, 0⟩ : Cell)) (ws := ws ++ [w]) (cs := cs) (nm := nm) (fz := fz) (dn := dn) (rl := rl) (by first | omega | simp [-List.getD_eq_getElem?_getD] <;> omega) (by first | omega | simp [-List.getD_eq_getElem?_getD] <;> omega) (by first | omega | simp [-List.getD_eq_getElem?_getD] <;> omega)) rfl (.named rfl rfl (.keep rfl rfl .nil)) ⟨rfl, rfl, rfl, trivial⟩ rfl (by decide) (fun _ h => by cases h) (fun _ h => by cases h) (by decide) (by decide) ?_
 rintro r objs' ⟨rfl, rfl⟩ _
 refine ⟨⟨rfl, (by intro ob hob; simp only [List.mem_cons, List.not_mem_nil, or_false] at hob; rcases hob with rfl | rfl | rfl <;> rfl), .inl rfl⟩, ?_⟩
 refine AOps.nil (AWp.sr ?_)
 refine .mv ?_
 refine .an ?_
 refine AOps.nil (AWp.ret ?_)
 exact ⟨_, _, rfl, rfl, rfl, rfl⟩
theorem awake_spec  : ACalls Try.prog 15 [] [] [] (fun r o => r = .v (.bool true) ∧ o = []) := by
 refine ACalls.of Try.func15 rfl rfl rfl (n := 27) (by decide) (Nat.zero_le _) (AWp.sr ?_)
 refine .an ?_
 refine AOps.nil (AWp.sr (AOps.alloc 101 ze53 rfl rfl (by decide) ?_))
 refine AOps.nil (AWp.seq (AWp.sh (Sh.nilCell 101 301 1 1 rfl rfl rfl rfl (by decide)) ?_))
 refine AWp.sh (Sh.nilCell 101 302 6 2 rfl rfl rfl rfl (by decide)) (AWp.sh (Sh.fzCell 101 1 10 rfl rfl rfl) (AWp.region ?_))
 refine AOps.callO [101, 301, 302] [] ok25 (const_spec (w := 8) (x := 5) (ws := ([] : List Int)) (cs := ([] : List Cell)) (nm := ByteArray.empty) (fz := 0) (dn := 0) (rl := ([] : List Int)) (by first | omega | simp [-List.getD_eq_getElem?_getD] <;> omega) (by first | omega | simp [-List.getD_eq_getElem?_getD] <;> omega) (by first | omega | simp [-List.getD_eq_getElem?_getD] <;> omega)) rfl (.named rfl rfl (.keep rfl rfl (.keep rfl rfl .nil))) ⟨rfl, rfl, rfl, trivial⟩ rfl (by decide) (fun _ h => by cases h) (fun _ h => by cases h) (by decide) (by decide) ?_
 rintro r objs' ⟨rfl, rfl⟩ _
 refine ⟨⟨rfl, (by intro ob hob; simp only [List.mem_cons, List.not_mem_nil, or_false] at hob; rcases hob with rfl | rfl | rfl <;> rfl), .inl rfl⟩, ?_⟩
 refine .an ?_
 refine AOps.nil (AWp.sr ?_)
 refine .mv ?_
 refine .mv ?_
 refine AOps.buildSlice (([(((([] : List Int)).length : Nat) : Int), (((([] : List Int)).length : Nat) : Int)] : List Int).map irow) sl22 ze3 rfl rfl rfl rfl rfl (uniform_map (s := 1) (f := irow) (fun _ => rfl)) rfl rfl rfl (by decide) ?_
 refine AOps.sh (Sh.freezeE (d := 7) (([(((([] : List Int)).length : Nat) : Int), (((([] : List Int)).length : Nat) : Int)] : List Int).map irow) rfl (by first | rfl | exact rep_map rfl) (Frees.map irow_frees)) ?_
 refine AOps.callO [101, 301, 302] [] ok27 (bop_spec (op := 2) (w := 8) (args := ([(((([] : List Int)).length : Nat) : Int), (((([] : List Int)).length : Nat) : Int)] : List Int)) (ws := ([] : List Int) ++ [8]) (cs := ([] : List Cell) ++ [(⟨1, 0, ((([] : List Int)).length : Int), [], fitN 8 5, 0⟩ : Cell)]) (nm := ByteArray.empty) (fz := 0) (dn := 0) (rl := ([] : List Int)) (by first | omega | simp [-List.getD_eq_getElem?_getD] <;> omega) (by first | omega | simp [-List.getD_eq_getElem?_getD] <;> omega) (by first | omega | simp [-List.getD_eq_getElem?_getD] <;> omega)) rfl (.named rfl rfl (.keep rfl rfl (.keep rfl rfl (.keep rfl rfl .nil)))) ⟨rfl, rfl, rfl, trivial⟩ rfl (by decide) (fun _ h => by cases h) (fun _ h => by cases h) (by decide) (by decide) ?_
 rintro r objs' ⟨rfl, rfl⟩ _
 refine ⟨⟨rfl, (by intro ob hob; simp only [List.mem_cons, List.not_mem_nil, or_false] at hob; rcases hob with rfl | rfl | rfl <;> rfl), .inl rfl⟩, ?_⟩
 refine .an ?_
 refine AOps.nil (AWp.sr ?_)
 refine .mv ?_
 refine .vl (Y.eql rfl rfl) ?_
 refine .mv ?_
 refine AOps.splitD (d := 11) rfl (fun c11 => ?_) (fun c11 => ?_)
 refine .gw 11 (Y.move rfl rfl) (.gw 11 (Y.eql rfl rfl) ?_)
 refine .pk ?_
 refine .mv ?_
 refine AOps.splitD (d := 15) rfl (fun c15 => ?_) (fun c15 => ?_)
 refine .gw 15 (Y.fieldAddr fl53_0 rfl rfl) (.gw 15 (Y.fieldAddr fl27_2 rfl rfl) (.gw 15 (Y.load sh23 rfl rfl rfl rfl) ?_))
 refine .gw 15 (Y.len (n := ((([] : List Cell) ++ [(⟨1, 0, ((([] : List Int)).length : Int), [], fitN 8 5, 0⟩ : Cell)]) ++ [(⟨2, 2, (((([] : List Int) ++ [8])).length : Int), ([(((([] : List Int)).length : Nat) : Int), (((([] : List Int)).length : Nat) : Int)] : List Int), 0, 0⟩ : Cell)]).length) sl23 rfl rfl) ?_
 refine .gw 15 (Y.eql rfl rfl) ?_
 refine .pk ?_
 refine .mv ?_
 refine AOps.splitD (d := 22) rfl (fun c22 => ?_) (fun c22 => ?_)
 refine .gw 22 (Y.build pl27 ze27 rfl rfl rfl) (AOps.sh (Sh.fzA (d := 23) 1 1 rfl rfl) (AOps.sh (Sh.fzA (d := 23) 6 2 rfl rfl) ?_))
 refine AOps.sh (Sh.fzA (d := 23) 1 3 rfl rfl) (AOps.sh (Sh.fzA (d := 23) 5 4 rfl rfl) (AOps.sh (Sh.fzA (d := 23) 3 5 rfl rfl) ?_))
 refine AOps.sh (Sh.fzA (d := 23) 1 6 rfl rfl) (AOps.sh (Sh.fzA (d := 23) 1 7 rfl rfl) (AOps.sh (Sh.fzA (d := 23) 1 10 rfl rfl) ?_))
 refine AOps.guardRun (d := 22) rfl (by decide) rfl (AOps.callP ok16 (check_spec (n := emptyN) emptyN_small (by decide)) rfl (.keep rfl rfl .nil) (by decide) rfl (.gw 22 (Y.eql rfl rfl) ?_))
 refine .pk ?_
 refine .an ?_
 refine AOps.nil (AWp.ret ?_)
 exact .rb rfl (by rw [emptyN_err]; rfl)
 refine .gz 22 (.gz 22 (.gz 22 ?_))
 refine .pk ?_
 refine .an ?_
 refine AOps.nil (AWp.ret ?_)
 exact .rb rfl (by exfalso; simp_all)
 refine .gz 15 (.gz 15 (.gz 15 ?_))
 refine .gz 15 (.gz 15 ?_)
 refine .pk ?_
 refine .mv ?_
 refine .gz 22 (.gz 22 (.gz 22 ?_))
 refine .pk ?_
 refine .an ?_
 refine AOps.nil (AWp.ret ?_)
 exact .rb rfl (by exfalso; simp_all)
 refine .gz 11 (.gz 11 ?_)
 refine .pk ?_
 refine .mv ?_
 refine .gz 15 (.gz 15 (.gz 15 ?_))
 refine .gz 15 (.gz 15 ?_)
 refine .pk ?_
 refine .mv ?_
 refine .gz 22 (.gz 22 (.gz 22 ?_))
 refine .pk ?_
 refine .an ?_
 refine AOps.nil (AWp.ret ?_)
 exact .rb rfl (by exfalso; simp_all)
end Go.Proofs.Ytligpghohcfpnaa
/- Walks through equality. -/
namespace Go.Proofs.Ytligpghohcfpnaa
open Go Go.AW Go.Proofs
end Go.Proofs.Ytligpghohcfpnaa
/- Walks through what plans are made with. -/
namespace Go.Proofs.Ytligpghohcfpnaa
open Go Go.AW Go.Proofs
end Go.Proofs.Ytligpghohcfpnaa
/- Walks through more of the builder. -/
namespace Go.Proofs.Ytligpghohcfpnaa
open Go Go.AW Go.Proofs
theorem mux_spec {nm : ByteArray} {ws : List Int} {cs : List Cell} {fz dn : Int} {rl : List Int} (hws : ws.length ≤ 1048000) (hcs : cs.length ≤ 1048000) {w : Int} {args : List Int} (hx : args.length ≤ 17592186043904) : ACalls Try.prog 31 [.ptr 0 0 0 0, vi w, .fz 1 (args.map irow)] [.cells [.v (.string nm), .slc 1 1 0 ws.length, .slc 2 6 0 cs.length, .v (.slice none 0 0), .v (.slice none 0 0), .v (.slice none 0 0), .v (.slice none 0 0), .v (.slice none 0 0), vi fz, vi dn, .fz 1 (rl.map irow)], .rows 1 (ws.map irow), .rows 6 (cs.map Cell.row)] [0] (fun r o => r = (vi ((ws.length : Nat) : Int)) ∧ o = [.cells [.v (.string nm), .slc 1 1 0 ((ws ++ [w]).length), .slc 2 6 0 ((cs ++ [(⟨3, 0, (ws.length : Int), args, 0, 0⟩ : Cell)]).length), .v (.slice none 0 0), .v (.slice none 0 0), .v (.slice none 0 0), .v (.slice none 0 0), .v (.slice none 0 0), vi fz, vi dn, .fz 1 (rl.map irow)], .rows 1 ((ws ++ [w]).map irow), .rows 6 ((cs ++ [(⟨3, 0, (ws.length : Int), args, 0, 0⟩ : Cell)]).map Cell.row)]) := by
 refine ACalls.of Try.func31 rfl rfl rfl (n := 17) (by decide) (Nat.le_of_ble_eq_true rfl) (AWp.sr ?_)
 refine .an ?_
 refine AOps.nil (AWp.sr ?_)
 refine .mv ?_
 refine .mv ?_
 refine AOps.callO [0, 1, 2] [] ok33 (wire_spec (w := w) (ws := ws) (cs := cs) (nm := nm) (fz := fz) (dn := dn) (rl := rl) (by omega) (by omega)) rfl (.named rfl rfl (.keep rfl rfl .nil)) ⟨rfl, rfl, rfl, trivial⟩ rfl (by decide) (fun _ h => by cases h) (fun _ h => by cases h) (by decide) (by decide) ?_
 rintro r objs' ⟨rfl, rfl⟩ _
 refine ⟨⟨rfl, (by intro ob hob; simp only [List.mem_cons, List.not_mem_nil, or_false] at hob; rcases hob with rfl | rfl | rfl <;> rfl), .inl rfl⟩, ?_⟩
 refine .an ?_
 refine AOps.nil (AWp.sr ?_)
 refine .mv ?_
 refine .mv ?_
 refine .mv ?_
 refine .vl (Y.build pl39 ze39 rfl rfl rfl) ?_
 refine AOps.callO [0, 1, 2] [] ok32 (bcell_spec (c := (⟨3, 0, (((ws).length : Nat) : Int), args, 0, 0⟩ : Cell)) (ws := ws ++ [w]) (cs := cs) (nm := nm) (fz := fz) (dn := dn) (rl := rl) (by first | omega | simp [-List.getD_eq_getElem?_getD] <;> omega) (by first | omega | simp [-List.getD_eq_getElem?_getD] <;> omega) (by first | omega | simp [-List.getD_eq_getElem?_getD] <;> omega)) rfl (.named rfl rfl (.keep rfl rfl .nil)) ⟨rfl, rfl, rfl, trivial⟩ rfl (by decide) (fun _ h => by cases h) (fun _ h => by cases h) (by decide) (by decide) ?_
 rintro r objs' ⟨rfl, rfl⟩ _
 refine ⟨⟨rfl, (by intro ob hob; simp only [List.mem_cons, List.not_mem_nil, or_false] at hob; rcases hob with rfl | rfl | rfl <;> rfl), .inl rfl⟩, ?_⟩
 refine AOps.nil (AWp.sr ?_)
 refine .mv ?_
 refine .an ?_
 refine AOps.nil (AWp.ret ?_)
 exact ⟨_, _, rfl, rfl, rfl, rfl⟩
theorem not_spec {nm : ByteArray} {ws : List Int} {cs : List Cell} {fz dn : Int} {rl : List Int} (hB : Bd (bn ws cs)) (hws : ws.length ≤ 1000) (hcs : cs.length ≤ 1000) {x : Int} (hx : Bit ws x) : ACalls Try.prog 30 [.ptr 0 0 0 0, vi x] [.cells [.v (.string nm), .slc 1 1 0 ws.length, .slc 2 6 0 cs.length, .v (.slice none 0 0), .v (.slice none 0 0), .v (.slice none 0 0), .v (.slice none 0 0), .v (.slice none 0 0), vi fz, vi dn, .fz 1 (rl.map irow)], .rows 1 (ws.map irow), .rows 6 (cs.map Cell.row)] [0] (fun r o => ∃ (ws2 : List Int) (cs2 : List Cell) (x2 : Int), BSt ws cs 2 ws2 cs2 ∧ Bit ws2 x2 ∧ (True) ∧ r = (vi x2) ∧ o = [.cells [.v (.string nm), .slc 1 1 0 ws2.length, .slc 2 6 0 cs2.length, .v (.slice none 0 0), .v (.slice none 0 0), .v (.slice none 0 0), .v (.slice none 0 0), .v (.slice none 0 0), vi fz, vi dn, .fz 1 (rl.map irow)], .rows 1 (ws2.map irow), .rows 6 (cs2.map Cell.row)]) := by
 refine ACalls.of Try.func30 rfl rfl rfl (n := 13) (by decide) (Nat.le_of_ble_eq_true rfl) (AWp.sr ?_)
 refine .an ?_
 refine AOps.nil (AWp.sr ?_)
 refine .mv ?_
 refine AOps.callO [0, 1, 2] [] ok25 (const_spec (w := 1) (x := 1) (ws := ws) (cs := cs) (nm := nm) (fz := fz) (dn := dn) (rl := rl) (by omega) (by omega) (by omega)) rfl (.named rfl rfl (.keep rfl rfl (.keep rfl rfl .nil))) ⟨rfl, rfl, rfl, trivial⟩ rfl (by decide) (fun _ h => by cases h) (fun _ h => by cases h) (by decide) (by decide) ?_
 rintro r objs' ⟨rfl, rfl⟩ _
 refine ⟨⟨rfl, (by intro ob hob; simp only [List.mem_cons, List.not_mem_nil, or_false] at hob; rcases hob with rfl | rfl | rfl <;> rfl), .inl rfl⟩, ?_⟩
 refine .an ?_
 refine AOps.nil (AWp.sr ?_)
 refine .mv ?_
 refine .mv ?_
 refine .mv ?_
 refine AOps.buildSlice (([x, (((ws).length : Nat) : Int)] : List Int).map irow) sl22 ze3 rfl rfl rfl rfl rfl (uniform_map (s := 1) (f := irow) (fun _ => rfl)) rfl rfl rfl (by decide) ?_
 refine AOps.sh (Sh.freezeE (d := 11) (([x, (((ws).length : Nat) : Int)] : List Int).map irow) rfl (by first | rfl | exact rep_map rfl) (Frees.map irow_frees)) ?_
 refine AOps.callO [0, 1, 2] [] ok27 (bop_spec (op := 11) (w := 1) (args := ([x, (((ws).length : Nat) : Int)] : List Int)) (ws := ws ++ [1]) (cs := cs ++ [(⟨1, 0, ((ws).length : Int), [], fitN 1 1, 0⟩ : Cell)]) (nm := nm) (fz := fz) (dn := dn) (rl := rl) (by first | omega | simp [-List.getD_eq_getElem?_getD] <;> omega) (by first | omega | simp [-List.getD_eq_getElem?_getD] <;> omega) (by first | omega | simp [-List.getD_eq_getElem?_getD] <;> omega)) rfl (.named rfl rfl (.keep rfl rfl (.keep rfl rfl (.keep rfl rfl .nil)))) ⟨rfl, rfl, rfl, trivial⟩ rfl (by decide) (fun _ h => by cases h) (fun _ h => by cases h) (by decide) (by decide) ?_
 rintro r objs' ⟨rfl, rfl⟩ _
 refine ⟨⟨rfl, (by intro ob hob; simp only [List.mem_cons, List.not_mem_nil, or_false] at hob; rcases hob with rfl | rfl | rfl <;> rfl), .inl rfl⟩, ?_⟩
 refine .an ?_
 refine AOps.nil (AWp.ret ?_)
 exact ⟨_, _, rfl, rfl, (ws ++ [1]) ++ [1], (cs ++ [(⟨1, 0, ((ws).length : Int), [], fitN 1 1, 0⟩ : Cell)]) ++ [(⟨2, 11, (((ws ++ [1])).length : Int), ([x, (((ws).length : Nat) : Int)] : List Int), 0, 0⟩ : Cell)], (((ws ++ [1]).length : Nat) : Int), (BSt.one (hB.const one_wide)).trans (BSt.one (Bd.op2 (hB.const one_wide) one_wide hx.app.1 Bit.new.1 (by decide) (.inr ⟨by decide, by decide, hx.app.2, Bit.new.2⟩))), Bit.new, trivial, rfl, rfl⟩
theorem any_spec {nm : ByteArray} {ws : List Int} {cs : List Cell} {fz dn : Int} {rl : List Int} (hB : Bd (bn ws cs)) (hws : ws.length ≤ 1000) (hcs : cs.length ≤ 1000) {wires : List Int} (hb : ∀ x ∈ wires, Bit ws x) (hl : wires.length ≤ 12) : ACalls Try.prog 28 [.ptr 0 0 0 0, .fz 1 (wires.map irow)] [.cells [.v (.string nm), .slc 1 1 0 ws.length, .slc 2 6 0 cs.length, .v (.slice none 0 0), .v (.slice none 0 0), .v (.slice none 0 0), .v (.slice none 0 0), .v (.slice none 0 0), vi fz, vi dn, .fz 1 (rl.map irow)], .rows 1 (ws.map irow), .rows 6 (cs.map Cell.row)] [0] (fun r o => ∃ (ws2 : List Int) (cs2 : List Cell) (x2 : Int), BSt ws cs 1 ws2 cs2 ∧ Bit ws2 x2 ∧ (wires.length = 1 → x2 = wires.getD 0 0) ∧ r = (vi x2) ∧ o = [.cells [.v (.string nm), .slc 1 1 0 ws2.length, .slc 2 6 0 cs2.length, .v (.slice none 0 0), .v (.slice none 0 0), .v (.slice none 0 0), .v (.slice none 0 0), .v (.slice none 0 0), vi fz, vi dn, .fz 1 (rl.map irow)], .rows 1 (ws2.map irow), .rows 6 (cs2.map Cell.row)]) := by
 refine ACalls.of Try.func28 rfl rfl rfl (n := 34) (by decide) (Nat.le_of_ble_eq_true rfl) (AWp.sr ?_)
 refine .an ?_
 refine AOps.nil (AWp.seq (AWp.sr ?_))
 refine .mv ?_
 refine .vl (Y.len (n := wires.length) sl22 rfl (congrArg some (List.length_map ..))) (AOps.nil (AWp.block ?_))
 refine AWp.sr (.vl (Y.eql rfl rfl) ?_)
 refine .an ?_
 refine AOps.nil ?_
 refine AWp.condD rfl (fun c10 => ?_) (fun c10 => ?_)
 refine AWp.sr ?_
 refine .mv ?_
 refine AOps.callO [0, 1, 2] [] ok25 (const_spec (w := 1) (x := 0) (ws := ws) (cs := cs) (nm := nm) (fz := fz) (dn := dn) (rl := rl) (by omega) (by omega) (by omega)) rfl (.named rfl rfl (.keep rfl rfl (.keep rfl rfl .nil))) ⟨rfl, rfl, rfl, trivial⟩ rfl (by decide) (fun _ h => by cases h) (fun _ h => by cases h) (by decide) (by decide) ?_
 rintro r objs' ⟨rfl, rfl⟩ _
 refine ⟨⟨rfl, (by intro ob hob; simp only [List.mem_cons, List.not_mem_nil, or_false] at hob; rcases hob with rfl | rfl | rfl <;> rfl), .inl rfl⟩, ?_⟩
 refine .an ?_
 refine AOps.nil (AWp.ret ?_)
 exact ⟨_, _, rfl, rfl, ws ++ [1], cs ++ [(⟨1, 0, ((ws).length : Int), [], fitN 1 0, 0⟩ : Cell)], (((ws).length : Nat) : Int), BSt.one (hB.const one_wide), Bit.new, fun h => by omega, rfl, rfl⟩
 refine AWp.sr (.vl (Y.eql rfl rfl) ?_)
 refine .an ?_
 refine AOps.nil ?_
 refine AWp.condD rfl (fun c14 => ?_) (fun c14 => ?_)
 refine AWp.sr ?_
 refine .mv ?_
 refine .vl (Y.indexF (m := 0) sl22 rfl rfl (by first | rfl | omega) (row_getD (d := 0) (by omega))) ?_
 refine .ld sh3 ?_
 refine .an ?_
 refine AOps.nil (AWp.ret ?_)
 exact ⟨_, _, rfl, rfl, ws, cs, wires.getD 0 0, BSt.refl hB 1, hb _ (getD_mem (by omega)), fun _ => rfl, rfl, rfl⟩
 refine AWp.skip (AWp.sr ?_)
 refine .an ?_
 refine AOps.sh (Sh.nil (d := 5) 105 1 rfl (by decide)) (AOps.nil (AWp.seq ?_))
 refine AWp.sr ?_
 refine .mv ?_
 refine .vl (Y.len (n := wires.length) sl22 rfl (congrArg some (List.length_map ..))) ?_
 refine .mv ?_
 refine AOps.nil (AWp.block ?_)
 refine AWp.loop2 (fun (n21_8 : Nat) (args5_8 : List Int) => ⟨[(0, .ptr 0 0 0 0), (5, .slc 105 1 0 args5_8.length), (19, .fz 1 (wires.map irow)), (20, vi ((wires.length : Nat) : Int)), (21, vi (n21_8 : Int))], [(0, .cells [.v (.string nm), .slc 1 1 0 ws.length, .slc 2 6 0 cs.length, .v (.slice none 0 0), .v (.slice none 0 0), .v (.slice none 0 0), .v (.slice none 0 0), .v (.slice none 0 0), vi fz, vi dn, .fz 1 (rl.map irow)]), (1, .rows 1 (ws.map irow)), (2, .rows 6 (cs.map Cell.row)), (105, .rows 1 (args5_8.map irow))]⟩) (fun (n21_8 : Nat) (args5_8 : List Int) => ((n21_8 : Int) ≤ ((wires.length : Nat) : Int)) ∧ (∀ x ∈ args5_8, Bit ws x) ∧ (args5_8.length = 2 * n21_8)) (fun (n21_8 : Nat) (args5_8 : List Int) => (((wires.length : Nat) : Int) - (n21_8 : Int)).toNat) 0 ([] : List Int) (⟨by first | omega | (simp [-List.getD_eq_getElem?_getD]; done) | (simp [-List.getD_eq_getElem?_getD]; omega), fun x h => (by cases h), rfl⟩) (Le.mk (.c (.cons (look_slc rfl (by first | omega | simp [-List.getD_eq_getElem?_getD] <;> omega)) (.c (.c (.cons (look_int rfl (by first | rfl | omega)) (.nil)))))) (.c (.c (.c (.c (.nil)))))) (fun n21_8 args5_8 hI8 => ?_)
 obtain ⟨hb8, hm, hml⟩ := hI8
 refine AWp.sr (.vl (Y.lss rfl rfl) (AOps.nil ?_))
 refine AWp.seq ?_
 refine AWp.condD rfl (fun c22 => ?_) (fun c22 => ?_)
 refine AWp.skip (AWp.seq (AWp.block ?_))
 refine AWp.sr ?_
 refine .vl (Y.indexF (m := n21_8) sl22 rfl rfl (by first | rfl | omega) (row_getD (d := 0) (by omega))) ?_
 refine .ld sh3 ?_
 refine .an ?_
 refine AOps.nil (AWp.region ?_)
 refine .mv ?_
 refine .mv ?_
 refine .mv ?_
 refine AOps.buildSlice (([wires.getD n21_8 0, wires.getD n21_8 0] : List Int).map irow) sl22 ze3 rfl rfl rfl rfl rfl (uniform_map (s := 1) (f := irow) (fun _ => rfl)) rfl rfl rfl (by decide) ?_
 refine AOps.appendE ((args5_8 ++ ([wires.getD n21_8 0, wires.getD n21_8 0] : List Int)).map irow) (args5_8 ++ ([wires.getD n21_8 0, wires.getD n21_8 0] : List Int)).length sl22 ze3 rfl rfl rfl rfl (app_le (by first | omega | simp [-List.getD_eq_getElem?_getD] <;> omega)) (app_map (by first | omega | simp [-List.getD_eq_getElem?_getD] <;> omega)) (app_n (by first | omega | simp [-List.getD_eq_getElem?_getD] <;> omega)) (by first | omega | simp [-List.getD_eq_getElem?_getD] <;> omega) (by first | omega | simp [-List.getD_eq_getElem?_getD] <;> omega) (by decide) (by decide) ?_
 refine .an ?_
 refine AOps.nil (AWp.region ?_)
 refine .vl (Y.addI rfl rfl (by omega)) ?_
 refine .mv ?_
 refine AOps.nil ?_
 exact ⟨n21_8 + 1, args5_8 ++ ([wires.getD n21_8 0, wires.getD n21_8 0] : List Int), ⟨by omega, all_two hm (hb _ (getD_mem (by omega))), by rw [List.length_append, hml]; simp only [List.length_cons, List.length_nil]; omega⟩, by omega, Le.mk (.c (.cons (look_slc rfl (by omega)) (.c (.c (.cons (look_int rfl (by first | rfl | omega)) (.nil)))))) (.c (.c (.c (.c (.nil)))))⟩
 refine AWp.exit (AWp.seq ?_)
 refine AWp.sh (Sh.detach (d := 5) (o := 105) rfl rfl (len_map (by omega)) (by decide)) ?_
 refine AWp.sh (Sh.freezeE (d := 5) (args5_8.map irow) rfl (by first | rfl | exact rep_map rfl) (Frees.map irow_frees)) (AWp.region ?_)
 refine .mv ?_
 refine .mv ?_
 refine AOps.callO [0, 1, 2] [] ok31 (mux_spec (w := 1) (args := args5_8) (ws := ws) (cs := cs) (nm := nm) (fz := fz) (dn := dn) (rl := rl) (by omega) (by omega) (by omega)) rfl (.named rfl rfl (.keep rfl rfl (.keep rfl rfl .nil))) ⟨rfl, rfl, rfl, trivial⟩ rfl (by decide) (fun _ h => by cases h) (fun _ h => by cases h) (by decide) (by decide) ?_
 rintro r objs' ⟨rfl, rfl⟩ _
 refine ⟨⟨rfl, (by intro ob hob; simp only [List.mem_cons, List.not_mem_nil, or_false] at hob; rcases hob with rfl | rfl | rfl <;> rfl), .inl rfl⟩, ?_⟩
 refine .an ?_
 refine AOps.nil (AWp.ret ?_)
 exact ⟨_, _, rfl, rfl, ws ++ [1], cs ++ [(⟨3, 0, ((ws).length : Int), args5_8, 0, 0⟩ : Cell)], (((ws).length : Nat) : Int), BSt.one (hB.mux hm ⟨by omega, by omega, by omega⟩), Bit.new, fun h => by omega, rfl, rfl⟩
theorem all_step {m : Nat} (ih : ∀ {nm : ByteArray} {ws : List Int} {cs : List Cell} {fz dn : Int} {rl : List Int} {wires : List Int}, Bd (bn ws cs) → ws.length + 2 * wires.length ≤ 1000 → cs.length + 2 * wires.length ≤ 1000 → (∀ x ∈ wires, Bit ws x) → wires.length + 1 ≤ m → ACalls Try.prog 29 [.ptr 0 0 0 0, .fz 1 (wires.map irow)] [.cells [.v (.string nm), .slc 1 1 0 ws.length, .slc 2 6 0 cs.length, .v (.slice none 0 0), .v (.slice none 0 0), .v (.slice none 0 0), .v (.slice none 0 0), .v (.slice none 0 0), vi fz, vi dn, .fz 1 (rl.map irow)], .rows 1 (ws.map irow), .rows 6 (cs.map Cell.row)] [0] (fun r o => ∃ (ws2 : List Int) (cs2 : List Cell) (x2 : Int), BSt ws cs (wires.length - 1 + (1 - wires.length)) ws2 cs2 ∧ Bit ws2 x2 ∧ (wires.length = 1 → x2 = wires.getD 0 0) ∧ r = (vi x2) ∧ o = [.cells [.v (.string nm), .slc 1 1 0 ws2.length, .slc 2 6 0 cs2.length, .v (.slice none 0 0), .v (.slice none 0 0), .v (.slice none 0 0), .v (.slice none 0 0), .v (.slice none 0 0), vi fz, vi dn, .fz 1 (rl.map irow)], .rows 1 (ws2.map irow), .rows 6 (cs2.map Cell.row)])) {nm : ByteArray} {ws : List Int} {cs : List Cell} {fz dn : Int} {rl : List Int} {wires : List Int} (hB : Bd (bn ws cs)) (hws : ws.length + 2 * wires.length ≤ 1000) (hcs : cs.length + 2 * wires.length ≤ 1000) (hb : ∀ x ∈ wires, Bit ws x) (hl : wires.length ≤ m) : ACalls Try.prog 29 [.ptr 0 0 0 0, .fz 1 (wires.map irow)] [.cells [.v (.string nm), .slc 1 1 0 ws.length, .slc 2 6 0 cs.length, .v (.slice none 0 0), .v (.slice none 0 0), .v (.slice none 0 0), .v (.slice none 0 0), .v (.slice none 0 0), vi fz, vi dn, .fz 1 (rl.map irow)], .rows 1 (ws.map irow), .rows 6 (cs.map Cell.row)] [0] (fun r o => ∃ (ws2 : List Int) (cs2 : List Cell) (x2 : Int), BSt ws cs (wires.length - 1 + (1 - wires.length)) ws2 cs2 ∧ Bit ws2 x2 ∧ (wires.length = 1 → x2 = wires.getD 0 0) ∧ r = (vi x2) ∧ o = [.cells [.v (.string nm), .slc 1 1 0 ws2.length, .slc 2 6 0 cs2.length, .v (.slice none 0 0), .v (.slice none 0 0), .v (.slice none 0 0), .v (.slice none 0 0), .v (.slice none 0 0), vi fz, vi dn, .fz 1 (rl.map irow)], .rows 1 (ws2.map irow), .rows 6 (cs2.map Cell.row)]) := by
 refine ACalls.of Try.func29 rfl rfl rfl (n := 38) (by decide) (Nat.le_of_ble_eq_true rfl) (AWp.sr ?_)
 refine .an ?_
 refine AOps.nil (AWp.seq (AWp.sr ?_))
 refine .mv ?_
 refine .vl (Y.len (n := wires.length) sl22 rfl (congrArg some (List.length_map ..))) (AOps.nil (AWp.block ?_))
 refine AWp.sr (.vl (Y.eql rfl rfl) ?_)
 refine .an ?_
 refine AOps.nil ?_
 refine AWp.condD rfl (fun c10 => ?_) (fun c10 => ?_)
 refine AWp.sr ?_
 refine .mv ?_
 refine AOps.callO [0, 1, 2] [] ok25 (const_spec (w := 1) (x := 1) (ws := ws) (cs := cs) (nm := nm) (fz := fz) (dn := dn) (rl := rl) (by omega) (by omega) (by omega)) rfl (.named rfl rfl (.keep rfl rfl (.keep rfl rfl .nil))) ⟨rfl, rfl, rfl, trivial⟩ rfl (by decide) (fun _ h => by cases h) (fun _ h => by cases h) (by decide) (by decide) ?_
 rintro r objs' ⟨rfl, rfl⟩ _
 refine ⟨⟨rfl, (by intro ob hob; simp only [List.mem_cons, List.not_mem_nil, or_false] at hob; rcases hob with rfl | rfl | rfl <;> rfl), .inl rfl⟩, ?_⟩
 refine .an ?_
 refine AOps.nil (AWp.ret ?_)
 exact ⟨_, _, rfl, rfl, ws ++ [1], cs ++ [(⟨1, 0, ((ws).length : Int), [], fitN 1 1, 0⟩ : Cell)], (((ws).length : Nat) : Int), (BSt.one (hB.const one_wide)).le (by omega), Bit.new, fun h => by omega, rfl, rfl⟩
 refine AWp.sr (.vl (Y.eql rfl rfl) ?_)
 refine .an ?_
 refine AOps.nil ?_
 refine AWp.condD rfl (fun c14 => ?_) (fun c14 => ?_)
 refine AWp.sr ?_
 refine .mv ?_
 refine .vl (Y.indexF (m := 0) sl22 rfl rfl (by first | rfl | omega) (row_getD (d := 0) (by omega))) ?_
 refine .ld sh3 ?_
 refine .an ?_
 refine AOps.nil (AWp.ret ?_)
 exact ⟨_, _, rfl, rfl, ws, cs, wires.getD 0 0, BSt.refl hB _, hb _ (getD_mem (by omega)), fun _ => rfl, rfl, rfl⟩
 refine AWp.skip (AWp.sr ?_)
 refine .mv ?_
 refine .vl (Y.len (n := wires.length) sl22 rfl (congrArg some (List.length_map ..))) ?_
 refine .vl (Y.addI rfl rfl (by omega)) ?_
 refine .vl (Y.quoI rfl rfl (by omega)) ?_
 refine .an ?_
 refine AOps.nil (AWp.sr ?_)
 refine .mv ?_
 refine .mv ?_
 refine .mv ?_
 refine .vl (Y.sliceF (l := 0) (h := (wires.length + 1) / 2) sl22 rfl (.none _) (.some rfl) (by first | omega | simp [-List.getD_eq_getElem?_getD] <;> omega) (by first | omega | simp [-List.getD_eq_getElem?_getD] <;> omega) (by rw [List.drop_zero, ← List.map_take])) ?_
 refine AOps.callO [0, 1, 2] [] ok29 (ih (wires := wires.take ((wires.length + 1) / 2)) hB (by simp only [List.length_take, List.length_drop]; omega) (by simp only [List.length_take, List.length_drop]; omega) (fun x hx => hb x (List.mem_of_mem_take hx)) (by simp only [List.length_take, List.length_drop]; omega) (nm := nm) (ws := ws) (cs := cs) (fz := fz) (dn := dn) (rl := rl)) rfl (.named rfl rfl (.keep rfl rfl .nil)) ⟨rfl, rfl, rfl, trivial⟩ rfl (by decide) (fun _ h => by cases h) (fun _ h => by cases h) (by decide) (by decide) ?_
 rintro r objs' ⟨ws27, cs27, x27, hB27, hX27, hE27, rfl, rfl⟩ _
 refine ⟨⟨rfl, (by intro ob hob; simp only [List.mem_cons, List.not_mem_nil, or_false] at hob; rcases hob with rfl | rfl | rfl <;> rfl), .inl rfl⟩, ?_⟩
 have hL27 := hB27.lens
 refine .an ?_
 refine AOps.nil (AWp.sr ?_)
 refine .mv ?_
 refine .mv ?_
 refine .mv ?_
 refine .vl (Y.sliceF (l := (wires.length + 1) / 2) (h := (wires.map irow).length) sl22 rfl (.some rfl) (.none _) (by first | omega | simp [-List.getD_eq_getElem?_getD] <;> omega) (by first | omega | simp [-List.getD_eq_getElem?_getD] <;> omega) (by rw [List.take_length, ← List.map_drop])) ?_
 refine AOps.callO [0, 1, 2] [] ok29 (ih (wires := wires.drop ((wires.length + 1) / 2)) hB27.bd (by have h1 := hL27; simp only [List.length_take, List.length_drop] at h1 ⊢; omega) (by have h1 := hL27; simp only [List.length_take, List.length_drop] at h1 ⊢; omega) (fun x hx => hB27.bit (hb x (List.mem_of_mem_drop hx))) (by simp only [List.length_take, List.length_drop]; omega) (nm := nm) (ws := ws27) (cs := cs27) (fz := fz) (dn := dn) (rl := rl)) rfl (.named rfl rfl (.keep rfl rfl .nil)) ⟨rfl, rfl, rfl, trivial⟩ rfl (by decide) (fun _ h => by cases h) (fun _ h => by cases h) (by decide) (by decide) ?_
 rintro r objs' ⟨ws32, cs32, x32, hB32, hX32, hE32, rfl, rfl⟩ _
 refine ⟨⟨rfl, (by intro ob hob; simp only [List.mem_cons, List.not_mem_nil, or_false] at hob; rcases hob with rfl | rfl | rfl <;> rfl), .inl rfl⟩, ?_⟩
 have hL32 := hB32.lens
 refine .an ?_
 refine AOps.nil (AWp.seq ?_)
 have hL5 := hL27; have hL6 := hL32; simp only [List.length_take, List.length_drop] at hL5 hL6
 refine AWp.region ?_
 refine .mv ?_
 refine .mv ?_
 refine .mv ?_
 refine AOps.buildSlice (([x27, x32] : List Int).map irow) sl22 ze3 rfl rfl rfl rfl rfl (uniform_map (s := 1) (f := irow) (fun _ => rfl)) rfl rfl rfl (by decide) ?_
 refine AOps.sh (Sh.freezeE (d := 36) (([x27, x32] : List Int).map irow) rfl (by first | rfl | exact rep_map rfl) (Frees.map irow_frees)) ?_
 refine AOps.callO [0, 1, 2] [] ok27 (bop_spec (op := 9) (w := 1) (args := ([x27, x32] : List Int)) (ws := ws32) (cs := cs32) (nm := nm) (fz := fz) (dn := dn) (rl := rl) (by first | omega | simp [-List.getD_eq_getElem?_getD] <;> omega) (by first | omega | simp [-List.getD_eq_getElem?_getD] <;> omega) (by first | omega | simp [-List.getD_eq_getElem?_getD] <;> omega)) rfl (.named rfl rfl (.keep rfl rfl (.keep rfl rfl (.keep rfl rfl .nil)))) ⟨rfl, rfl, rfl, trivial⟩ rfl (by decide) (fun _ h => by cases h) (fun _ h => by cases h) (by decide) (by decide) ?_
 rintro r objs' ⟨rfl, rfl⟩ _
 refine ⟨⟨rfl, (by intro ob hob; simp only [List.mem_cons, List.not_mem_nil, or_false] at hob; rcases hob with rfl | rfl | rfl <;> rfl), .inl rfl⟩, ?_⟩
 refine .an ?_
 refine AOps.nil (AWp.ret ?_)
 exact ⟨_, _, rfl, rfl, ws32 ++ [1], cs32 ++ [(⟨2, 9, ((ws32).length : Int), ([x27, x32] : List Int), 0, 0⟩ : Cell)], (((ws32).length : Nat) : Int), ((hB27.trans hB32).trans (BSt.one (Bd.op2 hB32.bd one_wide (hB32.bit hX27).1 hX32.1 (by decide) (.inr ⟨by decide, by decide, (hB32.bit hX27).2, hX32.2⟩)))).le (by simp only [List.length_take, List.length_drop]; omega), Bit.new, fun h => by omega, rfl, rfl⟩
theorem bcell2_spec {nm : ByteArray} {ws : List Int} {cs : List Cell} {fz dn : Int} {rl : List Int} (hws : ws.length ≤ 1048576) (hcs : cs.length ≤ 1048576) {k o u m : Int} {args : List Int} {nn : Nat} (hc : args.length ≤ 17592186043904) : ACalls Try.prog 32 [.ptr 0 0 0 0, .agg [vi k, vi o, vi u, .slc 3 1 0 args.length, .v (.int .u64 ((nn : Nat) : Int)), vi m]] [.cells [.v (.string nm), .slc 1 1 0 ws.length, .slc 2 6 0 cs.length, .v (.slice none 0 0), .v (.slice none 0 0), .v (.slice none 0 0), .v (.slice none 0 0), .v (.slice none 0 0), vi fz, vi dn, .fz 1 (rl.map irow)], .rows 1 (ws.map irow), .rows 6 (cs.map Cell.row), .rows 1 (args.map irow)] [0, 3] (fun r o2 => r = .tup [] ∧ o2 = [.cells [.v (.string nm), .slc 1 1 0 ws.length, .slc 2 6 0 ((cs ++ [(⟨k, o, u, args, nn, m⟩ : Cell)]).length), .v (.slice none 0 0), .v (.slice none 0 0), .v (.slice none 0 0), .v (.slice none 0 0), .v (.slice none 0 0), vi fz, vi dn, .fz 1 (rl.map irow)], .rows 1 (ws.map irow), .rows 6 ((cs ++ [(⟨k, o, u, args, nn, m⟩ : Cell)]).map Cell.row), .rows 1 (args.map irow)]) := by
 refine ACalls.of Try.func32 rfl rfl rfl (n := 20) (by decide) (Nat.le_of_ble_eq_true rfl) (AWp.sr (AOps.box 103 rfl rfl rfl rfl rfl (by decide) ?_))
 refine AOps.nil (AWp.sr ?_)
 refine .fa fl39_3 ?_
 refine .ld sh22 ?_
 refine AOps.callLP [3] ok68 (cloneInt_spec (l := args) ((by omega))) rfl (.lend rfl rfl (lend_le (by omega)) (lend_eq (by omega)) .nil) (lend1 rfl (owns_map irow_frees)) (by decide) rfl (plainr_map irow_plains _) ?_
 refine .fa fl39_3 ?_
 refine AOps.sh (Sh.freezeE (d := 6) (args.map irow) rfl (by first | rfl | exact rep_map rfl) (Frees.map irow_frees)) (AOps.storeC si22 rfl rfl rfl rfl rfl rfl (Nat.le_of_ble_eq_true rfl) rfl (AOps.nil ?_))
 refine AWp.regionHeldJ0 (⟨[], [(0, .cells [.v (.string nm), .slc 1 1 0 ws.length, .slc 2 6 0 ((cs ++ ([(⟨k, o, u, args, nn, m⟩ : Cell)] : List Cell)).length), .v (.slice none 0 0), .v (.slice none 0 0), .v (.slice none 0 0), .v (.slice none 0 0), .v (.slice none 0 0), .v (.int .i64 fz), .v (.int .i64 dn), .fz 1 (rl.map irow)]), (1, .rows 1 (ws.map irow)), (2, .rows 6 ((cs ++ ([(⟨k, o, u, args, nn, m⟩ : Cell)] : List Cell)).map Cell.row)), (3, .rows 1 (args.map irow))]⟩) rfl ?_ ?_
 refine AFirst.blind 0 rfl (by kernel_rfl) (Blind.move rfl rfl) (by decide) (AFirst.blind 1 rfl (by kernel_rfl) (Blind.move rfl rfl) (by decide) (AFirst.blind 2 rfl (by kernel_rfl) (Blind.nilCheck rfl rfl) (by decide) ?_))
 refine AFirst.blind 3 rfl (by kernel_rfl) (Blind.fieldAddr fl53_0 rfl rfl) (by decide) (AFirst.blind 4 rfl (by kernel_rfl) (Blind.fieldAddr fl27_2 rfl rfl) (by decide) (AFirst.go0 ?_))
 refine AHeld.two 5 6 rfl rfl (by kernel_rfl) ?_ ?_
 refine .ld sh23 ?_
 refine AOps.nil ⟨rfl, ?_⟩
 refine AHeld.one 6 rfl (by kernel_rfl) (.vl (Y.loadA sh39 rfl rfl (Nat.le_of_ble_eq_true rfl) rfl rfl) ?_)
 refine AOps.nil ⟨rfl, ?_⟩
 refine AHeld.one 7 rfl (by kernel_rfl) ?_
 refine AOps.buildSlice (([(⟨k, o, u, args, nn, m⟩ : Cell)] : List Cell).map Cell.row) sl23 ze39 rfl rfl rfl rfl rfl (uniform_map (s := 6) (f := Cell.row) (fun _ => rfl)) rfl rfl rfl (by decide) ?_
 refine AOps.nil ⟨rfl, ?_⟩
 refine AHeld.one 8 rfl (by kernel_rfl) ?_
 refine AOps.appendE ((cs ++ ([(⟨k, o, u, args, nn, m⟩ : Cell)] : List Cell)).map Cell.row) (cs ++ ([(⟨k, o, u, args, nn, m⟩ : Cell)] : List Cell)).length sl23 ze39 rfl rfl rfl rfl (app_le (by first | omega | simp [-List.getD_eq_getElem?_getD] <;> omega)) (app_map (by first | omega | simp [-List.getD_eq_getElem?_getD] <;> omega)) (app_n (by first | omega | simp [-List.getD_eq_getElem?_getD] <;> omega)) (by first | omega | simp [-List.getD_eq_getElem?_getD] <;> omega) (by first | omega | simp [-List.getD_eq_getElem?_getD] <;> omega) (by decide) (by decide) ?_
 refine AOps.nil ⟨rfl, ?_⟩
 refine AHeld.one 9 rfl (by kernel_rfl) (.vl (Y.nilCheck rfl rfl) ?_)
 refine AOps.nil ⟨rfl, ?_⟩
 refine AHeld.one 10 rfl (by kernel_rfl) ?_
 refine .fa fl53_0 ?_
 refine AOps.nil ⟨rfl, ?_⟩
 refine AHeld.one 11 rfl (by kernel_rfl) ?_
 refine .fa fl27_2 ?_
 refine AOps.nil ⟨rfl, ?_⟩
 refine AHeld.one 12 rfl (by kernel_rfl) (AOps.storeC si23 rfl rfl rfl rfl rfl rfl (Nat.le_of_ble_eq_true rfl) rfl ?_)
 refine AOps.nil ⟨rfl, ?_⟩
 refine AHeld.done (by kernel_rfl) ?_
 exact Le.mk (.nil) (.c (.c (.c (.c (.nil)))))
 refine .vl (Y.loadA sh39 rfl rfl (Nat.le_of_ble_eq_true rfl) rfl rfl) ?_
 refine AOps.nil ⟨rfl, ?_⟩
 refine AHeld.two 5 7 rfl rfl (by kernel_rfl) ?_ ?_
 refine .ld sh23 ?_
 refine AOps.nil ⟨rfl, ?_⟩
 refine AHeld.one 7 rfl (by kernel_rfl) ?_
 refine AOps.buildSlice (([(⟨k, o, u, args, nn, m⟩ : Cell)] : List Cell).map Cell.row) sl23 ze39 rfl rfl rfl rfl rfl (uniform_map (s := 6) (f := Cell.row) (fun _ => rfl)) rfl rfl rfl (by decide) ?_
 refine AOps.nil ⟨rfl, ?_⟩
 refine AHeld.one 8 rfl (by kernel_rfl) ?_
 refine AOps.appendE ((cs ++ ([(⟨k, o, u, args, nn, m⟩ : Cell)] : List Cell)).map Cell.row) (cs ++ ([(⟨k, o, u, args, nn, m⟩ : Cell)] : List Cell)).length sl23 ze39 rfl rfl rfl rfl (app_le (by first | omega | simp [-List.getD_eq_getElem?_getD] <;> omega)) (app_map (by first | omega | simp [-List.getD_eq_getElem?_getD] <;> omega)) (app_n (by first | omega | simp [-List.getD_eq_getElem?_getD] <;> omega)) (by first | omega | simp [-List.getD_eq_getElem?_getD] <;> omega) (by first | omega | simp [-List.getD_eq_getElem?_getD] <;> omega) (by decide) (by decide) ?_
 refine AOps.nil ⟨rfl, ?_⟩
 refine AHeld.one 9 rfl (by kernel_rfl) (.vl (Y.nilCheck rfl rfl) ?_)
 refine AOps.nil ⟨rfl, ?_⟩
 refine AHeld.one 10 rfl (by kernel_rfl) ?_
 refine .fa fl53_0 ?_
 refine AOps.nil ⟨rfl, ?_⟩
 refine AHeld.one 11 rfl (by kernel_rfl) ?_
 refine .fa fl27_2 ?_
 refine AOps.nil ⟨rfl, ?_⟩
 refine AHeld.one 12 rfl (by kernel_rfl) (AOps.storeC si23 rfl rfl rfl rfl rfl rfl (Nat.le_of_ble_eq_true rfl) rfl ?_)
 refine AOps.nil ⟨rfl, ?_⟩
 refine AHeld.done (by kernel_rfl) ?_
 exact Le.mk (.nil) (.c (.c (.c (.c (.nil)))))
 refine AOps.buildSlice (([(⟨k, o, u, args, nn, m⟩ : Cell)] : List Cell).map Cell.row) sl23 ze39 rfl rfl rfl rfl rfl (uniform_map (s := 6) (f := Cell.row) (fun _ => rfl)) rfl rfl rfl (by decide) ?_
 refine AOps.nil ⟨rfl, ?_⟩
 refine AHeld.one 5 rfl (by kernel_rfl) ?_
 refine .ld sh23 ?_
 refine AOps.nil ⟨rfl, ?_⟩
 refine AHeld.one 8 rfl (by kernel_rfl) ?_
 refine AOps.appendE ((cs ++ ([(⟨k, o, u, args, nn, m⟩ : Cell)] : List Cell)).map Cell.row) (cs ++ ([(⟨k, o, u, args, nn, m⟩ : Cell)] : List Cell)).length sl23 ze39 rfl rfl rfl rfl (app_le (by first | omega | simp [-List.getD_eq_getElem?_getD] <;> omega)) (app_map (by first | omega | simp [-List.getD_eq_getElem?_getD] <;> omega)) (app_n (by first | omega | simp [-List.getD_eq_getElem?_getD] <;> omega)) (by first | omega | simp [-List.getD_eq_getElem?_getD] <;> omega) (by first | omega | simp [-List.getD_eq_getElem?_getD] <;> omega) (by decide) (by decide) ?_
 refine AOps.nil ⟨rfl, ?_⟩
 refine AHeld.one 9 rfl (by kernel_rfl) (.vl (Y.nilCheck rfl rfl) ?_)
 refine AOps.nil ⟨rfl, ?_⟩
 refine AHeld.one 10 rfl (by kernel_rfl) ?_
 refine .fa fl53_0 ?_
 refine AOps.nil ⟨rfl, ?_⟩
 refine AHeld.one 11 rfl (by kernel_rfl) ?_
 refine .fa fl27_2 ?_
 refine AOps.nil ⟨rfl, ?_⟩
 refine AHeld.one 12 rfl (by kernel_rfl) (AOps.storeC si23 rfl rfl rfl rfl rfl rfl (Nat.le_of_ble_eq_true rfl) rfl ?_)
 refine AOps.nil ⟨rfl, ?_⟩
 refine AHeld.done (by kernel_rfl) ?_
 exact Le.mk (.nil) (.c (.c (.c (.c (.nil)))))
 exact ⟨_, _, rfl, rfl, rfl, rfl⟩
theorem anyNil_spec {nm : ByteArray} {ws : List Int} {cs : List Cell} {fz dn : Int} {rl : List Int} (hB : Bd (bn ws cs)) (hws : ws.length ≤ 1000) (hcs : cs.length ≤ 1000) : ACalls Try.prog 28 [.ptr 0 0 0 0, .v (.slice none 0 0)] [.cells [.v (.string nm), .slc 1 1 0 ws.length, .slc 2 6 0 cs.length, .v (.slice none 0 0), .v (.slice none 0 0), .v (.slice none 0 0), .v (.slice none 0 0), .v (.slice none 0 0), vi fz, vi dn, .fz 1 (rl.map irow)], .rows 1 (ws.map irow), .rows 6 (cs.map Cell.row)] [0] (fun r o => ∃ (ws2 : List Int) (cs2 : List Cell) (x2 : Int), BSt ws cs 1 ws2 cs2 ∧ Bit ws2 x2 ∧ (True) ∧ r = (vi x2) ∧ o = [.cells [.v (.string nm), .slc 1 1 0 ws2.length, .slc 2 6 0 cs2.length, .v (.slice none 0 0), .v (.slice none 0 0), .v (.slice none 0 0), .v (.slice none 0 0), .v (.slice none 0 0), vi fz, vi dn, .fz 1 (rl.map irow)], .rows 1 (ws2.map irow), .rows 6 (cs2.map Cell.row)]) := by
 refine ACalls.of Try.func28 rfl rfl rfl (n := 34) (by decide) (Nat.le_of_ble_eq_true rfl) (AWp.sr ?_)
 refine .an ?_
 refine AOps.nil (AWp.seq (AWp.sr ?_))
 refine .mv ?_
 refine .vl (Y.len (n := 0) sl22 rfl rfl) (AOps.nil (AWp.block ?_))
 refine AWp.sr (.vl (Y.eql rfl rfl) ?_)
 refine .an ?_
 refine AOps.nil (AWp.condT rfl (AWp.sr ?_))
 refine .mv ?_
 refine AOps.callO [0, 1, 2] [] ok25 (const_spec (w := 1) (x := 0) (ws := ws) (cs := cs) (nm := nm) (fz := fz) (dn := dn) (rl := rl) (by omega) (by omega) (by omega)) rfl (.named rfl rfl (.keep rfl rfl (.keep rfl rfl .nil))) ⟨rfl, rfl, rfl, trivial⟩ rfl (by decide) (fun _ h => by cases h) (fun _ h => by cases h) (by decide) (by decide) ?_
 rintro r objs' ⟨rfl, rfl⟩ _
 refine ⟨⟨rfl, (by intro ob hob; simp only [List.mem_cons, List.not_mem_nil, or_false] at hob; rcases hob with rfl | rfl | rfl <;> rfl), .inl rfl⟩, ?_⟩
 refine .an ?_
 refine AOps.nil (AWp.ret ?_)
 exact ⟨_, _, rfl, rfl, ws ++ [1], cs ++ [(⟨1, 0, ((ws).length : Int), [], fitN 1 0, 0⟩ : Cell)], (((ws).length : Nat) : Int), BSt.one (hB.const one_wide), Bit.new, trivial, rfl, rfl⟩
end Go.Proofs.Ytligpghohcfpnaa
/- The method All, whatever the number of its wires. -/
namespace Go.Proofs.Ytligpghohcfpnaa
open Go Go.AW Go.Proofs
theorem allB_spec : ∀ (m : Nat) {nm : ByteArray} {ws : List Int} {cs : List Cell} {fz dn : Int} {rl : List Int} {wires : List Int}, Bd (bn ws cs) → ws.length + 2 * wires.length ≤ 1000 → cs.length + 2 * wires.length ≤ 1000 → (∀ x ∈ wires, Bit ws x) → wires.length ≤ m → ACalls Try.prog 29 [.ptr 0 0 0 0, .fz 1 (wires.map irow)] [.cells [.v (.string nm), .slc 1 1 0 ws.length, .slc 2 6 0 cs.length, .v (.slice none 0 0), .v (.slice none 0 0), .v (.slice none 0 0), .v (.slice none 0 0), .v (.slice none 0 0), .v (.int .i64 fz), .v (.int .i64 dn), .fz 1 (rl.map irow)], .rows 1 (ws.map irow), .rows 6 (cs.map Cell.row)] [0] (fun r o => ∃ (ws2 : List Int) (cs2 : List Cell) (x2 : Int), BSt ws cs (wires.length - 1 + (1 - wires.length)) ws2 cs2 ∧ Bit ws2 x2 ∧ (wires.length = 1 → x2 = wires.getD 0 0) ∧ r = .v (.int .i64 x2) ∧ o = [.cells [.v (.string nm), .slc 1 1 0 ws2.length, .slc 2 6 0 cs2.length, .v (.slice none 0 0), .v (.slice none 0 0), .v (.slice none 0 0), .v (.slice none 0 0), .v (.slice none 0 0), .v (.int .i64 fz), .v (.int .i64 dn), .fz 1 (rl.map irow)], .rows 1 (ws2.map irow), .rows 6 (cs2.map Cell.row)])
 | 0, _, _, _, _, _, _, _, hB, hws, hcs, hb, hl => all_step (m := 0) (fun _ _ _ _ h => absurd h (by omega)) hB hws hcs hb hl
 | m + 1, _, _, _, _, _, _, _, hB, hws, hcs, hb, hl => all_step (m := m + 1) (fun a b c d e => allB_spec m a b c d (by omega)) hB hws hcs hb hl
end Go.Proofs.Ytligpghohcfpnaa
/- Cones: what a search marks, in plain Lean. -/
namespace Go.Proofs.Ytligpghohcfpnaa
open Go Go.AW

inductive Rch (n : Netlist) (ws : List Int) : Int → Prop where
 | root {w i : Int} (hw : w ∈ ws) (h : Drives n i w) : Rch n ws i
 | step {i x j : Int} (hi : Rch n ws i) (hc : Comb (n.cell i).kind) (hx : x ∈ (n.cell i).args) (h : Drives n j x) : Rch n ws j
def unseen (l : List Bool) : Nat := l.countP (fun b => !b)
theorem unseen_le (l : List Bool) : unseen l ≤ l.length := List.countP_le_length
structure Srch (n : Netlist) (by_ ws : List Int) (l : List Int) (seen : List Bool) : Prop where
 len : seen.length = n.cells.length
 rng : ∀ w ∈ l, In w n.widths.length
 snd : ∀ w ∈ l, ∀ i, Drives n i w → Rch n ws i
 mrk : ∀ i : Nat, i < n.cells.length → seen.getD i false = true → Rch n ws i
 root : ∀ w ∈ ws, seen.getD (by_.getD w.toNat 0).toNat false = true ∨ w ∈ l
 clo : ∀ i : Nat, i < n.cells.length → seen.getD i false = true → Comb (n.cells.getD i default).kind → ∀ x ∈ (n.cells.getD i default).args, seen.getD (by_.getD x.toNat 0).toNat false = true ∨ x ∈ l
 sz : l.length + 4 * unseen seen ≤ ws.length + 4 * n.cells.length
theorem getD_rep {k i : Nat} : (List.replicate k false).getD i false = false := by
 rw [List.getD_eq_getElem?_getD]
 by_cases h : i < k
 ·rw [List.getElem?_eq_getElem (by simpa using h)]; simp
 ·rw [List.getElem?_eq_none (by simpa using h)]; rfl
theorem Srch.init {n : Netlist} {by_ ws : List Int} (hw : ∀ w ∈ ws, In w n.widths.length) : Srch n by_ ws ws (List.replicate n.cells.length false) where
 len := by simp
 rng := hw
 snd := fun w hw i hi => .root hw hi
 mrk := fun i _ h => by rw [getD_rep] at h; cases h
 root := fun w hw => .inr hw
 clo := fun i _ h => by rw [getD_rep] at h; cases h
 sz := by have := unseen_le (List.replicate n.cells.length false); simp at this; omega
section
variable {n : Netlist} {by_ ws l : List Int} {seen : List Bool}
theorem take_last {l : List Int} (h : 0 < l.length) {x : Int} (hx : x ∈ l) : x = l.getD (l.length - 1) 0 ∨ x ∈ l.take (l.length - 1) := by
 obtain ⟨i, hi, rfl⟩ := List.mem_iff_getElem.1 hx
 by_cases e : i = l.length - 1
 ·left; subst e; rw [List.getD_eq_getElem?_getD, List.getElem?_eq_getElem hi]; rfl
 ·right
  refine List.mem_iff_getElem.2 ⟨i, by simp; omega, by simp⟩
theorem Srch.skip (h : Srch n by_ ws l seen) (h0 : 0 < l.length) (hs : seen.getD (by_.getD (l.getD (l.length - 1) 0).toNat 0).toNat false = true) : Srch n by_ ws (l.take (l.length - 1)) seen where
 len := h.len
 rng := fun w hw => h.rng w (List.mem_of_mem_take hw)
 snd := fun w hw => h.snd w (List.mem_of_mem_take hw)
 mrk := h.mrk
 root := fun w hw => by
  rcases h.root w hw with h1 | h1
  ·exact .inl h1
  ·rcases take_last h0 h1 with h2 | h2
   ·exact .inl (by rw [h2]; exact hs)
   ·exact .inr h2
 clo := fun i hi hm hc x hx => by
  rcases h.clo i hi hm hc x hx with h1 | h1
  ·exact .inl h1
  ·rcases take_last h0 h1 with h2 | h2
   ·exact .inl (by rw [h2]; exact hs)
   ·exact .inr h2
 sz := by have := h.sz; simp only [List.length_take]; omega
theorem natsub {a b : Nat} (h : b ≤ a ∧ a ≤ 4611686018427387904) : IntKind.i64.wrap ((a : Int) - (b : Int)) = ((a - b : Nat) : Int) := by
 rw [show ((a : Int) - (b : Int)) = ((a - b : Nat) : Int) by omega]
 exact IntWalk.i64_in _ (by omega)
def ConeL (n : Netlist) (ws : List Int) (seen : List Bool) : Prop := seen.length = n.cells.length ∧ ∀ i : Nat, i < n.cells.length → (seen.getD i false = true ↔ Rch n ws i)
theorem Srch.done (hb : DrvBy n by_) (hf : Formed n) (h : Srch n by_ ws l seen) (h0 : l.length = 0) (hw : ∀ w ∈ ws, In w n.widths.length) : ConeL n ws seen := by
 have hl : l = [] := List.eq_nil_of_length_eq_zero h0
 subst hl
 refine ⟨h.len, fun i hi => ⟨h.mrk i hi, fun hr => ?_⟩⟩
 have key : ∀ j : Int, Rch n ws j → 0 ≤ j ∧ j < n.cells.length ∧ seen.getD j.toNat false = true := by
  intro j hj
  induction hj with
  | root hw' hd =>
   rcases h.root _ hw' with h1 | h1
   ·rw [hf.unique (hb.drv _ (hw _ hw')) hd] at h1
    exact ⟨hd.1.1, hd.1.2, h1⟩
   ·cases h1
  | @step i x j hi hc hx hd ih =>
   rcases h.clo i.toNat (by omega) ih.2.2 hc x hx with h1 | h1
   ·rw [hf.unique (hb.drv _ (hf.argIn ⟨ih.1, ih.2.1⟩ hx)) hd] at h1
    exact ⟨hd.1.1, hd.1.2, h1⟩
   ·cases h1
 exact (key _ hr).2.2
end
end Go.Proofs.Ytligpghohcfpnaa
/- The walk of NetlistBuilds. -/
namespace Go.Proofs.Ytligpghohcfpnaa
open Go Go.AW Go.Proofs
theorem netlistBuilds_spec {words : List Nat} {op : Nat} (hwd : ∀ x ∈ words, x < 18446744073709551616) : ACalls Try.prog 7 [.fz 1 (words.map u64row), .v (.int .u8 (op : Int))] [] [] (fun r o => r = .v (.bool true) ∧ o = []) := by
 refine ACalls.of Try.func7 rfl rfl rfl (n := 209) (by decide) (Nat.le_of_ble_eq_true rfl) (AWp.sr ?_)
 refine .an ?_
 refine AOps.nil (AWp.seq (AWp.sr ?_))
 refine AOps.callP ok15 (awake_spec) rfl .nil (by decide) rfl (.vl (Y.not rfl) ?_)
 refine .mv ?_
 refine .gw 21 (Y.move rfl rfl) (.gw 21 (Y.len (n := words.length) sl51 rfl (congrArg some (List.length_map ..))) (.gw 21 (Y.gtr rfl rfl) ?_))
 refine .pk ?_
 refine AOps.nil ?_
 refine AWp.condD rfl (fun c25 => ?_) (fun c25 => ?_)
 refine AWp.sr (AOps.callP ok15 (awake_spec) rfl .nil (by decide) rfl ?_)
 refine .an ?_
 refine AOps.nil (AWp.ret ?_)
 exact .rb rfl (rfl)
 refine AWp.skip (AWp.sr (AOps.alloc 105 ze53 rfl rfl (by decide) ?_))
 refine AOps.nil (AWp.sr ?_)
 refine .fa fl53_0 ?_
 refine .fa fl27_0 ?_
 refine AOps.storeC si9 rfl rfl rfl rfl rfl rfl (Nat.le_of_ble_eq_true rfl) rfl (AOps.nil (AWp.seq ?_))
 refine AWp.sh (Sh.nilCell 105 301 1 1 rfl rfl rfl rfl (by decide)) (AWp.sh (Sh.nilCell 105 302 6 2 rfl rfl rfl rfl (by decide)) (AWp.sh (Sh.fzCell 105 1 10 rfl rfl rfl) ?_))
 refine AWp.region ?_
 refine .an ?_
 refine AOps.sh (Sh.nil (d := 6) 106 1 rfl (by decide)) ?_
 refine .an ?_
 refine AOps.sh (Sh.nil (d := 7) 107 1 rfl (by decide)) (AOps.nil (AWp.seq ?_))
 refine AWp.sr ?_
 refine .mv ?_
 refine .vl (Y.len (n := words.length) sl51 rfl (congrArg some (List.length_map ..))) ?_
 refine .mv ?_
 refine AOps.nil (AWp.block ?_)
 refine AWp.loop5 (fun (n31_7 : Nat) (l6_7 : List Int) (bits7_7 : List Int) (n201_7 : List Int) (n202_7 : List Cell) => ⟨[(0, .fz 1 (words.map u64row)), (5, .ptr 105 0 0 0), (6, .slc 106 1 0 l6_7.length), (7, .slc 107 1 0 bits7_7.length), (30, vi ((words.length : Nat) : Int)), (31, vi (n31_7 : Int))], [(105, .cells [.v (.string xB), .slc 301 1 0 n201_7.length, .slc 302 6 0 n202_7.length, .v (.slice none 0 0), .v (.slice none 0 0), .v (.slice none 0 0), .v (.slice none 0 0), .v (.slice none 0 0), vi 0, vi 0, .fz 1 (([] : List Int).map irow)]), (106, .rows 1 (l6_7.map irow)), (107, .rows 1 (bits7_7.map irow)), (301, .rows 1 (n201_7.map irow)), (302, .rows 6 (n202_7.map Cell.row))]⟩) (fun (n31_7 : Nat) (l6_7 : List Int) (bits7_7 : List Int) (n201_7 : List Int) (n202_7 : List Cell) => ((n31_7 : Int) ≤ ((words.length : Nat) : Int)) ∧ (Bd (bn n201_7 n202_7)) ∧ (n201_7.length = 2 * n31_7) ∧ (n202_7.length = 2 * n31_7) ∧ (∀ x ∈ l6_7, In x n201_7.length) ∧ (l6_7.length = n31_7) ∧ (∀ x ∈ bits7_7, Bit n201_7 x) ∧ (bits7_7.length = n31_7)) (fun (n31_7 : Nat) (l6_7 : List Int) (bits7_7 : List Int) (n201_7 : List Int) (n202_7 : List Cell) => (((words.length : Nat) : Int) - (n31_7 : Int)).toNat) 0 ([] : List Int) ([] : List Int) ([] : List Int) ([] : List Cell) (⟨by first | omega | (simp [-List.getD_eq_getElem?_getD]; done) | (simp [-List.getD_eq_getElem?_getD]; omega), Bd.nil, rfl, rfl, fun x h => (by cases h), rfl, fun x h => (by cases h), rfl⟩) (Le.mk (.c (.c (.cons (look_slc rfl (by first | omega | simp [-List.getD_eq_getElem?_getD] <;> omega)) (.cons (look_slc rfl (by first | omega | simp [-List.getD_eq_getElem?_getD] <;> omega)) (.c (.cons (look_int rfl (by first | rfl | omega)) (.nil))))))) (.cons (look_cells rfl (by first | rfl | (simp only [List.cons.injEq, X.v.injEq, X.slc.injEq, Value.int.injEq, and_true, true_and]; omega) | simp_all)) (.c (.c (.c (.c (.nil))))))) (fun n31_7 l6_7 bits7_7 n201_7 n202_7 hI7 => ?_)
 obtain ⟨hb7, hB, hwl, hcl, hl, hll, hb, hbl⟩ := hI7
 refine AWp.sr (.vl (Y.lss rfl rfl) (AOps.nil ?_))
 refine AWp.seq ?_
 refine AWp.condD rfl (fun c32 => ?_) (fun c32 => ?_)
 refine AWp.skip (AWp.seq (AWp.block ?_))
 refine AWp.sr ?_
 refine .mv ?_
 refine .an ?_
 refine AOps.nil (AWp.sr ?_)
 refine .mv ?_
 refine .vl (Y.remI rfl rfl (by first | omega | simp [-List.getD_eq_getElem?_getD] <;> omega)) ?_
 refine .vl (Y.addI rfl rfl (by omega)) ?_
 refine .an ?_
 refine AOps.nil (AWp.seq ?_)
 have hx64 := hwd (words.getD n31_7 0) (getD_in (by omega))
 have hw64 : Wide (1 + ((n31_7 : Int) % 64)) := ⟨by omega, by omega⟩
 have hB2 := hB.const (x := words.getD n31_7 0) hw64
 have hB3 := Bd.op2 (op := 15) hB2 one_wide (a := ((n201_7.length : Nat) : Int)) (b := ((n201_7.length : Nat) : Int)) ⟨by omega, by simp; omega⟩ ⟨by omega, by simp; omega⟩ (by decide) (.inl ⟨by decide, rfl, rfl⟩)
 refine AWp.region ?_
 refine .mv ?_
 refine .mv ?_
 refine .mv ?_
 refine .vl (Y.indexF (m := n31_7) sl51 rfl rfl (by first | rfl | omega) (row_getD (d := 0) (by omega))) ?_
 refine .ld sh37 ?_
 refine AOps.callO [105, 301, 302] [] ok25 (const_spec (w := 1 + ((n31_7 : Int) % 64)) (x := words.getD n31_7 0) (ws := n201_7) (cs := n202_7) (nm := xB) (fz := 0) (dn := 0) (rl := ([] : List Int)) (by omega) (by omega) (by omega)) rfl (.named rfl rfl (.keep rfl rfl (.keep rfl rfl .nil))) ⟨rfl, rfl, rfl, trivial⟩ rfl (by decide) (fun _ h => by cases h) (fun _ h => by cases h) (by decide) (by decide) ?_
 rintro r objs' ⟨rfl, rfl⟩ _
 refine ⟨⟨rfl, (by intro ob hob; simp only [List.mem_cons, List.not_mem_nil, or_false] at hob; rcases hob with rfl | rfl | rfl <;> rfl), .inl rfl⟩, ?_⟩
 refine .an ?_
 refine AOps.nil (AWp.sr ?_)
 refine .fa fl53_0 ?_
 refine .fa fl27_2 ?_
 refine .ld sh23 ?_
 refine .fa fl53_0 ?_
 refine .fa fl27_2 ?_
 refine .ld sh23 ?_
 refine .vl (Y.len (n := (n202_7 ++ [(⟨1, 0, ((n201_7).length : Int), [], fitN (1 + ((n31_7 : Int) % 64)) (words.getD n31_7 0), 0⟩ : Cell)]).length) sl23 rfl rfl) (.vl (Y.sub rfl rfl (natsub (a := (n202_7 ++ [(⟨1, 0, ((n201_7).length : Int), [], fitN (1 + ((n31_7 : Int) % 64)) (words.getD n31_7 0), 0⟩ : Cell)]).length) (b := 1) (by first | omega | (simp; omega)))) ?_)
 refine .vl (Y.indexO (m := ((n202_7 ++ [(⟨1, 0, ((n201_7).length : Int), [], fitN (1 + ((n31_7 : Int) % 64)) (words.getD n31_7 0), 0⟩ : Cell)]).length) - 1) sl23 rfl rfl (by first | rfl | omega) (by first | omega | simp [-List.getD_eq_getElem?_getD] <;> omega)) ?_
 refine .vl (Y.loadA sh39 rfl (row_getD0 (d := default) (by first | omega | simp [-List.getD_eq_getElem?_getD] <;> omega)) (Nat.le_of_ble_eq_true rfl) rfl rfl) ?_
 refine AOps.alloc 111 ze39 rfl rfl (by decide) (AOps.storeC si39 rfl rfl rfl rfl rfl rfl (Nat.le_of_ble_eq_true rfl) rfl (AOps.nil ?_))
 refine AWp.join0 (⟨[(0, .fz 1 (words.map u64row)), (5, .ptr 105 0 0 0), (6, .slc 106 1 0 l6_7.length), (7, .slc 107 1 0 bits7_7.length), (10, vi (((n201_7).length : Nat) : Int)), (30, vi ((words.length : Nat) : Int)), (31, vi (n31_7 : Int)), (61, .ptr 105 0 0 0), (62, .ptr 105 0 0 1), (63, .slc 301 1 0 ((n201_7 ++ [1 + ((n31_7 : Int) % 64)]).length)), (64, vi (((n201_7).length : Nat) : Int)), (65, .ptr 301 1 (0 + ((n201_7).length)) 0), (66, vi ((n201_7 ++ [1 + ((n31_7 : Int) % 64)]).getD ((n201_7).length) 0)), (67, vi (1 + ((n31_7 : Int) % 64))), (68, .v (.bool (decide (((n201_7 ++ [1 + ((n31_7 : Int) % 64)]).getD ((n201_7).length) 0) ≠ (1 + ((n31_7 : Int) % 64)))))), (71, .ptr 111 0 0 0), (72, vi (((n202_7 ++ [(⟨1, 0, ((n201_7).length : Int), [], fitN (1 + ((n31_7 : Int) % 64)) (words.getD n31_7 0), 0⟩ : Cell)]).getD (((n202_7 ++ [(⟨1, 0, ((n201_7).length : Int), [], fitN (1 + ((n31_7 : Int) % 64)) (words.getD n31_7 0), 0⟩ : Cell)]).length) - 1) default).kind)), (73, .v (.bool (decide ((((n202_7 ++ [(⟨1, 0, ((n201_7).length : Int), [], fitN (1 + ((n31_7 : Int) % 64)) (words.getD n31_7 0), 0⟩ : Cell)]).getD (((n202_7 ++ [(⟨1, 0, ((n201_7).length : Int), [], fitN (1 + ((n31_7 : Int) % 64)) (words.getD n31_7 0), 0⟩ : Cell)]).length) - 1) default).kind) ≠ 1)))), (76, .ptr 111 0 0 2), (77, vi (((n202_7 ++ [(⟨1, 0, ((n201_7).length : Int), [], fitN (1 + ((n31_7 : Int) % 64)) (words.getD n31_7 0), 0⟩ : Cell)]).getD (((n202_7 ++ [(⟨1, 0, ((n201_7).length : Int), [], fitN (1 + ((n31_7 : Int) % 64)) (words.getD n31_7 0), 0⟩ : Cell)]).length) - 1) default).out)), (78, vi (((n201_7).length : Nat) : Int)), (79, .v (.bool (decide ((((n202_7 ++ [(⟨1, 0, ((n201_7).length : Int), [], fitN (1 + ((n31_7 : Int) % 64)) (words.getD n31_7 0), 0⟩ : Cell)]).getD (((n202_7 ++ [(⟨1, 0, ((n201_7).length : Int), [], fitN (1 + ((n31_7 : Int) % 64)) (words.getD n31_7 0), 0⟩ : Cell)]).length) - 1) default).out) ≠ (((n201_7).length : Nat) : Int))))), (82, .ptr 111 0 0 4), (83, .v (.int .u64 ((((n202_7 ++ [(⟨1, 0, ((n201_7).length : Int), [], fitN (1 + ((n31_7 : Int) % 64)) (words.getD n31_7 0), 0⟩ : Cell)]).getD (((n202_7 ++ [(⟨1, 0, ((n201_7).length : Int), [], fitN (1 + ((n31_7 : Int) % 64)) (words.getD n31_7 0), 0⟩ : Cell)]).length) - 1) default).num : Nat) : Int))), (84, vi (1 + ((n31_7 : Int) % 64))), (85, .fz 1 (words.map u64row)), (86, vi (n31_7 : Int)), (87, .fp (u64row (words.getD n31_7 0)) 0), (88, .v (.int .u64 ((words.getD n31_7 0 : Nat) : Int))), (89, .v (.int .u64 ((fitN (1 + ((n31_7 : Int) % 64)) (words.getD n31_7 0) : Nat) : Int))), (90, .v (.bool (decide (((((n202_7 ++ [(⟨1, 0, ((n201_7).length : Int), [], fitN (1 + ((n31_7 : Int) % 64)) (words.getD n31_7 0), 0⟩ : Cell)]).getD (((n202_7 ++ [(⟨1, 0, ((n201_7).length : Int), [], fitN (1 + ((n31_7 : Int) % 64)) (words.getD n31_7 0), 0⟩ : Cell)]).length) - 1) default).num : Nat) : Int) ≠ ((fitN (1 + ((n31_7 : Int) % 64)) (words.getD n31_7 0) : Nat) : Int)))))], [(105, .cells [.v (.string xB), .slc 301 1 0 ((n201_7 ++ [1 + ((n31_7 : Int) % 64)]).length), .slc 302 6 0 ((n202_7 ++ [(⟨1, 0, ((n201_7).length : Int), [], fitN (1 + ((n31_7 : Int) % 64)) (words.getD n31_7 0), 0⟩ : Cell)]).length), .v (.slice none 0 0), .v (.slice none 0 0), .v (.slice none 0 0), .v (.slice none 0 0), .v (.slice none 0 0), vi 0, vi 0, .fz 1 (([] : List Int).map irow)]), (106, .rows 1 (l6_7.map irow)), (107, .rows 1 (bits7_7.map irow)), (111, .cells [vi (((n202_7 ++ [(⟨1, 0, ((n201_7).length : Int), [], fitN (1 + ((n31_7 : Int) % 64)) (words.getD n31_7 0), 0⟩ : Cell)]).getD (((n202_7 ++ [(⟨1, 0, ((n201_7).length : Int), [], fitN (1 + ((n31_7 : Int) % 64)) (words.getD n31_7 0), 0⟩ : Cell)]).length) - 1) default).kind), vi (((n202_7 ++ [(⟨1, 0, ((n201_7).length : Int), [], fitN (1 + ((n31_7 : Int) % 64)) (words.getD n31_7 0), 0⟩ : Cell)]).getD (((n202_7 ++ [(⟨1, 0, ((n201_7).length : Int), [], fitN (1 + ((n31_7 : Int) % 64)) (words.getD n31_7 0), 0⟩ : Cell)]).length) - 1) default).op), vi (((n202_7 ++ [(⟨1, 0, ((n201_7).length : Int), [], fitN (1 + ((n31_7 : Int) % 64)) (words.getD n31_7 0), 0⟩ : Cell)]).getD (((n202_7 ++ [(⟨1, 0, ((n201_7).length : Int), [], fitN (1 + ((n31_7 : Int) % 64)) (words.getD n31_7 0), 0⟩ : Cell)]).length) - 1) default).out), .fz 1 ((((n202_7 ++ [(⟨1, 0, ((n201_7).length : Int), [], fitN (1 + ((n31_7 : Int) % 64)) (words.getD n31_7 0), 0⟩ : Cell)]).getD (((n202_7 ++ [(⟨1, 0, ((n201_7).length : Int), [], fitN (1 + ((n31_7 : Int) % 64)) (words.getD n31_7 0), 0⟩ : Cell)]).length) - 1) default).args).map irow), .v (.int .u64 ((((n202_7 ++ [(⟨1, 0, ((n201_7).length : Int), [], fitN (1 + ((n31_7 : Int) % 64)) (words.getD n31_7 0), 0⟩ : Cell)]).getD (((n202_7 ++ [(⟨1, 0, ((n201_7).length : Int), [], fitN (1 + ((n31_7 : Int) % 64)) (words.getD n31_7 0), 0⟩ : Cell)]).length) - 1) default).num : Nat) : Int)), vi (((n202_7 ++ [(⟨1, 0, ((n201_7).length : Int), [], fitN (1 + ((n31_7 : Int) % 64)) (words.getD n31_7 0), 0⟩ : Cell)]).getD (((n202_7 ++ [(⟨1, 0, ((n201_7).length : Int), [], fitN (1 + ((n31_7 : Int) % 64)) (words.getD n31_7 0), 0⟩ : Cell)]).length) - 1) default).mem)]), (301, .rows 1 ((n201_7 ++ [1 + ((n31_7 : Int) % 64)]).map irow)), (302, .rows 6 ((n202_7 ++ [(⟨1, 0, ((n201_7).length : Int), [], fitN (1 + ((n31_7 : Int) % 64)) (words.getD n31_7 0), 0⟩ : Cell)]).map Cell.row))]⟩) (((¬ ((((n201_7).length : Nat) : Int) ≠ ((((n201_7 ++ [1 + ((n31_7 : Int) % 64)]).length) - 1 : Nat) : Int))) ∧ (¬ (((n201_7 ++ [1 + ((n31_7 : Int) % 64)]).getD ((n201_7).length) 0) ≠ (1 + ((n31_7 : Int) % 64)))) ∧ (¬ ((((n202_7 ++ [(⟨1, 0, ((n201_7).length : Int), [], fitN (1 + ((n31_7 : Int) % 64)) (words.getD n31_7 0), 0⟩ : Cell)]).getD (((n202_7 ++ [(⟨1, 0, ((n201_7).length : Int), [], fitN (1 + ((n31_7 : Int) % 64)) (words.getD n31_7 0), 0⟩ : Cell)]).length) - 1) default).kind) ≠ 1)) ∧ (¬ ((((n202_7 ++ [(⟨1, 0, ((n201_7).length : Int), [], fitN (1 + ((n31_7 : Int) % 64)) (words.getD n31_7 0), 0⟩ : Cell)]).getD (((n202_7 ++ [(⟨1, 0, ((n201_7).length : Int), [], fitN (1 + ((n31_7 : Int) % 64)) (words.getD n31_7 0), 0⟩ : Cell)]).length) - 1) default).out) ≠ (((n201_7).length : Nat) : Int))) ∧ (¬ (((((n202_7 ++ [(⟨1, 0, ((n201_7).length : Int), [], fitN (1 + ((n31_7 : Int) % 64)) (words.getD n31_7 0), 0⟩ : Cell)]).getD (((n202_7 ++ [(⟨1, 0, ((n201_7).length : Int), [], fitN (1 + ((n31_7 : Int) % 64)) (words.getD n31_7 0), 0⟩ : Cell)]).length) - 1) default).num : Nat) : Int) ≠ ((fitN (1 + ((n31_7 : Int) % 64)) (words.getD n31_7 0) : Nat) : Int)))) ∨ ((¬ ((((n201_7).length : Nat) : Int) ≠ ((((n201_7 ++ [1 + ((n31_7 : Int) % 64)]).length) - 1 : Nat) : Int))) ∧ (¬ (((n201_7 ++ [1 + ((n31_7 : Int) % 64)]).getD ((n201_7).length) 0) ≠ (1 + ((n31_7 : Int) % 64)))) ∧ (¬ ((((n202_7 ++ [(⟨1, 0, ((n201_7).length : Int), [], fitN (1 + ((n31_7 : Int) % 64)) (words.getD n31_7 0), 0⟩ : Cell)]).getD (((n202_7 ++ [(⟨1, 0, ((n201_7).length : Int), [], fitN (1 + ((n31_7 : Int) % 64)) (words.getD n31_7 0), 0⟩ : Cell)]).length) - 1) default).kind) ≠ 1)) ∧ (¬ ((((n202_7 ++ [(⟨1, 0, ((n201_7).length : Int), [], fitN (1 + ((n31_7 : Int) % 64)) (words.getD n31_7 0), 0⟩ : Cell)]).getD (((n202_7 ++ [(⟨1, 0, ((n201_7).length : Int), [], fitN (1 + ((n31_7 : Int) % 64)) (words.getD n31_7 0), 0⟩ : Cell)]).length) - 1) default).out) ≠ (((n201_7).length : Nat) : Int))) ∧ (¬ (((((n202_7 ++ [(⟨1, 0, ((n201_7).length : Int), [], fitN (1 + ((n31_7 : Int) % 64)) (words.getD n31_7 0), 0⟩ : Cell)]).getD (((n202_7 ++ [(⟨1, 0, ((n201_7).length : Int), [], fitN (1 + ((n31_7 : Int) % 64)) (words.getD n31_7 0), 0⟩ : Cell)]).length) - 1) default).num : Nat) : Int) ≠ ((fitN (1 + ((n31_7 : Int) % 64)) (words.getD n31_7 0) : Nat) : Int)))) ∨ ((¬ ((((n201_7).length : Nat) : Int) ≠ ((((n201_7 ++ [1 + ((n31_7 : Int) % 64)]).length) - 1 : Nat) : Int))) ∧ (¬ (((n201_7 ++ [1 + ((n31_7 : Int) % 64)]).getD ((n201_7).length) 0) ≠ (1 + ((n31_7 : Int) % 64)))) ∧ (¬ ((((n202_7 ++ [(⟨1, 0, ((n201_7).length : Int), [], fitN (1 + ((n31_7 : Int) % 64)) (words.getD n31_7 0), 0⟩ : Cell)]).getD (((n202_7 ++ [(⟨1, 0, ((n201_7).length : Int), [], fitN (1 + ((n31_7 : Int) % 64)) (words.getD n31_7 0), 0⟩ : Cell)]).length) - 1) default).kind) ≠ 1)) ∧ (¬ ((((n202_7 ++ [(⟨1, 0, ((n201_7).length : Int), [], fitN (1 + ((n31_7 : Int) % 64)) (words.getD n31_7 0), 0⟩ : Cell)]).getD (((n202_7 ++ [(⟨1, 0, ((n201_7).length : Int), [], fitN (1 + ((n31_7 : Int) % 64)) (words.getD n31_7 0), 0⟩ : Cell)]).length) - 1) default).out) ≠ (((n201_7).length : Nat) : Int))) ∧ (¬ (((((n202_7 ++ [(⟨1, 0, ((n201_7).length : Int), [], fitN (1 + ((n31_7 : Int) % 64)) (words.getD n31_7 0), 0⟩ : Cell)]).getD (((n202_7 ++ [(⟨1, 0, ((n201_7).length : Int), [], fitN (1 + ((n31_7 : Int) % 64)) (words.getD n31_7 0), 0⟩ : Cell)]).length) - 1) default).num : Nat) : Int) ≠ ((fitN (1 + ((n31_7 : Int) % 64)) (words.getD n31_7 0) : Nat) : Int)))) ∨ ((¬ ((((n201_7).length : Nat) : Int) ≠ ((((n201_7 ++ [1 + ((n31_7 : Int) % 64)]).length) - 1 : Nat) : Int))) ∧ (¬ (((n201_7 ++ [1 + ((n31_7 : Int) % 64)]).getD ((n201_7).length) 0) ≠ (1 + ((n31_7 : Int) % 64)))) ∧ (¬ ((((n202_7 ++ [(⟨1, 0, ((n201_7).length : Int), [], fitN (1 + ((n31_7 : Int) % 64)) (words.getD n31_7 0), 0⟩ : Cell)]).getD (((n202_7 ++ [(⟨1, 0, ((n201_7).length : Int), [], fitN (1 + ((n31_7 : Int) % 64)) (words.getD n31_7 0), 0⟩ : Cell)]).length) - 1) default).kind) ≠ 1)) ∧ (¬ ((((n202_7 ++ [(⟨1, 0, ((n201_7).length : Int), [], fitN (1 + ((n31_7 : Int) % 64)) (words.getD n31_7 0), 0⟩ : Cell)]).getD (((n202_7 ++ [(⟨1, 0, ((n201_7).length : Int), [], fitN (1 + ((n31_7 : Int) % 64)) (words.getD n31_7 0), 0⟩ : Cell)]).length) - 1) default).out) ≠ (((n201_7).length : Nat) : Int))) ∧ (¬ (((((n202_7 ++ [(⟨1, 0, ((n201_7).length : Int), [], fitN (1 + ((n31_7 : Int) % 64)) (words.getD n31_7 0), 0⟩ : Cell)]).getD (((n202_7 ++ [(⟨1, 0, ((n201_7).length : Int), [], fitN (1 + ((n31_7 : Int) % 64)) (words.getD n31_7 0), 0⟩ : Cell)]).length) - 1) default).num : Nat) : Int) ≠ ((fitN (1 + ((n31_7 : Int) % 64)) (words.getD n31_7 0) : Nat) : Int))))) ?_ (fun hJ14 => ?_)
 refine AWp.seq ?_
 have hlc : (n202_7 ++ [(⟨1, 0, ((n201_7).length : Int), [], fitN (1 + ((n31_7 : Int) % 64)) (words.getD n31_7 0), 0⟩ : Cell)]).getD ((n202_7 ++ [(⟨1, 0, ((n201_7).length : Int), [], fitN (1 + ((n31_7 : Int) % 64)) (words.getD n31_7 0), 0⟩ : Cell)]).length - 1) default = (⟨1, 0, ((n201_7).length : Int), [], fitN (1 + ((n31_7 : Int) % 64)) (words.getD n31_7 0), 0⟩ : Cell) := getD_app_r (by simp)
 refine AWp.regionAny rfl (AAny.blind 0 rfl (by kernel_rfl) (Blind.move rfl rfl) (by decide) (AAny.blind 1 rfl (by kernel_rfl) (Blind.fieldAddr fl53_0 rfl rfl) (by decide) ?_))
 refine AAny.blind 2 rfl (by kernel_rfl) (Blind.fieldAddr fl27_1 rfl rfl) (by decide) (AAny.one 3 rfl (by kernel_rfl) ?_)
 refine .ld sh22 ?_
 refine AOps.nil ⟨rfl, ?_⟩
 refine AAny.one 4 rfl (by kernel_rfl) (.vl (Y.len (n := (n201_7 ++ [1 + ((n31_7 : Int) % 64)]).length) sl22 rfl rfl) ?_)
 refine AOps.nil ⟨rfl, ?_⟩
 refine AAny.one 5 rfl (by kernel_rfl) (.vl (Y.sub rfl rfl (natsub (a := (n201_7 ++ [1 + ((n31_7 : Int) % 64)]).length) (b := 1) (by first | omega | (simp; omega)))) ?_)
 refine AOps.nil ⟨rfl, ?_⟩
 refine AAny.one 6 rfl (by kernel_rfl) (.vl (Y.neq rfl rfl) ?_)
 refine AOps.nil ⟨rfl, ?_⟩
 refine AAny.blind 7 rfl (by kernel_rfl) (Blind.move rfl rfl) (by decide) ?_
 refine AAny.splitD (d := 60) rfl (fun c60 => ?_) (fun c60 => ?_)
 exact absurd c60 (by simp)
 refine AAny.blindRun 8 rfl (by kernel_rfl) rfl (by decide) rfl (Blind.fieldAddr fl53_0 rfl rfl) (by decide) (AAny.blindRun 9 rfl (by kernel_rfl) rfl (by decide) rfl (Blind.fieldAddr fl27_1 rfl rfl) (by decide) (AAny.blindRun 11 rfl (by kernel_rfl) rfl (by decide) rfl (Blind.move rfl rfl) (by decide) ?_))
 refine AAny.blindRun 14 rfl (by kernel_rfl) rfl (by decide) rfl (Blind.move rfl rfl) (by decide) (AAny.one 10 rfl (by kernel_rfl) (.gw 60 (Y.load sh22 rfl rfl rfl rfl) ?_))
 refine AOps.nil ⟨rfl, ?_⟩
 refine AAny.one 12 rfl (by kernel_rfl) ?_
 refine .gw 60 (Y.indexO (m := (n201_7).length) sl22 rfl rfl (by first | rfl | omega) (by first | omega | simp [-List.getD_eq_getElem?_getD] <;> omega)) ?_
 refine AOps.nil ⟨rfl, ?_⟩
 refine AAny.one 13 rfl (by kernel_rfl) ?_
 refine .gw 60 (Y.load sh3 rfl (row_getD0 (d := 0) (by first | omega | simp [-List.getD_eq_getElem?_getD] <;> omega)) rfl rfl) ?_
 refine AOps.nil ⟨rfl, ?_⟩
 refine AAny.one 15 rfl (by kernel_rfl) (.gw 60 (Y.neq rfl rfl) ?_)
 refine AOps.nil ⟨rfl, ?_⟩
 refine AAny.one 16 rfl (by kernel_rfl) ?_
 refine .pk ?_
 refine AOps.nil ⟨rfl, ?_⟩
 refine AAny.blind 17 rfl (by kernel_rfl) (Blind.move rfl rfl) (by decide) ?_
 refine AAny.splitD (d := 70) rfl (fun c70 => ?_) (fun c70 => ?_)
 exact absurd (getD_app_r (by simp)) c70
 refine AAny.blindRun 18 rfl (by kernel_rfl) rfl (by decide) rfl (Blind.fieldAddr fl39_0 rfl rfl) (by decide) (AAny.one 19 rfl (by kernel_rfl) (.gw 70 (Y.load sh3 rfl rfl rfl rfl) ?_))
 refine AOps.nil ⟨rfl, ?_⟩
 refine AAny.one 20 rfl (by kernel_rfl) (.gw 70 (Y.neq rfl rfl) ?_)
 refine AOps.nil ⟨rfl, ?_⟩
 refine AAny.one 21 rfl (by kernel_rfl) ?_
 refine .pk ?_
 refine AOps.nil ⟨rfl, ?_⟩
 refine AAny.blind 22 rfl (by kernel_rfl) (Blind.move rfl rfl) (by decide) ?_
 refine AAny.splitD (d := 75) rfl (fun c75 => ?_) (fun c75 => ?_)
 exfalso; rw [hlc] at c75; exact c75 rfl
 refine AAny.blindRun 23 rfl (by kernel_rfl) rfl (by decide) rfl (Blind.fieldAddr fl39_2 rfl rfl) (by decide) (AAny.blindRun 25 rfl (by kernel_rfl) rfl (by decide) rfl (Blind.move rfl rfl) (by decide) (AAny.one 24 rfl (by kernel_rfl) ?_))
 refine .gw 75 (Y.load sh3 rfl rfl rfl rfl) ?_
 refine AOps.nil ⟨rfl, ?_⟩
 refine AAny.one 26 rfl (by kernel_rfl) (.gw 75 (Y.neq rfl rfl) ?_)
 refine AOps.nil ⟨rfl, ?_⟩
 refine AAny.one 27 rfl (by kernel_rfl) ?_
 refine .pk ?_
 refine AOps.nil ⟨rfl, ?_⟩
 refine AAny.blind 28 rfl (by kernel_rfl) (Blind.move rfl rfl) (by decide) ?_
 refine AAny.splitD (d := 81) rfl (fun c81 => ?_) (fun c81 => ?_)
 exfalso; rw [hlc] at c81; exact c81 rfl
 refine AAny.blindRun 29 rfl (by kernel_rfl) rfl (by decide) rfl (Blind.fieldAddr fl39_4 rfl rfl) (by decide) (AAny.blindRun 31 rfl (by kernel_rfl) rfl (by decide) rfl (Blind.move rfl rfl) (by decide) (AAny.blindRun 32 rfl (by kernel_rfl) rfl (by decide) rfl (Blind.move rfl rfl) (by decide) ?_))
 refine AAny.blindRun 33 rfl (by kernel_rfl) rfl (by decide) rfl (Blind.move rfl rfl) (by decide) ?_
 refine AAny.two 30 34 rfl rfl (by kernel_rfl) ?_ ?_
 refine .gw 81 (Y.load sh37 rfl rfl rfl rfl) ?_
 refine AOps.nil ⟨rfl, ?_⟩
 refine AAny.quietN (n := 3) [34, 35] [36, 37, 38] 36 rfl (by kernel_rfl) ?_
 refine .rn 34 rfl rfl rfl (Y.indexF (m := n31_7) sl51 rfl rfl (by first | rfl | omega) (row_getD (d := 0) (by omega))) ?_
 refine .rn 35 rfl rfl rfl (Y.load sh37 rfl rfl rfl rfl) (AQ.nil (AAny.one 36 rfl (by kernel_rfl) ?_))
 refine AOps.guardRun (d := 81) rfl (by decide) rfl ?_
 refine AOps.callP ok26 (rfit_spec (w := (1 + ((n31_7 : Int) % 64))) (x := (words.getD n31_7 0)) ((by omega))) rfl (.keep rfl rfl (.keep rfl rfl .nil)) (by decide) rfl ?_
 refine AOps.nil ⟨rfl, ?_⟩
 refine AAny.quietN (n := 0) [37, 38] [] 0 rfl (by kernel_rfl) (.rn 37 rfl rfl rfl (Y.neq rfl rfl) (.cn 38 rfl (Y.pick rfl rfl rfl) ?_))
 refine AQ.nil (AAny.done (by kernel_rfl) ?_)
 refine AWp.condD rfl (fun c91 => ?_) (fun c91 => ?_)
 exfalso; rw [hlc] at c91; exact c91 rfl
 refine AWp.skip ?_
 exact ⟨.inl ⟨c60, c70, c75, c81, c91⟩, Le.mk (.c (.c (.c (.c (.c (.c (.c (.c (.c (.c (.c (.c (.c (.c (.c (.c (.c (.c (.c (.c (.c (.c (.c (.c (.c (.c (.c (.c (.c (.c (.c (.nil)))))))))))))))))))))))))))))))) (.c (.c (.c (.c (.c (.c (.nil)))))))⟩
 refine .gw 81 (Y.indexF (m := n31_7) sl51 rfl rfl (by first | rfl | omega) (row_getD (d := 0) (by omega))) ?_
 refine AOps.nil ⟨rfl, ?_⟩
 refine AAny.two 30 35 rfl rfl (by kernel_rfl) ?_ ?_
 refine .gw 81 (Y.load sh37 rfl rfl rfl rfl) ?_
 refine AOps.nil ⟨rfl, ?_⟩
 refine AAny.quietN (n := 3) [35] [36, 37, 38] 36 rfl (by kernel_rfl) (.rn 35 rfl rfl rfl (Y.load sh37 rfl rfl rfl rfl) (AQ.nil ?_))
 refine AAny.one 36 rfl (by kernel_rfl) (AOps.guardRun (d := 81) rfl (by decide) rfl ?_)
 refine AOps.callP ok26 (rfit_spec (w := (1 + ((n31_7 : Int) % 64))) (x := (words.getD n31_7 0)) ((by omega))) rfl (.keep rfl rfl (.keep rfl rfl .nil)) (by decide) rfl ?_
 refine AOps.nil ⟨rfl, ?_⟩
 refine AAny.quietN (n := 0) [37, 38] [] 0 rfl (by kernel_rfl) (.rn 37 rfl rfl rfl (Y.neq rfl rfl) (.cn 38 rfl (Y.pick rfl rfl rfl) ?_))
 refine AQ.nil (AAny.done (by kernel_rfl) ?_)
 refine AWp.condD rfl (fun c91 => ?_) (fun c91 => ?_)
 exfalso; rw [hlc] at c91; exact c91 rfl
 refine AWp.skip ?_
 exact ⟨.inr (.inl ⟨c60, c70, c75, c81, c91⟩), Le.mk (.c (.c (.c (.c (.c (.c (.c (.c (.c (.c (.c (.c (.c (.c (.c (.c (.c (.c (.c (.c (.c (.c (.c (.c (.c (.c (.c (.c (.c (.c (.c (.nil)))))))))))))))))))))))))))))))) (.c (.c (.c (.c (.c (.c (.nil)))))))⟩
 refine .gw 81 (Y.load sh37 rfl rfl rfl rfl) ?_
 refine AOps.nil ⟨rfl, ?_⟩
 refine AAny.two 30 36 rfl rfl (by kernel_rfl) ?_ ?_
 refine .gw 81 (Y.load sh37 rfl rfl rfl rfl) ?_
 refine AOps.nil ⟨rfl, ?_⟩
 refine AAny.one 36 rfl (by kernel_rfl) (AOps.guardRun (d := 81) rfl (by decide) rfl ?_)
 refine AOps.callP ok26 (rfit_spec (w := (1 + ((n31_7 : Int) % 64))) (x := (words.getD n31_7 0)) ((by omega))) rfl (.keep rfl rfl (.keep rfl rfl .nil)) (by decide) rfl ?_
 refine AOps.nil ⟨rfl, ?_⟩
 refine AAny.quietN (n := 0) [37, 38] [] 0 rfl (by kernel_rfl) (.rn 37 rfl rfl rfl (Y.neq rfl rfl) (.cn 38 rfl (Y.pick rfl rfl rfl) ?_))
 refine AQ.nil (AAny.done (by kernel_rfl) ?_)
 refine AWp.condD rfl (fun c91 => ?_) (fun c91 => ?_)
 exfalso; rw [hlc] at c91; exact c91 rfl
 refine AWp.skip ?_
 exact ⟨.inr (.inr (.inl ⟨c60, c70, c75, c81, c91⟩)), Le.mk (.c (.c (.c (.c (.c (.c (.c (.c (.c (.c (.c (.c (.c (.c (.c (.c (.c (.c (.c (.c (.c (.c (.c (.c (.c (.c (.c (.c (.c (.c (.c (.nil)))))))))))))))))))))))))))))))) (.c (.c (.c (.c (.c (.c (.nil)))))))⟩
 refine AOps.guardRun (d := 81) rfl (by decide) rfl ?_
 refine AOps.callP ok26 (rfit_spec (w := (1 + ((n31_7 : Int) % 64))) (x := (words.getD n31_7 0)) ((by omega))) rfl (.keep rfl rfl (.keep rfl rfl .nil)) (by decide) rfl ?_
 refine AOps.nil ⟨rfl, ?_⟩
 refine AAny.quietN (n := 0) [30, 37, 38] [] 0 rfl (by kernel_rfl) (.rn 30 rfl rfl rfl (Y.load sh37 rfl rfl rfl rfl) (.rn 37 rfl rfl rfl (Y.neq rfl rfl) ?_))
 refine .cn 38 rfl (Y.pick rfl rfl rfl) (AQ.nil (AAny.done (by kernel_rfl) ?_))
 refine AWp.condD rfl (fun c91 => ?_) (fun c91 => ?_)
 exfalso; rw [hlc] at c91; exact c91 rfl
 refine AWp.skip ?_
 exact ⟨.inr (.inr (.inr (⟨c60, c70, c75, c81, c91⟩))), Le.mk (.c (.c (.c (.c (.c (.c (.c (.c (.c (.c (.c (.c (.c (.c (.c (.c (.c (.c (.c (.c (.c (.c (.c (.c (.c (.c (.c (.c (.c (.c (.c (.nil)))))))))))))))))))))))))))))))) (.c (.c (.c (.c (.c (.c (.nil)))))))⟩
 refine AWp.sr ?_
 refine .mv ?_
 refine .mv ?_
 refine AOps.buildSlice (([(((n201_7).length : Nat) : Int)] : List Int).map irow) sl22 ze3 rfl rfl rfl rfl rfl (uniform_map (s := 1) (f := irow) (fun _ => rfl)) rfl rfl rfl (by decide) ?_
 refine AOps.appendE ((l6_7 ++ ([(((n201_7).length : Nat) : Int)] : List Int)).map irow) (l6_7 ++ ([(((n201_7).length : Nat) : Int)] : List Int)).length sl22 ze3 rfl rfl rfl rfl (app_le (by first | omega | simp [-List.getD_eq_getElem?_getD] <;> omega)) (app_map (by first | omega | simp [-List.getD_eq_getElem?_getD] <;> omega)) (app_n (by first | omega | simp [-List.getD_eq_getElem?_getD] <;> omega)) (by first | omega | simp [-List.getD_eq_getElem?_getD] <;> omega) (by first | omega | simp [-List.getD_eq_getElem?_getD] <;> omega) (by decide) (by decide) ?_
 refine .an ?_
 refine AOps.nil (AWp.region ?_)
 refine .mv ?_
 refine .mv ?_
 refine .mv ?_
 refine AOps.buildSlice (([(((n201_7).length : Nat) : Int), (((n201_7).length : Nat) : Int)] : List Int).map irow) sl22 ze3 rfl rfl rfl rfl rfl (uniform_map (s := 1) (f := irow) (fun _ => rfl)) rfl rfl rfl (by decide) ?_
 refine AOps.sh (Sh.freezeE (d := 99) (([(((n201_7).length : Nat) : Int), (((n201_7).length : Nat) : Int)] : List Int).map irow) rfl (by first | rfl | exact rep_map rfl) (Frees.map irow_frees)) ?_
 refine AOps.callO [105, 301, 302] [] ok27 (bop_spec (op := 15) (w := 1) (args := ([(((n201_7).length : Nat) : Int), (((n201_7).length : Nat) : Int)] : List Int)) (ws := n201_7 ++ [1 + ((n31_7 : Int) % 64)]) (cs := n202_7 ++ [(⟨1, 0, ((n201_7).length : Int), [], fitN (1 + ((n31_7 : Int) % 64)) (words.getD n31_7 0), 0⟩ : Cell)]) (nm := xB) (fz := 0) (dn := 0) (rl := ([] : List Int)) (by first | omega | simp [-List.getD_eq_getElem?_getD] <;> omega) (by first | omega | simp [-List.getD_eq_getElem?_getD] <;> omega) (by first | omega | simp [-List.getD_eq_getElem?_getD] <;> omega)) rfl (.named rfl rfl (.keep rfl rfl (.keep rfl rfl (.keep rfl rfl .nil)))) ⟨rfl, rfl, rfl, trivial⟩ rfl (by decide) (fun _ h => by cases h) (fun _ h => by cases h) (by decide) (by decide) ?_
 rintro r objs' ⟨rfl, rfl⟩ _
 refine ⟨⟨rfl, (by intro ob hob; simp only [List.mem_cons, List.not_mem_nil, or_false] at hob; rcases hob with rfl | rfl | rfl <;> rfl), .inl rfl⟩, ?_⟩
 refine AOps.buildSlice (([(((n201_7 ++ [1 + ((n31_7 : Int) % 64)]).length : Nat) : Int)] : List Int).map irow) sl22 ze3 rfl rfl rfl rfl rfl (uniform_map (s := 1) (f := irow) (fun _ => rfl)) rfl rfl rfl (by decide) ?_
 refine AOps.appendE ((bits7_7 ++ ([(((n201_7 ++ [1 + ((n31_7 : Int) % 64)]).length : Nat) : Int)] : List Int)).map irow) (bits7_7 ++ ([(((n201_7 ++ [1 + ((n31_7 : Int) % 64)]).length : Nat) : Int)] : List Int)).length sl22 ze3 rfl rfl rfl rfl (app_le (by first | omega | simp [-List.getD_eq_getElem?_getD] <;> omega)) (app_map (by first | omega | simp [-List.getD_eq_getElem?_getD] <;> omega)) (app_n (by first | omega | simp [-List.getD_eq_getElem?_getD] <;> omega)) (by first | omega | simp [-List.getD_eq_getElem?_getD] <;> omega) (by first | omega | simp [-List.getD_eq_getElem?_getD] <;> omega) (by decide) (by decide) ?_
 refine .an ?_
 refine AOps.nil (AWp.region ?_)
 refine .vl (Y.addI rfl rfl (by omega)) ?_
 refine .mv ?_
 refine AOps.nil ?_
 exact ⟨n31_7 + 1, l6_7 ++ ([(((n201_7).length : Nat) : Int)] : List Int), bits7_7 ++ ([(((n201_7 ++ [1 + ((n31_7 : Int) % 64)]).length : Nat) : Int)] : List Int), (n201_7 ++ [1 + ((n31_7 : Int) % 64)]) ++ [1], (n202_7 ++ [(⟨1, 0, ((n201_7).length : Int), [], fitN (1 + ((n31_7 : Int) % 64)) (words.getD n31_7 0), 0⟩ : Cell)]) ++ [(⟨2, 15, (((n201_7 ++ [1 + ((n31_7 : Int) % 64)])).length : Int), ([(((n201_7).length : Nat) : Int), (((n201_7).length : Nat) : Int)] : List Int), 0, 0⟩ : Cell)], ⟨by omega, hB3, by simp only [List.length_append, List.length_cons, List.length_nil]; omega, by simp only [List.length_append, List.length_cons, List.length_nil]; omega, all_app (fun x hx => in_app2 (hl x hx)) in_new2, by simp only [List.length_append, List.length_cons, List.length_nil]; omega, all_app (fun x hx => (hb x hx).app.app) Bit.new, by simp only [List.length_append, List.length_cons, List.length_nil]; omega⟩, by omega, Le.mk (.c (.c (.cons (look_slc rfl (by omega)) (.cons (look_slc rfl (by omega)) (.c (.cons (look_int rfl (by first | rfl | omega)) (.nil))))))) (.cons (look_cells rfl (by first | rfl | (simp only [List.cons.injEq, X.v.injEq, X.slc.injEq, Value.int.injEq, and_true, true_and]; omega) | simp_all)) (.c (.c (.c (.c (.nil))))))⟩
 refine AWp.exit (AWp.seq ?_)
 refine AWp.sh (Sh.detach (d := 7) (o := 107) rfl rfl (len_map (by omega)) (by decide)) ?_
 refine AWp.sh (Sh.freezeE (d := 7) (bits7_7.map irow) rfl (by first | rfl | exact rep_map rfl) (Frees.map irow_frees)) (AWp.region ?_)
 refine .fa fl53_0 ?_
 refine .fa fl27_2 ?_
 refine .ld sh23 ?_
 refine .vl (Y.len (n := n202_7.length) sl23 rfl rfl) ?_
 refine .an ?_
 refine AOps.nil (AWp.sr ?_)
 refine .mv ?_
 refine AOps.callO [105, 301, 302] [] ok28 (any_spec (wires := bits7_7) hB (by omega) (by omega) hb (by omega) (nm := xB) (ws := n201_7) (cs := n202_7) (fz := 0) (dn := 0) (rl := ([] : List Int))) rfl (.named rfl rfl (.keep rfl rfl .nil)) ⟨rfl, rfl, rfl, trivial⟩ rfl (by decide) (fun _ h => by cases h) (fun _ h => by cases h) (by decide) (by decide) ?_
 rintro r objs' ⟨ws109, cs109, x109, hB109, hX109, hE109, rfl, rfl⟩ _
 refine ⟨⟨rfl, (by intro ob hob; simp only [List.mem_cons, List.not_mem_nil, or_false] at hob; rcases hob with rfl | rfl | rfl <;> rfl), .inl rfl⟩, ?_⟩
 have hL109 := hB109.lens
 refine .mv ?_
 refine AOps.callO [105, 301, 302] [] ok29 (allB_spec 12 (wires := bits7_7) hB109.bd (by omega) (by omega) (fun x hx => hB109.bit (hb x hx)) (by omega) (nm := xB) (ws := ws109) (cs := cs109) (fz := 0) (dn := 0) (rl := ([] : List Int))) rfl (.named rfl rfl (.keep rfl rfl .nil)) ⟨rfl, rfl, rfl, trivial⟩ rfl (by decide) (fun _ h => by cases h) (fun _ h => by cases h) (by decide) (by decide) ?_
 rintro r objs' ⟨ws111, cs111, x111, hB111, hX111, hE111, rfl, rfl⟩ _
 refine ⟨⟨rfl, (by intro ob hob; simp only [List.mem_cons, List.not_mem_nil, or_false] at hob; rcases hob with rfl | rfl | rfl <;> rfl), .inl rfl⟩, ?_⟩
 have hL111 := hB111.lens
 refine AOps.callO [105, 301, 302] [] ok28 (anyNil_spec hB111.bd (by omega) (by omega) (nm := xB) (ws := ws111) (cs := cs111) (fz := 0) (dn := 0) (rl := ([] : List Int))) rfl (.named rfl rfl (.keep rfl rfl .nil)) ⟨rfl, rfl, rfl, trivial⟩ rfl (by decide) (fun _ h => by cases h) (fun _ h => by cases h) (by decide) (by decide) ?_
 rintro r objs' ⟨ws112, cs112, x112, hB112, hX112, hE112, rfl, rfl⟩ _
 refine ⟨⟨rfl, (by intro ob hob; simp only [List.mem_cons, List.not_mem_nil, or_false] at hob; rcases hob with rfl | rfl | rfl <;> rfl), .inl rfl⟩, ?_⟩
 have hL112 := hB112.lens
 refine AOps.callO [105, 301, 302] [] ok30 (not_spec (x := x112) hB112.bd (by omega) (by omega) hX112 (nm := xB) (ws := ws112) (cs := cs112) (fz := 0) (dn := 0) (rl := ([] : List Int))) rfl (.named rfl rfl (.keep rfl rfl .nil)) ⟨rfl, rfl, rfl, trivial⟩ rfl (by decide) (fun _ h => by cases h) (fun _ h => by cases h) (by decide) (by decide) ?_
 rintro r objs' ⟨ws113, cs113, x113, hB113, hX113, hE113, rfl, rfl⟩ _
 refine ⟨⟨rfl, (by intro ob hob; simp only [List.mem_cons, List.not_mem_nil, or_false] at hob; rcases hob with rfl | rfl | rfl <;> rfl), .inl rfl⟩, ?_⟩
 have hL113 := hB113.lens
 refine .an ?_
 refine .an ?_
 refine .an ?_
 have h109 : Bit ws113 x109 := hB113.bit (hB112.bit (hB111.bit hX109)); have h111 : Bit ws113 x111 := hB113.bit (hB112.bit hX111); have hb1 : ∀ x ∈ bits7_7, Bit ws113 x := fun x hx => hB113.bit (hB112.bit (hB111.bit (hB109.bit (hb x hx))))
 refine AOps.nil ?_
 refine AWp.join0 (⟨[(5, .ptr 105 0 0 0), (6, .slc 106 1 0 l6_7.length), (7, .fz 1 (bits7_7.map irow)), (12, vi ((n202_7.length : Nat) : Int)), (13, vi x109), (14, vi x111), (15, vi x113)], [(105, .cells [.v (.string xB), .slc 301 1 0 ws113.length, .slc 302 6 0 cs113.length, .v (.slice none 0 0), .v (.slice none 0 0), .v (.slice none 0 0), .v (.slice none 0 0), .v (.slice none 0 0), vi 0, vi 0, .fz 1 (([] : List Int).map irow)]), (106, .rows 1 (l6_7.map irow)), (301, .rows 1 (ws113.map irow)), (302, .rows 6 (cs113.map Cell.row))]⟩) (((((bits7_7.length : Nat) : Int) = 1) ∧ (¬ (x109 ≠ (bits7_7.getD 0 0))) ∧ (¬ (x111 ≠ (bits7_7.getD 0 0)))) ∨ ((¬ (((bits7_7.length : Nat) : Int) = 1)))) ?_ (fun hJ21 => ?_)
 refine AWp.sr ?_
 refine .mv ?_
 refine .vl (Y.len (n := bits7_7.length) sl22 rfl (congrArg some (List.length_map ..))) (.vl (Y.eql rfl rfl) ?_)
 refine .mv ?_
 refine AOps.splitD (d := 117) rfl (fun c117 => ?_) (fun c117 => ?_)
 refine .gw 117 (Y.move rfl rfl) (.gw 117 (Y.move rfl rfl) ?_)
 refine .gw 117 (Y.indexF (m := 0) sl22 rfl rfl (by first | rfl | omega) (row_getD (d := 0) (by omega))) ?_
 refine .gw 117 (Y.load sh3 rfl rfl rfl rfl) (.gw 117 (Y.neq rfl rfl) (.gw 117 (Y.move rfl rfl) ?_))
 refine AOps.splitD (d := 123) rfl (fun c123 => ?_) (fun c123 => ?_)
 exact absurd (hE109 (by omega)) c123
 refine .gw 123 (Y.move rfl rfl) (.gw 123 (Y.move rfl rfl) ?_)
 refine .gw 123 (Y.indexF (m := 0) sl22 rfl rfl (by first | rfl | omega) (row_getD (d := 0) (by omega))) ?_
 refine .gw 123 (Y.load sh3 rfl rfl rfl rfl) (.gw 123 (Y.neq rfl rfl) (.gw 117 (Y.pick rfl rfl rfl) ?_))
 refine .pk ?_
 refine AOps.nil ?_
 refine AWp.condD rfl (fun c130 => ?_) (fun c130 => ?_)
 exact absurd (hE111 (by omega)) c130
 refine AWp.skip ?_
 exact ⟨.inl ⟨c117, c123, c130⟩, Le.mk (.c (.c (.c (.c (.c (.c (.c (.nil)))))))) (.c (.c (.c (.c (.nil)))))⟩
 refine .gz 117 (.gz 117 (.gz 117 ?_))
 refine .gz 117 (.gz 117 (.gz 117 ?_))
 refine .gz 123 (.gz 123 (.gz 123 ?_))
 refine .gz 123 (.gz 123 (.gz 117 ?_))
 refine .pk ?_
 refine AOps.nil (AWp.condF rfl (AWp.skip ?_))
 exact ⟨.inr (c117), Le.mk (.c (.c (.c (.c (.c (.c (.c (.nil)))))))) (.c (.c (.c (.c (.nil)))))⟩
 refine AWp.join2 (fun (n201_j26 : List Int) (n202_j26 : List Cell) => ⟨[(5, .ptr 105 0 0 0), (6, .slc 106 1 0 l6_7.length), (12, vi ((n202_7.length : Nat) : Int)), (13, vi x109), (14, vi x111), (15, vi x113)], [(105, .cells [.v (.string xB), .slc 301 1 0 n201_j26.length, .slc 302 6 0 n202_j26.length, .v (.slice none 0 0), .v (.slice none 0 0), .v (.slice none 0 0), .v (.slice none 0 0), .v (.slice none 0 0), vi 0, vi 0, .fz 1 (([] : List Int).map irow)]), (106, .rows 1 (l6_7.map irow)), (301, .rows 1 (n201_j26.map irow)), (302, .rows 6 (n202_j26.map Cell.row))]⟩) (fun (n201_j26 : List Int) (n202_j26 : List Cell) => BSt ws113 cs113 1 n201_j26 n202_j26) ?_ (fun n201_j26 n202_j26 hJ26 => ?_)
 refine AWp.sr ?_
 refine .mv ?_
 refine .vl (Y.len (n := bits7_7.length) sl22 rfl (congrArg some (List.length_map ..))) (.vl (Y.gtr rfl rfl) (AOps.nil ?_))
 refine AWp.condD rfl (fun c133 => ?_) (fun c133 => ?_)
 refine AWp.sr ?_
 refine .mv ?_
 refine .vl (Y.indexF (m := 0) sl22 rfl rfl (by first | rfl | omega) (row_getD (d := 0) (by omega))) ?_
 refine .ld sh3 ?_
 refine .mv ?_
 refine .mv ?_
 refine .mv ?_
 refine AOps.buildSlice (([bits7_7.getD 0 0, x109, x113, x111] : List Int).map irow) sl22 ze3 rfl rfl rfl rfl rfl (uniform_map (s := 1) (f := irow) (fun _ => rfl)) rfl rfl rfl (by decide) ?_
 refine AOps.sh (Sh.freezeE (d := 140) (([bits7_7.getD 0 0, x109, x113, x111] : List Int).map irow) rfl (by first | rfl | exact rep_map rfl) (Frees.map irow_frees)) ?_
 refine AOps.callO [105, 301, 302] [] ok31 (mux_spec (w := 1) (args := ([bits7_7.getD 0 0, x109, x113, x111] : List Int)) (ws := ws113) (cs := cs113) (nm := xB) (fz := 0) (dn := 0) (rl := ([] : List Int)) (by first | omega | simp [-List.getD_eq_getElem?_getD] <;> omega) (by first | omega | simp [-List.getD_eq_getElem?_getD] <;> omega) (by first | omega | simp [-List.getD_eq_getElem?_getD] <;> omega)) rfl (.named rfl rfl (.keep rfl rfl (.keep rfl rfl .nil))) ⟨rfl, rfl, rfl, trivial⟩ rfl (by decide) (fun _ h => by cases h) (fun _ h => by cases h) (by decide) (by decide) ?_
 rintro r objs' ⟨rfl, rfl⟩ _
 refine ⟨⟨rfl, (by intro ob hob; simp only [List.mem_cons, List.not_mem_nil, or_false] at hob; rcases hob with rfl | rfl | rfl <;> rfl), .inl rfl⟩, ?_⟩
 refine .an ?_
 refine AOps.nil (AWp.sr ?_)
 refine .fa fl53_0 ?_
 refine .fa fl27_2 ?_
 refine .ld sh23 ?_
 refine .fa fl53_0 ?_
 refine .fa fl27_2 ?_
 refine .ld sh23 ?_
 refine .vl (Y.len (n := (cs113 ++ [(⟨3, 0, ((ws113).length : Int), ([bits7_7.getD 0 0, x109, x113, x111] : List Int), 0, 0⟩ : Cell)]).length) sl23 rfl rfl) (.vl (Y.sub rfl rfl (natsub (a := (cs113 ++ [(⟨3, 0, ((ws113).length : Int), ([bits7_7.getD 0 0, x109, x113, x111] : List Int), 0, 0⟩ : Cell)]).length) (b := 1) (by first | omega | (simp; omega)))) ?_)
 refine .vl (Y.indexO (m := ((cs113 ++ [(⟨3, 0, ((ws113).length : Int), ([bits7_7.getD 0 0, x109, x113, x111] : List Int), 0, 0⟩ : Cell)]).length) - 1) sl23 rfl rfl (by first | rfl | omega) (by first | omega | simp [-List.getD_eq_getElem?_getD] <;> omega)) ?_
 refine .vl (Y.loadA sh39 rfl (row_getD0 (d := default) (by first | omega | simp [-List.getD_eq_getElem?_getD] <;> omega)) (Nat.le_of_ble_eq_true rfl) rfl rfl) ?_
 refine AOps.alloc 117 ze39 rfl rfl (by decide) (AOps.storeC si39 rfl rfl rfl rfl rfl rfl (Nat.le_of_ble_eq_true rfl) rfl (AOps.nil ?_))
 refine AWp.seq ?_
 have hlm : (cs113 ++ [(⟨3, 0, ((ws113).length : Int), ([bits7_7.getD 0 0, x109, x113, x111] : List Int), 0, 0⟩ : Cell)]).getD ((cs113 ++ [(⟨3, 0, ((ws113).length : Int), ([bits7_7.getD 0 0, x109, x113, x111] : List Int), 0, 0⟩ : Cell)]).length - 1) default = (⟨3, 0, ((ws113).length : Int), ([bits7_7.getD 0 0, x109, x113, x111] : List Int), 0, 0⟩ : Cell) := getD_app_r (by simp)
 refine AWp.region ?_
 refine .fa fl39_0 ?_
 refine .ld sh3 ?_
 refine .vl (Y.neq rfl rfl) ?_
 refine .mv ?_
 refine AOps.splitD (d := 155) rfl (fun c155 => ?_) (fun c155 => ?_)
 exfalso; rw [hlm] at c155; exact c155 rfl
 refine .gw 155 (Y.fieldAddr fl39_2 rfl rfl) (.gw 155 (Y.load sh3 rfl rfl rfl rfl) (.gw 155 (Y.move rfl rfl) ?_))
 refine .gw 155 (Y.neq rfl rfl) ?_
 refine .pk ?_
 refine .mv ?_
 refine AOps.splitD (d := 161) rfl (fun c161 => ?_) (fun c161 => ?_)
 exfalso; rw [hlm] at c161; exact c161 rfl
 refine .gw 161 (Y.fieldAddr fl39_3 rfl rfl) (.gw 161 (Y.load sh22 rfl rfl rfl rfl) ?_)
 refine .gw 161 (Y.len (n := (((cs113 ++ [(⟨3, 0, ((ws113).length : Int), ([bits7_7.getD 0 0, x109, x113, x111] : List Int), 0, 0⟩ : Cell)]).getD (((cs113 ++ [(⟨3, 0, ((ws113).length : Int), ([bits7_7.getD 0 0, x109, x113, x111] : List Int), 0, 0⟩ : Cell)]).length) - 1) default).args).length) sl22 rfl (congrArg some (List.length_map ..))) ?_
 refine .gw 161 (Y.neq rfl rfl) ?_
 refine .pk ?_
 refine .mv ?_
 refine AOps.splitD (d := 167) rfl (fun c167 => ?_) (fun c167 => ?_)
 exfalso; rw [hlm] at c167; exact c167 rfl
 refine .gw 167 (Y.fieldAddr fl39_3 rfl rfl) (.gw 167 (Y.load sh22 rfl rfl rfl rfl) ?_)
 refine .gw 167 (Y.indexF (m := 3) sl22 rfl rfl (by first | rfl | omega) (row_getD (d := 0) (by omega))) ?_
 refine .gw 167 (Y.load sh3 rfl rfl rfl rfl) (.gw 167 (Y.move rfl rfl) (.gw 167 (Y.neq rfl rfl) ?_))
 refine .pk ?_
 refine AOps.nil ?_
 refine AWp.condD rfl (fun c174 => ?_) (fun c174 => ?_)
 exfalso; rw [hlm] at c174; exact c174 rfl
 refine AWp.skip ?_
 exact ⟨ws113 ++ [1], cs113 ++ [(⟨3, 0, ((ws113).length : Int), ([bits7_7.getD 0 0, x109, x113, x111] : List Int), 0, 0⟩ : Cell)], BSt.one (hB113.bd.mux (args := [bits7_7.getD 0 0, x109, x113, x111]) (all_four (P := Bit ws113) (hb1 _ (getD_mem (by omega))) h109 hX113 h111) ⟨by simp, by simp, by simp⟩), Le.mk (.c (.c (.c (.c (.c (.c (.nil))))))) (.cons (look_cells rfl (by first | rfl | (simp only [List.cons.injEq, X.v.injEq, X.slc.injEq, Value.int.injEq, and_true, true_and]; omega) | simp_all)) (.c (.c (.c (.nil)))))⟩
 refine AWp.skip ?_
 exact ⟨ws113, cs113, BSt.refl hB113.bd 1, Le.mk (.c (.c (.c (.c (.c (.c (.nil))))))) (.cons (look_cells rfl (by first | rfl | (simp only [List.cons.injEq, X.v.injEq, X.slc.injEq, Value.int.injEq, and_true, true_and]; omega) | simp_all)) (.c (.c (.c (.nil)))))⟩
 refine AWp.seq ?_
 have hL9 := hJ26.lens; have q109 := hJ26.bit h109; have q111 := hJ26.bit h111; have q113 := hJ26.bit hX113
 refine AWp.region ?_
 refine AOps.callO [105, 301, 302] [] ok25 (const_spec (w := 1) (x := 0) (ws := n201_j26) (cs := n202_j26) (nm := xB) (fz := 0) (dn := 0) (rl := ([] : List Int)) (by omega) (by omega) (by omega)) rfl (.named rfl rfl (.keep rfl rfl (.keep rfl rfl .nil))) ⟨rfl, rfl, rfl, trivial⟩ rfl (by decide) (fun _ h => by cases h) (fun _ h => by cases h) (by decide) (by decide) ?_
 rintro r objs' ⟨rfl, rfl⟩ _
 refine ⟨⟨rfl, (by intro ob hob; simp only [List.mem_cons, List.not_mem_nil, or_false] at hob; rcases hob with rfl | rfl | rfl <;> rfl), .inl rfl⟩, ?_⟩
 refine .fa fl53_0 ?_
 refine .fa fl27_8 ?_
 refine AOps.storeC si3 rfl rfl rfl rfl rfl rfl (Nat.le_of_ble_eq_true rfl) rfl (AOps.nil (AWp.sr ?_))
 refine .mv ?_
 refine .fa fl53_0 ?_
 refine .fa fl27_9 ?_
 refine AOps.storeC si3 rfl rfl rfl rfl rfl rfl (Nat.le_of_ble_eq_true rfl) rfl (AOps.nil (AWp.sr ?_))
 refine .mv ?_
 refine .mv ?_
 refine .mv ?_
 refine AOps.buildSlice (([x109, x111] : List Int).map irow) sl22 ze3 rfl rfl rfl rfl rfl (uniform_map (s := 1) (f := irow) (fun _ => rfl)) rfl rfl rfl (by decide) ?_
 refine AOps.appendE ((l6_7 ++ ([x109, x111] : List Int)).map irow) (l6_7 ++ ([x109, x111] : List Int)).length sl22 ze3 rfl rfl rfl rfl (app_le (by first | omega | simp [-List.getD_eq_getElem?_getD] <;> omega)) (app_map (by first | omega | simp [-List.getD_eq_getElem?_getD] <;> omega)) (app_n (by first | omega | simp [-List.getD_eq_getElem?_getD] <;> omega)) (by first | omega | simp [-List.getD_eq_getElem?_getD] <;> omega) (by first | omega | simp [-List.getD_eq_getElem?_getD] <;> omega) (by decide) (by decide) ?_
 refine .fa fl53_0 ?_
 refine .fa fl27_10 ?_
 refine AOps.storeC si22 rfl rfl rfl rfl rfl rfl (Nat.le_of_ble_eq_true rfl) rfl (AOps.nil (AWp.seq ?_))
 refine AWp.sh (Sh.fzObj 105 106 10 rfl rfl rfl (len_map (by omega)) (Frees.map irow_frees) (by decide) rfl rfl rfl) ?_
 refine AWp.region ?_
 refine .mv ?_
 refine .mv ?_
 refine AOps.buildSlice (([x113, x113] : List Int).map irow) sl22 ze3 rfl rfl rfl rfl rfl (uniform_map (s := 1) (f := irow) (fun _ => rfl)) rfl rfl rfl (by decide) ?_
 refine AOps.assignX rfl (by decide) (AOps.sh (Sh.adoptE (d := 18) (n := ([x113, x113] : List Int).length) 118 (([x113, x113] : List Int).map irow) rfl (by first | rfl | exact rep_map rfl) (len_map rfl) (by decide)) (AOps.nil ?_))
 refine AWp.sr ?_
 refine AOps.callO [105, 301, 302] [] ok33 (wire_spec (w := 1) (ws := n201_j26 ++ [1]) (cs := n202_j26 ++ [(⟨1, 0, ((n201_j26).length : Int), [], fitN 1 0, 0⟩ : Cell)]) (nm := xB) (fz := (((n201_j26).length : Nat) : Int)) (dn := x113) (rl := l6_7 ++ ([x109, x111] : List Int)) (by first | omega | simp [-List.getD_eq_getElem?_getD] <;> omega) (by first | omega | simp [-List.getD_eq_getElem?_getD] <;> omega)) rfl (.named rfl rfl (.keep rfl rfl .nil)) ⟨rfl, rfl, rfl, trivial⟩ rfl (by decide) (fun _ h => by cases h) (fun _ h => by cases h) (by decide) (by decide) ?_
 rintro r objs' ⟨rfl, rfl⟩ _
 refine ⟨⟨rfl, (by intro ob hob; simp only [List.mem_cons, List.not_mem_nil, or_false] at hob; rcases hob with rfl | rfl | rfl <;> rfl), .inl rfl⟩, ?_⟩
 refine .mv ?_
 refine .vl (Y.build pl39 ze39 rfl rfl rfl) ?_
 refine AOps.callO [105, 301, 302, 118] [] ok32 (bcell2_spec (nm := xB) (ws := (n201_j26 ++ [1]) ++ [1]) (cs := (n202_j26 ++ [(⟨1, 0, ((n201_j26).length : Int), [], fitN 1 0, 0⟩ : Cell)])) (fz := (((n201_j26).length : Nat) : Int)) (dn := x113) (rl := l6_7 ++ ([x109, x111] : List Int)) (k := 4) (o := 0) (u := (((n201_j26 ++ [1]).length : Nat) : Int)) (m := 0) (args := ([x113, x113] : List Int)) (nn := 0) (by first | omega | simp [-List.getD_eq_getElem?_getD] <;> omega) (by first | omega | simp [-List.getD_eq_getElem?_getD] <;> omega) (by simp)) rfl (.named rfl rfl (.agg (us := [.v (.int .i64 4), .v (.int .i64 0), .v (.int .i64 (((n201_j26 ++ [1]).length : Nat) : Int)), .slc 118 1 0 (([x113, x113] : List Int).length), .v (.int .u64 0), .v (.int .i64 0)]) (.keep rfl rfl (.keep rfl rfl (.keep rfl rfl (.named rfl rfl (.keep rfl rfl (.keep rfl rfl .nil)))))) rfl .nil)) ⟨rfl, rfl, rfl, rfl, trivial⟩ rfl (by decide) (fun _ h => by cases h) (fun _ h => by cases h) (by decide) (by decide) ?_
 rintro r objs' ⟨rfl, rfl⟩ _
 refine ⟨⟨rfl, (by intro ob hob; simp only [List.mem_cons, List.not_mem_nil, or_false] at hob; rcases hob with rfl | rfl | rfl | rfl <;> rfl), .inl rfl⟩, ?_⟩
 refine AOps.nil (AWp.sr ?_)
 refine .mv ?_
 refine .vl (Y.indexO (m := 0) sl22 rfl rfl (by first | rfl | omega) (by first | omega | simp [-List.getD_eq_getElem?_getD] <;> omega)) ?_
 refine AOps.storeE ((([x113, x113] : List Int).set 0 99).map irow) si3 rfl rfl rfl rfl rfl rfl rfl (row_getD0 (d := 0) (by first | omega | simp [-List.getD_eq_getElem?_getD] <;> omega)) (Nat.le_of_ble_eq_true rfl) (set_map0 rfl) ?_
 refine AOps.nil (AWp.seq ?_)
 have hV := Bd.valid (Bd.reg (hJ26.bd.const (x := 0) one_wide) q113.app q113.app) (rl := l6_7 ++ [x109, x111]) (f := ((n201_j26.length : Nat) : Int)) (d := x113) named_x (by simp; omega) (by simp; omega) Bit.new.app q113.app.app (all_two2 (fun r h => by have h5 := hl r h; unfold In at *; simp; omega) (q109.app.app).1 (q111.app.app).1) (by simp; omega)
 refine AWp.sh (Sh.fzCell 105 1 3 rfl rfl rfl) (AWp.sh (Sh.fzCell 105 5 4 rfl rfl rfl) (AWp.sh (Sh.fzCell 105 3 5 rfl rfl rfl) ?_))
 refine AWp.sh (Sh.fzCell 105 1 6 rfl rfl rfl) (AWp.sh (Sh.fzCell 105 1 7 rfl rfl rfl) (AWp.region ?_))
 refine .fa fl53_0 ?_
 refine .fa fl27_2 ?_
 refine .ld sh23 ?_
 refine .vl (Y.len (n := ((n202_j26 ++ [(⟨1, 0, ((n201_j26).length : Int), [], fitN 1 0, 0⟩ : Cell)]) ++ [(⟨4, 0, (((n201_j26 ++ [1]).length : Nat) : Int), ([x113, x113] : List Int), 0, 0⟩ : Cell)]).length) sl23 rfl rfl) ?_
 refine .mv ?_
 refine .vl (Y.gtr rfl rfl) ?_
 refine .mv ?_
 refine AOps.splitD (d := 203) rfl (fun c203 => ?_) (fun c203 => ?_)
 refine .gw 203 (Y.fieldAddr fl53_0 rfl rfl) (.gw 203 (Y.loadA sh27 rfl rfl (Nat.le_of_ble_eq_true rfl) rfl rfl) (AOps.guardRun (d := 203) rfl (by decide) rfl ?_))
 refine AOps.callLP [301, 302] ok16 (check_spec (n := (⟨xB, (n201_j26 ++ [1]) ++ [1], (n202_j26 ++ [(⟨1, 0, ((n201_j26).length : Int), [], fitN 1 0, 0⟩ : Cell)]) ++ [(⟨4, 0, (((n201_j26 ++ [1]).length : Nat) : Int), ([x113, x113] : List Int), 0, 0⟩ : Cell)], ([] : List Int), ([] : List Arr), ([] : List Strm), ([] : List Int), ([] : List Int), (((n201_j26).length : Nat) : Int), x113, l6_7 ++ ([x109, x111] : List Int)⟩ : Netlist)) hV.2 (by simp; omega)) rfl (.agg (.keep rfl rfl (.lend rfl rfl (lend_le (by omega)) (lend_eq (by omega)) (.lend rfl rfl (lend_le (by omega)) (lend_eq (by omega)) (.keep rfl rfl (.keep rfl rfl (.keep rfl rfl (.keep rfl rfl (.keep rfl rfl (.keep rfl rfl (.keep rfl rfl (.keep rfl rfl .nil))))))))))) rfl .nil) (lend2 rfl (owns_map irow_frees) (lend1 rfl (owns_map Cell.row_frees))) (by decide) rfl trivial ?_
 refine .gw 203 (Y.eql rfl rfl) ?_
 refine .pk ?_
 refine .an ?_
 refine AOps.nil (AWp.ret ?_)
 exact .rb rfl (decide_eq_true hV.1)
 exfalso; simp at c203; omega
end Go.Proofs.Ytligpghohcfpnaa
