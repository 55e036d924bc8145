/- The walk through Order. -/
import Derived.Test.YtligpghohcfpnaaNetx0
import Derived.Test.YtligpghohcfpnaaNetx1
import Derived.Test.YtligpghohcfpnaaAWx2
set_option linter.unusedSimpArgs false
set_option linter.unusedVariables false
set_option linter.unusedSectionVars false
set_option maxRecDepth 4000
set_option maxHeartbeats 8000000
namespace Go.Proofs.Ytligpghohcfpnaa
open Go Go.AW Go.Proofs
theorem order_spec {n : Netlist} (hs : n.Small) (hwi : n.widths.length + n.ins.length ≤ 17592186044416) : ACalls Try.prog 20 [.agg (Netlist.row n)] [] [] (fun r o => ∃ (l : List Int) (e : Int), OrderRes n l e ∧ r = .tup [.uni 1 (l.map irow), vi e] ∧ o = []) := by
 refine ACalls.of Try.func20 rfl rfl rfl (n := 169) (by decide) (Nat.le_of_ble_eq_true rfl) (AWp.sr (AOps.box 101 rfl rfl rfl rfl rfl (by decide) ?_))
 refine .an ?_
 refine .an ?_
 refine AOps.nil (AWp.seq (AWp.sr ?_))
 refine .vl (Y.loadA sh27 rfl rfl (Nat.le_of_ble_eq_true rfl) rfl rfl) ?_
 refine AOps.callP ok57 (formed_spec (n := n) hs ((by omega))) rfl (.keep rfl rfl .nil) (by decide) rfl ?_
 refine .vl (Y.not rfl) (AOps.nil ?_)
 refine AWp.cond rfl (fun c22 => ?_) (fun c22 => ?_)
 replace c22 : ¬ (Formed n) := by simpa using c22
 refine AWp.sr ?_
 refine .an ?_
 refine .an ?_
 refine AOps.nil (AWp.sh (Sh.nilU (d := 2) 1 rfl) (AWp.ret ?_))
 exact ⟨_, _, rfl, rfl, ([] : List Int), 3, .inl ⟨by assumption, rfl, rfl⟩, rfl, rfl⟩
 replace c22 : Formed n := by simpa using c22
 have hf : Formed n := by assumption
 refine AWp.skip (AWp.seq (AWp.sr ?_))
 refine .vl (Y.loadA sh27 rfl rfl (Nat.le_of_ble_eq_true rfl) rfl rfl) (AOps.callP ok58 (widths_spec (n := n) hs (by assumption)) rfl (.keep rfl rfl .nil) (by decide) rfl (.vl (Y.not rfl) ?_))
 refine AOps.nil ?_
 refine AWp.cond rfl (fun c25 => ?_) (fun c25 => ?_)
 replace c25 : ¬ (Fit n) := by simpa using c25
 refine AWp.sr ?_
 refine .an ?_
 refine .an ?_
 refine AOps.nil (AWp.sh (Sh.nilU (d := 2) 1 rfl) (AWp.ret ?_))
 exact ⟨_, _, rfl, rfl, ([] : List Int), 13, .inr (.inl ⟨by assumption, by assumption, rfl, rfl⟩), rfl, rfl⟩
 replace c25 : Fit n := by simpa using c25
 have hft : Fit n := by assumption
 have hz1 := hf.ncells; have hz2 := hf.nwidths
 refine AWp.skip (AWp.sr ?_)
 refine .an ?_
 refine AOps.sh (Sh.nil (d := 4) 104 1 rfl (by decide)) (AOps.nil (AWp.sr ?_))
 refine .fa fl27_2 ?_
 refine .ld sh23 ?_
 refine .vl (Y.len (n := n.cells.length) sl23 rfl (congrArg some (List.length_map ..))) ?_
 refine AOps.makeSlice (n := n.cells.length) sl22 ze3 rfl rfl rfl rfl (by omega) (by omega) (by decide) ?_
 refine AOps.assignX rfl (by decide) (AOps.sh (Sh.adoptE (d := 5) (n := n.cells.length) 105 ((List.replicate n.cells.length 0).map irow) rfl (by first | rfl | exact rep_map rfl) (len_map (by simp)) (by decide)) (AOps.nil ?_))
 refine AWp.sr ?_
 refine .fa fl27_1 ?_
 refine .ld sh22 ?_
 refine .vl (Y.len (n := n.widths.length) sl22 rfl (congrArg some (List.length_map ..))) ?_
 refine AOps.makeSlice (n := n.widths.length) sl92 ze22 rfl rfl rfl rfl (by omega) (by omega) (by decide) ?_
 refine AOps.sh (Sh.nilRows (d := 33) 1 rfl) (AOps.assignX rfl (by decide) (AOps.sh (Sh.adoptE (d := 6) (n := n.widths.length) 106 ((List.replicate n.widths.length []).map orow) rfl (by first | rfl | exact rep_map rfl) (len_map (by simp)) (by decide)) ?_))
 refine AOps.nil (AWp.sr ?_)
 refine .fa fl27_1 ?_
 refine .ld sh22 ?_
 refine .vl (Y.len (n := n.widths.length) sl22 rfl (congrArg some (List.length_map ..))) ?_
 refine AOps.makeSlice (n := n.widths.length) sl63 ze4 rfl rfl rfl rfl (by omega) (by omega) (by decide) ?_
 refine AOps.assignX rfl (by decide) (AOps.sh (Sh.adoptE (d := 7) (n := n.widths.length) 107 ((List.replicate n.widths.length false).map brow) rfl (by first | rfl | exact rep_map rfl) (len_map (by simp)) (by decide)) (AOps.nil ?_))
 refine AWp.seq (AWp.sr ?_)
 refine .fa fl27_2 ?_
 refine .ld sh23 ?_
 refine .vl (Y.len (n := n.cells.length) sl23 rfl (congrArg some (List.length_map ..))) ?_
 refine .mv ?_
 refine AOps.nil (AWp.block ?_)
 refine AWp.loop2 (fun (n41_10 : Nat) (comb7_10 : List Bool) => ⟨[(1, .ptr 101 0 0 0), (4, .slc 104 1 0 0), (5, .slc 105 1 0 n.cells.length), (6, .slc 106 1 0 n.widths.length), (7, .slc 107 1 0 n.widths.length), (39, .fz 6 (n.cells.map Cell.row)), (40, vi ((n.cells.length : Nat) : Int)), (41, vi (n41_10 : Int))], [(101, .cells (Netlist.row n)), (104, .rows 1 (([] : List Int).map irow)), (105, .rows 1 ((List.replicate n.cells.length 0).map irow)), (106, .rows 1 ((List.replicate n.widths.length []).map orow)), (107, .rows 1 (comb7_10.map brow))]⟩) (fun (n41_10 : Nat) (comb7_10 : List Bool) => (comb7_10.length = n.widths.length) ∧ ((n41_10 : Int) ≤ ((n.cells.length : Nat) : Int)) ∧ (CombInv n n41_10 comb7_10)) (fun (n41_10 : Nat) (comb7_10 : List Bool) => (((n.cells.length : Nat) : Int) - (n41_10 : Int)).toNat) 0 (List.replicate n.widths.length false) (⟨by first | omega | (simp [-List.getD_eq_getElem?_getD]; done) | (simp [-List.getD_eq_getElem?_getD]; omega) | (unfold In at *; omega), by first | omega | (simp [-List.getD_eq_getElem?_getD]; done) | (simp [-List.getD_eq_getElem?_getD]; omega) | (unfold In at *; omega), CombInv.init n⟩) (Le.mk (.c (.c (.c (.c (.c (.c (.c (.cons (look_int rfl (by first | rfl | omega)) (.nil))))))))) (.c (.c (.c (.c (.c (.nil))))))) (fun n41_10 comb7_10 hI10 => ?_)
 obtain ⟨hl107, hb10, hci⟩ := hI10
 refine AWp.sr (.vl (Y.lss rfl rfl) (AOps.nil ?_))
 refine AWp.seq ?_
 refine AWp.condD rfl (fun c42 => ?_) (fun c42 => ?_)
 refine AWp.skip ?_
 refine AWp.join1 (fun (comb7_j14 : List Bool) => ⟨[(1, .ptr 101 0 0 0), (4, .slc 104 1 0 0), (5, .slc 105 1 0 n.cells.length), (6, .slc 106 1 0 n.widths.length), (7, .slc 107 1 0 n.widths.length), (39, .fz 6 (n.cells.map Cell.row)), (40, vi ((n.cells.length : Nat) : Int)), (41, vi (n41_10 : Int))], [(101, .cells (Netlist.row n)), (104, .rows 1 (([] : List Int).map irow)), (105, .rows 1 ((List.replicate n.cells.length 0).map irow)), (106, .rows 1 ((List.replicate n.widths.length []).map orow)), (107, .rows 1 (comb7_j14.map brow))]⟩) (fun (comb7_j14 : List Bool) => (comb7_j14.length = n.widths.length) ∧ (CombInv n (n41_10 + 1) comb7_j14)) ?_ (fun comb7_j14 hJx14 => ?_)
 refine AWp.block (AWp.sr ?_)
 refine .vl (Y.indexF (m := n41_10) sl23 rfl rfl (by first | rfl | omega) (row_getD (d := default) (by omega))) ?_
 refine .vl (Y.loadA sh39 rfl rfl (Nat.le_of_ble_eq_true rfl) rfl rfl) (AOps.alloc 109 ze39 rfl rfl (by decide) (AOps.storeC si39 rfl rfl rfl rfl rfl rfl (Nat.le_of_ble_eq_true rfl) rfl ?_))
 refine AOps.nil (AWp.sr ?_)
 refine .fa fl39_0 ?_
 refine .ld sh3 ?_
 refine AOps.callP ok21 (comb_spec (w := ((n.cells.getD n41_10 default).kind))) rfl (.keep rfl rfl .nil) (by decide) rfl (AOps.nil ?_)
 refine AWp.condD rfl (fun c47 => ?_) (fun c47 => ?_)
 have hw1 := hf.outIn (CombAt.drives (n := n) (i := (n41_10 : Int)) ⟨⟨by omega, by omega⟩, c47⟩)
 rw [cell_nat] at hw1
 have hw2 := hw1; unfold In at hw2
 refine AWp.region ?_
 refine .mv ?_
 refine .fa fl39_2 ?_
 refine .ld sh3 ?_
 refine .vl (Y.indexO (m := ((n.cells.getD n41_10 default).out).toNat) sl63 rfl rfl (by omega) (by omega)) ?_
 refine AOps.storeE ((comb7_10.set (((n.cells.getD n41_10 default).out).toNat) true).map brow) si4 rfl rfl rfl rfl rfl rfl rfl (row_getD0 (d := false) (by omega)) (Nat.le_of_ble_eq_true rfl) (set_map0 rfl) ?_
 refine AOps.nil ?_
 exact ⟨comb7_10.set (((n.cells.getD n41_10 default).out).toNat) true, ⟨by first | omega | (simp [-List.getD_eq_getElem?_getD]; done) | (simp [-List.getD_eq_getElem?_getD]; omega) | (unfold In at *; omega), hci.step (by omega) hl107 c47 hw1⟩, Le.mk (.c (.c (.c (.c (.c (.c (.c (.c (.nil))))))))) (.c (.c (.c (.c (.c (.nil))))))⟩
 refine AWp.skip ?_
 exact ⟨comb7_10, ⟨by omega, hci.skip c47⟩, Le.mk (.c (.c (.c (.c (.c (.c (.c (.c (.nil))))))))) (.c (.c (.c (.c (.c (.nil))))))⟩
 obtain ⟨hlj14_107, hJ14⟩ := hJx14
 refine AWp.region ?_
 refine .vl (Y.addI rfl rfl (by omega)) ?_
 refine .mv ?_
 refine AOps.nil ?_
 exact ⟨n41_10 + 1, comb7_j14, ⟨by omega, by omega, hJ14⟩, by omega, Le.mk (.c (.c (.c (.c (.c (.c (.c (.cons (look_int rfl (by first | rfl | omega)) (.nil))))))))) (.c (.c (.c (.c (.c (.nil))))))⟩
 refine AWp.exit (AWp.seq (AWp.seq ?_))
 have hci2 : CombInv n n.cells.length comb7_10 := by rw [show n.cells.length = n41_10 by omega]; exact hci
 refine AWp.region ?_
 refine .fa fl27_2 ?_
 refine .ld sh23 ?_
 refine .vl (Y.len (n := n.cells.length) sl23 rfl (congrArg some (List.length_map ..))) ?_
 refine .mv ?_
 refine AOps.nil (AWp.block ?_)
 refine AWp.loop2 (fun (n56_16 : Nat) (out4_16 : List Int) => ⟨[(1, .ptr 101 0 0 0), (4, .slc 104 1 0 out4_16.length), (5, .slc 105 1 0 n.cells.length), (6, .slc 106 1 0 n.widths.length), (7, .slc 107 1 0 n.widths.length), (54, .fz 6 (n.cells.map Cell.row)), (55, vi ((n.cells.length : Nat) : Int)), (56, vi (n56_16 : Int))], [(101, .cells (Netlist.row n)), (104, .rows 1 (out4_16.map irow)), (105, .rows 1 ((List.replicate n.cells.length 0).map irow)), (106, .rows 1 ((List.replicate n.widths.length []).map orow)), (107, .rows 1 (comb7_10.map brow))]⟩) (fun (n56_16 : Nat) (out4_16 : List Int) => ((n56_16 : Int) ≤ ((n.cells.length : Nat) : Int)) ∧ (out4_16 = seqL n n56_16)) (fun (n56_16 : Nat) (out4_16 : List Int) => (((n.cells.length : Nat) : Int) - (n56_16 : Int)).toNat) 0 ([] : List Int) (⟨by first | omega | (simp [-List.getD_eq_getElem?_getD]; done) | (simp [-List.getD_eq_getElem?_getD]; omega) | (unfold In at *; omega), rfl⟩) (Le.mk (.c (.cons (look_slc rfl (by first | omega | (simp [-List.getD_eq_getElem?_getD]; done) | (simp [-List.getD_eq_getElem?_getD]; omega) | (unfold In at *; omega))) (.c (.c (.c (.c (.c (.cons (look_int rfl (by first | rfl | omega)) (.nil))))))))) (.c (.c (.c (.c (.c (.nil))))))) (fun n56_16 out4_16 hI16 => ?_)
 obtain ⟨hb16, hsq⟩ := hI16
 refine AWp.sr (.vl (Y.lss rfl rfl) (AOps.nil ?_))
 refine AWp.seq ?_
 refine AWp.condD rfl (fun c57 => ?_) (fun c57 => ?_)
 refine AWp.skip ?_
 refine AWp.join1 (fun (out4_j20 : List Int) => ⟨[(1, .ptr 101 0 0 0), (4, .slc 104 1 0 out4_j20.length), (5, .slc 105 1 0 n.cells.length), (6, .slc 106 1 0 n.widths.length), (7, .slc 107 1 0 n.widths.length), (54, .fz 6 (n.cells.map Cell.row)), (55, vi ((n.cells.length : Nat) : Int)), (56, vi (n56_16 : Int))], [(101, .cells (Netlist.row n)), (104, .rows 1 (out4_j20.map irow)), (105, .rows 1 ((List.replicate n.cells.length 0).map irow)), (106, .rows 1 ((List.replicate n.widths.length []).map orow)), (107, .rows 1 (comb7_10.map brow))]⟩) (fun (out4_j20 : List Int) => out4_j20 = seqL n (n56_16 + 1)) ?_ (fun out4_j20 hJ20 => ?_)
 refine AWp.block (AWp.sr ?_)
 refine .mv ?_
 refine .vl (Y.indexF (m := n56_16) sl23 rfl rfl (by first | rfl | omega) (row_getD (d := default) (by omega))) ?_
 refine .vl (Y.loadA sh39 rfl rfl (Nat.le_of_ble_eq_true rfl) rfl rfl) (AOps.alloc 111 ze39 rfl rfl (by decide) ?_)
 refine .an ?_
 refine AOps.storeC si39 rfl rfl rfl rfl rfl rfl (Nat.le_of_ble_eq_true rfl) rfl (AOps.nil (AWp.sr ?_))
 have hsl := seqL_len n n56_16; rw [← hsq] at hsl
 refine .fa fl39_0 ?_
 refine .ld sh3 ?_
 refine AOps.callP ok21 (comb_spec (w := ((n.cells.getD n56_16 default).kind))) rfl (.keep rfl rfl .nil) (by decide) rfl (.vl (Y.not rfl) (AOps.nil ?_))
 refine AWp.cond rfl (fun c64 => ?_) (fun c64 => ?_)
 replace c64 : ¬ (Comb ((n.cells.getD n56_16 default).kind)) := by simpa using c64
 refine AWp.region ?_
 refine .mv ?_
 refine .mv ?_
 refine AOps.buildSlice (([(n56_16 : Int)] : List Int).map irow) sl22 ze3 rfl rfl rfl rfl rfl (uniform_map (s := 1) (f := irow) (fun _ => rfl)) rfl rfl rfl (by decide) ?_
 refine AOps.appendE ((out4_16 ++ ([(n56_16 : Int)] : List Int)).map irow) (out4_16 ++ ([(n56_16 : Int)] : List Int)).length sl22 ze3 rfl rfl rfl rfl (app_le (by first | omega | (simp [-List.getD_eq_getElem?_getD]; done) | (simp [-List.getD_eq_getElem?_getD]; omega) | (unfold In at *; omega))) (app_map (by first | omega | (simp [-List.getD_eq_getElem?_getD]; done) | (simp [-List.getD_eq_getElem?_getD]; omega) | (unfold In at *; omega))) (app_n (by first | omega | (simp [-List.getD_eq_getElem?_getD]; done) | (simp [-List.getD_eq_getElem?_getD]; omega) | (unfold In at *; omega))) (by first | omega | (simp [-List.getD_eq_getElem?_getD]; done) | (simp [-List.getD_eq_getElem?_getD]; omega) | (unfold In at *; omega)) (by first | omega | (simp [-List.getD_eq_getElem?_getD]; done) | (simp [-List.getD_eq_getElem?_getD]; omega) | (unfold In at *; omega)) (by decide) (by decide) ?_
 refine .an ?_
 refine AOps.nil ?_
 exact ⟨out4_16 ++ ([(n56_16 : Int)] : List Int), by rw [seqL_succ, if_neg c64, hsq], Le.mk (.c (.cons (look_slc rfl (by omega)) (.c (.c (.c (.c (.c (.c (.nil))))))))) (.c (.c (.c (.c (.c (.nil))))))⟩
 replace c64 : Comb ((n.cells.getD n56_16 default).kind) := by simpa using c64
 refine AWp.skip ?_
 exact ⟨out4_16, by rw [seqL_succ, if_pos c64, hsq, List.append_nil], Le.mk (.c (.cons (look_slc rfl (by omega)) (.c (.c (.c (.c (.c (.c (.nil))))))))) (.c (.c (.c (.c (.c (.nil))))))⟩
 refine AWp.region ?_
 refine .vl (Y.addI rfl rfl (by omega)) ?_
 refine .mv ?_
 refine AOps.nil ?_
 exact ⟨n56_16 + 1, out4_j20, ⟨by omega, hJ20⟩, by omega, Le.mk (.c (.cons (look_slc rfl (by omega)) (.c (.c (.c (.c (.c (.cons (look_int rfl (by first | rfl | omega)) (.nil))))))))) (.c (.c (.c (.c (.c (.nil))))))⟩
 refine AWp.exit (AWp.sr ?_)
 refine .an ?_
 refine AOps.sh (Sh.nil (d := 12) 112 1 rfl (by decide)) (AOps.nil (AWp.seq ?_))
 refine AWp.sr ?_
 refine .fa fl27_2 ?_
 refine .ld sh23 ?_
 refine .vl (Y.len (n := n.cells.length) sl23 rfl (congrArg some (List.length_map ..))) ?_
 refine .mv ?_
 refine AOps.nil (AWp.block ?_)
 refine AWp.loop4 (fun (n73_23 : Nat) (remaining5_23 : List Int) (users6_23 : List (List Int)) (ready12_23 : List Int) => ⟨[(1, .ptr 101 0 0 0), (4, .slc 104 1 0 out4_16.length), (5, .slc 105 1 0 n.cells.length), (6, .slc 106 1 0 n.widths.length), (7, .slc 107 1 0 n.widths.length), (12, .slc 112 1 0 ready12_23.length), (71, .fz 6 (n.cells.map Cell.row)), (72, vi ((n.cells.length : Nat) : Int)), (73, vi (n73_23 : Int))], [(101, .cells (Netlist.row n)), (104, .rows 1 (out4_16.map irow)), (105, .rows 1 (remaining5_23.map irow)), (106, .rows 1 (users6_23.map orow)), (107, .rows 1 (comb7_10.map brow)), (112, .rows 1 (ready12_23.map irow))]⟩) (fun (n73_23 : Nat) (remaining5_23 : List Int) (users6_23 : List (List Int)) (ready12_23 : List Int) => (remaining5_23.length = n.cells.length) ∧ (users6_23.length = n.widths.length) ∧ ((n73_23 : Int) ≤ ((n.cells.length : Nat) : Int)) ∧ (BI n n73_23 remaining5_23 users6_23 ready12_23)) (fun (n73_23 : Nat) (remaining5_23 : List Int) (users6_23 : List (List Int)) (ready12_23 : List Int) => (((n.cells.length : Nat) : Int) - (n73_23 : Int)).toNat) 0 (List.replicate n.cells.length 0) (List.replicate n.widths.length []) ([] : List Int) (⟨by first | omega | (simp [-List.getD_eq_getElem?_getD]; done) | (simp [-List.getD_eq_getElem?_getD]; omega) | (unfold In at *; omega), by first | omega | (simp [-List.getD_eq_getElem?_getD]; done) | (simp [-List.getD_eq_getElem?_getD]; omega) | (unfold In at *; omega), by first | omega | (simp [-List.getD_eq_getElem?_getD]; done) | (simp [-List.getD_eq_getElem?_getD]; omega) | (unfold In at *; omega), BI.init n⟩) (Le.mk (.c (.c (.c (.c (.c (.cons (look_slc rfl (by first | omega | (simp [-List.getD_eq_getElem?_getD]; done) | (simp [-List.getD_eq_getElem?_getD]; omega) | (unfold In at *; omega))) (.c (.c (.cons (look_int rfl (by first | rfl | omega)) (.nil)))))))))) (.c (.c (.c (.c (.c (.c (.nil)))))))) (fun n73_23 remaining5_23 users6_23 ready12_23 hI23 => ?_)
 obtain ⟨hl105, hl106, hb23, hbi⟩ := hI23
 refine AWp.sr (.vl (Y.lss rfl rfl) (AOps.nil ?_))
 refine AWp.seq ?_
 refine AWp.condD rfl (fun c74 => ?_) (fun c74 => ?_)
 refine AWp.skip ?_
 refine AWp.join3 (fun (remaining5_j35 : List Int) (users6_j35 : List (List Int)) (ready12_j35 : List Int) => ⟨[(1, .ptr 101 0 0 0), (4, .slc 104 1 0 out4_16.length), (5, .slc 105 1 0 n.cells.length), (6, .slc 106 1 0 n.widths.length), (7, .slc 107 1 0 n.widths.length), (12, .slc 112 1 0 ready12_j35.length), (71, .fz 6 (n.cells.map Cell.row)), (72, vi ((n.cells.length : Nat) : Int)), (73, vi (n73_23 : Int))], [(101, .cells (Netlist.row n)), (104, .rows 1 (out4_16.map irow)), (105, .rows 1 (remaining5_j35.map irow)), (106, .rows 1 (users6_j35.map orow)), (107, .rows 1 (comb7_10.map brow)), (112, .rows 1 (ready12_j35.map irow))]⟩) (fun (remaining5_j35 : List Int) (users6_j35 : List (List Int)) (ready12_j35 : List Int) => (remaining5_j35.length = n.cells.length) ∧ ((users6_j35.length = n.widths.length) ∧ (BI n (n73_23 + 1) remaining5_j35 users6_j35 ready12_j35))) ?_ (fun remaining5_j35 users6_j35 ready12_j35 hJx35 => ?_)
 refine AWp.block (AWp.sr ?_)
 refine .mv ?_
 refine .vl (Y.indexF (m := n73_23) sl23 rfl rfl (by first | rfl | omega) (row_getD (d := default) (by omega))) ?_
 refine .vl (Y.loadA sh39 rfl rfl (Nat.le_of_ble_eq_true rfl) rfl rfl) (AOps.alloc 114 ze39 rfl rfl (by decide) ?_)
 refine .an ?_
 refine AOps.storeC si39 rfl rfl rfl rfl rfl rfl (Nat.le_of_ble_eq_true rfl) rfl (AOps.nil (AWp.seq ?_))
 refine AWp.sr ?_
 have hca := hs.args (n.cells.getD n73_23 default) (getD_mem' (by omega))
 have hrl := hbi.rl
 refine .fa fl39_0 ?_
 refine .ld sh3 ?_
 refine AOps.callP ok21 (comb_spec (w := ((n.cells.getD n73_23 default).kind))) rfl (.keep rfl rfl .nil) (by decide) rfl (.vl (Y.not rfl) (AOps.nil ?_))
 refine AWp.cond rfl (fun c81 => ?_) (fun c81 => ?_)
 replace c81 : ¬ (Comb ((n.cells.getD n73_23 default).kind)) := by simpa using c81
 refine AWp.exit ?_
 exact ⟨remaining5_23, users6_23, ready12_23, ⟨by omega, ⟨by omega, hbi.skip (by omega) c81⟩⟩, Le.mk (.c (.c (.c (.c (.c (.cons (look_slc rfl (by omega)) (.c (.c (.c (.nil)))))))))) (.c (.c (.c (.c (.c (.c (.nil)))))))⟩
 replace c81 : Comb ((n.cells.getD n73_23 default).kind) := by simpa using c81
 refine AWp.skip (AWp.seq (AWp.sr ?_))
 refine .fa fl39_3 ?_
 refine .ld sh22 ?_
 refine .vl (Y.len (n := ((n.cells.getD n73_23 default).args).length) sl22 rfl (congrArg some (List.length_map ..))) ?_
 refine .mv ?_
 refine AOps.nil (AWp.block ?_)
 refine AWp.loop3 (fun (n85_27 : Nat) (remaining5_27 : List Int) (users6_27 : List (List Int)) => ⟨[(1, .ptr 101 0 0 0), (4, .slc 104 1 0 out4_16.length), (5, .slc 105 1 0 n.cells.length), (6, .slc 106 1 0 n.widths.length), (7, .slc 107 1 0 n.widths.length), (12, .slc 112 1 0 ready12_23.length), (13, vi (n73_23 : Int)), (71, .fz 6 (n.cells.map Cell.row)), (72, vi ((n.cells.length : Nat) : Int)), (73, vi (n73_23 : Int)), (83, .fz 1 (((n.cells.getD n73_23 default).args).map irow)), (84, vi ((((n.cells.getD n73_23 default).args).length : Nat) : Int)), (85, vi (n85_27 : Int))], [(101, .cells (Netlist.row n)), (104, .rows 1 (out4_16.map irow)), (105, .rows 1 (remaining5_27.map irow)), (106, .rows 1 (users6_27.map orow)), (107, .rows 1 (comb7_10.map brow)), (112, .rows 1 (ready12_23.map irow))]⟩) (fun (n85_27 : Nat) (remaining5_27 : List Int) (users6_27 : List (List Int)) => (remaining5_27.length = n.cells.length) ∧ (users6_27.length = n.widths.length) ∧ ((n85_27 : Int) ≤ ((((n.cells.getD n73_23 default).args).length : Nat) : Int)) ∧ (BJ n n73_23 n85_27 remaining5_23 users6_23 remaining5_27 users6_27)) (fun (n85_27 : Nat) (remaining5_27 : List Int) (users6_27 : List (List Int)) => (((((n.cells.getD n73_23 default).args).length : Nat) : Int) - (n85_27 : Int)).toNat) 0 remaining5_23 users6_23 (⟨by omega, by omega, by omega, BJ.init hbi (by omega)⟩) (Le.mk (.c (.c (.c (.c (.c (.c (.c (.c (.c (.c (.c (.c (.cons (look_int rfl (by first | rfl | omega)) (.nil)))))))))))))) (.c (.c (.c (.c (.c (.c (.nil)))))))) (fun n85_27 remaining5_27 users6_27 hI27 => ?_)
 obtain ⟨hl105, hl106, hb27, hbj⟩ := hI27
 refine AWp.sr (.vl (Y.lss rfl rfl) (AOps.nil ?_))
 refine AWp.seq ?_
 refine AWp.condD rfl (fun c86 => ?_) (fun c86 => ?_)
 refine AWp.skip ?_
 refine AWp.join2 (fun (remaining5_j32 : List Int) (users6_j32 : List (List Int)) => ⟨[(1, .ptr 101 0 0 0), (4, .slc 104 1 0 out4_16.length), (5, .slc 105 1 0 n.cells.length), (6, .slc 106 1 0 n.widths.length), (7, .slc 107 1 0 n.widths.length), (12, .slc 112 1 0 ready12_23.length), (13, vi (n73_23 : Int)), (71, .fz 6 (n.cells.map Cell.row)), (72, vi ((n.cells.length : Nat) : Int)), (73, vi (n73_23 : Int)), (83, .fz 1 (((n.cells.getD n73_23 default).args).map irow)), (84, vi ((((n.cells.getD n73_23 default).args).length : Nat) : Int)), (85, vi (n85_27 : Int))], [(101, .cells (Netlist.row n)), (104, .rows 1 (out4_16.map irow)), (105, .rows 1 (remaining5_j32.map irow)), (106, .rows 1 (users6_j32.map orow)), (107, .rows 1 (comb7_10.map brow)), (112, .rows 1 (ready12_23.map irow))]⟩) (fun (remaining5_j32 : List Int) (users6_j32 : List (List Int)) => (remaining5_j32.length = n.cells.length) ∧ ((users6_j32.length = n.widths.length) ∧ (BJ n n73_23 (n85_27 + 1) remaining5_23 users6_23 remaining5_j32 users6_j32))) ?_ (fun remaining5_j32 users6_j32 hJx32 => ?_)
 refine AWp.block (AWp.sr ?_)
 refine .vl (Y.indexF (m := n85_27) sl22 rfl rfl (by first | rfl | omega) (row_getD (d := 0) (by omega))) ?_
 refine .ld sh3 ?_
 refine .an ?_
 refine AOps.nil (AWp.sr ?_)
 have hax := hf.argIn (i := (n73_23 : Int)) ⟨by omega, by omega⟩ (getD_mem (i := n85_27) (by rw [cell_nat]; omega))
 rw [cell_nat] at hax
 have hax2 := hax; unfold In at hax2
 have hbo := hbj.own_le
 have hbl := BJ.len hbi hbj hax
 have htt := tot_le hs (n73_23 + 1); rw [tot_succ (by omega)] at htt
 refine .mv ?_
 refine .mv ?_
 refine .vl (Y.indexO (m := (((n.cells.getD n73_23 default).args).getD n85_27 0).toNat) sl63 rfl rfl (by omega) (by omega)) ?_
 refine .vl (Y.load sh4 rfl (row_getD0 (d := false) (by omega)) rfl rfl) ?_
 refine AOps.nil ?_
 refine AWp.cond rfl (fun c92 => ?_) (fun c92 => ?_)
 refine AWp.sr ?_
 refine .mv ?_
 refine .mv ?_
 refine .vl (Y.indexO (m := n73_23) sl22 rfl rfl (by first | rfl | omega) (by omega)) ?_
 refine .vl (Y.load sh3 rfl (row_getD0 (d := 0) (by first | omega | (simp [-List.getD_eq_getElem?_getD]; done) | (simp [-List.getD_eq_getElem?_getD]; omega) | (unfold In at *; omega))) rfl rfl) ?_
 refine .vl (Y.addI rfl rfl (by omega)) ?_
 refine .vl (Y.indexO (m := n73_23) sl22 rfl rfl (by first | rfl | omega) (by omega)) ?_
 refine AOps.storeE ((remaining5_27.set n73_23 ((remaining5_27.getD n73_23 0) + 1)).map irow) si3 rfl rfl rfl rfl rfl rfl rfl (row_getD0 (d := 0) (by omega)) (Nat.le_of_ble_eq_true rfl) (set_map0 rfl) ?_
 refine AOps.nil (AWp.region ?_)
 refine .mv ?_
 refine .mv ?_
 refine .mv ?_
 refine .mv ?_
 refine .vl (Y.indexO (m := (((n.cells.getD n73_23 default).args).getD n85_27 0).toNat) sl92 rfl rfl (by omega) (by omega)) ?_
 refine AOps.loadU ((users6_27.map orow).set (0 + ((((n.cells.getD n73_23 default).args).getD n85_27 0).toNat)) [.no]) sh22 rfl rfl (row_getD0 (d := []) (by omega)) rfl rfl (by decide) ?_
 refine .mv ?_
 refine AOps.buildSlice (([(n73_23 : Int)] : List Int).map irow) sl22 ze3 rfl rfl rfl rfl rfl (uniform_map (s := 1) (f := irow) (fun _ => rfl)) rfl rfl rfl (by decide) ?_
 refine AOps.sh (Sh.adoptE (d := 104) (n := (users6_27.getD ((((n.cells.getD n73_23 default).args).getD n85_27 0).toNat) []).length) 204 ((users6_27.getD ((((n.cells.getD n73_23 default).args).getD n85_27 0).toNat) []).map irow) rfl (by first | rfl | exact rep_map rfl) (len_map rfl) (by decide)) ?_
 refine AOps.appendE (((users6_27.getD ((((n.cells.getD n73_23 default).args).getD n85_27 0).toNat) []) ++ ([(n73_23 : Int)] : List Int)).map irow) ((users6_27.getD ((((n.cells.getD n73_23 default).args).getD n85_27 0).toNat) []) ++ ([(n73_23 : Int)] : List Int)).length sl22 ze3 rfl rfl rfl rfl (app_le (by first | omega | (simp [-List.getD_eq_getElem?_getD]; done) | (simp [-List.getD_eq_getElem?_getD]; omega) | (unfold In at *; omega))) (app_map (by first | omega | (simp [-List.getD_eq_getElem?_getD]; done) | (simp [-List.getD_eq_getElem?_getD]; omega) | (unfold In at *; omega))) (app_n (by first | omega | (simp [-List.getD_eq_getElem?_getD]; done) | (simp [-List.getD_eq_getElem?_getD]; omega) | (unfold In at *; omega))) (by first | omega | (simp [-List.getD_eq_getElem?_getD]; done) | (simp [-List.getD_eq_getElem?_getD]; omega) | (unfold In at *; omega)) (by first | omega | (simp [-List.getD_eq_getElem?_getD]; done) | (simp [-List.getD_eq_getElem?_getD]; omega) | (unfold In at *; omega)) (by decide) (by decide) ?_
 refine .vl (Y.indexO (m := (((n.cells.getD n73_23 default).args).getD n85_27 0).toNat) sl92 rfl rfl (by omega) (by omega)) ?_
 refine AOps.sh (Sh.detach (d := 107) (o := 204) rfl rfl (len_map (by omega)) (by decide)) ?_
 refine AOps.storeUE ((users6_27.set ((((n.cells.getD n73_23 default).args).getD n85_27 0).toNat) ((users6_27.getD ((((n.cells.getD n73_23 default).args).getD n85_27 0).toNat) []) ++ ([(n73_23 : Int)] : List Int))).map orow) si22 rfl rfl rfl (out_get (by omega)) (by decide) (out_back rfl) ?_
 refine AOps.nil ?_
 exact ⟨remaining5_27.set n73_23 ((remaining5_27.getD n73_23 0) + 1), users6_27.set ((((n.cells.getD n73_23 default).args).getD n85_27 0).toNat) ((users6_27.getD ((((n.cells.getD n73_23 default).args).getD n85_27 0).toNat) []) ++ ([(n73_23 : Int)] : List Int)), ⟨by first | omega | (simp [-List.getD_eq_getElem?_getD]; done) | (simp [-List.getD_eq_getElem?_getD]; omega) | (unfold In at *; omega), ⟨by first | omega | (simp [-List.getD_eq_getElem?_getD]; done) | (simp [-List.getD_eq_getElem?_getD]; omega) | (unfold In at *; omega), hbj.step (by omega) hl105 hl106 (by omega) hax ((CombInv.all hci2 hax).1 c92)⟩⟩, Le.mk (.c (.c (.c (.c (.c (.c (.c (.c (.c (.c (.c (.c (.c (.nil)))))))))))))) (.c (.c (.c (.c (.c (.c (.nil)))))))⟩
 refine AWp.skip ?_
 exact ⟨remaining5_27, users6_27, ⟨by omega, ⟨by omega, hbj.skip (by omega) (fun h => by rw [(CombInv.all hci2 hax).2 h] at c92; cases c92)⟩⟩, Le.mk (.c (.c (.c (.c (.c (.c (.c (.c (.c (.c (.c (.c (.c (.nil)))))))))))))) (.c (.c (.c (.c (.c (.c (.nil)))))))⟩
 obtain ⟨hlj32_105, hlj32_106, hJ32⟩ := hJx32
 refine AWp.region ?_
 refine .vl (Y.addI rfl rfl (by omega)) ?_
 refine .mv ?_
 refine AOps.nil ?_
 exact ⟨n85_27 + 1, remaining5_j32, users6_j32, ⟨by omega, by omega, by omega, hJ32⟩, by omega, Le.mk (.c (.c (.c (.c (.c (.c (.c (.c (.c (.c (.c (.c (.cons (look_int rfl (by first | rfl | omega)) (.nil)))))))))))))) (.c (.c (.c (.c (.c (.c (.nil)))))))⟩
 refine AWp.exit (AWp.sr ?_)
 refine .mv ?_
 refine .mv ?_
 refine .vl (Y.indexO (m := n73_23) sl22 rfl rfl (by first | rfl | omega) (by omega)) ?_
 refine .vl (Y.load sh3 rfl (row_getD0 (d := 0) (by first | omega | (simp [-List.getD_eq_getElem?_getD]; done) | (simp [-List.getD_eq_getElem?_getD]; omega) | (unfold In at *; omega))) rfl rfl) ?_
 refine .vl (Y.eql rfl rfl) (AOps.nil ?_)
 refine AWp.condD rfl (fun c114 => ?_) (fun c114 => ?_)
 refine AWp.region ?_
 refine .mv ?_
 refine .mv ?_
 refine AOps.buildSlice (([(n73_23 : Int)] : List Int).map irow) sl22 ze3 rfl rfl rfl rfl rfl (uniform_map (s := 1) (f := irow) (fun _ => rfl)) rfl rfl rfl (by decide) ?_
 refine AOps.appendE ((ready12_23 ++ ([(n73_23 : Int)] : List Int)).map irow) (ready12_23 ++ ([(n73_23 : Int)] : List Int)).length sl22 ze3 rfl rfl rfl rfl (app_le (by first | omega | (simp [-List.getD_eq_getElem?_getD]; done) | (simp [-List.getD_eq_getElem?_getD]; omega) | (unfold In at *; omega))) (app_map (by first | omega | (simp [-List.getD_eq_getElem?_getD]; done) | (simp [-List.getD_eq_getElem?_getD]; omega) | (unfold In at *; omega))) (app_n (by first | omega | (simp [-List.getD_eq_getElem?_getD]; done) | (simp [-List.getD_eq_getElem?_getD]; omega) | (unfold In at *; omega))) (by first | omega | (simp [-List.getD_eq_getElem?_getD]; done) | (simp [-List.getD_eq_getElem?_getD]; omega) | (unfold In at *; omega)) (by first | omega | (simp [-List.getD_eq_getElem?_getD]; done) | (simp [-List.getD_eq_getElem?_getD]; omega) | (unfold In at *; omega)) (by decide) (by decide) ?_
 refine .an ?_
 refine AOps.nil ?_
 exact ⟨remaining5_27, users6_27, ready12_23 ++ ([(n73_23 : Int)] : List Int), ⟨by omega, ⟨by omega, (BJ.fin hbi (by omega) c81 (by rw [show (n.cells.getD n73_23 default).args.length = n85_27 by omega]; exact hbj)).1 c114⟩⟩, Le.mk (.c (.c (.c (.c (.c (.cons (look_slc rfl (by omega)) (.c (.c (.c (.nil)))))))))) (.c (.c (.c (.c (.c (.c (.nil)))))))⟩
 refine AWp.skip ?_
 exact ⟨remaining5_27, users6_27, ready12_23, ⟨by omega, ⟨by omega, (BJ.fin hbi (by omega) c81 (by rw [show (n.cells.getD n73_23 default).args.length = n85_27 by omega]; exact hbj)).2 c114⟩⟩, Le.mk (.c (.c (.c (.c (.c (.cons (look_slc rfl (by omega)) (.c (.c (.c (.nil)))))))))) (.c (.c (.c (.c (.c (.c (.nil)))))))⟩
 obtain ⟨hlj35_105, hlj35_106, hJ35⟩ := hJx35
 refine AWp.region ?_
 refine .vl (Y.addI rfl rfl (by omega)) ?_
 refine .mv ?_
 refine AOps.nil ?_
 exact ⟨n73_23 + 1, remaining5_j35, users6_j35, ready12_j35, ⟨by omega, by omega, by omega, hJ35⟩, by omega, Le.mk (.c (.c (.c (.c (.c (.cons (look_slc rfl (by omega)) (.c (.c (.cons (look_int rfl (by first | rfl | omega)) (.nil)))))))))) (.c (.c (.c (.c (.c (.c (.nil)))))))⟩
 refine AWp.exit (AWp.seq (AWp.block ?_))
 have hbi2 : BI n n.cells.length remaining5_23 users6_23 ready12_23 := by rw [show n.cells.length = n73_23 by omega]; exact hbi
 have hus := hbi2.us
 refine AWp.sh (Sh.detach (d := 6) (o := 106) rfl rfl (len_map (by omega)) (by decide)) ?_
 refine AWp.sh (Sh.freezeNest (d := 6) (l := users6_23) (f := orow) (g := lrow) orow_ffz rfl) ?_
 refine AWp.loop3 (fun (out4_36 : List Int) (remaining5_36 : List Int) (ready12_36 : List Int) => ⟨[(1, .ptr 101 0 0 0), (4, .slc 104 1 0 out4_36.length), (5, .slc 105 1 0 n.cells.length), (6, .fz 1 (users6_23.map lrow)), (12, .slc 112 1 0 ready12_36.length)], [(101, .cells (Netlist.row n)), (104, .rows 1 (out4_36.map irow)), (105, .rows 1 (remaining5_36.map irow)), (112, .rows 1 (ready12_36.map irow))]⟩) (fun (out4_36 : List Int) (remaining5_36 : List Int) (ready12_36 : List Int) => (remaining5_36.length = n.cells.length) ∧ (∃ done, out4_36 = seqL n n.cells.length ++ done ∧ KI n done ready12_36 remaining5_36)) (fun (out4_36 : List Int) (remaining5_36 : List Int) (ready12_36 : List Int) => n.cells.length - out4_36.length) out4_16 remaining5_23 ready12_23 (⟨by omega, ⟨[], by rw [hsq, show n56_16 = n.cells.length by omega, List.append_nil], hbi2.ki⟩⟩) (Le.mk (.c (.cons (look_slc rfl (by omega)) (.c (.c (.cons (look_slc rfl (by omega)) (.nil)))))) (.c (.c (.c (.c (.nil)))))) (fun out4_36 remaining5_36 ready12_36 hI36 => ?_)
 obtain ⟨hl105, hK⟩ := hI36
 refine AWp.seq (AWp.sr ?_)
 refine .mv ?_
 refine .vl (Y.len (n := ready12_36.length) sl22 rfl rfl) (.vl (Y.gtr rfl rfl) (AOps.nil ?_))
 refine AWp.condD rfl (fun c122 => ?_) (fun c122 => ?_)
 obtain ⟨done, hout, hki⟩ := hK
 have hln := hki.len
 rw [← hout] at hln
 have hi0 := hki.cm (ready12_36.getD 0 0) (List.mem_append.2 (.inr (getD_mem (by omega))))
 have hib := hi0.1
 have hio := hf.outIn hi0.drives
 have hio2 := hio; unfold In Netlist.cell at hio2
 have hcu : ∀ x, CombAt n x → (users6_23.getD (((n.cells.getD ((ready12_36.getD 0 0).toNat) default).out).toNat) []).count x = (n.cell x).args.count (n.cell (ready12_36.getD 0 0)).out := fun x hx => hus.cnt _ x hio ⟨_, hi0, rfl⟩ hx
 have hmu : ∀ x ∈ (users6_23.getD (((n.cells.getD ((ready12_36.getD 0 0).toNat) default).out).toNat) []), CombAt n x := fun x hx => hus.mem _ x hio hx
 have hut := hbi2.ul _ hio; unfold Netlist.cell at hut
 have htt := tot_le hs n.cells.length
 refine AWp.skip (AWp.block (AWp.sr ?_))
 refine .mv ?_
 refine .vl (Y.indexO (m := 0) sl22 rfl rfl (by first | rfl | omega) (by omega)) ?_
 refine .vl (Y.load sh3 rfl (row_getD0 (d := 0) (by first | omega | (simp [-List.getD_eq_getElem?_getD]; done) | (simp [-List.getD_eq_getElem?_getD]; omega) | (unfold In at *; omega))) rfl rfl) ?_
 refine .an ?_
 refine AOps.nil (AWp.sr ?_)
 refine .mv ?_
 refine .vl (Y.sliceO (l := 1) (h := ready12_36.length) sl22 rfl (.some rfl) (.none _) (by omega) (by omega)) ?_
 refine .an ?_
 refine AOps.sh (Sh.trimE (d := 12) (o := 112) ((ready12_36.drop 1).map irow) rfl rfl (by first | omega | (simp [-List.getD_eq_getElem?_getD]; done) | (simp [-List.getD_eq_getElem?_getD]; omega) | (unfold In at *; omega)) (trim_drop (by first | omega | (simp [-List.getD_eq_getElem?_getD]; done) | (simp [-List.getD_eq_getElem?_getD]; omega) | (unfold In at *; omega))) (by decide)) ?_
 refine AOps.nil (AWp.sr ?_)
 refine .mv ?_
 refine .mv ?_
 refine AOps.buildSlice (([ready12_36.getD 0 0] : List Int).map irow) sl22 ze3 rfl rfl rfl rfl rfl (uniform_map (s := 1) (f := irow) (fun _ => rfl)) rfl rfl rfl (by decide) ?_
 refine AOps.appendE ((out4_36 ++ ([ready12_36.getD 0 0] : List Int)).map irow) (out4_36 ++ ([ready12_36.getD 0 0] : List Int)).length sl22 ze3 rfl rfl rfl rfl (app_le (by first | omega | (simp [-List.getD_eq_getElem?_getD]; done) | (simp [-List.getD_eq_getElem?_getD]; omega) | (unfold In at *; omega))) (app_map (by first | omega | (simp [-List.getD_eq_getElem?_getD]; done) | (simp [-List.getD_eq_getElem?_getD]; omega) | (unfold In at *; omega))) (app_n (by first | omega | (simp [-List.getD_eq_getElem?_getD]; done) | (simp [-List.getD_eq_getElem?_getD]; omega) | (unfold In at *; omega))) (by first | omega | (simp [-List.getD_eq_getElem?_getD]; done) | (simp [-List.getD_eq_getElem?_getD]; omega) | (unfold In at *; omega)) (by first | omega | (simp [-List.getD_eq_getElem?_getD]; done) | (simp [-List.getD_eq_getElem?_getD]; omega) | (unfold In at *; omega)) (by decide) (by decide) ?_
 refine .an ?_
 refine AOps.nil (AWp.sr ?_)
 refine .mv ?_
 refine .fa fl27_2 ?_
 refine .ld sh23 ?_
 refine .mv ?_
 refine .vl (Y.indexF (m := (ready12_36.getD 0 0).toNat) sl23 rfl rfl (by omega) (row_getD (d := default) (by omega))) ?_
 refine .fa fl39_2 ?_
 refine .ld sh3 ?_
 refine .vl (Y.indexF (m := ((n.cells.getD ((ready12_36.getD 0 0).toNat) default).out).toNat) sl92 rfl rfl (by omega) (row_getD (d := []) (by omega))) ?_
 refine .ld sh22 ?_
 refine .vl (Y.len (n := (users6_23.getD (((n.cells.getD ((ready12_36.getD 0 0).toNat) default).out).toNat) []).length) sl22 rfl (congrArg some (List.length_map ..))) ?_
 refine .mv ?_
 refine AOps.nil (AWp.block ?_)
 refine AWp.loop3 (fun (n142_41 : Nat) (remaining5_41 : List Int) (ready12_41 : List Int) => ⟨[(1, .ptr 101 0 0 0), (4, .slc 104 1 0 ((out4_36 ++ ([ready12_36.getD 0 0] : List Int)).length)), (5, .slc 105 1 0 n.cells.length), (6, .fz 1 (users6_23.map lrow)), (12, .slc 112 1 0 ready12_41.length), (140, .fz 1 ((users6_23.getD (((n.cells.getD ((ready12_36.getD 0 0).toNat) default).out).toNat) []).map irow)), (141, vi (((users6_23.getD (((n.cells.getD ((ready12_36.getD 0 0).toNat) default).out).toNat) []).length : Nat) : Int)), (142, vi (n142_41 : Int))], [(101, .cells (Netlist.row n)), (104, .rows 1 ((out4_36 ++ ([ready12_36.getD 0 0] : List Int)).map irow)), (105, .rows 1 (remaining5_41.map irow)), (112, .rows 1 (ready12_41.map irow))]⟩) (fun (n142_41 : Nat) (remaining5_41 : List Int) (ready12_41 : List Int) => (remaining5_41.length = n.cells.length) ∧ ((n142_41 : Int) ≤ (((users6_23.getD (((n.cells.getD ((ready12_36.getD 0 0).toNat) default).out).toNat) []).length : Nat) : Int)) ∧ (KJ n done (ready12_36.getD 0 0) (users6_23.getD (((n.cells.getD ((ready12_36.getD 0 0).toNat) default).out).toNat) []) n142_41 ready12_41 remaining5_41)) (fun (n142_41 : Nat) (remaining5_41 : List Int) (ready12_41 : List Int) => ((((users6_23.getD (((n.cells.getD ((ready12_36.getD 0 0).toNat) default).out).toNat) []).length : Nat) : Int) - (n142_41 : Int)).toNat) 0 remaining5_36 (ready12_36.drop 1) (⟨by first | omega | (simp [-List.getD_eq_getElem?_getD]; done) | (simp [-List.getD_eq_getElem?_getD]; omega) | (unfold In at *; omega), by first | omega | (simp [-List.getD_eq_getElem?_getD]; done) | (simp [-List.getD_eq_getElem?_getD]; omega) | (unfold In at *; omega), KJ.init hki (by omega)⟩) (Le.mk (.c (.c (.c (.c (.cons (look_slc rfl (by first | omega | (simp [-List.getD_eq_getElem?_getD]; done) | (simp [-List.getD_eq_getElem?_getD]; omega) | (unfold In at *; omega))) (.c (.c (.cons (look_int rfl (by first | rfl | omega)) (.nil))))))))) (.c (.c (.c (.c (.nil)))))) (fun n142_41 remaining5_41 ready12_41 hI41 => ?_)
 obtain ⟨hl105, hb41, hkj⟩ := hI41
 refine AWp.sr (.vl (Y.lss rfl rfl) (AOps.nil ?_))
 refine AWp.seq ?_
 refine AWp.condD rfl (fun c143 => ?_) (fun c143 => ?_)
 refine AWp.skip ?_
 refine AWp.join1 (fun (ready12_j46 : List Int) => ⟨[(1, .ptr 101 0 0 0), (4, .slc 104 1 0 ((out4_36 ++ ([ready12_36.getD 0 0] : List Int)).length)), (5, .slc 105 1 0 n.cells.length), (6, .fz 1 (users6_23.map lrow)), (12, .slc 112 1 0 ready12_j46.length), (140, .fz 1 ((users6_23.getD (((n.cells.getD ((ready12_36.getD 0 0).toNat) default).out).toNat) []).map irow)), (141, vi (((users6_23.getD (((n.cells.getD ((ready12_36.getD 0 0).toNat) default).out).toNat) []).length : Nat) : Int)), (142, vi (n142_41 : Int))], [(101, .cells (Netlist.row n)), (104, .rows 1 ((out4_36 ++ ([ready12_36.getD 0 0] : List Int)).map irow)), (105, .rows 1 ((remaining5_41.set (((users6_23.getD (((n.cells.getD ((ready12_36.getD 0 0).toNat) default).out).toNat) []).getD n142_41 0).toNat) ((remaining5_41.getD (((users6_23.getD (((n.cells.getD ((ready12_36.getD 0 0).toNat) default).out).toNat) []).getD n142_41 0).toNat) 0) - 1)).map irow)), (112, .rows 1 (ready12_j46.map irow))]⟩) (fun (ready12_j46 : List Int) => KJ n done (ready12_36.getD 0 0) (users6_23.getD (((n.cells.getD ((ready12_36.getD 0 0).toNat) default).out).toNat) []) (n142_41 + 1) ready12_j46 (remaining5_41.set ((users6_23.getD (((n.cells.getD ((ready12_36.getD 0 0).toNat) default).out).toNat) []).getD n142_41 0).toNat (remaining5_41.getD ((users6_23.getD (((n.cells.getD ((ready12_36.getD 0 0).toNat) default).out).toNat) []).getD n142_41 0).toNat 0 - 1))) ?_ (fun ready12_j46 hJ46 => ?_)
 refine AWp.block (AWp.sr ?_)
 refine .vl (Y.indexF (m := n142_41) sl22 rfl rfl (by first | rfl | omega) (row_getD (d := 0) (by omega))) ?_
 refine .ld sh3 ?_
 refine .an ?_
 refine AOps.nil (AWp.sr ?_)
 have hkb := hkj.bound hf hs (by omega) hcu hmu
 have hkr := (hmu _ (getD_mem (l := (users6_23.getD (((n.cells.getD ((ready12_36.getD 0 0).toNat) default).out).toNat) [])) (i := n142_41) (by omega))).1
 refine .mv ?_
 refine .mv ?_
 refine .vl (Y.indexO (m := ((users6_23.getD (((n.cells.getD ((ready12_36.getD 0 0).toNat) default).out).toNat) []).getD n142_41 0).toNat) sl22 rfl rfl (by omega) (by omega)) ?_
 refine .vl (Y.load sh3 rfl (row_getD0 (d := 0) (by first | omega | (simp [-List.getD_eq_getElem?_getD]; done) | (simp [-List.getD_eq_getElem?_getD]; omega) | (unfold In at *; omega))) rfl rfl) ?_
 refine .vl (Y.subI rfl rfl (by omega)) ?_
 refine .vl (Y.indexO (m := ((users6_23.getD (((n.cells.getD ((ready12_36.getD 0 0).toNat) default).out).toNat) []).getD n142_41 0).toNat) sl22 rfl rfl (by omega) (by omega)) ?_
 refine AOps.storeE ((remaining5_41.set (((users6_23.getD (((n.cells.getD ((ready12_36.getD 0 0).toNat) default).out).toNat) []).getD n142_41 0).toNat) ((remaining5_41.getD (((users6_23.getD (((n.cells.getD ((ready12_36.getD 0 0).toNat) default).out).toNat) []).getD n142_41 0).toNat) 0) - 1)).map irow) si3 rfl rfl rfl rfl rfl rfl rfl (row_getD0 (d := 0) (by omega)) (Nat.le_of_ble_eq_true rfl) (set_map0 rfl) ?_
 refine AOps.nil (AWp.sr ?_)
 refine .mv ?_
 refine .mv ?_
 refine .vl (Y.indexO (m := ((users6_23.getD (((n.cells.getD ((ready12_36.getD 0 0).toNat) default).out).toNat) []).getD n142_41 0).toNat) sl22 rfl rfl (by omega) (by omega)) ?_
 refine .vl (Y.load sh3 rfl (row_getD0 (d := 0) (by first | omega | (simp [-List.getD_eq_getElem?_getD]; done) | (simp [-List.getD_eq_getElem?_getD]; omega) | (unfold In at *; omega))) rfl rfl) ?_
 refine .vl (Y.eql rfl rfl) (AOps.nil ?_)
 refine AWp.condD rfl (fun c156 => ?_) (fun c156 => ?_)
 rw [getD_set, if_pos ⟨rfl, by omega⟩] at c156
 refine AWp.region ?_
 refine .mv ?_
 refine .mv ?_
 refine AOps.buildSlice (([(users6_23.getD (((n.cells.getD ((ready12_36.getD 0 0).toNat) default).out).toNat) []).getD n142_41 0] : List Int).map irow) sl22 ze3 rfl rfl rfl rfl rfl (uniform_map (s := 1) (f := irow) (fun _ => rfl)) rfl rfl rfl (by decide) ?_
 refine AOps.appendE ((ready12_41 ++ ([(users6_23.getD (((n.cells.getD ((ready12_36.getD 0 0).toNat) default).out).toNat) []).getD n142_41 0] : List Int)).map irow) (ready12_41 ++ ([(users6_23.getD (((n.cells.getD ((ready12_36.getD 0 0).toNat) default).out).toNat) []).getD n142_41 0] : List Int)).length sl22 ze3 rfl rfl rfl rfl (app_le (by first | omega | (simp [-List.getD_eq_getElem?_getD]; done) | (simp [-List.getD_eq_getElem?_getD]; omega) | (unfold In at *; omega))) (app_map (by first | omega | (simp [-List.getD_eq_getElem?_getD]; done) | (simp [-List.getD_eq_getElem?_getD]; omega) | (unfold In at *; omega))) (app_n (by first | omega | (simp [-List.getD_eq_getElem?_getD]; done) | (simp [-List.getD_eq_getElem?_getD]; omega) | (unfold In at *; omega))) (by first | omega | (simp [-List.getD_eq_getElem?_getD]; done) | (simp [-List.getD_eq_getElem?_getD]; omega) | (unfold In at *; omega)) (by first | omega | (simp [-List.getD_eq_getElem?_getD]; done) | (simp [-List.getD_eq_getElem?_getD]; omega) | (unfold In at *; omega)) (by decide) (by decide) ?_
 refine .an ?_
 refine AOps.nil ?_
 exact ⟨ready12_41 ++ ([(users6_23.getD (((n.cells.getD ((ready12_36.getD 0 0).toNat) default).out).toNat) []).getD n142_41 0] : List Int), (hkj.step hf hl105 (by omega) hcu hmu).1 c156, Le.mk (.c (.c (.c (.c (.cons (look_slc rfl (by omega)) (.c (.c (.c (.nil))))))))) (.c (.c (.c (.c (.nil)))))⟩
 rw [getD_set, if_pos ⟨rfl, by omega⟩] at c156
 refine AWp.skip ?_
 exact ⟨ready12_41, (hkj.step hf hl105 (by omega) hcu hmu).2 c156, Le.mk (.c (.c (.c (.c (.cons (look_slc rfl (by omega)) (.c (.c (.c (.nil))))))))) (.c (.c (.c (.c (.nil)))))⟩
 refine AWp.region ?_
 refine .vl (Y.addI rfl rfl (by omega)) ?_
 refine .mv ?_
 refine AOps.nil ?_
 exact ⟨n142_41 + 1, remaining5_41.set (((users6_23.getD (((n.cells.getD ((ready12_36.getD 0 0).toNat) default).out).toNat) []).getD n142_41 0).toNat) ((remaining5_41.getD (((users6_23.getD (((n.cells.getD ((ready12_36.getD 0 0).toNat) default).out).toNat) []).getD n142_41 0).toNat) 0) - 1), ready12_j46, ⟨by first | omega | (simp [-List.getD_eq_getElem?_getD]; done) | (simp [-List.getD_eq_getElem?_getD]; omega) | (unfold In at *; omega), by first | omega | (simp [-List.getD_eq_getElem?_getD]; done) | (simp [-List.getD_eq_getElem?_getD]; omega) | (unfold In at *; omega), hJ46⟩, by omega, Le.mk (.c (.c (.c (.c (.cons (look_slc rfl (by first | omega | (simp [-List.getD_eq_getElem?_getD]; done) | (simp [-List.getD_eq_getElem?_getD]; omega) | (unfold In at *; omega))) (.c (.c (.cons (look_int rfl (by first | rfl | omega)) (.nil))))))))) (.c (.c (.c (.c (.nil)))))⟩
 refine AWp.exit ?_
 exact ⟨out4_36 ++ ([ready12_36.getD 0 0] : List Int), remaining5_41, ready12_41, ⟨by omega, ⟨done ++ [(ready12_36.getD 0 0)], by rw [hout, List.append_assoc], KJ.fin hf hki (getD_mem (by omega)) (by rw [show (users6_23.getD (((n.cells.getD ((ready12_36.getD 0 0).toNat) default).out).toNat) []).length = n142_41 by omega]; exact hkj) hcu⟩⟩, by rw [List.length_append]; simp only [List.length_cons, List.length_nil]; omega, Le.mk (.c (.cons (look_slc rfl (by omega)) (.c (.c (.cons (look_slc rfl (by omega)) (.nil)))))) (.c (.c (.c (.c (.nil)))))⟩
 obtain ⟨done, hout, hki⟩ := hK
 have hr0 : ready12_36 = [] := List.eq_nil_of_length_eq_zero (by omega)
 subst hr0
 refine AWp.exit (AWp.seq (AWp.sr ?_))
 refine .mv ?_
 refine .vl (Y.len (n := out4_36.length) sl22 rfl rfl) ?_
 refine .fa fl27_2 ?_
 refine .ld sh23 ?_
 refine .vl (Y.len (n := n.cells.length) sl23 rfl (congrArg some (List.length_map ..))) (.vl (Y.lss rfl rfl) (AOps.nil ?_))
 refine AWp.condD rfl (fun c167 => ?_) (fun c167 => ?_)
 refine AWp.sr ?_
 refine .an ?_
 refine .an ?_
 refine AOps.nil (AWp.sh (Sh.nilU (d := 2) 1 rfl) (AWp.ret ?_))
 exact ⟨_, _, rfl, rfl, ([] : List Int), 12, .inr (.inr (.inl ⟨hf, hft, hki.cycle (by rw [← hout]; omega), rfl, rfl⟩)), rfl, rfl⟩
 refine AWp.skip (AWp.sr ?_)
 refine .mv ?_
 refine .an ?_
 refine AOps.sh (Sh.detach (d := 2) (o := 104) rfl rfl (len_map (by omega)) (by decide)) ?_
 refine .an ?_
 refine AOps.nil (AWp.ret ?_)
 exact ⟨_, _, rfl, rfl, out4_36, 0, .inr (.inr (.inr ⟨hf, hft, (hki.ok hf (by rw [← hout]; omega)).1, by rw [hout]; exact (hki.ok hf (by rw [← hout]; omega)).2, rfl⟩)), rfl, rfl⟩
end Go.Proofs.Ytligpghohcfpnaa
/- Walks through Check, and through the specification of a cell. -/
namespace Go.Proofs.Ytligpghohcfpnaa
open Go Go.AW Go.Proofs
theorem check_spec {n : Netlist} (hs : n.Small) (hwi : n.widths.length + n.ins.length ≤ 17592186044416) : ACalls Try.prog 16 [.agg (Netlist.row n)] [] [] (fun r o => r = (vi (errOf n)) ∧ o = []) := by
 refine ACalls.of Try.func16 rfl rfl rfl (n := 11) (by decide) (Nat.le_of_ble_eq_true rfl) (AWp.sr (AOps.box 101 rfl rfl rfl rfl rfl (by decide) ?_))
 refine .an ?_
 refine AOps.nil (AWp.sr (.vl (Y.loadA sh27 rfl rfl (Nat.le_of_ble_eq_true rfl) rfl rfl) ?_))
 refine AOps.callV ok20 (order_spec (n := n) hs ((by omega))) rfl (.keep rfl rfl .nil) (by decide) ?_
 rintro _ ⟨l7, e7, ho7, rfl, _⟩
 refine ⟨rfl, ?_⟩
 refine AOps.moveX rfl (by decide) (AOps.extractU rfl rfl (by decide) (.vl (Y.extract rfl rfl rfl) ?_))
 refine AOps.assignX rfl (by decide) (AOps.sh (Sh.freezeE (d := 3) (l7.map irow) rfl (by first | rfl | exact rep_map rfl) (Frees.map irow_frees)) ?_)
 refine .an ?_
 refine AOps.nil (AWp.sr ?_)
 refine .mv ?_
 refine .an ?_
 refine AOps.nil (AWp.ret ?_)
 exact .ri rfl (ho7.err)
end Go.Proofs.Ytligpghohcfpnaa
/- The specification of a cell, whatever its kind. -/
namespace Go.Proofs.Ytligpghohcfpnaa
open Go Go.AW Go.Proofs
end Go.Proofs.Ytligpghohcfpnaa
/- Walks through the specification of well-formed netlists. -/
namespace Go.Proofs.Ytligpghohcfpnaa
open Go Go.AW Go.Proofs
end Go.Proofs.Ytligpghohcfpnaa
/- Walks through the specification of netlists. -/
namespace Go.Proofs.Ytligpghohcfpnaa
open Go Go.AW Go.Proofs
end Go.Proofs.Ytligpghohcfpnaa
/- Walks through the builder. -/
namespace Go.Proofs.Ytligpghohcfpnaa
open Go Go.AW Go.Proofs
theorem cloneInt_spec {l : List Int} (hl : l.length ≤ 17592186043904) : ACalls Try.prog 68 [.fz 1 (l.map irow)] [] [] (fun r o => r = .uni 1 (l.map irow) ∧ o = []) := by
 refine ACalls.of Try.func68 rfl rfl rfl (n := 8) (by decide) (Nat.le_of_ble_eq_true rfl) (AWp.sr ?_)
 refine .an ?_
 refine AOps.nil (AWp.seq (AWp.sr ?_))
 refine .mv ?_
 refine AOps.eqNil sl22 rfl rfl (by decide) (fun b4 hb4 => ?_)
 refine AOps.nil ?_
 refine AWp.cond rfl (fun c4 => ?_) (fun c4 => ?_)
 refine AWp.sr ?_
 refine .an ?_
 refine AOps.nil (AWp.sh (Sh.nilU (d := 2) 1 rfl) (AWp.ret ?_))
 exact ⟨_, _, rfl, rfl, (cg1 (fun (z0 : List Int) => X.uni 1 (z0.map irow)) (by have := hb4 (by assumption); simpa using this : ([] : List Int) = l) : X.uni 1 (([] : List Int).map irow) = X.uni 1 (l.map irow)), rfl⟩
 refine AWp.skip (AWp.sr ?_)
 refine AOps.buildSlice (([] : List Int).map irow) sl22 ze3 rfl rfl rfl rfl rfl (uniform_map (s := 1) (f := irow) (fun _ => rfl)) rfl rfl rfl (by decide) ?_
 refine .mv ?_
 refine AOps.sh (Sh.adoptE (d := 5) (n := ([] : List Int).length) 105 (([] : List Int).map irow) rfl (by first | rfl | exact rep_map rfl) (len_map rfl) (by decide)) ?_
 refine AOps.appendFE ((([] : List Int) ++ l).map irow) (([] : List Int) ++ l).length sl22 ze3 rfl rfl rfl rfl (app_le (by first | omega | simp [-List.getD_eq_getElem?_getD] <;> omega)) (app_map (by first | omega | simp [-List.getD_eq_getElem?_getD] <;> omega)) (app_n (by first | omega | simp [-List.getD_eq_getElem?_getD] <;> omega)) (by first | omega | simp [-List.getD_eq_getElem?_getD] <;> omega) (by first | omega | simp [-List.getD_eq_getElem?_getD] <;> omega) (by decide) (by decide) ?_
 refine .an ?_
 refine AOps.sh (Sh.detach (d := 2) (o := 105) rfl rfl (len_map (by omega)) (by decide)) ?_
 refine AOps.nil (AWp.ret ?_)
 exact ⟨_, _, rfl, rfl, (cg1 (fun (z0 : List Int) => X.uni 1 (z0.map irow)) (rfl : (([] : List Int) ++ l) = l) : X.uni 1 ((([] : List Int) ++ l).map irow) = X.uni 1 (l.map irow)), rfl⟩
theorem wire_spec {nm : ByteArray} {ws : List Int} {cs : List Cell} {fz dn : Int} {rl : List Int} (hws : ws.length ≤ 1048576) (hcs : cs.length ≤ 1048576) {w : Int} : ACalls Try.prog 33 [.ptr 0 0 0 0, vi w] [.cells [.v (.string nm), .slc 1 1 0 ws.length, .slc 2 6 0 cs.length, .v (.slice none 0 0), .v (.slice none 0 0), .v (.slice none 0 0), .v (.slice none 0 0), .v (.slice none 0 0), vi fz, vi dn, .fz 1 (rl.map irow)], .rows 1 (ws.map irow), .rows 6 (cs.map Cell.row)] [0] (fun r o => r = (vi ((ws.length : Nat) : Int)) ∧ o = [.cells [.v (.string nm), .slc 1 1 0 ((ws ++ [w]).length), .slc 2 6 0 cs.length, .v (.slice none 0 0), .v (.slice none 0 0), .v (.slice none 0 0), .v (.slice none 0 0), .v (.slice none 0 0), vi fz, vi dn, .fz 1 (rl.map irow)], .rows 1 ((ws ++ [w]).map irow), .rows 6 (cs.map Cell.row)]) := by
 refine ACalls.of Try.func33 rfl rfl rfl (n := 24) (by decide) (Nat.le_of_ble_eq_true rfl) (AWp.sr ?_)
 refine .an ?_
 refine AOps.nil (AWp.sr ?_)
 refine .mv ?_
 refine .mv ?_
 refine .vl (Y.nilCheck rfl rfl) ?_
 refine .fa fl53_0 ?_
 refine .fa fl27_1 ?_
 refine .ld sh22 ?_
 refine .mv ?_
 refine AOps.buildSlice (([w] : List Int).map irow) sl22 ze3 rfl rfl rfl rfl rfl (uniform_map (s := 1) (f := irow) (fun _ => rfl)) rfl rfl rfl (by decide) ?_
 refine AOps.appendE ((ws ++ ([w] : List Int)).map irow) (ws ++ ([w] : List Int)).length sl22 ze3 rfl rfl rfl rfl (app_le (by first | omega | simp [-List.getD_eq_getElem?_getD] <;> omega)) (app_map (by first | omega | simp [-List.getD_eq_getElem?_getD] <;> omega)) (app_n (by first | omega | simp [-List.getD_eq_getElem?_getD] <;> omega)) (by first | omega | simp [-List.getD_eq_getElem?_getD] <;> omega) (by first | omega | simp [-List.getD_eq_getElem?_getD] <;> omega) (by decide) (by decide) ?_
 refine .vl (Y.nilCheck rfl rfl) ?_
 refine .fa fl53_0 ?_
 refine .fa fl27_1 ?_
 refine AOps.storeC si22 rfl rfl rfl rfl rfl rfl (Nat.le_of_ble_eq_true rfl) rfl (AOps.nil (AWp.sr ?_))
 refine .mv ?_
 refine .vl (Y.nilCheck rfl rfl) ?_
 refine .fa fl53_0 ?_
 refine .fa fl27_1 ?_
 refine .ld sh22 ?_
 refine .vl (Y.len (n := (ws ++ ([w] : List Int)).length) sl22 rfl rfl) ?_
 refine .vl (Y.subI rfl rfl (by first | omega | simp [-List.getD_eq_getElem?_getD] <;> omega)) ?_
 refine .an ?_
 refine AOps.nil (AWp.ret ?_)
 exact ⟨_, _, rfl, rfl, cg1 (fun (z0 : Int) => X.v (.int .i64 z0)) (by simp : (((ws ++ ([w] : List Int)).length : Nat) : Int) - 1 = ((ws.length : Nat) : Int)), rfl⟩
theorem bcell_spec {nm : ByteArray} {ws : List Int} {cs : List Cell} {fz dn : Int} {rl : List Int} (hws : ws.length ≤ 1048576) (hcs : cs.length ≤ 1048576) {c : Cell} (hc : c.args.length ≤ 17592186043904) : ACalls Try.prog 32 [.ptr 0 0 0 0, .agg (Cell.row c)] [.cells [.v (.string nm), .slc 1 1 0 ws.length, .slc 2 6 0 cs.length, .v (.slice none 0 0), .v (.slice none 0 0), .v (.slice none 0 0), .v (.slice none 0 0), .v (.slice none 0 0), vi fz, vi dn, .fz 1 (rl.map irow)], .rows 1 (ws.map irow), .rows 6 (cs.map Cell.row)] [0] (fun r o => r = .tup [] ∧ o = [.cells [.v (.string nm), .slc 1 1 0 ws.length, .slc 2 6 0 ((cs ++ [c]).length), .v (.slice none 0 0), .v (.slice none 0 0), .v (.slice none 0 0), .v (.slice none 0 0), .v (.slice none 0 0), vi fz, vi dn, .fz 1 (rl.map irow)], .rows 1 (ws.map irow), .rows 6 ((cs ++ [c]).map Cell.row)]) := by
 refine ACalls.of Try.func32 rfl rfl rfl (n := 20) (by decide) (Nat.le_of_ble_eq_true rfl) (AWp.sr (AOps.box 103 rfl rfl rfl rfl rfl (by decide) ?_))
 refine AOps.nil (AWp.sr ?_)
 refine .fa fl39_3 ?_
 refine .ld sh22 ?_
 refine AOps.callP ok68 (cloneInt_spec (l := c.args) ((by omega))) rfl (.keep rfl rfl .nil) (by decide) rfl ?_
 refine .fa fl39_3 ?_
 refine AOps.sh (Sh.freezeE (d := 6) (c.args.map irow) rfl (by first | rfl | exact rep_map rfl) (Frees.map irow_frees)) (AOps.storeC si22 rfl rfl rfl rfl rfl rfl (Nat.le_of_ble_eq_true rfl) rfl (AOps.nil ?_))
 refine AWp.regionAny rfl (AAny.blind 0 rfl (by kernel_rfl) (Blind.move rfl rfl) (by decide) (AAny.blind 1 rfl (by kernel_rfl) (Blind.move rfl rfl) (by decide) ?_))
 refine AAny.blind 2 rfl (by kernel_rfl) (Blind.nilCheck rfl rfl) (by decide) (AAny.blind 3 rfl (by kernel_rfl) (Blind.fieldAddr fl53_0 rfl rfl) (by decide) (AAny.blind 4 rfl (by kernel_rfl) (Blind.fieldAddr fl27_2 rfl rfl) (by decide) ?_))
 refine AAny.two 5 6 rfl rfl (by kernel_rfl) ?_ ?_
 refine .ld sh23 ?_
 refine AOps.nil ⟨rfl, ?_⟩
 refine AAny.quietN (n := 6) [6] [7, 8, 9, 10, 11, 12] 7 rfl (by kernel_rfl) (.cn 6 rfl (Y.loadA sh39 rfl rfl (Nat.le_of_ble_eq_true rfl) rfl rfl) (AQ.nil ?_))
 refine AAny.one 7 rfl (by kernel_rfl) ?_
 refine AOps.buildSlice (([c] : List Cell).map Cell.row) sl23 ze39 rfl rfl rfl rfl rfl (uniform_map (s := 6) (f := Cell.row) (fun _ => rfl)) rfl rfl rfl (by decide) ?_
 refine AOps.nil ⟨rfl, ?_⟩
 refine AAny.one 8 rfl (by kernel_rfl) ?_
 refine AOps.appendE ((cs ++ ([c] : List Cell)).map Cell.row) (cs ++ ([c] : List Cell)).length sl23 ze39 rfl rfl rfl rfl (app_le (by first | omega | simp [-List.getD_eq_getElem?_getD] <;> omega)) (app_map (by first | omega | simp [-List.getD_eq_getElem?_getD] <;> omega)) (app_n (by first | omega | simp [-List.getD_eq_getElem?_getD] <;> omega)) (by first | omega | simp [-List.getD_eq_getElem?_getD] <;> omega) (by first | omega | simp [-List.getD_eq_getElem?_getD] <;> omega) (by decide) (by decide) ?_
 refine AOps.nil ⟨rfl, ?_⟩
 refine AAny.quietN (n := 1) [9, 10, 11] [12] 12 rfl (by kernel_rfl) (.cn 9 rfl (Y.nilCheck rfl rfl) (.cn 10 rfl (Y.fieldAddr fl53_0 rfl rfl) ?_))
 refine .cn 11 rfl (Y.fieldAddr fl27_2 rfl rfl) (AQ.nil (AAny.one 12 rfl (by kernel_rfl) ?_))
 refine AOps.storeC si23 rfl rfl rfl rfl rfl rfl (Nat.le_of_ble_eq_true rfl) rfl ?_
 refine AOps.nil ⟨rfl, ?_⟩
 refine AAny.done (by kernel_rfl) ?_
 exact ⟨_, _, rfl, rfl, rfl, rfl⟩
 refine .vl (Y.loadA sh39 rfl rfl (Nat.le_of_ble_eq_true rfl) rfl rfl) ?_
 refine AOps.nil ⟨rfl, ?_⟩
 refine AAny.two 5 7 rfl rfl (by kernel_rfl) ?_ ?_
 refine .ld sh23 ?_
 refine AOps.nil ⟨rfl, ?_⟩
 refine AAny.one 7 rfl (by kernel_rfl) ?_
 refine AOps.buildSlice (([c] : List Cell).map Cell.row) sl23 ze39 rfl rfl rfl rfl rfl (uniform_map (s := 6) (f := Cell.row) (fun _ => rfl)) rfl rfl rfl (by decide) ?_
 refine AOps.nil ⟨rfl, ?_⟩
 refine AAny.one 8 rfl (by kernel_rfl) ?_
 refine AOps.appendE ((cs ++ ([c] : List Cell)).map Cell.row) (cs ++ ([c] : List Cell)).length sl23 ze39 rfl rfl rfl rfl (app_le (by first | omega | simp [-List.getD_eq_getElem?_getD] <;> omega)) (app_map (by first | omega | simp [-List.getD_eq_getElem?_getD] <;> omega)) (app_n (by first | omega | simp [-List.getD_eq_getElem?_getD] <;> omega)) (by first | omega | simp [-List.getD_eq_getElem?_getD] <;> omega) (by first | omega | simp [-List.getD_eq_getElem?_getD] <;> omega) (by decide) (by decide) ?_
 refine AOps.nil ⟨rfl, ?_⟩
 refine AAny.quietN (n := 1) [9, 10, 11] [12] 12 rfl (by kernel_rfl) (.cn 9 rfl (Y.nilCheck rfl rfl) (.cn 10 rfl (Y.fieldAddr fl53_0 rfl rfl) ?_))
 refine .cn 11 rfl (Y.fieldAddr fl27_2 rfl rfl) (AQ.nil (AAny.one 12 rfl (by kernel_rfl) ?_))
 refine AOps.storeC si23 rfl rfl rfl rfl rfl rfl (Nat.le_of_ble_eq_true rfl) rfl ?_
 refine AOps.nil ⟨rfl, ?_⟩
 refine AAny.done (by kernel_rfl) ?_
 exact ⟨_, _, rfl, rfl, rfl, rfl⟩
 refine AOps.buildSlice (([c] : List Cell).map Cell.row) sl23 ze39 rfl rfl rfl rfl rfl (uniform_map (s := 6) (f := Cell.row) (fun _ => rfl)) rfl rfl rfl (by decide) ?_
 refine AOps.nil ⟨rfl, ?_⟩
 refine AAny.quietN (n := 5) [5] [8, 9, 10, 11, 12] 8 rfl (by kernel_rfl) (.cn 5 rfl (Y.load sh23 rfl rfl rfl rfl) (AQ.nil ?_))
 refine AAny.one 8 rfl (by kernel_rfl) ?_
 refine AOps.appendE ((cs ++ ([c] : List Cell)).map Cell.row) (cs ++ ([c] : List Cell)).length sl23 ze39 rfl rfl rfl rfl (app_le (by first | omega | simp [-List.getD_eq_getElem?_getD] <;> omega)) (app_map (by first | omega | simp [-List.getD_eq_getElem?_getD] <;> omega)) (app_n (by first | omega | simp [-List.getD_eq_getElem?_getD] <;> omega)) (by first | omega | simp [-List.getD_eq_getElem?_getD] <;> omega) (by first | omega | simp [-List.getD_eq_getElem?_getD] <;> omega) (by decide) (by decide) ?_
 refine AOps.nil ⟨rfl, ?_⟩
 refine AAny.quietN (n := 1) [9, 10, 11] [12] 12 rfl (by kernel_rfl) (.cn 9 rfl (Y.nilCheck rfl rfl) (.cn 10 rfl (Y.fieldAddr fl53_0 rfl rfl) ?_))
 refine .cn 11 rfl (Y.fieldAddr fl27_2 rfl rfl) (AQ.nil (AAny.one 12 rfl (by kernel_rfl) ?_))
 refine AOps.storeC si23 rfl rfl rfl rfl rfl rfl (Nat.le_of_ble_eq_true rfl) rfl ?_
 refine AOps.nil ⟨rfl, ?_⟩
 refine AAny.done (by kernel_rfl) ?_
 exact ⟨_, _, rfl, rfl, rfl, rfl⟩
theorem const_spec {nm : ByteArray} {ws : List Int} {cs : List Cell} {fz dn : Int} {rl : List Int} (hws : ws.length ≤ 1048000) (hcs : cs.length ≤ 1048000) {w : Int} {x : Nat} (hx : x < 18446744073709551616) : ACalls Try.prog 25 [.ptr 0 0 0 0, vi w, .v (.int .u64 ((x : Nat) : Int))] [.cells [.v (.string nm), .slc 1 1 0 ws.length, .slc 2 6 0 cs.length, .v (.slice none 0 0), .v (.slice none 0 0), .v (.slice none 0 0), .v (.slice none 0 0), .v (.slice none 0 0), vi fz, vi dn, .fz 1 (rl.map irow)], .rows 1 (ws.map irow), .rows 6 (cs.map Cell.row)] [0] (fun r o => r = (vi ((ws.length : Nat) : Int)) ∧ o = [.cells [.v (.string nm), .slc 1 1 0 ((ws ++ [w]).length), .slc 2 6 0 ((cs ++ [(⟨1, 0, (ws.length : Int), [], fitN w x, 0⟩ : Cell)]).length), .v (.slice none 0 0), .v (.slice none 0 0), .v (.slice none 0 0), .v (.slice none 0 0), .v (.slice none 0 0), vi fz, vi dn, .fz 1 (rl.map irow)], .rows 1 ((ws ++ [w]).map irow), .rows 6 ((cs ++ [(⟨1, 0, (ws.length : Int), [], fitN w x, 0⟩ : Cell)]).map Cell.row)]) := by
 refine ACalls.of Try.func25 rfl rfl rfl (n := 19) (by decide) (Nat.le_of_ble_eq_true rfl) (AWp.sr ?_)
 refine .an ?_
 refine AOps.nil (AWp.sr ?_)
 refine .mv ?_
 refine .mv ?_
 refine AOps.callO [0, 1, 2] [] ok33 (wire_spec (w := w) (ws := ws) (cs := cs) (nm := nm) (fz := fz) (dn := dn) (rl := rl) (by omega) (by omega)) rfl (.named rfl rfl (.keep rfl rfl .nil)) ⟨rfl, rfl, rfl, trivial⟩ rfl (by decide) (fun _ h => by cases h) (fun _ h => by cases h) (by decide) (by decide) ?_
 rintro r objs' ⟨rfl, rfl⟩ _
 refine ⟨⟨rfl, (by intro ob hob; simp only [List.mem_cons, List.not_mem_nil, or_false] at hob; rcases hob with rfl | rfl | rfl <;> rfl), .inl rfl⟩, ?_⟩
 refine .an ?_
 refine AOps.nil (AWp.sr ?_)
 refine .mv ?_
 refine .mv ?_
 refine .mv ?_
 refine .mv ?_
 refine AOps.callP ok65 (bfit_spec (w := w) (x := x) ((by omega))) rfl (.keep rfl rfl (.keep rfl rfl .nil)) (by decide) rfl ?_
 refine .vl (Y.build pl39 ze39 rfl rfl rfl) (AOps.sh (Sh.fzA (d := 16) 1 3 rfl rfl) ?_)
 refine AOps.callO [0, 1, 2] [] ok32 (bcell_spec (c := (⟨1, 0, (((ws).length : Nat) : Int), ([] : List Int), fitN w x, 0⟩ : Cell)) (ws := ws ++ [w]) (cs := cs) (nm := nm) (fz := fz) (dn := dn) (rl := rl) (by first | omega | simp [-List.getD_eq_getElem?_getD] <;> omega) (by first | omega | simp [-List.getD_eq_getElem?_getD] <;> omega) (by first | omega | simp [-List.getD_eq_getElem?_getD] <;> omega)) rfl (.named rfl rfl (.keep rfl rfl .nil)) ⟨rfl, rfl, rfl, trivial⟩ rfl (by decide) (fun _ h => by cases h) (fun _ h => by cases h) (by decide) (by decide) ?_
 rintro r objs' ⟨rfl, rfl⟩ _
 refine ⟨⟨rfl, (by intro ob hob; simp only [List.mem_cons, List.not_mem_nil, or_false] at hob; rcases hob with rfl | rfl | rfl <;> rfl), .inl rfl⟩, ?_⟩
 refine AOps.nil (AWp.sr ?_)
 refine .mv ?_
 refine .an ?_
 refine AOps.nil (AWp.ret ?_)
 exact ⟨_, _, rfl, rfl, rfl, rfl⟩
theorem bop_spec {nm : ByteArray} {ws : List Int} {cs : List Cell} {fz dn : Int} {rl : List Int} (hws : ws.length ≤ 1048000) (hcs : cs.length ≤ 1048000) {op w : Int} {args : List Int} (hx : args.length ≤ 17592186043904) : ACalls Try.prog 27 [.ptr 0 0 0 0, vi op, vi w, .fz 1 (args.map irow)] [.cells [.v (.string nm), .slc 1 1 0 ws.length, .slc 2 6 0 cs.length, .v (.slice none 0 0), .v (.slice none 0 0), .v (.slice none 0 0), .v (.slice none 0 0), .v (.slice none 0 0), vi fz, vi dn, .fz 1 (rl.map irow)], .rows 1 (ws.map irow), .rows 6 (cs.map Cell.row)] [0] (fun r o => r = (vi ((ws.length : Nat) : Int)) ∧ o = [.cells [.v (.string nm), .slc 1 1 0 ((ws ++ [w]).length), .slc 2 6 0 ((cs ++ [(⟨2, op, (ws.length : Int), args, 0, 0⟩ : Cell)]).length), .v (.slice none 0 0), .v (.slice none 0 0), .v (.slice none 0 0), .v (.slice none 0 0), .v (.slice none 0 0), vi fz, vi dn, .fz 1 (rl.map irow)], .rows 1 ((ws ++ [w]).map irow), .rows 6 ((cs ++ [(⟨2, op, (ws.length : Int), args, 0, 0⟩ : Cell)]).map Cell.row)]) := by
 refine ACalls.of Try.func27 rfl rfl rfl (n := 20) (by decide) (Nat.le_of_ble_eq_true rfl) (AWp.sr ?_)
 refine .an ?_
 refine AOps.nil (AWp.sr ?_)
 refine .mv ?_
 refine .mv ?_
 refine AOps.callO [0, 1, 2] [] ok33 (wire_spec (w := w) (ws := ws) (cs := cs) (nm := nm) (fz := fz) (dn := dn) (rl := rl) (by omega) (by omega)) rfl (.named rfl rfl (.keep rfl rfl .nil)) ⟨rfl, rfl, rfl, trivial⟩ rfl (by decide) (fun _ h => by cases h) (fun _ h => by cases h) (by decide) (by decide) ?_
 rintro r objs' ⟨rfl, rfl⟩ _
 refine ⟨⟨rfl, (by intro ob hob; simp only [List.mem_cons, List.not_mem_nil, or_false] at hob; rcases hob with rfl | rfl | rfl <;> rfl), .inl rfl⟩, ?_⟩
 refine .an ?_
 refine AOps.nil (AWp.sr ?_)
 refine .mv ?_
 refine .mv ?_
 refine .mv ?_
 refine .mv ?_
 refine .vl (Y.build pl39 ze39 rfl rfl rfl) ?_
 refine AOps.callO [0, 1, 2] [] ok32 (bcell_spec (c := (⟨2, op, (((ws).length : Nat) : Int), args, 0, 0⟩ : Cell)) (ws := ws ++ [w]) (cs := cs) (nm := nm) (fz := fz) (dn := dn) (rl := rl) (by first | omega | simp [-List.getD_eq_getElem?_getD] <;> omega) (by first | omega | simp [-List.getD_eq_getElem?_getD] <;> omega) (by first | omega | simp [-List.getD_eq_getElem?_getD] <;> omega)) rfl (.named rfl rfl (.keep rfl rfl .nil)) ⟨rfl, rfl, rfl, trivial⟩ rfl (by decide) (fun _ h => by cases h) (fun _ h => by cases h) (by decide) (by decide) ?_
 rintro r objs' ⟨rfl, rfl⟩ _
 refine ⟨⟨rfl, (by intro ob hob; simp only [List.mem_cons, List.not_mem_nil, or_false] at hob; rcases hob with rfl | rfl | rfl <;> rfl), .inl rfl⟩, ?_⟩
 refine AOps.nil (AWp.sr ?_)
 refine .mv ?_
 refine .an ?_
 refine AOps.nil (AWp.ret ?_)
 exact ⟨_, _, rfl, rfl, rfl, rfl⟩
theorem awake_spec  : ACalls Try.prog 15 [] [] [] (fun r o => r = .v (.bool true) ∧ o = []) := by
 refine ACalls.of Try.func15 rfl rfl rfl (n := 27) (by decide) (Nat.zero_le _) (AWp.sr ?_)
 refine .an ?_
 refine AOps.nil (AWp.sr (AOps.alloc 101 ze53 rfl rfl (by decide) ?_))
 refine AOps.nil (AWp.seq (AWp.sh (Sh.nilCell 101 301 1 1 rfl rfl rfl rfl (by decide)) ?_))
 refine AWp.sh (Sh.nilCell 101 302 6 2 rfl rfl rfl rfl (by decide)) (AWp.sh (Sh.fzCell 101 1 10 rfl rfl rfl) (AWp.region ?_))
 refine AOps.callO [101, 301, 302] [] ok25 (const_spec (w := 8) (x := 5) (ws := ([] : List Int)) (cs := ([] : List Cell)) (nm := ByteArray.empty) (fz := 0) (dn := 0) (rl := ([] : List Int)) (by first | omega | simp [-List.getD_eq_getElem?_getD] <;> omega) (by first | omega | simp [-List.getD_eq_getElem?_getD] <;> omega) (by first | omega | simp [-List.getD_eq_getElem?_getD] <;> omega)) rfl (.named rfl rfl (.keep rfl rfl (.keep rfl rfl .nil))) ⟨rfl, rfl, rfl, trivial⟩ rfl (by decide) (fun _ h => by cases h) (fun _ h => by cases h) (by decide) (by decide) ?_
 rintro r objs' ⟨rfl, rfl⟩ _
 refine ⟨⟨rfl, (by intro ob hob; simp only [List.mem_cons, List.not_mem_nil, or_false] at hob; rcases hob with rfl | rfl | rfl <;> rfl), .inl rfl⟩, ?_⟩
 refine .an ?_
 refine AOps.nil (AWp.sr ?_)
 refine .mv ?_
 refine .mv ?_
 refine AOps.buildSlice (([(((([] : List Int)).length : Nat) : Int), (((([] : List Int)).length : Nat) : Int)] : List Int).map irow) sl22 ze3 rfl rfl rfl rfl rfl (uniform_map (s := 1) (f := irow) (fun _ => rfl)) rfl rfl rfl (by decide) ?_
 refine AOps.sh (Sh.freezeE (d := 7) (([(((([] : List Int)).length : Nat) : Int), (((([] : List Int)).length : Nat) : Int)] : List Int).map irow) rfl (by first | rfl | exact rep_map rfl) (Frees.map irow_frees)) ?_
 refine AOps.callO [101, 301, 302] [] ok27 (bop_spec (op := 2) (w := 8) (args := ([(((([] : List Int)).length : Nat) : Int), (((([] : List Int)).length : Nat) : Int)] : List Int)) (ws := ([] : List Int) ++ [8]) (cs := ([] : List Cell) ++ [(⟨1, 0, ((([] : List Int)).length : Int), [], fitN 8 5, 0⟩ : Cell)]) (nm := ByteArray.empty) (fz := 0) (dn := 0) (rl := ([] : List Int)) (by first | omega | simp [-List.getD_eq_getElem?_getD] <;> omega) (by first | omega | simp [-List.getD_eq_getElem?_getD] <;> omega) (by first | omega | simp [-List.getD_eq_getElem?_getD] <;> omega)) rfl (.named rfl rfl (.keep rfl rfl (.keep rfl rfl (.keep rfl rfl .nil)))) ⟨rfl, rfl, rfl, trivial⟩ rfl (by decide) (fun _ h => by cases h) (fun _ h => by cases h) (by decide) (by decide) ?_
 rintro r objs' ⟨rfl, rfl⟩ _
 refine ⟨⟨rfl, (by intro ob hob; simp only [List.mem_cons, List.not_mem_nil, or_false] at hob; rcases hob with rfl | rfl | rfl <;> rfl), .inl rfl⟩, ?_⟩
 refine .an ?_
 refine AOps.nil (AWp.sr ?_)
 refine .mv ?_
 refine .vl (Y.eql rfl rfl) ?_
 refine .mv ?_
 refine AOps.splitD (d := 11) rfl (fun c11 => ?_) (fun c11 => ?_)
 refine .gw 11 (Y.move rfl rfl) (.gw 11 (Y.eql rfl rfl) ?_)
 refine .pk ?_
 refine .mv ?_
 refine AOps.splitD (d := 15) rfl (fun c15 => ?_) (fun c15 => ?_)
 refine .gw 15 (Y.fieldAddr fl53_0 rfl rfl) (.gw 15 (Y.fieldAddr fl27_2 rfl rfl) (.gw 15 (Y.load sh23 rfl rfl rfl rfl) ?_))
 refine .gw 15 (Y.len (n := ((([] : List Cell) ++ [(⟨1, 0, ((([] : List Int)).length : Int), [], fitN 8 5, 0⟩ : Cell)]) ++ [(⟨2, 2, (((([] : List Int) ++ [8])).length : Int), ([(((([] : List Int)).length : Nat) : Int), (((([] : List Int)).length : Nat) : Int)] : List Int), 0, 0⟩ : Cell)]).length) sl23 rfl rfl) ?_
 refine .gw 15 (Y.eql rfl rfl) ?_
 refine .pk ?_
 refine .mv ?_
 refine AOps.splitD (d := 22) rfl (fun c22 => ?_) (fun c22 => ?_)
 refine .gw 22 (Y.build pl27 ze27 rfl rfl rfl) (AOps.sh (Sh.fzA (d := 23) 1 1 rfl rfl) (AOps.sh (Sh.fzA (d := 23) 6 2 rfl rfl) ?_))
 refine AOps.sh (Sh.fzA (d := 23) 1 3 rfl rfl) (AOps.sh (Sh.fzA (d := 23) 5 4 rfl rfl) (AOps.sh (Sh.fzA (d := 23) 3 5 rfl rfl) ?_))
 refine AOps.sh (Sh.fzA (d := 23) 1 6 rfl rfl) (AOps.sh (Sh.fzA (d := 23) 1 7 rfl rfl) (AOps.sh (Sh.fzA (d := 23) 1 10 rfl rfl) ?_))
 refine AOps.guardRun (d := 22) rfl (by decide) rfl (AOps.callP ok16 (check_spec (n := emptyN) emptyN_small (by decide)) rfl (.keep rfl rfl .nil) (by decide) rfl (.gw 22 (Y.eql rfl rfl) ?_))
 refine .pk ?_
 refine .an ?_
 refine AOps.nil (AWp.ret ?_)
 exact .rb rfl (by rw [emptyN_err]; rfl)
 refine .gz 22 (.gz 22 (.gz 22 ?_))
 refine .pk ?_
 refine .an ?_
 refine AOps.nil (AWp.ret ?_)
 exact .rb rfl (by exfalso; simp_all)
 refine .gz 15 (.gz 15 (.gz 15 ?_))
 refine .gz 15 (.gz 15 ?_)
 refine .pk ?_
 refine .mv ?_
 refine .gz 22 (.gz 22 (.gz 22 ?_))
 refine .pk ?_
 refine .an ?_
 refine AOps.nil (AWp.ret ?_)
 exact .rb rfl (by exfalso; simp_all)
 refine .gz 11 (.gz 11 ?_)
 refine .pk ?_
 refine .mv ?_
 refine .gz 15 (.gz 15 (.gz 15 ?_))
 refine .gz 15 (.gz 15 ?_)
 refine .pk ?_
 refine .mv ?_
 refine .gz 22 (.gz 22 (.gz 22 ?_))
 refine .pk ?_
 refine .an ?_
 refine AOps.nil (AWp.ret ?_)
 exact .rb rfl (by exfalso; simp_all)
end Go.Proofs.Ytligpghohcfpnaa
/- Walks through the parts of plans. -/
namespace Go.Proofs.Ytligpghohcfpnaa
open Go Go.AW Go.Proofs
theorem operator_spec {n : Netlist} {p : Prt} (hn : n.widths.length ≤ 1048576) (h0 : 0 < n.widths.length) (hp : p.Ok) (hg : Ground n) (hi : n.ins.length ≤ 1048576) : ACalls Try.prog 91 [.agg (Netlist.prow n), .agg (Prt.row p)] [] [] (fun r o => ∃ c w, PartP n c w ∧ r = .tup [.agg (Cell.orow c), vi w] ∧ o = []) := by
 refine ACalls.ofS Try.func91 rfl rfl rfl (n := 96) (by decide) (Nat.le_of_ble_eq_true rfl) ?_
 have hp1 := hp.kind; have hp2 := hp.op; have hp3 := hp.width; have hp4 := hp.a; have hp5 := hp.b; have hp6 := hp.d; have hp7 := hp.num; have hm1 := Nat.mod_lt p.a h0; have hm2 := Nat.mod_lt p.b h0
 refine AWp.sr (AOps.box 102 rfl rfl rfl rfl rfl (by decide) (AOps.box 103 rfl rfl rfl rfl rfl (by decide) ?_))
 refine AOps.alloc 104 ze39 rfl rfl (by decide) ?_
 refine .an ?_
 refine AOps.nil (AWp.seq (AWp.sh (Sh.freezeO 102 rfl rfl) ?_))
 refine AWp.sh (Sh.freezeO 103 rfl rfl) (AWp.region ?_)
 refine AOps.buildSlice (([2, 3, 9, 10, 11, 12, 13, 14, 15, 16, 17, 18, 19, 20, 21, 22, 23, 24] : List Int).map irow) sl22 ze3 rfl rfl rfl rfl rfl (uniform_map (s := 1) (f := irow) (fun _ => rfl)) rfl rfl rfl (by decide) ?_
 refine AOps.assignX rfl (by decide) (AOps.sh (Sh.freezeE (d := 6) (([2, 3, 9, 10, 11, 12, 13, 14, 15, 16, 17, 18, 19, 20, 21, 22, 23, 24] : List Int).map irow) rfl (by first | rfl | exact rep_map rfl) (Frees.map irow_frees)) (AOps.nil ?_))
 refine AWp.le (st' := ⟨[(2, .fp (Netlist.prow n) 0), (3, .fp (Prt.row p) 0), (4, .ptr 104 0 0 0), (6, .fz 1 (([2, 3, 9, 10, 11, 12, 13, 14, 15, 16, 17, 18, 19, 20, 21, 22, 23, 24] : List Int).map irow))], [(104, .cells [vi 0, vi 0, vi 0, .v (.slice none 0 0), .v (.int .u64 0), vi 0])]⟩) (Le.mk (.c (.c (.c (.c (.nil))))) (.c (.nil))) ?_
 refine AWp.sr ?_
 refine .mv ?_
 refine .fa fl88_1 ?_
 refine .ld sh5 ?_
 refine .vl (Y.convK ii5 ii3 rfl (by first | rfl | exact IntWalk.i64_in _ (by omega))) ?_
 refine .mv ?_
 refine .vl (Y.len (n := ([2, 3, 9, 10, 11, 12, 13, 14, 15, 16, 17, 18, 19, 20, 21, 22, 23, 24] : List Int).length) sl22 rfl (congrArg some (List.length_map ..))) ?_
 refine .vl (Y.remI rfl rfl (by first | omega | simp [-List.getD_eq_getElem?_getD] <;> omega)) ?_
 refine .vl (Y.indexF (m := p.op % (([2, 3, 9, 10, 11, 12, 13, 14, 15, 16, 17, 18, 19, 20, 21, 22, 23, 24] : List Int).length)) sl22 rfl rfl (by first | rfl | omega) (row_getD (d := 0) (by first | omega | simp [-List.getD_eq_getElem?_getD] <;> omega))) ?_
 refine .ld sh3 ?_
 refine .an ?_
 refine AOps.nil (AWp.sr ?_)
 refine .fa fl88_2 ?_
 refine .ld sh5 ?_
 refine AOps.callP ok53 (width_spec (k := p.width)) rfl (.keep rfl rfl .nil) (by decide) rfl ?_
 refine .an ?_
 refine AOps.nil (AWp.sr ?_)
 refine .mv ?_
 refine .vl (Y.build pl39 ze39 rfl rfl rfl) (AOps.alloc 109 ze39 rfl rfl (by decide) (AOps.storeC si39 rfl rfl rfl rfl rfl rfl (Nat.le_of_ble_eq_true rfl) rfl ?_))
 refine AOps.nil (AWp.seq (AWp.block ?_))
 refine AWp.sr ?_
 refine .mv ?_
 refine .vl (Y.eql rfl rfl) ?_
 refine .an ?_
 refine AOps.nil ?_
 refine AWp.condD rfl (fun c42 => ?_) (fun c42 => ?_)
 refine AWp.regionHeld0 rfl (AFirst.loadA 0 rfl (by kernel_rfl) sh27 rfl rfl rfl (Nat.le_of_ble_eq_true rfl) rfl rfl (by decide) (AFirst.blind 1 rfl (by kernel_rfl) (Blind.fieldAddr fl88_3 rfl rfl) (by decide) ?_))
 refine AFirst.blind 2 rfl (by kernel_rfl) (Blind.indexP ar86 rfl rfl (m := 0) rfl (by omega) rfl) (by decide) (AFirst.load 3 rfl (by kernel_rfl) sh5 rfl rfl rfl rfl rfl (by decide) (AFirst.loadA 5 rfl (by kernel_rfl) sh27 rfl rfl rfl (Nat.le_of_ble_eq_true rfl) rfl rfl (by decide) ?_))
 refine AFirst.blind 6 rfl (by kernel_rfl) (Blind.move rfl rfl) (by decide) (AFirst.blind 7 rfl (by kernel_rfl) (Blind.fieldAddr fl88_3 rfl rfl) (by decide) (AFirst.blind 8 rfl (by kernel_rfl) (Blind.indexP ar86 rfl rfl (m := 1) rfl (by omega) rfl) (by decide) ?_))
 refine AFirst.load 9 rfl (by kernel_rfl) sh5 rfl rfl rfl rfl rfl (by decide) (AFirst.loadA 11 rfl (by kernel_rfl) sh27 rfl rfl rfl (Nat.le_of_ble_eq_true rfl) rfl rfl (by decide) (AFirst.blind 12 rfl (by kernel_rfl) (Blind.move rfl rfl) (by decide) ?_))
 refine AFirst.blind 13 rfl (by kernel_rfl) (Blind.fieldAddr fl88_3 rfl rfl) (by decide) (AFirst.blind 14 rfl (by kernel_rfl) (Blind.indexP ar86 rfl rfl (m := 2) rfl (by omega) rfl) (by decide) (AFirst.load 15 rfl (by kernel_rfl) sh5 rfl rfl rfl rfl rfl (by decide) ?_))
 refine AFirst.go0 (AHeld.one 4 rfl (by kernel_rfl) (AOps.callP ok56 (pick_spec (n := (⟨n.name, n.widths, n.cells, n.ins, n.mems, n.streams, [], [], n.freeze, n.done, []⟩ : Netlist)) (w := 1) (k := p.a) (by show (n.widths).length ≤ 1048576; omega) (by omega)) rfl (.keep rfl rfl (.keep rfl rfl (.keep rfl rfl .nil))) (by decide) rfl ?_))
 refine AOps.nil ⟨rfl, ?_⟩
 refine AHeld.one 10 rfl (by kernel_rfl) ?_
 refine AOps.callP ok56 (pick_spec (n := (⟨n.name, n.widths, n.cells, n.ins, n.mems, n.streams, [], [], n.freeze, n.done, []⟩ : Netlist)) (w := (widthN p.width)) (k := p.b) (by show (n.widths).length ≤ 1048576; omega) (by omega)) rfl (.keep rfl rfl (.keep rfl rfl (.keep rfl rfl .nil))) (by decide) rfl ?_
 refine AOps.nil ⟨rfl, ?_⟩
 refine AHeld.one 16 rfl (by kernel_rfl) ?_
 refine AOps.callP ok56 (pick_spec (n := (⟨n.name, n.widths, n.cells, n.ins, n.mems, n.streams, [], [], n.freeze, n.done, []⟩ : Netlist)) (w := (widthN p.width)) (k := p.d) (by show (n.widths).length ≤ 1048576; omega) (by omega)) rfl (.keep rfl rfl (.keep rfl rfl (.keep rfl rfl .nil))) (by decide) rfl ?_
 refine AOps.nil ⟨rfl, ?_⟩
 refine AHeld.one 17 rfl (by kernel_rfl) ?_
 refine AOps.buildSlice (([pickN n.widths 1 p.a, pickN n.widths (widthN p.width) p.b, pickN n.widths (widthN p.width) p.d] : List Int).map irow) sl22 ze3 rfl rfl rfl rfl rfl (uniform_map (s := 1) (f := irow) (fun _ => rfl)) rfl rfl rfl (by decide) ?_
 refine AOps.nil ⟨rfl, ?_⟩
 refine AHeld.one 18 rfl (by kernel_rfl) ?_
 refine .fa fl39_3 ?_
 refine AOps.nil ⟨rfl, ?_⟩
 refine AHeld.one 19 rfl (by kernel_rfl) ?_
 refine AOps.sh (Sh.adoptE (d := 62) (n := ([pickN n.widths 1 p.a, pickN n.widths (widthN p.width) p.b, pickN n.widths (widthN p.width) p.d] : List Int).length) 162 (([pickN n.widths 1 p.a, pickN n.widths (widthN p.width) p.b, pickN n.widths (widthN p.width) p.d] : List Int).map irow) rfl (by first | rfl | exact rep_map rfl) (len_map rfl) (by decide)) ?_
 refine AOps.storeC si22 rfl rfl rfl rfl rfl rfl (Nat.le_of_ble_eq_true rfl) rfl ?_
 refine AOps.nil ⟨rfl, ?_⟩
 refine AHeld.done (by kernel_rfl) ?_
 refine AWp.le (st' := ⟨[(4, .ptr 104 0 0 0), (8, vi (widthN p.width)), (9, .ptr 109 0 0 0)], [(104, .cells [vi 0, vi 0, vi 0, .v (.slice none 0 0), .v (.int .u64 0), vi 0]), (109, .cells [vi 2, vi (([2, 3, 9, 10, 11, 12, 13, 14, 15, 16, 17, 18, 19, 20, 21, 22, 23, 24] : List Int).getD (p.op % (([2, 3, 9, 10, 11, 12, 13, 14, 15, 16, 17, 18, 19, 20, 21, 22, 23, 24] : List Int).length)) 0), vi 0, .slc 162 1 0 (([pickN n.widths 1 p.a, pickN n.widths (widthN p.width) p.b, pickN n.widths (widthN p.width) p.d] : List Int).length), .v (.int .u64 0), vi 0]), (162, .rows 1 (([pickN n.widths 1 p.a, pickN n.widths (widthN p.width) p.b, pickN n.widths (widthN p.width) p.d] : List Int).map irow))]⟩) (Le.mk (.c (.c (.c (.nil)))) (.c (.c (.c (.nil))))) ?_
 refine AWp.sr (.vl (Y.loadA sh39 rfl rfl (Nat.le_of_ble_eq_true rfl) rfl rfl) ?_)
 refine .mv ?_
 refine AOps.storeC si39 rfl rfl rfl rfl rfl rfl (Nat.le_of_ble_eq_true rfl) rfl ?_
 refine .an ?_
 refine AOps.nil (AWp.ret ?_)
 exact ⟨_, rfl, _, _, _, Sh.ownT (d := 0) 3 162 rfl rfl rfl rfl (by first | rfl | exact len_map rfl | exact len_map (by omega)) rfl (by decide), rfl, rfl, (⟨2, ([2, 3, 9, 10, 11, 12, 13, 14, 15, 16, 17, 18, 19, 20, 21, 22, 23, 24] : List Int).getD (p.op % (([2, 3, 9, 10, 11, 12, 13, 14, 15, 16, 17, 18, 19, 20, 21, 22, 23, 24] : List Int).length)) 0, 0, ([pickN n.widths 1 p.a, pickN n.widths (widthN p.width) p.b, pickN n.widths (widthN p.width) p.d] : List Int), 0, 0⟩ : Cell), _, op_sel hg c42, rfl, rfl⟩
 refine AWp.sr ?_
 refine .mv ?_
 refine AOps.callP ok118 (unary_spec (w := (([2, 3, 9, 10, 11, 12, 13, 14, 15, 16, 17, 18, 19, 20, 21, 22, 23, 24] : List Int).getD (p.op % (([2, 3, 9, 10, 11, 12, 13, 14, 15, 16, 17, 18, 19, 20, 21, 22, 23, 24] : List Int).length)) 0))) rfl (.keep rfl rfl .nil) (by decide) rfl ?_
 refine .an ?_
 refine AOps.nil ?_
 refine AWp.condD rfl (fun c64 => ?_) (fun c64 => ?_)
 refine AWp.sr ?_
 refine .fa fl88_3 ?_
 refine .vl (Y.indexP ar86 rfl rfl (m := 0) rfl (by omega) rfl) ?_
 refine .ld sh5 ?_
 refine .vl (Y.convK ii5 ii3 rfl (by first | rfl | exact IntWalk.i64_in _ (by omega))) ?_
 refine .fa fl27_1 ?_
 refine .ld sh22 ?_
 refine .vl (Y.len (n := n.widths.length) sl22 rfl (congrArg some (List.length_map ..))) ?_
 refine .vl (Y.remI rfl rfl (by first | omega | simp [-List.getD_eq_getElem?_getD] <;> omega)) ?_
 refine .an ?_
 refine AOps.nil ?_
 refine AWp.join1 (fun (w8_j15 : Int) => ⟨[(4, .ptr 104 0 0 0), (8, vi w8_j15), (9, .ptr 109 0 0 0), (10, vi (((p.a : Nat) : Int) % ((n.widths.length : Nat) : Int)))], [(104, .cells [vi 0, vi 0, vi 0, .v (.slice none 0 0), .v (.int .u64 0), vi 0]), (109, .cells [vi 2, vi (([2, 3, 9, 10, 11, 12, 13, 14, 15, 16, 17, 18, 19, 20, 21, 22, 23, 24] : List Int).getD (p.op % (([2, 3, 9, 10, 11, 12, 13, 14, 15, 16, 17, 18, 19, 20, 21, 22, 23, 24] : List Int).length)) 0), vi 0, .v (.slice none 0 0), .v (.int .u64 0), vi 0])]⟩) (fun (w8_j15 : Int) => (((([2, 3, 9, 10, 11, 12, 13, 14, 15, 16, 17, 18, 19, 20, 21, 22, 23, 24] : List Int).getD (p.op % (([2, 3, 9, 10, 11, 12, 13, 14, 15, 16, 17, 18, 19, 20, 21, 22, 23, 24] : List Int).length)) 0) = 24) ∧ (w8_j15 = (if (n.widths.getD (p.a % n.widths.length) 0) < (widthN p.width) then (n.widths.getD (p.a % n.widths.length) 0) else (widthN p.width)))) ∨ ((¬ ((([2, 3, 9, 10, 11, 12, 13, 14, 15, 16, 17, 18, 19, 20, 21, 22, 23, 24] : List Int).getD (p.op % (([2, 3, 9, 10, 11, 12, 13, 14, 15, 16, 17, 18, 19, 20, 21, 22, 23, 24] : List Int).length)) 0) = 24)) ∧ (w8_j15 = (if (n.widths.getD (p.a % n.widths.length) 0) > (widthN p.width) then (n.widths.getD (p.a % n.widths.length) 0) else (widthN p.width))))) ?_ (fun w8_j15 hJ15 => ?_)
 refine AWp.sr ?_
 refine .mv ?_
 refine .vl (Y.eql rfl rfl) (AOps.nil ?_)
 refine AWp.condD rfl (fun c76 => ?_) (fun c76 => ?_)
 refine AWp.region ?_
 refine .mv ?_
 refine .fa fl27_1 ?_
 refine .ld sh22 ?_
 refine .mv ?_
 refine .vl (Y.indexF (m := p.a % n.widths.length) sl22 rfl rfl (by first | rfl | omega) (row_getD (d := 0) (by omega))) ?_
 refine .ld sh3 ?_
 refine .vl (Y.min rfl rfl rfl) ?_
 refine .an ?_
 refine AOps.nil ?_
 exact ⟨if (n.widths.getD (p.a % n.widths.length) 0) < (widthN p.width) then (n.widths.getD (p.a % n.widths.length) 0) else (widthN p.width), .inl ⟨c76, rfl⟩, Le.mk (.c (.cons (look_int rfl (by first | rfl | omega)) (.c (.c (.nil))))) (.c (.c (.nil)))⟩
 refine AWp.region ?_
 refine .mv ?_
 refine .fa fl27_1 ?_
 refine .ld sh22 ?_
 refine .mv ?_
 refine .vl (Y.indexF (m := p.a % n.widths.length) sl22 rfl rfl (by first | rfl | omega) (row_getD (d := 0) (by omega))) ?_
 refine .ld sh3 ?_
 refine .vl (Y.max rfl rfl rfl) ?_
 refine .an ?_
 refine AOps.nil ?_
 exact ⟨if (n.widths.getD (p.a % n.widths.length) 0) > (widthN p.width) then (n.widths.getD (p.a % n.widths.length) 0) else (widthN p.width), .inr (⟨c76, rfl⟩), Le.mk (.c (.cons (look_int rfl (by first | rfl | omega)) (.c (.c (.nil))))) (.c (.c (.nil)))⟩
 refine AWp.region ?_
 refine .mv ?_
 refine AOps.buildSlice (([((p.a : Nat) : Int) % ((n.widths.length : Nat) : Int)] : List Int).map irow) sl22 ze3 rfl rfl rfl rfl rfl (uniform_map (s := 1) (f := irow) (fun _ => rfl)) rfl rfl rfl (by decide) ?_
 refine .fa fl39_3 ?_
 refine AOps.sh (Sh.adoptE (d := 92) (n := ([((p.a : Nat) : Int) % ((n.widths.length : Nat) : Int)] : List Int).length) 192 (([((p.a : Nat) : Int) % ((n.widths.length : Nat) : Int)] : List Int).map irow) rfl (by first | rfl | exact rep_map rfl) (len_map rfl) (by decide)) (AOps.storeC si22 rfl rfl rfl rfl rfl rfl (Nat.le_of_ble_eq_true rfl) rfl (AOps.nil ?_))
 refine AWp.le (st' := ⟨[(4, .ptr 104 0 0 0), (8, vi w8_j15), (9, .ptr 109 0 0 0)], [(104, .cells [vi 0, vi 0, vi 0, .v (.slice none 0 0), .v (.int .u64 0), vi 0]), (109, .cells [vi 2, vi (([2, 3, 9, 10, 11, 12, 13, 14, 15, 16, 17, 18, 19, 20, 21, 22, 23, 24] : List Int).getD (p.op % (([2, 3, 9, 10, 11, 12, 13, 14, 15, 16, 17, 18, 19, 20, 21, 22, 23, 24] : List Int).length)) 0), vi 0, .slc 192 1 0 (([((p.a : Nat) : Int) % ((n.widths.length : Nat) : Int)] : List Int).length), .v (.int .u64 0), vi 0]), (192, .rows 1 (([((p.a : Nat) : Int) % ((n.widths.length : Nat) : Int)] : List Int).map irow))]⟩) (Le.mk (.c (.c (.c (.nil)))) (.c (.c (.c (.nil))))) ?_
 refine AWp.sr (.vl (Y.loadA sh39 rfl rfl (Nat.le_of_ble_eq_true rfl) rfl rfl) ?_)
 refine .mv ?_
 refine AOps.storeC si39 rfl rfl rfl rfl rfl rfl (Nat.le_of_ble_eq_true rfl) rfl ?_
 refine .an ?_
 refine AOps.nil (AWp.ret ?_)
 exact ⟨_, rfl, _, _, _, Sh.ownT (d := 0) 3 192 rfl rfl rfl rfl (by first | rfl | exact len_map rfl | exact len_map (by omega)) rfl (by decide), rfl, rfl, (⟨2, ([2, 3, 9, 10, 11, 12, 13, 14, 15, 16, 17, 18, 19, 20, 21, 22, 23, 24] : List Int).getD (p.op % (([2, 3, 9, 10, 11, 12, 13, 14, 15, 16, 17, 18, 19, 20, 21, 22, 23, 24] : List Int).length)) 0, 0, ([((p.a : Nat) : Int) % ((n.widths.length : Nat) : Int)] : List Int), 0, 0⟩ : Cell), _, op_un hg h0 c64 hJ15, rfl, rfl⟩
 refine AWp.seq (AWp.regionHeld0 rfl (AFirst.loadA 0 rfl (by kernel_rfl) sh27 rfl rfl rfl (Nat.le_of_ble_eq_true rfl) rfl rfl (by decide) ?_))
 refine AFirst.blind 1 rfl (by kernel_rfl) (Blind.move rfl rfl) (by decide) (AFirst.blind 2 rfl (by kernel_rfl) (Blind.fieldAddr fl88_3 rfl rfl) (by decide) (AFirst.blind 3 rfl (by kernel_rfl) (Blind.indexP ar86 rfl rfl (m := 0) rfl (by omega) rfl) (by decide) ?_))
 refine AFirst.load 4 rfl (by kernel_rfl) sh5 rfl rfl rfl rfl rfl (by decide) (AFirst.loadA 6 rfl (by kernel_rfl) sh27 rfl rfl rfl (Nat.le_of_ble_eq_true rfl) rfl rfl (by decide) (AFirst.blind 7 rfl (by kernel_rfl) (Blind.move rfl rfl) (by decide) ?_))
 refine AFirst.blind 8 rfl (by kernel_rfl) (Blind.fieldAddr fl88_3 rfl rfl) (by decide) (AFirst.blind 9 rfl (by kernel_rfl) (Blind.indexP ar86 rfl rfl (m := 1) rfl (by omega) rfl) (by decide) (AFirst.load 10 rfl (by kernel_rfl) sh5 rfl rfl rfl rfl rfl (by decide) ?_))
 refine AFirst.go0 (AHeld.one 5 rfl (by kernel_rfl) ?_)
 refine AOps.callP ok56 (pick_spec (n := (⟨n.name, n.widths, n.cells, n.ins, n.mems, n.streams, [], [], n.freeze, n.done, []⟩ : Netlist)) (w := (widthN p.width)) (k := p.a) (by show (n.widths).length ≤ 1048576; omega) (by omega)) rfl (.keep rfl rfl (.keep rfl rfl (.keep rfl rfl .nil))) (by decide) rfl ?_
 refine AOps.nil ⟨rfl, ?_⟩
 refine AHeld.one 11 rfl (by kernel_rfl) ?_
 refine AOps.callP ok56 (pick_spec (n := (⟨n.name, n.widths, n.cells, n.ins, n.mems, n.streams, [], [], n.freeze, n.done, []⟩ : Netlist)) (w := (widthN p.width)) (k := p.b) (by show (n.widths).length ≤ 1048576; omega) (by omega)) rfl (.keep rfl rfl (.keep rfl rfl (.keep rfl rfl .nil))) (by decide) rfl ?_
 refine AOps.nil ⟨rfl, ?_⟩
 refine AHeld.one 12 rfl (by kernel_rfl) ?_
 refine AOps.buildSlice (([pickN n.widths (widthN p.width) p.a, pickN n.widths (widthN p.width) p.b] : List Int).map irow) sl22 ze3 rfl rfl rfl rfl rfl (uniform_map (s := 1) (f := irow) (fun _ => rfl)) rfl rfl rfl (by decide) ?_
 refine AOps.nil ⟨rfl, ?_⟩
 refine AHeld.one 13 rfl (by kernel_rfl) ?_
 refine .fa fl39_3 ?_
 refine AOps.nil ⟨rfl, ?_⟩
 refine AHeld.one 14 rfl (by kernel_rfl) ?_
 refine AOps.sh (Sh.adoptE (d := 38) (n := ([pickN n.widths (widthN p.width) p.a, pickN n.widths (widthN p.width) p.b] : List Int).length) 138 (([pickN n.widths (widthN p.width) p.a, pickN n.widths (widthN p.width) p.b] : List Int).map irow) rfl (by first | rfl | exact rep_map rfl) (len_map rfl) (by decide)) ?_
 refine AOps.storeC si22 rfl rfl rfl rfl rfl rfl (Nat.le_of_ble_eq_true rfl) rfl ?_
 refine AOps.nil ⟨rfl, ?_⟩
 refine AHeld.done (by kernel_rfl) ?_
 refine AWp.le (st' := ⟨[(4, .ptr 104 0 0 0), (7, vi (([2, 3, 9, 10, 11, 12, 13, 14, 15, 16, 17, 18, 19, 20, 21, 22, 23, 24] : List Int).getD (p.op % (([2, 3, 9, 10, 11, 12, 13, 14, 15, 16, 17, 18, 19, 20, 21, 22, 23, 24] : List Int).length)) 0)), (8, vi (widthN p.width)), (9, .ptr 109 0 0 0)], [(104, .cells [vi 0, vi 0, vi 0, .v (.slice none 0 0), .v (.int .u64 0), vi 0]), (109, .cells [vi 2, vi (([2, 3, 9, 10, 11, 12, 13, 14, 15, 16, 17, 18, 19, 20, 21, 22, 23, 24] : List Int).getD (p.op % (([2, 3, 9, 10, 11, 12, 13, 14, 15, 16, 17, 18, 19, 20, 21, 22, 23, 24] : List Int).length)) 0), vi 0, .slc 138 1 0 (([pickN n.widths (widthN p.width) p.a, pickN n.widths (widthN p.width) p.b] : List Int).length), .v (.int .u64 0), vi 0]), (138, .rows 1 (([pickN n.widths (widthN p.width) p.a, pickN n.widths (widthN p.width) p.b] : List Int).map irow))]⟩) (Le.mk (.c (.c (.c (.c (.nil))))) (.c (.c (.c (.nil))))) ?_
 refine AWp.sr ?_
 refine .mv ?_
 refine AOps.callP ok77 (refIsCompare_spec (w := (([2, 3, 9, 10, 11, 12, 13, 14, 15, 16, 17, 18, 19, 20, 21, 22, 23, 24] : List Int).getD (p.op % (([2, 3, 9, 10, 11, 12, 13, 14, 15, 16, 17, 18, 19, 20, 21, 22, 23, 24] : List Int).length)) 0))) rfl (.keep rfl rfl .nil) (by decide) rfl (AOps.nil ?_)
 refine AWp.condD rfl (fun c41 => ?_) (fun c41 => ?_)
 refine AWp.region ?_
 refine .an ?_
 refine AOps.nil ?_
 refine AWp.le (st' := ⟨[(4, .ptr 104 0 0 0), (8, vi 1), (9, .ptr 109 0 0 0)], [(104, .cells [vi 0, vi 0, vi 0, .v (.slice none 0 0), .v (.int .u64 0), vi 0]), (109, .cells [vi 2, vi (([2, 3, 9, 10, 11, 12, 13, 14, 15, 16, 17, 18, 19, 20, 21, 22, 23, 24] : List Int).getD (p.op % (([2, 3, 9, 10, 11, 12, 13, 14, 15, 16, 17, 18, 19, 20, 21, 22, 23, 24] : List Int).length)) 0), vi 0, .slc 138 1 0 (([pickN n.widths (widthN p.width) p.a, pickN n.widths (widthN p.width) p.b] : List Int).length), .v (.int .u64 0), vi 0]), (138, .rows 1 (([pickN n.widths (widthN p.width) p.a, pickN n.widths (widthN p.width) p.b] : List Int).map irow))]⟩) (Le.mk (.c (.c (.c (.nil)))) (.c (.c (.c (.nil))))) ?_
 refine AWp.sr (.vl (Y.loadA sh39 rfl rfl (Nat.le_of_ble_eq_true rfl) rfl rfl) ?_)
 refine .mv ?_
 refine AOps.storeC si39 rfl rfl rfl rfl rfl rfl (Nat.le_of_ble_eq_true rfl) rfl ?_
 refine .an ?_
 refine AOps.nil (AWp.ret ?_)
 exact ⟨_, rfl, _, _, _, Sh.ownT (d := 0) 3 138 rfl rfl rfl rfl (by first | rfl | exact len_map rfl | exact len_map (by omega)) rfl (by decide), rfl, rfl, (⟨2, ([2, 3, 9, 10, 11, 12, 13, 14, 15, 16, 17, 18, 19, 20, 21, 22, 23, 24] : List Int).getD (p.op % (([2, 3, 9, 10, 11, 12, 13, 14, 15, 16, 17, 18, 19, 20, 21, 22, 23, 24] : List Int).length)) 0, 0, ([pickN n.widths (widthN p.width) p.a, pickN n.widths (widthN p.width) p.b] : List Int), 0, 0⟩ : Cell), _, op_two hg (ops_in _) c42 c64 (.inl ⟨c41, rfl⟩), rfl, rfl⟩
 refine AWp.skip ?_
 refine AWp.le (st' := ⟨[(4, .ptr 104 0 0 0), (8, vi (widthN p.width)), (9, .ptr 109 0 0 0)], [(104, .cells [vi 0, vi 0, vi 0, .v (.slice none 0 0), .v (.int .u64 0), vi 0]), (109, .cells [vi 2, vi (([2, 3, 9, 10, 11, 12, 13, 14, 15, 16, 17, 18, 19, 20, 21, 22, 23, 24] : List Int).getD (p.op % (([2, 3, 9, 10, 11, 12, 13, 14, 15, 16, 17, 18, 19, 20, 21, 22, 23, 24] : List Int).length)) 0), vi 0, .slc 138 1 0 (([pickN n.widths (widthN p.width) p.a, pickN n.widths (widthN p.width) p.b] : List Int).length), .v (.int .u64 0), vi 0]), (138, .rows 1 (([pickN n.widths (widthN p.width) p.a, pickN n.widths (widthN p.width) p.b] : List Int).map irow))]⟩) (Le.mk (.c (.c (.c (.nil)))) (.c (.c (.c (.nil))))) ?_
 refine AWp.sr (.vl (Y.loadA sh39 rfl rfl (Nat.le_of_ble_eq_true rfl) rfl rfl) ?_)
 refine .mv ?_
 refine AOps.storeC si39 rfl rfl rfl rfl rfl rfl (Nat.le_of_ble_eq_true rfl) rfl ?_
 refine .an ?_
 refine AOps.nil (AWp.ret ?_)
 exact ⟨_, rfl, _, _, _, Sh.ownT (d := 0) 3 138 rfl rfl rfl rfl (by first | rfl | exact len_map rfl | exact len_map (by omega)) rfl (by decide), rfl, rfl, (⟨2, ([2, 3, 9, 10, 11, 12, 13, 14, 15, 16, 17, 18, 19, 20, 21, 22, 23, 24] : List Int).getD (p.op % (([2, 3, 9, 10, 11, 12, 13, 14, 15, 16, 17, 18, 19, 20, 21, 22, 23, 24] : List Int).length)) 0, 0, ([pickN n.widths (widthN p.width) p.a, pickN n.widths (widthN p.width) p.b] : List Int), 0, 0⟩ : Cell), _, op_two hg (ops_in _) c42 c64 (.inr ⟨c41, rfl⟩), rfl, rfl⟩
theorem part_spec {n : Netlist} {p : Prt} (hn : n.widths.length ≤ 1048576) (h0 : 0 < n.widths.length) (hp : p.Ok) (hg : Ground n) (hi : n.ins.length ≤ 1048576) : ACalls Try.prog 54 [.agg (Netlist.prow n), .agg (Prt.row p)] [] [] (fun r o => ∃ c w, PartP n c w ∧ r = .tup [.agg (Cell.orow c), vi w] ∧ o = []) := by
 refine ACalls.ofS Try.func54 rfl rfl rfl (n := 208) (by decide) (Nat.le_of_ble_eq_true rfl) ?_
 have hp1 := hp.kind; have hp2 := hp.op; have hp3 := hp.width; have hp4 := hp.a; have hp5 := hp.b; have hp6 := hp.d; have hp7 := hp.num; have hm1 := Nat.mod_lt p.a h0; have hm2 := Nat.mod_lt p.b h0
 refine AWp.sr (AOps.box 102 rfl rfl rfl rfl rfl (by decide) (AOps.box 103 rfl rfl rfl rfl rfl (by decide) ?_))
 refine AOps.alloc 104 ze39 rfl rfl (by decide) ?_
 refine .an ?_
 refine AOps.nil (AWp.seq (AWp.sh (Sh.freezeO 102 rfl rfl) ?_))
 refine AWp.sh (Sh.freezeO 103 rfl rfl) (AWp.region ?_)
 refine .fa fl88_2 ?_
 refine .ld sh5 ?_
 refine AOps.callP ok53 (width_spec (k := p.width)) rfl (.keep rfl rfl .nil) (by decide) rfl ?_
 refine .an ?_
 refine AOps.nil (AWp.sr ?_)
 refine .fa fl88_0 ?_
 refine .ld sh5 ?_
 refine .vl (Y.remI rfl rfl (by first | omega | simp [-List.getD_eq_getElem?_getD] <;> omega)) ?_
 refine .vl (Y.convK ii5 ii3 rfl (by first | rfl | exact IntWalk.i64_in _ (by omega))) ?_
 refine .vl (Y.addI rfl rfl (by omega)) ?_
 refine .vl (Y.build pl39 ze39 rfl rfl rfl) (AOps.alloc 107 ze39 rfl rfl (by decide) (AOps.storeC si39 rfl rfl rfl rfl rfl rfl (Nat.le_of_ble_eq_true rfl) rfl ?_))
 refine AOps.nil (AWp.seq (AWp.regionS rfl (by kernel_rfl) ?_))
 refine AHead.val (Y.fieldAddr fl88_3 rfl rfl) (by decide) (AHead.val (Y.indexP ar86 rfl rfl (m := 0) rfl (by omega) rfl) (by decide) (AHead.val (Y.load sh5 rfl rfl rfl rfl) (by decide) ?_))
 refine AHead.val (Y.fieldAddr fl88_3 rfl rfl) (by decide) (AHead.val (Y.indexP ar86 rfl rfl (m := 1) rfl (by omega) rfl) (by decide) (AHead.val (Y.load sh5 rfl rfl rfl rfl) (by decide) ?_))
 refine AHead.val (Y.fieldAddr fl88_3 rfl rfl) (by decide) (AHead.val (Y.indexP ar86 rfl rfl (m := 2) rfl (by omega) rfl) (by decide) (AHead.val (Y.load sh5 rfl rfl rfl rfl) (by decide) ?_))
 refine AHead.val (Y.assign rfl rfl) (by decide) (AHead.val (Y.assign rfl rfl) (by decide) (AHead.val (Y.assign rfl rfl) (by decide) ?_))
 refine AHead.nil ?_
 refine AWp.le (st' := ⟨[(2, .fp (Netlist.prow n) 0), (3, .fp (Prt.row p) 0), (4, .ptr 104 0 0 0), (6, vi (widthN p.width)), (7, .ptr 107 0 0 0), (8, .v (.int .u8 ((p.a : Nat) : Int))), (9, .v (.int .u8 ((p.b : Nat) : Int))), (10, .v (.int .u8 ((p.d : Nat) : Int)))], [(104, .cells [vi 0, vi 0, vi 0, .v (.slice none 0 0), .v (.int .u64 0), vi 0]), (107, .cells [vi (1 + (((p.kind : Nat) : Int) % 10)), vi 0, vi (-1), .v (.slice none 0 0), .v (.int .u64 0), vi 0])]⟩) (Le.mk (.c (.c (.c (.c (.c (.c (.c (.c (.nil))))))))) (.c (.c (.nil)))) ?_
 refine AWp.seq (AWp.sr ?_)
 refine .fa fl39_0 ?_
 refine .ld sh3 ?_
 refine AOps.nil (AWp.block (AWp.sr ?_))
 refine .vl (Y.eql rfl rfl) ?_
 refine .an ?_
 refine AOps.nil ?_
 refine AWp.condD rfl (fun c67 => ?_) (fun c67 => ?_)
 refine AWp.region ?_
 refine .mv ?_
 refine .fa fl88_4 ?_
 refine .ld sh37 ?_
 refine AOps.callP ok26 (rfit_spec (w := (widthN p.width)) (x := p.num) ((by omega))) rfl (.keep rfl rfl (.keep rfl rfl .nil)) (by decide) rfl ?_
 refine .fa fl39_4 ?_
 refine AOps.storeC si37 rfl rfl rfl rfl rfl rfl (Nat.le_of_ble_eq_true rfl) rfl (AOps.nil ?_)
 refine AWp.le (st' := ⟨[(4, .ptr 104 0 0 0), (6, vi (widthN p.width)), (7, .ptr 107 0 0 0)], [(104, .cells [vi 0, vi 0, vi 0, .v (.slice none 0 0), .v (.int .u64 0), vi 0]), (107, .cells [vi (1 + (((p.kind : Nat) : Int) % 10)), vi 0, vi (-1), .v (.slice none 0 0), .v (.int .u64 ((fitN (widthN p.width) p.num : Nat) : Int)), vi 0])]⟩) (Le.mk (.c (.c (.c (.nil)))) (.c (.c (.nil)))) ?_
 refine AWp.sr (.vl (Y.loadA sh39 rfl rfl (Nat.le_of_ble_eq_true rfl) rfl rfl) ?_)
 refine .mv ?_
 refine AOps.storeC si39 rfl rfl rfl rfl rfl rfl (Nat.le_of_ble_eq_true rfl) rfl ?_
 refine .an ?_
 refine AOps.nil (AWp.sh (Sh.nilCell 104 399 1 3 rfl rfl rfl rfl (by decide)) (AWp.ret ?_))
 exact ⟨_, rfl, _, _, _, Sh.ownT (d := 0) 3 399 rfl rfl rfl rfl (by first | rfl | exact len_map rfl | exact len_map (by omega)) rfl (by decide), rfl, rfl, (⟨1 + (((p.kind : Nat) : Int) % 10), 0, -1, ([] : List Int), fitN (widthN p.width) p.num, 0⟩ : Cell), _, pt_const hg (by omega), rfl, rfl⟩
 refine AWp.sr (.vl (Y.eql rfl rfl) ?_)
 refine .an ?_
 refine AOps.nil ?_
 refine AWp.condD rfl (fun c74 => ?_) (fun c74 => ?_)
 refine AWp.sr (.vl (Y.loadA sh27 rfl rfl (Nat.le_of_ble_eq_true rfl) rfl rfl) (.vl (Y.loadA sh88 rfl rfl (Nat.le_of_ble_eq_true rfl) rfl rfl) ?_))
 refine AOps.callV ok91 (operator_spec (n := n) (p := p) hn h0 hp hg hi) rfl (.keep rfl rfl (.keep rfl rfl .nil)) (by decide) ?_
 rintro _ ⟨cO78, wO78, hO78, rfl, _⟩
 refine ⟨rfl, ?_⟩
 refine AOps.extractU rfl rfl (by decide) (.vl (Y.extract rfl rfl rfl) (AOps.sh (Sh.nameN (d := 79) 3 2083 cO78.args.length rfl rfl rfl (by decide) (len_map rfl)) ?_))
 refine AOps.storeC si39 rfl rfl rfl rfl rfl rfl (Nat.le_of_ble_eq_true rfl) rfl ?_
 refine .an ?_
 refine AOps.nil (AWp.ret ?_)
 exact ⟨_, rfl, _, _, _, Sh.ownT (d := 0) 3 2083 rfl rfl rfl rfl (by first | rfl | exact len_map rfl | exact len_map (by omega)) rfl (by decide), rfl, rfl, cO78, _, hO78, rfl, rfl⟩
 refine AWp.sr (.vl (Y.eql rfl rfl) ?_)
 refine .an ?_
 refine AOps.nil ?_
 refine AWp.condD rfl (fun c81 => ?_) (fun c81 => ?_)
 refine AWp.regionHeld0 rfl (AFirst.loadA 0 rfl (by kernel_rfl) sh27 rfl rfl rfl (Nat.le_of_ble_eq_true rfl) rfl rfl (by decide) (AFirst.blind 1 rfl (by kernel_rfl) (Blind.move rfl rfl) (by decide) ?_))
 refine AFirst.loadA 3 rfl (by kernel_rfl) sh27 rfl rfl rfl (Nat.le_of_ble_eq_true rfl) rfl rfl (by decide) (AFirst.blind 4 rfl (by kernel_rfl) (Blind.move rfl rfl) (by decide) (AFirst.blind 5 rfl (by kernel_rfl) (Blind.move rfl rfl) (by decide) ?_))
 refine AFirst.loadA 7 rfl (by kernel_rfl) sh27 rfl rfl rfl (Nat.le_of_ble_eq_true rfl) rfl rfl (by decide) (AFirst.blind 8 rfl (by kernel_rfl) (Blind.move rfl rfl) (by decide) (AFirst.loadA 10 rfl (by kernel_rfl) sh27 rfl rfl rfl (Nat.le_of_ble_eq_true rfl) rfl rfl (by decide) ?_))
 refine AFirst.blind 11 rfl (by kernel_rfl) (Blind.move rfl rfl) (by decide) (AFirst.blind 12 rfl (by kernel_rfl) (Blind.fieldAddr fl88_1 rfl rfl) (by decide) (AFirst.load 13 rfl (by kernel_rfl) sh5 rfl rfl rfl rfl rfl (by decide) ?_))
 refine AFirst.go0 (AHeld.one 2 rfl (by kernel_rfl) (AOps.callP ok56 (pick_spec (n := (⟨n.name, n.widths, n.cells, n.ins, n.mems, n.streams, [], [], n.freeze, n.done, []⟩ : Netlist)) (w := 1) (k := p.a) (by show (n.widths).length ≤ 1048576; omega) (by omega)) rfl (.keep rfl rfl (.keep rfl rfl (.keep rfl rfl .nil))) (by decide) rfl ?_))
 refine AOps.nil ⟨rfl, ?_⟩
 refine AHeld.one 6 rfl (by kernel_rfl) ?_
 refine AOps.callP ok56 (pick_spec (n := (⟨n.name, n.widths, n.cells, n.ins, n.mems, n.streams, [], [], n.freeze, n.done, []⟩ : Netlist)) (w := (widthN p.width)) (k := p.b) (by show (n.widths).length ≤ 1048576; omega) (by omega)) rfl (.keep rfl rfl (.keep rfl rfl (.keep rfl rfl .nil))) (by decide) rfl ?_
 refine AOps.nil ⟨rfl, ?_⟩
 refine AHeld.one 9 rfl (by kernel_rfl) (AOps.callP ok56 (pick_spec (n := (⟨n.name, n.widths, n.cells, n.ins, n.mems, n.streams, [], [], n.freeze, n.done, []⟩ : Netlist)) (w := 1) (k := p.d) (by show (n.widths).length ≤ 1048576; omega) (by omega)) rfl (.keep rfl rfl (.keep rfl rfl (.keep rfl rfl .nil))) (by decide) rfl ?_)
 refine AOps.nil ⟨rfl, ?_⟩
 refine AHeld.one 14 rfl (by kernel_rfl) ?_
 refine AOps.callP ok56 (pick_spec (n := (⟨n.name, n.widths, n.cells, n.ins, n.mems, n.streams, [], [], n.freeze, n.done, []⟩ : Netlist)) (w := (widthN p.width)) (k := p.op) (by show (n.widths).length ≤ 1048576; omega) (by omega)) rfl (.keep rfl rfl (.keep rfl rfl (.keep rfl rfl .nil))) (by decide) rfl ?_
 refine AOps.nil ⟨rfl, ?_⟩
 refine AHeld.one 15 rfl (by kernel_rfl) ?_
 refine AOps.buildSlice (([pickN n.widths 1 p.a, pickN n.widths (widthN p.width) p.b, pickN n.widths 1 p.d, pickN n.widths (widthN p.width) p.op] : List Int).map irow) sl22 ze3 rfl rfl rfl rfl rfl (uniform_map (s := 1) (f := irow) (fun _ => rfl)) rfl rfl rfl (by decide) ?_
 refine AOps.nil ⟨rfl, ?_⟩
 refine AHeld.one 16 rfl (by kernel_rfl) ?_
 refine .fa fl39_3 ?_
 refine AOps.nil ⟨rfl, ?_⟩
 refine AHeld.one 17 rfl (by kernel_rfl) ?_
 refine AOps.sh (Sh.adoptE (d := 98) (n := ([pickN n.widths 1 p.a, pickN n.widths (widthN p.width) p.b, pickN n.widths 1 p.d, pickN n.widths (widthN p.width) p.op] : List Int).length) 198 (([pickN n.widths 1 p.a, pickN n.widths (widthN p.width) p.b, pickN n.widths 1 p.d, pickN n.widths (widthN p.width) p.op] : List Int).map irow) rfl (by first | rfl | exact rep_map rfl) (len_map rfl) (by decide)) ?_
 refine AOps.storeC si22 rfl rfl rfl rfl rfl rfl (Nat.le_of_ble_eq_true rfl) rfl ?_
 refine AOps.nil ⟨rfl, ?_⟩
 refine AHeld.done (by kernel_rfl) ?_
 refine AWp.le (st' := ⟨[(4, .ptr 104 0 0 0), (6, vi (widthN p.width)), (7, .ptr 107 0 0 0)], [(104, .cells [vi 0, vi 0, vi 0, .v (.slice none 0 0), .v (.int .u64 0), vi 0]), (107, .cells [vi (1 + (((p.kind : Nat) : Int) % 10)), vi 0, vi (-1), .slc 198 1 0 (([pickN n.widths 1 p.a, pickN n.widths (widthN p.width) p.b, pickN n.widths 1 p.d, pickN n.widths (widthN p.width) p.op] : List Int).length), .v (.int .u64 0), vi 0]), (198, .rows 1 (([pickN n.widths 1 p.a, pickN n.widths (widthN p.width) p.b, pickN n.widths 1 p.d, pickN n.widths (widthN p.width) p.op] : List Int).map irow))]⟩) (Le.mk (.c (.c (.c (.nil)))) (.c (.c (.c (.nil))))) ?_
 refine AWp.sr (.vl (Y.loadA sh39 rfl rfl (Nat.le_of_ble_eq_true rfl) rfl rfl) ?_)
 refine .mv ?_
 refine AOps.storeC si39 rfl rfl rfl rfl rfl rfl (Nat.le_of_ble_eq_true rfl) rfl ?_
 refine .an ?_
 refine AOps.nil (AWp.ret ?_)
 exact ⟨_, rfl, _, _, _, Sh.ownT (d := 0) 3 198 rfl rfl rfl rfl (by first | rfl | exact len_map rfl | exact len_map (by omega)) rfl (by decide), rfl, rfl, (⟨1 + (((p.kind : Nat) : Int) % 10), 0, -1, ([pickN n.widths 1 p.a, pickN n.widths (widthN p.width) p.b, pickN n.widths 1 p.d, pickN n.widths (widthN p.width) p.op] : List Int), 0, 0⟩ : Cell), _, pt_mux hg (by omega), rfl, rfl⟩
 refine AWp.sr (.vl (Y.eql rfl rfl) ?_)
 refine .an ?_
 refine AOps.nil ?_
 refine AWp.condD rfl (fun c100 => ?_) (fun c100 => ?_)
 refine AWp.sr ?_
 refine .mv ?_
 refine .fa fl88_4 ?_
 refine .ld sh37 ?_
 refine AOps.callP ok26 (rfit_spec (w := (widthN p.width)) (x := p.num) ((by omega))) rfl (.keep rfl rfl (.keep rfl rfl .nil)) (by decide) rfl ?_
 refine .fa fl39_4 ?_
 refine AOps.storeC si37 rfl rfl rfl rfl rfl rfl (Nat.le_of_ble_eq_true rfl) rfl (AOps.nil ?_)
 refine AWp.le (st' := ⟨[(2, .fp (Netlist.prow n) 0), (4, .ptr 104 0 0 0), (6, vi (widthN p.width)), (7, .ptr 107 0 0 0), (8, .v (.int .u8 ((p.a : Nat) : Int))), (9, .v (.int .u8 ((p.b : Nat) : Int)))], [(104, .cells [vi 0, vi 0, vi 0, .v (.slice none 0 0), .v (.int .u64 0), vi 0]), (107, .cells [vi (1 + (((p.kind : Nat) : Int) % 10)), vi 0, vi (-1), .v (.slice none 0 0), .v (.int .u64 ((fitN (widthN p.width) p.num : Nat) : Int)), vi 0])]⟩) (Le.mk (.c (.c (.c (.c (.c (.c (.nil))))))) (.c (.c (.nil)))) ?_
 refine AWp.regionHeld0 rfl (AFirst.loadA 0 rfl (by kernel_rfl) sh27 rfl rfl rfl (Nat.le_of_ble_eq_true rfl) rfl rfl (by decide) (AFirst.blind 1 rfl (by kernel_rfl) (Blind.move rfl rfl) (by decide) ?_))
 refine AFirst.loadA 3 rfl (by kernel_rfl) sh27 rfl rfl rfl (Nat.le_of_ble_eq_true rfl) rfl rfl (by decide) (AFirst.blind 4 rfl (by kernel_rfl) (Blind.move rfl rfl) (by decide) (AFirst.blind 5 rfl (by kernel_rfl) (Blind.move rfl rfl) (by decide) ?_))
 refine AFirst.go0 (AHeld.one 2 rfl (by kernel_rfl) (AOps.callP ok56 (pick_spec (n := (⟨n.name, n.widths, n.cells, n.ins, n.mems, n.streams, [], [], n.freeze, n.done, []⟩ : Netlist)) (w := 1) (k := p.a) (by show (n.widths).length ≤ 1048576; omega) (by omega)) rfl (.keep rfl rfl (.keep rfl rfl (.keep rfl rfl .nil))) (by decide) rfl ?_))
 refine AOps.nil ⟨rfl, ?_⟩
 refine AHeld.one 6 rfl (by kernel_rfl) ?_
 refine AOps.callP ok56 (pick_spec (n := (⟨n.name, n.widths, n.cells, n.ins, n.mems, n.streams, [], [], n.freeze, n.done, []⟩ : Netlist)) (w := (widthN p.width)) (k := p.b) (by show (n.widths).length ≤ 1048576; omega) (by omega)) rfl (.keep rfl rfl (.keep rfl rfl (.keep rfl rfl .nil))) (by decide) rfl ?_
 refine AOps.nil ⟨rfl, ?_⟩
 refine AHeld.one 7 rfl (by kernel_rfl) ?_
 refine AOps.buildSlice (([pickN n.widths 1 p.a, pickN n.widths (widthN p.width) p.b] : List Int).map irow) sl22 ze3 rfl rfl rfl rfl rfl (uniform_map (s := 1) (f := irow) (fun _ => rfl)) rfl rfl rfl (by decide) ?_
 refine AOps.nil ⟨rfl, ?_⟩
 refine AHeld.one 8 rfl (by kernel_rfl) ?_
 refine .fa fl39_3 ?_
 refine AOps.nil ⟨rfl, ?_⟩
 refine AHeld.one 9 rfl (by kernel_rfl) (AOps.sh (Sh.adoptE (d := 114) (n := ([pickN n.widths 1 p.a, pickN n.widths (widthN p.width) p.b] : List Int).length) 214 (([pickN n.widths 1 p.a, pickN n.widths (widthN p.width) p.b] : List Int).map irow) rfl (by first | rfl | exact rep_map rfl) (len_map rfl) (by decide)) (AOps.storeC si22 rfl rfl rfl rfl rfl rfl (Nat.le_of_ble_eq_true rfl) rfl ?_))
 refine AOps.nil ⟨rfl, ?_⟩
 refine AHeld.done (by kernel_rfl) ?_
 refine AWp.le (st' := ⟨[(4, .ptr 104 0 0 0), (6, vi (widthN p.width)), (7, .ptr 107 0 0 0)], [(104, .cells [vi 0, vi 0, vi 0, .v (.slice none 0 0), .v (.int .u64 0), vi 0]), (107, .cells [vi (1 + (((p.kind : Nat) : Int) % 10)), vi 0, vi (-1), .slc 214 1 0 (([pickN n.widths 1 p.a, pickN n.widths (widthN p.width) p.b] : List Int).length), .v (.int .u64 ((fitN (widthN p.width) p.num : Nat) : Int)), vi 0]), (214, .rows 1 (([pickN n.widths 1 p.a, pickN n.widths (widthN p.width) p.b] : List Int).map irow))]⟩) (Le.mk (.c (.c (.c (.nil)))) (.c (.c (.c (.nil))))) ?_
 refine AWp.sr (.vl (Y.loadA sh39 rfl rfl (Nat.le_of_ble_eq_true rfl) rfl rfl) ?_)
 refine .mv ?_
 refine AOps.storeC si39 rfl rfl rfl rfl rfl rfl (Nat.le_of_ble_eq_true rfl) rfl ?_
 refine .an ?_
 refine AOps.nil (AWp.ret ?_)
 exact ⟨_, rfl, _, _, _, Sh.ownT (d := 0) 3 214 rfl rfl rfl rfl (by first | rfl | exact len_map rfl | exact len_map (by omega)) rfl (by decide), rfl, rfl, (⟨1 + (((p.kind : Nat) : Int) % 10), 0, -1, ([pickN n.widths 1 p.a, pickN n.widths (widthN p.width) p.b] : List Int), fitN (widthN p.width) p.num, 0⟩ : Cell), _, pt_reg hg (by omega), rfl, rfl⟩
 refine AWp.sr (.vl (Y.eql rfl rfl) ?_)
 refine .an ?_
 refine AOps.nil ?_
 refine AWp.condD rfl (fun c116 => ?_) (fun c116 => ?_)
 refine AWp.sr ?_
 refine .fa fl88_1 ?_
 refine .ld sh5 ?_
 refine .vl (Y.remI rfl rfl (by first | omega | simp [-List.getD_eq_getElem?_getD] <;> omega)) ?_
 refine .vl (Y.convK ii5 ii3 rfl (by first | rfl | exact IntWalk.i64_in _ (by omega))) ?_
 refine .vl (Y.addI rfl rfl (by omega)) ?_
 refine .fa fl39_1 ?_
 refine AOps.storeC si3 rfl rfl rfl rfl rfl rfl (Nat.le_of_ble_eq_true rfl) rfl (AOps.nil (AWp.sr ?_))
 refine .fa fl88_4 ?_
 refine .ld sh37 ?_
 refine .vl (Y.remN (a := p.num) (b := 4) rfl rfl (by omega)) ?_
 refine .vl (Y.addN (a := 1) (b := (p.num % 4)) rfl rfl) ?_
 refine .fa fl39_4 ?_
 refine AOps.storeC si37 rfl rfl rfl rfl rfl rfl (Nat.le_of_ble_eq_true rfl) rfl (AOps.nil ?_)
 refine AWp.le (st' := ⟨[(2, .fp (Netlist.prow n) 0), (4, .ptr 104 0 0 0), (6, vi (widthN p.width)), (7, .ptr 107 0 0 0), (8, .v (.int .u8 ((p.a : Nat) : Int))), (9, .v (.int .u8 ((p.b : Nat) : Int)))], [(104, .cells [vi 0, vi 0, vi 0, .v (.slice none 0 0), .v (.int .u64 0), vi 0]), (107, .cells [vi (1 + (((p.kind : Nat) : Int) % 10)), vi (4 + (((p.op : Nat) : Int) % 5)), vi (-1), .v (.slice none 0 0), .v (.int .u64 (((1 + (p.num % 4)) % 18446744073709551616 : Nat) : Int)), vi 0])]⟩) (Le.mk (.c (.c (.c (.c (.c (.c (.nil))))))) (.c (.c (.nil)))) ?_
 refine AWp.regionHeld0 rfl (AFirst.loadA 0 rfl (by kernel_rfl) sh27 rfl rfl rfl (Nat.le_of_ble_eq_true rfl) rfl rfl (by decide) (AFirst.blind 1 rfl (by kernel_rfl) (Blind.move rfl rfl) (by decide) ?_))
 refine AFirst.blind 2 rfl (by kernel_rfl) (Blind.move rfl rfl) (by decide) (AFirst.loadA 4 rfl (by kernel_rfl) sh27 rfl rfl rfl (Nat.le_of_ble_eq_true rfl) rfl rfl (by decide) (AFirst.blind 5 rfl (by kernel_rfl) (Blind.move rfl rfl) (by decide) ?_))
 refine AFirst.blind 6 rfl (by kernel_rfl) (Blind.move rfl rfl) (by decide) (AFirst.go0 (AHeld.one 3 rfl (by kernel_rfl) ?_))
 refine AOps.callP ok56 (pick_spec (n := (⟨n.name, n.widths, n.cells, n.ins, n.mems, n.streams, [], [], n.freeze, n.done, []⟩ : Netlist)) (w := (widthN p.width)) (k := p.a) (by show (n.widths).length ≤ 1048576; omega) (by omega)) rfl (.keep rfl rfl (.keep rfl rfl (.keep rfl rfl .nil))) (by decide) rfl ?_
 refine AOps.nil ⟨rfl, ?_⟩
 refine AHeld.one 7 rfl (by kernel_rfl) ?_
 refine AOps.callP ok56 (pick_spec (n := (⟨n.name, n.widths, n.cells, n.ins, n.mems, n.streams, [], [], n.freeze, n.done, []⟩ : Netlist)) (w := (widthN p.width)) (k := p.b) (by show (n.widths).length ≤ 1048576; omega) (by omega)) rfl (.keep rfl rfl (.keep rfl rfl (.keep rfl rfl .nil))) (by decide) rfl ?_
 refine AOps.nil ⟨rfl, ?_⟩
 refine AHeld.one 8 rfl (by kernel_rfl) ?_
 refine AOps.buildSlice (([pickN n.widths (widthN p.width) p.a, pickN n.widths (widthN p.width) p.b] : List Int).map irow) sl22 ze3 rfl rfl rfl rfl rfl (uniform_map (s := 1) (f := irow) (fun _ => rfl)) rfl rfl rfl (by decide) ?_
 refine AOps.nil ⟨rfl, ?_⟩
 refine AHeld.one 9 rfl (by kernel_rfl) ?_
 refine .fa fl39_3 ?_
 refine AOps.nil ⟨rfl, ?_⟩
 refine AHeld.one 10 rfl (by kernel_rfl) ?_
 refine AOps.sh (Sh.adoptE (d := 137) (n := ([pickN n.widths (widthN p.width) p.a, pickN n.widths (widthN p.width) p.b] : List Int).length) 237 (([pickN n.widths (widthN p.width) p.a, pickN n.widths (widthN p.width) p.b] : List Int).map irow) rfl (by first | rfl | exact rep_map rfl) (len_map rfl) (by decide)) ?_
 refine AOps.storeC si22 rfl rfl rfl rfl rfl rfl (Nat.le_of_ble_eq_true rfl) rfl ?_
 refine AOps.nil ⟨rfl, ?_⟩
 refine AHeld.done (by kernel_rfl) ?_
 refine AWp.le (st' := ⟨[(4, .ptr 104 0 0 0), (6, vi (widthN p.width)), (7, .ptr 107 0 0 0)], [(104, .cells [vi 0, vi 0, vi 0, .v (.slice none 0 0), .v (.int .u64 0), vi 0]), (107, .cells [vi (1 + (((p.kind : Nat) : Int) % 10)), vi (4 + (((p.op : Nat) : Int) % 5)), vi (-1), .slc 237 1 0 (([pickN n.widths (widthN p.width) p.a, pickN n.widths (widthN p.width) p.b] : List Int).length), .v (.int .u64 (((1 + (p.num % 4)) % 18446744073709551616 : Nat) : Int)), vi 0]), (237, .rows 1 (([pickN n.widths (widthN p.width) p.a, pickN n.widths (widthN p.width) p.b] : List Int).map irow))]⟩) (Le.mk (.c (.c (.c (.nil)))) (.c (.c (.c (.nil))))) ?_
 refine AWp.sr (.vl (Y.loadA sh39 rfl rfl (Nat.le_of_ble_eq_true rfl) rfl rfl) ?_)
 refine .mv ?_
 refine AOps.storeC si39 rfl rfl rfl rfl rfl rfl (Nat.le_of_ble_eq_true rfl) rfl ?_
 refine .an ?_
 refine AOps.nil (AWp.ret ?_)
 exact ⟨_, rfl, _, _, _, Sh.ownT (d := 0) 3 237 rfl rfl rfl rfl (by first | rfl | exact len_map rfl | exact len_map (by omega)) rfl (by decide), rfl, rfl, (⟨1 + (((p.kind : Nat) : Int) % 10), 4 + (((p.op : Nat) : Int) % 5), -1, ([pickN n.widths (widthN p.width) p.a, pickN n.widths (widthN p.width) p.b] : List Int), (1 + (p.num % 4)) % 18446744073709551616, 0⟩ : Cell), _, pt_unit hg (by omega) (by omega) (by omega), rfl, rfl⟩
 refine AWp.seq (AWp.sr (.vl (Y.eql rfl rfl) ?_))
 refine .an ?_
 refine AOps.nil ?_
 refine AWp.condKD rfl (fun c139 => ?_) (fun c139 => ?_)
 refine AWp.skip (AWp.condT rfl (AWp.seq ?_))
 refine AWp.sr ?_
 refine .fa fl27_4 ?_
 refine .ld sh24 ?_
 refine .vl (Y.len (n := n.mems.length) sl24 rfl (congrArg some (List.length_map ..))) (.vl (Y.eql rfl rfl) (AOps.nil ?_))
 refine AWp.condD rfl (fun c145 => ?_) (fun c145 => ?_)
 refine AWp.sr (.vl (Y.build pl39 ze39 rfl rfl rfl) (AOps.storeC si39 rfl rfl rfl rfl rfl rfl (Nat.le_of_ble_eq_true rfl) rfl ?_))
 refine .an ?_
 refine AOps.nil (AWp.sh (Sh.nilCell 104 399 1 3 rfl rfl rfl rfl (by decide)) (AWp.ret ?_))
 exact ⟨_, rfl, _, _, _, Sh.ownT (d := 0) 3 399 rfl rfl rfl rfl (by first | rfl | exact len_map rfl | exact len_map (by omega)) rfl (by decide), rfl, rfl, (⟨0, 0, 0, ([] : List Int), 0, 0⟩ : Cell), _, pt_none hg, rfl, rfl⟩
 refine AWp.skip (AWp.sr ?_)
 refine .fa fl88_1 ?_
 refine .ld sh5 ?_
 refine .vl (Y.convK ii5 ii3 rfl (by first | rfl | exact IntWalk.i64_in _ (by omega))) ?_
 refine .fa fl27_4 ?_
 refine .ld sh24 ?_
 refine .vl (Y.len (n := n.mems.length) sl24 rfl (congrArg some (List.length_map ..))) ?_
 refine .vl (Y.remI rfl rfl (by first | omega | simp [-List.getD_eq_getElem?_getD] <;> omega)) ?_
 refine .fa fl39_5 ?_
 refine AOps.storeC si3 rfl rfl rfl rfl rfl rfl (Nat.le_of_ble_eq_true rfl) rfl (AOps.nil (AWp.seq ?_))
 have hmm : p.op % n.mems.length < n.mems.length := Nat.mod_lt _ (by omega)
 refine AWp.region ?_
 refine .fa fl27_4 ?_
 refine .ld sh24 ?_
 refine .fa fl39_5 ?_
 refine .ld sh3 ?_
 refine .vl (Y.indexF (m := p.op % n.mems.length) sl24 rfl rfl (by first | rfl | omega) (row_getD (d := default) (by omega))) ?_
 refine .fa fl48_1 ?_
 refine .ld sh3 ?_
 refine .an ?_
 refine AOps.nil ?_
 refine AWp.le (st' := ⟨[(2, .fp (Netlist.prow n) 0), (4, .ptr 104 0 0 0), (6, vi ((n.mems.getD (p.op % n.mems.length) default).width)), (7, .ptr 107 0 0 0), (8, .v (.int .u8 ((p.a : Nat) : Int))), (9, .v (.int .u8 ((p.b : Nat) : Int))), (10, .v (.int .u8 ((p.d : Nat) : Int)))], [(104, .cells [vi 0, vi 0, vi 0, .v (.slice none 0 0), .v (.int .u64 0), vi 0]), (107, .cells [vi (1 + (((p.kind : Nat) : Int) % 10)), vi 0, vi (-1), .v (.slice none 0 0), .v (.int .u64 0), vi (((p.op : Nat) : Int) % ((n.mems.length : Nat) : Int))])]⟩) (Le.mk (.c (.c (.c (.c (.c (.c (.c (.nil)))))))) (.c (.c (.nil)))) ?_
 refine AWp.seq (AWp.regionHeld0 rfl (AFirst.loadA 0 rfl (by kernel_rfl) sh27 rfl rfl rfl (Nat.le_of_ble_eq_true rfl) rfl rfl (by decide) ?_))
 refine AFirst.blind 1 rfl (by kernel_rfl) (Blind.move rfl rfl) (by decide) (AFirst.blind 3 rfl (by kernel_rfl) (Blind.move rfl rfl) (by decide) ?_)
 refine AFirst.blind 4 rfl (by kernel_rfl) (Blind.convK ii5 ii3 rfl (by first | rfl | exact IntWalk.i64_in _ (by omega))) (by decide) ?_
 refine AFirst.blind 5 rfl (by kernel_rfl) (Blind.fieldAddr fl27_1 rfl rfl) (by decide) (AFirst.load 6 rfl (by kernel_rfl) sh22 rfl rfl rfl rfl rfl (by decide) (AFirst.blind 7 rfl (by kernel_rfl) (Blind.len (n := n.widths.length) sl22 rfl (congrArg some (List.length_map ..))) (by decide) ?_))
 refine AFirst.blind 8 rfl (by kernel_rfl) (Blind.remI rfl rfl (by omega)) (by decide) ?_
 refine AFirst.go0 (AHeld.one 2 rfl (by kernel_rfl) (AOps.callP ok56 (pick_spec (n := (⟨n.name, n.widths, n.cells, n.ins, n.mems, n.streams, [], [], n.freeze, n.done, []⟩ : Netlist)) (w := 1) (k := p.a) (by show (n.widths).length ≤ 1048576; omega) (by omega)) rfl (.keep rfl rfl (.keep rfl rfl (.keep rfl rfl .nil))) (by decide) rfl ?_))
 refine AOps.nil ⟨rfl, ?_⟩
 refine AHeld.one 9 rfl (by kernel_rfl) ?_
 refine AOps.buildSlice (([pickN n.widths 1 p.a, ((p.b : Nat) : Int) % ((n.widths.length : Nat) : Int)] : List Int).map irow) sl22 ze3 rfl rfl rfl rfl rfl (uniform_map (s := 1) (f := irow) (fun _ => rfl)) rfl rfl rfl (by decide) ?_
 refine AOps.nil ⟨rfl, ?_⟩
 refine AHeld.one 10 rfl (by kernel_rfl) ?_
 refine .fa fl39_3 ?_
 refine AOps.nil ⟨rfl, ?_⟩
 refine AHeld.one 11 rfl (by kernel_rfl) ?_
 refine AOps.sh (Sh.adoptE (d := 171) (n := ([pickN n.widths 1 p.a, ((p.b : Nat) : Int) % ((n.widths.length : Nat) : Int)] : List Int).length) 271 (([pickN n.widths 1 p.a, ((p.b : Nat) : Int) % ((n.widths.length : Nat) : Int)] : List Int).map irow) rfl (by first | rfl | exact rep_map rfl) (len_map rfl) (by decide)) ?_
 refine AOps.storeC si22 rfl rfl rfl rfl rfl rfl (Nat.le_of_ble_eq_true rfl) rfl ?_
 refine AOps.nil ⟨rfl, ?_⟩
 refine AHeld.done (by kernel_rfl) ?_
 refine AWp.le (st' := ⟨[(2, .fp (Netlist.prow n) 0), (4, .ptr 104 0 0 0), (6, vi ((n.mems.getD (p.op % n.mems.length) default).width)), (7, .ptr 107 0 0 0), (10, .v (.int .u8 ((p.d : Nat) : Int)))], [(104, .cells [vi 0, vi 0, vi 0, .v (.slice none 0 0), .v (.int .u64 0), vi 0]), (107, .cells [vi (1 + (((p.kind : Nat) : Int) % 10)), vi 0, vi (-1), .slc 271 1 0 (([pickN n.widths 1 p.a, ((p.b : Nat) : Int) % ((n.widths.length : Nat) : Int)] : List Int).length), .v (.int .u64 0), vi (((p.op : Nat) : Int) % ((n.mems.length : Nat) : Int))]), (271, .rows 1 (([pickN n.widths 1 p.a, ((p.b : Nat) : Int) % ((n.widths.length : Nat) : Int)] : List Int).map irow))]⟩) (Le.mk (.c (.c (.c (.c (.c (.nil)))))) (.c (.c (.c (.nil))))) ?_
 refine AWp.sr ?_
 refine .fa fl39_0 ?_
 refine .ld sh3 ?_
 refine .vl (Y.eql rfl rfl) (AOps.nil ?_)
 refine AWp.condD rfl (fun c175 => ?_) (fun c175 => ?_)
 refine AWp.regionHeldJ0 (⟨[(4, .ptr 104 0 0 0), (6, .v (.int .i64 ((n.mems.getD (p.op % n.mems.length) default).width))), (7, .ptr 107 0 0 0)], [(104, .cells [.v (.int .i64 0), .v (.int .i64 0), .v (.int .i64 0), .v (.slice none 0 0), .v (.int .u64 0), .v (.int .i64 0)]), (107, .cells [.v (.int .i64 (1 + (((p.kind : Nat) : Int) % 10))), .v (.int .i64 0), .v (.int .i64 (-1)), .slc 271 1 0 ((([pickN n.widths 1 p.a, ((p.b : Nat) : Int) % ((n.widths.length : Nat) : Int)] : List Int) ++ ([pickN n.widths ((n.mems.getD (p.op % n.mems.length) default).width) p.d] : List Int)).length), .v (.int .u64 0), .v (.int .i64 (((p.op : Nat) : Int) % ((n.mems.length : Nat) : Int)))]), (271, .rows 1 ((([pickN n.widths 1 p.a, ((p.b : Nat) : Int) % ((n.widths.length : Nat) : Int)] : List Int) ++ ([pickN n.widths ((n.mems.getD (p.op % n.mems.length) default).width) p.d] : List Int)).map irow))]⟩) rfl ?_ ?_
 refine AFirst.blind 0 rfl (by kernel_rfl) (Blind.fieldAddr fl39_3 rfl rfl) (by decide) (AFirst.loadA 2 rfl (by kernel_rfl) sh27 rfl rfl rfl (Nat.le_of_ble_eq_true rfl) rfl rfl (by decide) (AFirst.blind 3 rfl (by kernel_rfl) (Blind.move rfl rfl) (by decide) ?_))
 refine AFirst.blind 4 rfl (by kernel_rfl) (Blind.move rfl rfl) (by decide) (AFirst.go0 ?_)
 refine AHeld.two 1 5 rfl rfl (by kernel_rfl) ?_ ?_
 refine .ld sh22 ?_
 refine AOps.nil ⟨rfl, ?_⟩
 refine AHeld.one 5 rfl (by kernel_rfl) ?_
 refine AOps.callP ok56 (pick_spec (n := (⟨n.name, n.widths, n.cells, n.ins, n.mems, n.streams, [], [], n.freeze, n.done, []⟩ : Netlist)) (w := ((n.mems.getD (p.op % n.mems.length) default).width)) (k := p.d) (by show (n.widths).length ≤ 1048576; omega) (by omega)) rfl (.keep rfl rfl (.keep rfl rfl (.keep rfl rfl .nil))) (by decide) rfl ?_
 refine AOps.nil ⟨rfl, ?_⟩
 refine AHeld.one 6 rfl (by kernel_rfl) ?_
 refine AOps.buildSlice (([pickN n.widths ((n.mems.getD (p.op % n.mems.length) default).width) p.d] : List Int).map irow) sl22 ze3 rfl rfl rfl rfl rfl (uniform_map (s := 1) (f := irow) (fun _ => rfl)) rfl rfl rfl (by decide) ?_
 refine AOps.nil ⟨rfl, ?_⟩
 refine AHeld.one 7 rfl (by kernel_rfl) ?_
 refine AOps.appendE ((([pickN n.widths 1 p.a, ((p.b : Nat) : Int) % ((n.widths.length : Nat) : Int)] : List Int) ++ ([pickN n.widths ((n.mems.getD (p.op % n.mems.length) default).width) p.d] : List Int)).map irow) (([pickN n.widths 1 p.a, ((p.b : Nat) : Int) % ((n.widths.length : Nat) : Int)] : List Int) ++ ([pickN n.widths ((n.mems.getD (p.op % n.mems.length) default).width) p.d] : List Int)).length sl22 ze3 rfl rfl rfl rfl (app_le (by first | omega | simp [-List.getD_eq_getElem?_getD] <;> omega)) (app_map (by first | omega | simp [-List.getD_eq_getElem?_getD] <;> omega)) (app_n (by first | omega | simp [-List.getD_eq_getElem?_getD] <;> omega)) (by first | omega | simp [-List.getD_eq_getElem?_getD] <;> omega) (by first | omega | simp [-List.getD_eq_getElem?_getD] <;> omega) (by decide) (by decide) ?_
 refine AOps.nil ⟨rfl, ?_⟩
 refine AHeld.one 8 rfl (by kernel_rfl) ?_
 refine .fa fl39_3 ?_
 refine AOps.nil ⟨rfl, ?_⟩
 refine AHeld.one 9 rfl (by kernel_rfl) (AOps.storeC si22 rfl rfl rfl rfl rfl rfl (Nat.le_of_ble_eq_true rfl) rfl ?_)
 refine AOps.nil ⟨rfl, ?_⟩
 refine AHeld.done (by kernel_rfl) ?_
 exact Le.mk (.c (.c (.c (.nil)))) (.c (.c (.c (.nil))))
 refine AOps.callP ok56 (pick_spec (n := (⟨n.name, n.widths, n.cells, n.ins, n.mems, n.streams, [], [], n.freeze, n.done, []⟩ : Netlist)) (w := ((n.mems.getD (p.op % n.mems.length) default).width)) (k := p.d) (by show (n.widths).length ≤ 1048576; omega) (by omega)) rfl (.keep rfl rfl (.keep rfl rfl (.keep rfl rfl .nil))) (by decide) rfl ?_
 refine AOps.nil ⟨rfl, ?_⟩
 refine AHeld.two 1 6 rfl rfl (by kernel_rfl) ?_ ?_
 refine .ld sh22 ?_
 refine AOps.nil ⟨rfl, ?_⟩
 refine AHeld.one 6 rfl (by kernel_rfl) ?_
 refine AOps.buildSlice (([pickN n.widths ((n.mems.getD (p.op % n.mems.length) default).width) p.d] : List Int).map irow) sl22 ze3 rfl rfl rfl rfl rfl (uniform_map (s := 1) (f := irow) (fun _ => rfl)) rfl rfl rfl (by decide) ?_
 refine AOps.nil ⟨rfl, ?_⟩
 refine AHeld.one 7 rfl (by kernel_rfl) ?_
 refine AOps.appendE ((([pickN n.widths 1 p.a, ((p.b : Nat) : Int) % ((n.widths.length : Nat) : Int)] : List Int) ++ ([pickN n.widths ((n.mems.getD (p.op % n.mems.length) default).width) p.d] : List Int)).map irow) (([pickN n.widths 1 p.a, ((p.b : Nat) : Int) % ((n.widths.length : Nat) : Int)] : List Int) ++ ([pickN n.widths ((n.mems.getD (p.op % n.mems.length) default).width) p.d] : List Int)).length sl22 ze3 rfl rfl rfl rfl (app_le (by first | omega | simp [-List.getD_eq_getElem?_getD] <;> omega)) (app_map (by first | omega | simp [-List.getD_eq_getElem?_getD] <;> omega)) (app_n (by first | omega | simp [-List.getD_eq_getElem?_getD] <;> omega)) (by first | omega | simp [-List.getD_eq_getElem?_getD] <;> omega) (by first | omega | simp [-List.getD_eq_getElem?_getD] <;> omega) (by decide) (by decide) ?_
 refine AOps.nil ⟨rfl, ?_⟩
 refine AHeld.one 8 rfl (by kernel_rfl) ?_
 refine .fa fl39_3 ?_
 refine AOps.nil ⟨rfl, ?_⟩
 refine AHeld.one 9 rfl (by kernel_rfl) (AOps.storeC si22 rfl rfl rfl rfl rfl rfl (Nat.le_of_ble_eq_true rfl) rfl ?_)
 refine AOps.nil ⟨rfl, ?_⟩
 refine AHeld.done (by kernel_rfl) ?_
 exact Le.mk (.c (.c (.c (.nil)))) (.c (.c (.c (.nil))))
 refine AOps.buildSlice (([pickN n.widths ((n.mems.getD (p.op % n.mems.length) default).width) p.d] : List Int).map irow) sl22 ze3 rfl rfl rfl rfl rfl (uniform_map (s := 1) (f := irow) (fun _ => rfl)) rfl rfl rfl (by decide) ?_
 refine AOps.nil ⟨rfl, ?_⟩
 refine AHeld.one 1 rfl (by kernel_rfl) ?_
 refine .ld sh22 ?_
 refine AOps.nil ⟨rfl, ?_⟩
 refine AHeld.one 7 rfl (by kernel_rfl) ?_
 refine AOps.appendE ((([pickN n.widths 1 p.a, ((p.b : Nat) : Int) % ((n.widths.length : Nat) : Int)] : List Int) ++ ([pickN n.widths ((n.mems.getD (p.op % n.mems.length) default).width) p.d] : List Int)).map irow) (([pickN n.widths 1 p.a, ((p.b : Nat) : Int) % ((n.widths.length : Nat) : Int)] : List Int) ++ ([pickN n.widths ((n.mems.getD (p.op % n.mems.length) default).width) p.d] : List Int)).length sl22 ze3 rfl rfl rfl rfl (app_le (by first | omega | simp [-List.getD_eq_getElem?_getD] <;> omega)) (app_map (by first | omega | simp [-List.getD_eq_getElem?_getD] <;> omega)) (app_n (by first | omega | simp [-List.getD_eq_getElem?_getD] <;> omega)) (by first | omega | simp [-List.getD_eq_getElem?_getD] <;> omega) (by first | omega | simp [-List.getD_eq_getElem?_getD] <;> omega) (by decide) (by decide) ?_
 refine AOps.nil ⟨rfl, ?_⟩
 refine AHeld.one 8 rfl (by kernel_rfl) ?_
 refine .fa fl39_3 ?_
 refine AOps.nil ⟨rfl, ?_⟩
 refine AHeld.one 9 rfl (by kernel_rfl) (AOps.storeC si22 rfl rfl rfl rfl rfl rfl (Nat.le_of_ble_eq_true rfl) rfl ?_)
 refine AOps.nil ⟨rfl, ?_⟩
 refine AHeld.done (by kernel_rfl) ?_
 exact Le.mk (.c (.c (.c (.nil)))) (.c (.c (.c (.nil))))
 refine AWp.le (st' := ⟨[(4, .ptr 104 0 0 0), (6, vi ((n.mems.getD (p.op % n.mems.length) default).width)), (7, .ptr 107 0 0 0)], [(104, .cells [vi 0, vi 0, vi 0, .v (.slice none 0 0), .v (.int .u64 0), vi 0]), (107, .cells [vi (1 + (((p.kind : Nat) : Int) % 10)), vi 0, vi (-1), .slc 271 1 0 ((([pickN n.widths 1 p.a, ((p.b : Nat) : Int) % ((n.widths.length : Nat) : Int)] : List Int) ++ ([pickN n.widths ((n.mems.getD (p.op % n.mems.length) default).width) p.d] : List Int)).length), .v (.int .u64 0), vi (((p.op : Nat) : Int) % ((n.mems.length : Nat) : Int))]), (271, .rows 1 ((([pickN n.widths 1 p.a, ((p.b : Nat) : Int) % ((n.widths.length : Nat) : Int)] : List Int) ++ ([pickN n.widths ((n.mems.getD (p.op % n.mems.length) default).width) p.d] : List Int)).map irow))]⟩) (Le.mk (.c (.c (.c (.nil)))) (.c (.c (.c (.nil))))) ?_
 refine AWp.sr (.vl (Y.loadA sh39 rfl rfl (Nat.le_of_ble_eq_true rfl) rfl rfl) ?_)
 refine .mv ?_
 refine AOps.storeC si39 rfl rfl rfl rfl rfl rfl (Nat.le_of_ble_eq_true rfl) rfl ?_
 refine .an ?_
 refine AOps.nil (AWp.ret ?_)
 exact ⟨_, rfl, _, _, _, Sh.ownT (d := 0) 3 271 rfl rfl rfl rfl (by first | rfl | exact len_map rfl | exact len_map (by omega)) rfl (by decide), rfl, rfl, (⟨1 + (((p.kind : Nat) : Int) % 10), 0, -1, ([pickN n.widths 1 p.a, ((p.b : Nat) : Int) % ((n.widths.length : Nat) : Int)] : List Int) ++ ([pickN n.widths ((n.mems.getD (p.op % n.mems.length) default).width) p.d] : List Int), 0, ((p.op : Nat) : Int) % ((n.mems.length : Nat) : Int)⟩ : Cell), _, pt_write hg h0 (by omega) (by omega), rfl, rfl⟩
 refine AWp.skip ?_
 refine AWp.le (st' := ⟨[(4, .ptr 104 0 0 0), (6, vi ((n.mems.getD (p.op % n.mems.length) default).width)), (7, .ptr 107 0 0 0)], [(104, .cells [vi 0, vi 0, vi 0, .v (.slice none 0 0), .v (.int .u64 0), vi 0]), (107, .cells [vi (1 + (((p.kind : Nat) : Int) % 10)), vi 0, vi (-1), .slc 271 1 0 (([pickN n.widths 1 p.a, ((p.b : Nat) : Int) % ((n.widths.length : Nat) : Int)] : List Int).length), .v (.int .u64 0), vi (((p.op : Nat) : Int) % ((n.mems.length : Nat) : Int))]), (271, .rows 1 (([pickN n.widths 1 p.a, ((p.b : Nat) : Int) % ((n.widths.length : Nat) : Int)] : List Int).map irow))]⟩) (Le.mk (.c (.c (.c (.nil)))) (.c (.c (.c (.nil))))) ?_
 refine AWp.sr (.vl (Y.loadA sh39 rfl rfl (Nat.le_of_ble_eq_true rfl) rfl rfl) ?_)
 refine .mv ?_
 refine AOps.storeC si39 rfl rfl rfl rfl rfl rfl (Nat.le_of_ble_eq_true rfl) rfl ?_
 refine .an ?_
 refine AOps.nil (AWp.ret ?_)
 exact ⟨_, rfl, _, _, _, Sh.ownT (d := 0) 3 271 rfl rfl rfl rfl (by first | rfl | exact len_map rfl | exact len_map (by omega)) rfl (by decide), rfl, rfl, (⟨1 + (((p.kind : Nat) : Int) % 10), 0, -1, ([pickN n.widths 1 p.a, ((p.b : Nat) : Int) % ((n.widths.length : Nat) : Int)] : List Int), 0, ((p.op : Nat) : Int) % ((n.mems.length : Nat) : Int)⟩ : Cell), _, pt_read hg h0 (by omega) (by omega), rfl, rfl⟩
 refine AWp.region (.vl (Y.eql rfl rfl) ?_)
 refine .an ?_
 refine AOps.nil ?_
 refine AWp.condKD rfl (fun c139 => ?_) (fun c139 => ?_)
 refine AWp.seq (AWp.sr ?_)
 refine .fa fl27_4 ?_
 refine .ld sh24 ?_
 refine .vl (Y.len (n := n.mems.length) sl24 rfl (congrArg some (List.length_map ..))) (.vl (Y.eql rfl rfl) (AOps.nil ?_))
 refine AWp.condD rfl (fun c145 => ?_) (fun c145 => ?_)
 refine AWp.sr (.vl (Y.build pl39 ze39 rfl rfl rfl) (AOps.storeC si39 rfl rfl rfl rfl rfl rfl (Nat.le_of_ble_eq_true rfl) rfl ?_))
 refine .an ?_
 refine AOps.nil (AWp.sh (Sh.nilCell 104 399 1 3 rfl rfl rfl rfl (by decide)) (AWp.ret ?_))
 exact ⟨_, rfl, _, _, _, Sh.ownT (d := 0) 3 399 rfl rfl rfl rfl (by first | rfl | exact len_map rfl | exact len_map (by omega)) rfl (by decide), rfl, rfl, (⟨0, 0, 0, ([] : List Int), 0, 0⟩ : Cell), _, pt_none hg, rfl, rfl⟩
 refine AWp.skip (AWp.sr ?_)
 refine .fa fl88_1 ?_
 refine .ld sh5 ?_
 refine .vl (Y.convK ii5 ii3 rfl (by first | rfl | exact IntWalk.i64_in _ (by omega))) ?_
 refine .fa fl27_4 ?_
 refine .ld sh24 ?_
 refine .vl (Y.len (n := n.mems.length) sl24 rfl (congrArg some (List.length_map ..))) ?_
 refine .vl (Y.remI rfl rfl (by first | omega | simp [-List.getD_eq_getElem?_getD] <;> omega)) ?_
 refine .fa fl39_5 ?_
 refine AOps.storeC si3 rfl rfl rfl rfl rfl rfl (Nat.le_of_ble_eq_true rfl) rfl (AOps.nil (AWp.seq ?_))
 have hmm : p.op % n.mems.length < n.mems.length := Nat.mod_lt _ (by omega)
 refine AWp.region ?_
 refine .fa fl27_4 ?_
 refine .ld sh24 ?_
 refine .fa fl39_5 ?_
 refine .ld sh3 ?_
 refine .vl (Y.indexF (m := p.op % n.mems.length) sl24 rfl rfl (by first | rfl | omega) (row_getD (d := default) (by omega))) ?_
 refine .fa fl48_1 ?_
 refine .ld sh3 ?_
 refine .an ?_
 refine AOps.nil ?_
 refine AWp.le (st' := ⟨[(2, .fp (Netlist.prow n) 0), (4, .ptr 104 0 0 0), (6, vi ((n.mems.getD (p.op % n.mems.length) default).width)), (7, .ptr 107 0 0 0), (8, .v (.int .u8 ((p.a : Nat) : Int))), (9, .v (.int .u8 ((p.b : Nat) : Int))), (10, .v (.int .u8 ((p.d : Nat) : Int)))], [(104, .cells [vi 0, vi 0, vi 0, .v (.slice none 0 0), .v (.int .u64 0), vi 0]), (107, .cells [vi (1 + (((p.kind : Nat) : Int) % 10)), vi 0, vi (-1), .v (.slice none 0 0), .v (.int .u64 0), vi (((p.op : Nat) : Int) % ((n.mems.length : Nat) : Int))])]⟩) (Le.mk (.c (.c (.c (.c (.c (.c (.c (.nil)))))))) (.c (.c (.nil)))) ?_
 refine AWp.seq (AWp.regionHeld0 rfl (AFirst.loadA 0 rfl (by kernel_rfl) sh27 rfl rfl rfl (Nat.le_of_ble_eq_true rfl) rfl rfl (by decide) ?_))
 refine AFirst.blind 1 rfl (by kernel_rfl) (Blind.move rfl rfl) (by decide) (AFirst.blind 3 rfl (by kernel_rfl) (Blind.move rfl rfl) (by decide) ?_)
 refine AFirst.blind 4 rfl (by kernel_rfl) (Blind.convK ii5 ii3 rfl (by first | rfl | exact IntWalk.i64_in _ (by omega))) (by decide) ?_
 refine AFirst.blind 5 rfl (by kernel_rfl) (Blind.fieldAddr fl27_1 rfl rfl) (by decide) (AFirst.load 6 rfl (by kernel_rfl) sh22 rfl rfl rfl rfl rfl (by decide) (AFirst.blind 7 rfl (by kernel_rfl) (Blind.len (n := n.widths.length) sl22 rfl (congrArg some (List.length_map ..))) (by decide) ?_))
 refine AFirst.blind 8 rfl (by kernel_rfl) (Blind.remI rfl rfl (by omega)) (by decide) ?_
 refine AFirst.go0 (AHeld.one 2 rfl (by kernel_rfl) (AOps.callP ok56 (pick_spec (n := (⟨n.name, n.widths, n.cells, n.ins, n.mems, n.streams, [], [], n.freeze, n.done, []⟩ : Netlist)) (w := 1) (k := p.a) (by show (n.widths).length ≤ 1048576; omega) (by omega)) rfl (.keep rfl rfl (.keep rfl rfl (.keep rfl rfl .nil))) (by decide) rfl ?_))
 refine AOps.nil ⟨rfl, ?_⟩
 refine AHeld.one 9 rfl (by kernel_rfl) ?_
 refine AOps.buildSlice (([pickN n.widths 1 p.a, ((p.b : Nat) : Int) % ((n.widths.length : Nat) : Int)] : List Int).map irow) sl22 ze3 rfl rfl rfl rfl rfl (uniform_map (s := 1) (f := irow) (fun _ => rfl)) rfl rfl rfl (by decide) ?_
 refine AOps.nil ⟨rfl, ?_⟩
 refine AHeld.one 10 rfl (by kernel_rfl) ?_
 refine .fa fl39_3 ?_
 refine AOps.nil ⟨rfl, ?_⟩
 refine AHeld.one 11 rfl (by kernel_rfl) ?_
 refine AOps.sh (Sh.adoptE (d := 171) (n := ([pickN n.widths 1 p.a, ((p.b : Nat) : Int) % ((n.widths.length : Nat) : Int)] : List Int).length) 271 (([pickN n.widths 1 p.a, ((p.b : Nat) : Int) % ((n.widths.length : Nat) : Int)] : List Int).map irow) rfl (by first | rfl | exact rep_map rfl) (len_map rfl) (by decide)) ?_
 refine AOps.storeC si22 rfl rfl rfl rfl rfl rfl (Nat.le_of_ble_eq_true rfl) rfl ?_
 refine AOps.nil ⟨rfl, ?_⟩
 refine AHeld.done (by kernel_rfl) ?_
 refine AWp.le (st' := ⟨[(2, .fp (Netlist.prow n) 0), (4, .ptr 104 0 0 0), (6, vi ((n.mems.getD (p.op % n.mems.length) default).width)), (7, .ptr 107 0 0 0), (10, .v (.int .u8 ((p.d : Nat) : Int)))], [(104, .cells [vi 0, vi 0, vi 0, .v (.slice none 0 0), .v (.int .u64 0), vi 0]), (107, .cells [vi (1 + (((p.kind : Nat) : Int) % 10)), vi 0, vi (-1), .slc 271 1 0 (([pickN n.widths 1 p.a, ((p.b : Nat) : Int) % ((n.widths.length : Nat) : Int)] : List Int).length), .v (.int .u64 0), vi (((p.op : Nat) : Int) % ((n.mems.length : Nat) : Int))]), (271, .rows 1 (([pickN n.widths 1 p.a, ((p.b : Nat) : Int) % ((n.widths.length : Nat) : Int)] : List Int).map irow))]⟩) (Le.mk (.c (.c (.c (.c (.c (.nil)))))) (.c (.c (.c (.nil))))) ?_
 refine AWp.sr ?_
 refine .fa fl39_0 ?_
 refine .ld sh3 ?_
 refine .vl (Y.eql rfl rfl) (AOps.nil ?_)
 refine AWp.condD rfl (fun c175 => ?_) (fun c175 => ?_)
 refine AWp.regionHeldJ0 (⟨[(4, .ptr 104 0 0 0), (6, .v (.int .i64 ((n.mems.getD (p.op % n.mems.length) default).width))), (7, .ptr 107 0 0 0)], [(104, .cells [.v (.int .i64 0), .v (.int .i64 0), .v (.int .i64 0), .v (.slice none 0 0), .v (.int .u64 0), .v (.int .i64 0)]), (107, .cells [.v (.int .i64 (1 + (((p.kind : Nat) : Int) % 10))), .v (.int .i64 0), .v (.int .i64 (-1)), .slc 271 1 0 ((([pickN n.widths 1 p.a, ((p.b : Nat) : Int) % ((n.widths.length : Nat) : Int)] : List Int) ++ ([pickN n.widths ((n.mems.getD (p.op % n.mems.length) default).width) p.d] : List Int)).length), .v (.int .u64 0), .v (.int .i64 (((p.op : Nat) : Int) % ((n.mems.length : Nat) : Int)))]), (271, .rows 1 ((([pickN n.widths 1 p.a, ((p.b : Nat) : Int) % ((n.widths.length : Nat) : Int)] : List Int) ++ ([pickN n.widths ((n.mems.getD (p.op % n.mems.length) default).width) p.d] : List Int)).map irow))]⟩) rfl ?_ ?_
 refine AFirst.blind 0 rfl (by kernel_rfl) (Blind.fieldAddr fl39_3 rfl rfl) (by decide) (AFirst.loadA 2 rfl (by kernel_rfl) sh27 rfl rfl rfl (Nat.le_of_ble_eq_true rfl) rfl rfl (by decide) (AFirst.blind 3 rfl (by kernel_rfl) (Blind.move rfl rfl) (by decide) ?_))
 refine AFirst.blind 4 rfl (by kernel_rfl) (Blind.move rfl rfl) (by decide) (AFirst.go0 ?_)
 refine AHeld.two 1 5 rfl rfl (by kernel_rfl) ?_ ?_
 refine .ld sh22 ?_
 refine AOps.nil ⟨rfl, ?_⟩
 refine AHeld.one 5 rfl (by kernel_rfl) ?_
 refine AOps.callP ok56 (pick_spec (n := (⟨n.name, n.widths, n.cells, n.ins, n.mems, n.streams, [], [], n.freeze, n.done, []⟩ : Netlist)) (w := ((n.mems.getD (p.op % n.mems.length) default).width)) (k := p.d) (by show (n.widths).length ≤ 1048576; omega) (by omega)) rfl (.keep rfl rfl (.keep rfl rfl (.keep rfl rfl .nil))) (by decide) rfl ?_
 refine AOps.nil ⟨rfl, ?_⟩
 refine AHeld.one 6 rfl (by kernel_rfl) ?_
 refine AOps.buildSlice (([pickN n.widths ((n.mems.getD (p.op % n.mems.length) default).width) p.d] : List Int).map irow) sl22 ze3 rfl rfl rfl rfl rfl (uniform_map (s := 1) (f := irow) (fun _ => rfl)) rfl rfl rfl (by decide) ?_
 refine AOps.nil ⟨rfl, ?_⟩
 refine AHeld.one 7 rfl (by kernel_rfl) ?_
 refine AOps.appendE ((([pickN n.widths 1 p.a, ((p.b : Nat) : Int) % ((n.widths.length : Nat) : Int)] : List Int) ++ ([pickN n.widths ((n.mems.getD (p.op % n.mems.length) default).width) p.d] : List Int)).map irow) (([pickN n.widths 1 p.a, ((p.b : Nat) : Int) % ((n.widths.length : Nat) : Int)] : List Int) ++ ([pickN n.widths ((n.mems.getD (p.op % n.mems.length) default).width) p.d] : List Int)).length sl22 ze3 rfl rfl rfl rfl (app_le (by first | omega | simp [-List.getD_eq_getElem?_getD] <;> omega)) (app_map (by first | omega | simp [-List.getD_eq_getElem?_getD] <;> omega)) (app_n (by first | omega | simp [-List.getD_eq_getElem?_getD] <;> omega)) (by first | omega | simp [-List.getD_eq_getElem?_getD] <;> omega) (by first | omega | simp [-List.getD_eq_getElem?_getD] <;> omega) (by decide) (by decide) ?_
 refine AOps.nil ⟨rfl, ?_⟩
 refine AHeld.one 8 rfl (by kernel_rfl) ?_
 refine .fa fl39_3 ?_
 refine AOps.nil ⟨rfl, ?_⟩
 refine AHeld.one 9 rfl (by kernel_rfl) (AOps.storeC si22 rfl rfl rfl rfl rfl rfl (Nat.le_of_ble_eq_true rfl) rfl ?_)
 refine AOps.nil ⟨rfl, ?_⟩
 refine AHeld.done (by kernel_rfl) ?_
 exact Le.mk (.c (.c (.c (.nil)))) (.c (.c (.c (.nil))))
 refine AOps.callP ok56 (pick_spec (n := (⟨n.name, n.widths, n.cells, n.ins, n.mems, n.streams, [], [], n.freeze, n.done, []⟩ : Netlist)) (w := ((n.mems.getD (p.op % n.mems.length) default).width)) (k := p.d) (by show (n.widths).length ≤ 1048576; omega) (by omega)) rfl (.keep rfl rfl (.keep rfl rfl (.keep rfl rfl .nil))) (by decide) rfl ?_
 refine AOps.nil ⟨rfl, ?_⟩
 refine AHeld.two 1 6 rfl rfl (by kernel_rfl) ?_ ?_
 refine .ld sh22 ?_
 refine AOps.nil ⟨rfl, ?_⟩
 refine AHeld.one 6 rfl (by kernel_rfl) ?_
 refine AOps.buildSlice (([pickN n.widths ((n.mems.getD (p.op % n.mems.length) default).width) p.d] : List Int).map irow) sl22 ze3 rfl rfl rfl rfl rfl (uniform_map (s := 1) (f := irow) (fun _ => rfl)) rfl rfl rfl (by decide) ?_
 refine AOps.nil ⟨rfl, ?_⟩
 refine AHeld.one 7 rfl (by kernel_rfl) ?_
 refine AOps.appendE ((([pickN n.widths 1 p.a, ((p.b : Nat) : Int) % ((n.widths.length : Nat) : Int)] : List Int) ++ ([pickN n.widths ((n.mems.getD (p.op % n.mems.length) default).width) p.d] : List Int)).map irow) (([pickN n.widths 1 p.a, ((p.b : Nat) : Int) % ((n.widths.length : Nat) : Int)] : List Int) ++ ([pickN n.widths ((n.mems.getD (p.op % n.mems.length) default).width) p.d] : List Int)).length sl22 ze3 rfl rfl rfl rfl (app_le (by first | omega | simp [-List.getD_eq_getElem?_getD] <;> omega)) (app_map (by first | omega | simp [-List.getD_eq_getElem?_getD] <;> omega)) (app_n (by first | omega | simp [-List.getD_eq_getElem?_getD] <;> omega)) (by first | omega | simp [-List.getD_eq_getElem?_getD] <;> omega) (by first | omega | simp [-List.getD_eq_getElem?_getD] <;> omega) (by decide) (by decide) ?_
 refine AOps.nil ⟨rfl, ?_⟩
 refine AHeld.one 8 rfl (by kernel_rfl) ?_
 refine .fa fl39_3 ?_
 refine AOps.nil ⟨rfl, ?_⟩
 refine AHeld.one 9 rfl (by kernel_rfl) (AOps.storeC si22 rfl rfl rfl rfl rfl rfl (Nat.le_of_ble_eq_true rfl) rfl ?_)
 refine AOps.nil ⟨rfl, ?_⟩
 refine AHeld.done (by kernel_rfl) ?_
 exact Le.mk (.c (.c (.c (.nil)))) (.c (.c (.c (.nil))))
 refine AOps.buildSlice (([pickN n.widths ((n.mems.getD (p.op % n.mems.length) default).width) p.d] : List Int).map irow) sl22 ze3 rfl rfl rfl rfl rfl (uniform_map (s := 1) (f := irow) (fun _ => rfl)) rfl rfl rfl (by decide) ?_
 refine AOps.nil ⟨rfl, ?_⟩
 refine AHeld.one 1 rfl (by kernel_rfl) ?_
 refine .ld sh22 ?_
 refine AOps.nil ⟨rfl, ?_⟩
 refine AHeld.one 7 rfl (by kernel_rfl) ?_
 refine AOps.appendE ((([pickN n.widths 1 p.a, ((p.b : Nat) : Int) % ((n.widths.length : Nat) : Int)] : List Int) ++ ([pickN n.widths ((n.mems.getD (p.op % n.mems.length) default).width) p.d] : List Int)).map irow) (([pickN n.widths 1 p.a, ((p.b : Nat) : Int) % ((n.widths.length : Nat) : Int)] : List Int) ++ ([pickN n.widths ((n.mems.getD (p.op % n.mems.length) default).width) p.d] : List Int)).length sl22 ze3 rfl rfl rfl rfl (app_le (by first | omega | simp [-List.getD_eq_getElem?_getD] <;> omega)) (app_map (by first | omega | simp [-List.getD_eq_getElem?_getD] <;> omega)) (app_n (by first | omega | simp [-List.getD_eq_getElem?_getD] <;> omega)) (by first | omega | simp [-List.getD_eq_getElem?_getD] <;> omega) (by first | omega | simp [-List.getD_eq_getElem?_getD] <;> omega) (by decide) (by decide) ?_
 refine AOps.nil ⟨rfl, ?_⟩
 refine AHeld.one 8 rfl (by kernel_rfl) ?_
 refine .fa fl39_3 ?_
 refine AOps.nil ⟨rfl, ?_⟩
 refine AHeld.one 9 rfl (by kernel_rfl) (AOps.storeC si22 rfl rfl rfl rfl rfl rfl (Nat.le_of_ble_eq_true rfl) rfl ?_)
 refine AOps.nil ⟨rfl, ?_⟩
 refine AHeld.done (by kernel_rfl) ?_
 exact Le.mk (.c (.c (.c (.nil)))) (.c (.c (.c (.nil))))
 refine AWp.le (st' := ⟨[(4, .ptr 104 0 0 0), (6, vi ((n.mems.getD (p.op % n.mems.length) default).width)), (7, .ptr 107 0 0 0)], [(104, .cells [vi 0, vi 0, vi 0, .v (.slice none 0 0), .v (.int .u64 0), vi 0]), (107, .cells [vi (1 + (((p.kind : Nat) : Int) % 10)), vi 0, vi (-1), .slc 271 1 0 ((([pickN n.widths 1 p.a, ((p.b : Nat) : Int) % ((n.widths.length : Nat) : Int)] : List Int) ++ ([pickN n.widths ((n.mems.getD (p.op % n.mems.length) default).width) p.d] : List Int)).length), .v (.int .u64 0), vi (((p.op : Nat) : Int) % ((n.mems.length : Nat) : Int))]), (271, .rows 1 ((([pickN n.widths 1 p.a, ((p.b : Nat) : Int) % ((n.widths.length : Nat) : Int)] : List Int) ++ ([pickN n.widths ((n.mems.getD (p.op % n.mems.length) default).width) p.d] : List Int)).map irow))]⟩) (Le.mk (.c (.c (.c (.nil)))) (.c (.c (.c (.nil))))) ?_
 refine AWp.sr (.vl (Y.loadA sh39 rfl rfl (Nat.le_of_ble_eq_true rfl) rfl rfl) ?_)
 refine .mv ?_
 refine AOps.storeC si39 rfl rfl rfl rfl rfl rfl (Nat.le_of_ble_eq_true rfl) rfl ?_
 refine .an ?_
 refine AOps.nil (AWp.ret ?_)
 exact ⟨_, rfl, _, _, _, Sh.ownT (d := 0) 3 271 rfl rfl rfl rfl (by first | rfl | exact len_map rfl | exact len_map (by omega)) rfl (by decide), rfl, rfl, (⟨1 + (((p.kind : Nat) : Int) % 10), 0, -1, ([pickN n.widths 1 p.a, ((p.b : Nat) : Int) % ((n.widths.length : Nat) : Int)] : List Int) ++ ([pickN n.widths ((n.mems.getD (p.op % n.mems.length) default).width) p.d] : List Int), 0, ((p.op : Nat) : Int) % ((n.mems.length : Nat) : Int)⟩ : Cell), _, pt_write hg h0 (by omega) (by omega), rfl, rfl⟩
 refine AWp.skip ?_
 refine AWp.le (st' := ⟨[(4, .ptr 104 0 0 0), (6, vi ((n.mems.getD (p.op % n.mems.length) default).width)), (7, .ptr 107 0 0 0)], [(104, .cells [vi 0, vi 0, vi 0, .v (.slice none 0 0), .v (.int .u64 0), vi 0]), (107, .cells [vi (1 + (((p.kind : Nat) : Int) % 10)), vi 0, vi (-1), .slc 271 1 0 (([pickN n.widths 1 p.a, ((p.b : Nat) : Int) % ((n.widths.length : Nat) : Int)] : List Int).length), .v (.int .u64 0), vi (((p.op : Nat) : Int) % ((n.mems.length : Nat) : Int))]), (271, .rows 1 (([pickN n.widths 1 p.a, ((p.b : Nat) : Int) % ((n.widths.length : Nat) : Int)] : List Int).map irow))]⟩) (Le.mk (.c (.c (.c (.nil)))) (.c (.c (.c (.nil))))) ?_
 refine AWp.sr (.vl (Y.loadA sh39 rfl rfl (Nat.le_of_ble_eq_true rfl) rfl rfl) ?_)
 refine .mv ?_
 refine AOps.storeC si39 rfl rfl rfl rfl rfl rfl (Nat.le_of_ble_eq_true rfl) rfl ?_
 refine .an ?_
 refine AOps.nil (AWp.ret ?_)
 exact ⟨_, rfl, _, _, _, Sh.ownT (d := 0) 3 271 rfl rfl rfl rfl (by first | rfl | exact len_map rfl | exact len_map (by omega)) rfl (by decide), rfl, rfl, (⟨1 + (((p.kind : Nat) : Int) % 10), 0, -1, ([pickN n.widths 1 p.a, ((p.b : Nat) : Int) % ((n.widths.length : Nat) : Int)] : List Int), 0, ((p.op : Nat) : Int) % ((n.mems.length : Nat) : Int)⟩ : Cell), _, pt_read hg h0 (by omega) (by omega), rfl, rfl⟩
 refine AWp.sr (.vl (Y.eql rfl rfl) ?_)
 refine .an ?_
 refine AOps.nil ?_
 refine AWp.condD rfl (fun c185 => ?_) (fun c185 => ?_)
 refine AWp.seq (AWp.sr ?_)
 refine .fa fl27_3 ?_
 refine .ld sh22 ?_
 refine .vl (Y.len (n := n.ins.length) sl22 rfl (congrArg some (List.length_map ..))) (.vl (Y.eql rfl rfl) (AOps.nil ?_))
 refine AWp.condD rfl (fun c190 => ?_) (fun c190 => ?_)
 refine AWp.sr (.vl (Y.build pl39 ze39 rfl rfl rfl) (AOps.storeC si39 rfl rfl rfl rfl rfl rfl (Nat.le_of_ble_eq_true rfl) rfl ?_))
 refine .an ?_
 refine AOps.nil (AWp.sh (Sh.nilCell 104 399 1 3 rfl rfl rfl rfl (by decide)) (AWp.ret ?_))
 exact ⟨_, rfl, _, _, _, Sh.ownT (d := 0) 3 399 rfl rfl rfl rfl (by first | rfl | exact len_map rfl | exact len_map (by omega)) rfl (by decide), rfl, rfl, (⟨0, 0, 0, ([] : List Int), 0, 0⟩ : Cell), _, pt_none hg, rfl, rfl⟩
 refine AWp.skip (AWp.sr ?_)
 refine .fa fl88_4 ?_
 refine .ld sh37 ?_
 refine .fa fl27_3 ?_
 refine .ld sh22 ?_
 refine .vl (Y.len (n := n.ins.length) sl22 rfl (congrArg some (List.length_map ..))) ?_
 refine .vl (Y.convK ii3 ii37 rfl (by first | rfl | exact IntWalk.u64_in _ (by omega))) ?_
 refine .vl (Y.remN (a := p.num) (b := n.ins.length) rfl rfl (by omega)) ?_
 refine .fa fl39_4 ?_
 refine AOps.storeC si37 rfl rfl rfl rfl rfl rfl (Nat.le_of_ble_eq_true rfl) rfl (AOps.nil ?_)
 have hmm : p.num % n.ins.length < n.ins.length := Nat.mod_lt _ (by omega)
 refine AWp.region ?_
 refine .fa fl27_3 ?_
 refine .ld sh22 ?_
 refine .fa fl39_4 ?_
 refine .ld sh37 ?_
 refine .vl (Y.indexF (m := p.num % n.ins.length) sl22 rfl rfl (by first | rfl | omega) (row_getD (d := 0) (by omega))) ?_
 refine .ld sh3 ?_
 refine .an ?_
 refine AOps.nil ?_
 refine AWp.le (st' := ⟨[(4, .ptr 104 0 0 0), (6, vi (n.ins.getD (p.num % n.ins.length) 0)), (7, .ptr 107 0 0 0)], [(104, .cells [vi 0, vi 0, vi 0, .v (.slice none 0 0), .v (.int .u64 0), vi 0]), (107, .cells [vi (1 + (((p.kind : Nat) : Int) % 10)), vi 0, vi (-1), .v (.slice none 0 0), .v (.int .u64 ((p.num % n.ins.length : Nat) : Int)), vi 0])]⟩) (Le.mk (.c (.c (.c (.nil)))) (.c (.c (.nil)))) ?_
 refine AWp.sr (.vl (Y.loadA sh39 rfl rfl (Nat.le_of_ble_eq_true rfl) rfl rfl) ?_)
 refine .mv ?_
 refine AOps.storeC si39 rfl rfl rfl rfl rfl rfl (Nat.le_of_ble_eq_true rfl) rfl ?_
 refine .an ?_
 refine AOps.nil (AWp.sh (Sh.nilCell 104 399 1 3 rfl rfl rfl rfl (by decide)) (AWp.ret ?_))
 exact ⟨_, rfl, _, _, _, Sh.ownT (d := 0) 3 399 rfl rfl rfl rfl (by first | rfl | exact len_map rfl | exact len_map (by omega)) rfl (by decide), rfl, rfl, (⟨1 + (((p.kind : Nat) : Int) % 10), 0, -1, ([] : List Int), p.num % n.ins.length, 0⟩ : Cell), _, pt_input hg (by omega) (by omega) hi, rfl, rfl⟩
 refine AWp.seq (AWp.sr ?_)
 refine .fa fl27_5 ?_
 refine .ld sh25 ?_
 refine .vl (Y.len (n := n.streams.length) sl25 rfl (congrArg some (List.length_map ..))) (.vl (Y.eql rfl rfl) (AOps.nil ?_))
 refine AWp.condD rfl (fun c34 => ?_) (fun c34 => ?_)
 refine AWp.sr (.vl (Y.build pl39 ze39 rfl rfl rfl) (AOps.storeC si39 rfl rfl rfl rfl rfl rfl (Nat.le_of_ble_eq_true rfl) rfl ?_))
 refine .an ?_
 refine AOps.nil (AWp.sh (Sh.nilCell 104 399 1 3 rfl rfl rfl rfl (by decide)) (AWp.ret ?_))
 exact ⟨_, rfl, _, _, _, Sh.ownT (d := 0) 3 399 rfl rfl rfl rfl (by first | rfl | exact len_map rfl | exact len_map (by omega)) rfl (by decide), rfl, rfl, (⟨0, 0, 0, ([] : List Int), 0, 0⟩ : Cell), _, pt_none hg, rfl, rfl⟩
 refine AWp.skip (AWp.sr ?_)
 refine .fa fl88_1 ?_
 refine .ld sh5 ?_
 refine .vl (Y.convK ii5 ii3 rfl (by first | rfl | exact IntWalk.i64_in _ (by omega))) ?_
 refine .fa fl27_5 ?_
 refine .ld sh25 ?_
 refine .vl (Y.len (n := n.streams.length) sl25 rfl (congrArg some (List.length_map ..))) ?_
 refine .vl (Y.remI rfl rfl (by first | omega | simp [-List.getD_eq_getElem?_getD] <;> omega)) ?_
 refine .fa fl39_5 ?_
 refine AOps.storeC si3 rfl rfl rfl rfl rfl rfl (Nat.le_of_ble_eq_true rfl) rfl (AOps.nil (AWp.seq ?_))
 have hmm : p.op % n.streams.length < n.streams.length := Nat.mod_lt _ (by omega)
 refine AWp.region ?_
 refine .fa fl27_5 ?_
 refine .ld sh25 ?_
 refine .fa fl39_5 ?_
 refine .ld sh3 ?_
 refine .vl (Y.indexF (m := p.op % n.streams.length) sl25 rfl rfl (by first | rfl | omega) (row_getD (d := default) (by omega))) ?_
 refine .fa fl83_1 ?_
 refine .ld sh3 ?_
 refine .an ?_
 refine AOps.nil ?_
 refine AWp.le (st' := ⟨[(2, .fp (Netlist.prow n) 0), (4, .ptr 104 0 0 0), (6, vi ((n.streams.getD (p.op % n.streams.length) default).width)), (7, .ptr 107 0 0 0)], [(104, .cells [vi 0, vi 0, vi 0, .v (.slice none 0 0), .v (.int .u64 0), vi 0]), (107, .cells [vi (1 + (((p.kind : Nat) : Int) % 10)), vi 0, vi (-1), .v (.slice none 0 0), .v (.int .u64 0), vi (((p.op : Nat) : Int) % ((n.streams.length : Nat) : Int))])]⟩) (Le.mk (.c (.c (.c (.c (.nil))))) (.c (.c (.nil)))) ?_
 refine AWp.join1 (fun (c7_0_j11 : Nat) => ⟨[(4, .ptr 104 0 0 0), (6, vi ((n.streams.getD (p.op % n.streams.length) default).width)), (7, .ptr 107 0 0 0)], [(104, .cells [vi 0, vi 0, vi 0, .v (.slice none 0 0), .v (.int .u64 0), vi 0]), (107, .cells [vi (c7_0_j11 : Int), vi 0, vi (-1), .v (.slice none 0 0), .v (.int .u64 0), vi (((p.op : Nat) : Int) % ((n.streams.length : Nat) : Int))])]⟩) (fun (c7_0_j11 : Nat) => (((1 + (((p.kind : Nat) : Int) % 10)) = 10) ∧ (((n.streams.getD (p.op % n.streams.length) default).out) = true) ∧ (c7_0_j11 = 9)) ∨ (((1 + (((p.kind : Nat) : Int) % 10)) = 10) ∧ (((n.streams.getD (p.op % n.streams.length) default).out) = false) ∧ (c7_0_j11 = (1 + (p.kind % 10)))) ∨ ((¬ ((1 + (((p.kind : Nat) : Int) % 10)) = 10)) ∧ (c7_0_j11 = (1 + (p.kind % 10))))) ?_ (fun c7_0_j11 hJ11 => ?_)
 refine AWp.sr ?_
 refine .fa fl39_0 ?_
 refine .ld sh3 ?_
 refine .vl (Y.eql rfl rfl) ?_
 refine .mv ?_
 refine AOps.splitD (d := 54) rfl (fun c54 => ?_) (fun c54 => ?_)
 refine .gw 54 (Y.fieldAddr fl27_5 rfl rfl) (.gw 54 (Y.load sh25 rfl rfl rfl rfl) (.gw 54 (Y.fieldAddr fl39_5 rfl rfl) ?_))
 refine .gw 54 (Y.load sh3 rfl rfl rfl rfl) ?_
 refine .gw 54 (Y.indexF (m := p.op % n.streams.length) sl25 rfl rfl (by first | rfl | omega) (row_getD (d := default) (by omega))) ?_
 refine .gw 54 (Y.fieldAddr fl83_2 rfl rfl) (.gw 54 (Y.load sh4 rfl rfl rfl rfl) ?_)
 refine .pk ?_
 refine AOps.nil ?_
 refine AWp.cond rfl (fun c62 => ?_) (fun c62 => ?_)
 refine AWp.region ?_
 refine .fa fl39_0 ?_
 refine AOps.storeC si3 rfl rfl rfl rfl rfl rfl (Nat.le_of_ble_eq_true rfl) rfl (AOps.nil ?_)
 exact ⟨9, .inl ⟨c54, c62, rfl⟩, Le.mk (.c (.c (.c (.nil)))) (.c (.cons (look_cells rfl (by first | rfl | (simp only [List.cons.injEq, X.v.injEq, X.slc.injEq, Value.int.injEq, and_true, true_and]; omega) | simp_all)) (.nil)))⟩
 refine AWp.skip ?_
 exact ⟨1 + (p.kind % 10), .inr (.inl ⟨c54, c62, rfl⟩), Le.mk (.c (.c (.c (.nil)))) (.c (.cons (look_cells rfl (by first | rfl | (simp only [List.cons.injEq, X.v.injEq, X.slc.injEq, Value.int.injEq, and_true, true_and]; omega) | simp_all)) (.nil)))⟩
 refine .gz 54 (.gz 54 (.gz 54 ?_))
 refine .gz 54 (.gz 54 (.gz 54 ?_))
 refine .gz 54 ?_
 refine .pk ?_
 refine AOps.nil (AWp.condF rfl (AWp.skip ?_))
 exact ⟨1 + (p.kind % 10), .inr (.inr (⟨c54, rfl⟩)), Le.mk (.c (.c (.c (.nil)))) (.c (.cons (look_cells rfl (by first | rfl | (simp only [List.cons.injEq, X.v.injEq, X.slc.injEq, Value.int.injEq, and_true, true_and]; omega) | simp_all)) (.nil)))⟩
 refine AWp.sr ?_
 refine .fa fl39_0 ?_
 refine .ld sh3 ?_
 refine .vl (Y.eql rfl rfl) (AOps.nil ?_)
 refine AWp.condD rfl (fun c66 => ?_) (fun c66 => ?_)
 refine AWp.region ?_
 refine .an ?_
 refine AOps.nil ?_
 refine AWp.le (st' := ⟨[(4, .ptr 104 0 0 0), (6, vi 1), (7, .ptr 107 0 0 0)], [(104, .cells [vi 0, vi 0, vi 0, .v (.slice none 0 0), .v (.int .u64 0), vi 0]), (107, .cells [vi (c7_0_j11 : Int), vi 0, vi (-1), .v (.slice none 0 0), .v (.int .u64 0), vi (((p.op : Nat) : Int) % ((n.streams.length : Nat) : Int))])]⟩) (Le.mk (.c (.c (.c (.nil)))) (.c (.c (.nil)))) ?_
 refine AWp.sr (.vl (Y.loadA sh39 rfl rfl (Nat.le_of_ble_eq_true rfl) rfl rfl) ?_)
 refine .mv ?_
 refine AOps.storeC si39 rfl rfl rfl rfl rfl rfl (Nat.le_of_ble_eq_true rfl) rfl ?_
 refine .an ?_
 refine AOps.nil (AWp.sh (Sh.nilCell 104 399 1 3 rfl rfl rfl rfl (by decide)) (AWp.ret ?_))
 exact ⟨_, rfl, _, _, _, Sh.ownT (d := 0) 3 399 rfl rfl rfl rfl (by first | rfl | exact len_map rfl | exact len_map (by omega)) rfl (by decide), rfl, rfl, (⟨(c7_0_j11 : Int), 0, -1, ([] : List Int), 0, ((p.op : Nat) : Int) % ((n.streams.length : Nat) : Int)⟩ : Cell), _, pt_open hg (by omega) (by omega), rfl, rfl⟩
 refine AWp.skip ?_
 refine AWp.le (st' := ⟨[(4, .ptr 104 0 0 0), (6, vi ((n.streams.getD (p.op % n.streams.length) default).width)), (7, .ptr 107 0 0 0)], [(104, .cells [vi 0, vi 0, vi 0, .v (.slice none 0 0), .v (.int .u64 0), vi 0]), (107, .cells [vi (c7_0_j11 : Int), vi 0, vi (-1), .v (.slice none 0 0), .v (.int .u64 0), vi (((p.op : Nat) : Int) % ((n.streams.length : Nat) : Int))])]⟩) (Le.mk (.c (.c (.c (.nil)))) (.c (.c (.nil)))) ?_
 refine AWp.sr (.vl (Y.loadA sh39 rfl rfl (Nat.le_of_ble_eq_true rfl) rfl rfl) ?_)
 refine .mv ?_
 refine AOps.storeC si39 rfl rfl rfl rfl rfl rfl (Nat.le_of_ble_eq_true rfl) rfl ?_
 refine .an ?_
 refine AOps.nil (AWp.sh (Sh.nilCell 104 399 1 3 rfl rfl rfl rfl (by decide)) (AWp.ret ?_))
 exact ⟨_, rfl, _, _, _, Sh.ownT (d := 0) 3 399 rfl rfl rfl rfl (by first | rfl | exact len_map rfl | exact len_map (by omega)) rfl (by decide), rfl, rfl, (⟨(c7_0_j11 : Int), 0, -1, ([] : List Int), 0, ((p.op : Nat) : Int) % ((n.streams.length : Nat) : Int)⟩ : Cell), _, pt_data hg (by omega) (by omega) (by grind), rfl, rfl⟩
end Go.Proofs.Ytligpghohcfpnaa
/- The walk of late. -/
namespace Go.Proofs.Ytligpghohcfpnaa
open Go Go.AW Go.Proofs
theorem late_spec {nm : ByteArray} {ws ins : List Int} {cs : List Cell} {mems : List Arr} {streams : List Strm} {f0 d0 : Int} {p : Prt} {i cl : Nat} (hcl : cl = cs.length) (hn : ws.length ≤ 1048576) (hc : cs.length ≤ 1048576) (hp : p.Ok) (hi : i < cs.length) (ho : In (cs.getD (((((cs.length : Nat) : Int) - 1) - (i : Int)).toNat) default).out ws.length ∨ (cs.getD (((((cs.length : Nat) : Int) - 1) - (i : Int)).toNat) default).kind ≠ 4) : ACalls Try.prog 55 [.ptr 0 0 0 0, .agg (Prt.row p), vi (i : Int)] [.cells [.v (.string nm), .slc 1 1 0 ws.length, .slc 2 6 0 cl, .fz 1 (ins.map irow), .fz 5 (mems.map Arr.row), .fz 3 (streams.map Strm.row), .v (.slice none 0 0), .v (.slice none 0 0), vi f0, vi d0, .v (.slice none 0 0)], .rows 1 (ws.map irow), .rows 6 (cs.map Cell.row)] [0, 1, 2] (fun r o => r = .tup [] ∧ o = [.cells [.v (.string nm), .slc 1 1 0 ws.length, .slc 2 6 0 cl, .fz 1 (ins.map irow), .fz 5 (mems.map Arr.row), .fz 3 (streams.map Strm.row), .v (.slice none 0 0), .v (.slice none 0 0), vi f0, vi d0, .v (.slice none 0 0)], .rows 1 (ws.map irow), .rows 6 ((lateN ws cs p i).map Cell.row)]) := by
 refine ACalls.of Try.func55 rfl rfl rfl (n := 62) (by decide) (Nat.le_of_ble_eq_true rfl) ?_
 subst hcl
 have hp4 := hp.a; have hp6 := hp.d
 refine AWp.sr (AOps.box 104 rfl rfl rfl rfl rfl (by decide) (AOps.nil ?_))
 refine AWp.seq (AWp.sh (Sh.freezeO 104 rfl rfl) ?_)
 refine AWp.regionHeldJ [0] [0, 1, 2, 104] (⟨[(0, .ptr 0 0 0 0), (2, .v (.int .i64 (i : Int))), (4, .fp (Prt.row p) 0), (6, .ptr 106 0 0 0)], [(0, .cells [.v (.string nm), .slc 1 1 0 ws.length, .slc 2 6 0 cs.length, .fz 1 (ins.map irow), .fz 5 (mems.map Arr.row), .fz 3 (streams.map Strm.row), .v (.slice none 0 0), .v (.slice none 0 0), .v (.int .i64 f0), .v (.int .i64 d0), .v (.slice none 0 0)]), (1, .rows 1 (ws.map irow)), (2, .rows 6 (cs.map Cell.row)), (106, .cells [.v (.int .i64 ((cs.getD (((((cs.length : Nat) : Int) - 1) - (i : Int)).toNat) default).kind)), .v (.int .i64 ((cs.getD (((((cs.length : Nat) : Int) - 1) - (i : Int)).toNat) default).op)), .v (.int .i64 ((cs.getD (((((cs.length : Nat) : Int) - 1) - (i : Int)).toNat) default).out)), .fz 1 (((cs.getD (((((cs.length : Nat) : Int) - 1) - (i : Int)).toNat) default).args).map irow), .v (.int .u64 (((cs.getD (((((cs.length : Nat) : Int) - 1) - (i : Int)).toNat) default).num : Nat) : Int)), .v (.int .i64 ((cs.getD (((((cs.length : Nat) : Int) - 1) - (i : Int)).toNat) default).mem))])]⟩) rfl ?_ ?_
 refine AFirst.blind 0 rfl (by kernel_rfl) (Blind.move rfl rfl) (by decide) (AFirst.blind 1 rfl (by kernel_rfl) (Blind.nilCheck rfl rfl) (by decide) (AFirst.blind 2 rfl (by kernel_rfl) (Blind.fieldAddr fl27_2 rfl rfl) (by decide) ?_))
 refine AFirst.load 3 rfl (by kernel_rfl) sh23 rfl rfl rfl rfl rfl (by decide) (AFirst.blind 4 rfl (by kernel_rfl) (Blind.move rfl rfl) (by decide) (AFirst.blind 5 rfl (by kernel_rfl) (Blind.nilCheck rfl rfl) (by decide) ?_))
 refine AFirst.blind 6 rfl (by kernel_rfl) (Blind.fieldAddr fl27_2 rfl rfl) (by decide) (AFirst.load 7 rfl (by kernel_rfl) sh23 rfl rfl rfl rfl rfl (by decide) (AFirst.blind 8 rfl (by kernel_rfl) (Blind.len (n := cs.length) sl23 rfl rfl) (by decide) ?_))
 refine AFirst.blind 9 rfl (by kernel_rfl) (Blind.subI rfl rfl (by omega)) (by decide) ?_
 refine AFirst.blind 10 rfl (by kernel_rfl) (Blind.move rfl rfl) (by decide) ?_
 refine AFirst.blind 11 rfl (by kernel_rfl) (Blind.subI rfl rfl (by omega)) (by decide) ?_
 refine AFirst.blind 12 rfl (by kernel_rfl) (Blind.indexO (m := ((((cs.length : Nat) : Int) - 1) - (i : Int)).toNat) sl23 rfl rfl (by omega) (by omega)) (by decide) ?_
 refine AFirst.goL rfl rfl (namesIn.cells rfl rfl rfl namesIn.nil) ?_
 refine AHeld.two 13 14 rfl rfl (by kernel_rfl) ?_ ?_
 refine .vl (Y.loadA sh39 rfl (row_getD0 (d := default) (by omega)) (Nat.le_of_ble_eq_true rfl) rfl rfl) ?_
 refine AOps.nil ⟨rfl, ?_⟩
 refine AHeld.one 14 rfl (by kernel_rfl) (AOps.alloc 106 ze39 rfl rfl (by decide) ?_)
 refine AOps.nil ⟨rfl, ?_⟩
 refine AHeld.one 15 rfl (by kernel_rfl) (AOps.storeC si39 rfl rfl rfl rfl rfl rfl (Nat.le_of_ble_eq_true rfl) rfl ?_)
 refine AOps.nil ⟨rfl, ?_⟩
 refine AHeld.done (by kernel_rfl) ?_
 exact Le.mk (.c (.c (.c (.c (.nil))))) (.c (.c (.c (.c (.nil)))))
 refine AOps.alloc 106 ze39 rfl rfl (by decide) ?_
 refine AOps.nil ⟨rfl, ?_⟩
 refine AHeld.one 13 rfl (by kernel_rfl) ?_
 refine .vl (Y.loadA sh39 rfl (row_getD0 (d := default) (by omega)) (Nat.le_of_ble_eq_true rfl) rfl rfl) ?_
 refine AOps.nil ⟨rfl, ?_⟩
 refine AHeld.one 15 rfl (by kernel_rfl) (AOps.storeC si39 rfl rfl rfl rfl rfl rfl (Nat.le_of_ble_eq_true rfl) rfl ?_)
 refine AOps.nil ⟨rfl, ?_⟩
 refine AHeld.done (by kernel_rfl) ?_
 exact Le.mk (.c (.c (.c (.c (.nil))))) (.c (.c (.c (.c (.nil)))))
 refine AWp.le (st' := ⟨[(0, .ptr 0 0 0 0), (2, vi (i : Int)), (4, .fp (Prt.row p) 0), (6, .ptr 106 0 0 0)], [(0, .cells [.v (.string nm), .slc 1 1 0 ws.length, .slc 2 6 0 cs.length, .fz 1 (ins.map irow), .fz 5 (mems.map Arr.row), .fz 3 (streams.map Strm.row), .v (.slice none 0 0), .v (.slice none 0 0), vi f0, vi d0, .v (.slice none 0 0)]), (1, .rows 1 (ws.map irow)), (2, .rows 6 (cs.map Cell.row)), (106, .cells [vi ((cs.getD (((((cs.length : Nat) : Int) - 1) - (i : Int)).toNat) default).kind), vi ((cs.getD (((((cs.length : Nat) : Int) - 1) - (i : Int)).toNat) default).op), vi ((cs.getD (((((cs.length : Nat) : Int) - 1) - (i : Int)).toNat) default).out), .fz 1 (((cs.getD (((((cs.length : Nat) : Int) - 1) - (i : Int)).toNat) default).args).map irow), .v (.int .u64 (((cs.getD (((((cs.length : Nat) : Int) - 1) - (i : Int)).toNat) default).num : Nat) : Int)), vi ((cs.getD (((((cs.length : Nat) : Int) - 1) - (i : Int)).toNat) default).mem)])]⟩) (Le.mk (.c (.c (.c (.c (.nil))))) (.c (.c (.c (.c (.nil)))))) ?_
 refine AWp.sr ?_
 refine .fa fl39_0 ?_
 refine .ld sh3 ?_
 refine .vl (Y.eql rfl rfl) (AOps.nil ?_)
 refine AWp.le (st' := ⟨[(0, .ptr 0 0 0 0), (2, vi (i : Int)), (4, .fp (Prt.row p) 0), (6, .ptr 106 0 0 0), (23, .v (.bool (decide (((cs.getD (((((cs.length : Nat) : Int) - 1) - (i : Int)).toNat) default).kind) = 4))))], [(0, .cells [.v (.string nm), .slc 1 1 0 ws.length, .slc 2 6 0 cs.length, .fz 1 (ins.map irow), .fz 5 (mems.map Arr.row), .fz 3 (streams.map Strm.row), .v (.slice none 0 0), .v (.slice none 0 0), vi f0, vi d0, .v (.slice none 0 0)]), (1, .rows 1 (ws.map irow)), (2, .rows 6 (cs.map Cell.row)), (106, .cells [vi ((cs.getD (((((cs.length : Nat) : Int) - 1) - (i : Int)).toNat) default).kind), vi ((cs.getD (((((cs.length : Nat) : Int) - 1) - (i : Int)).toNat) default).op), vi ((cs.getD (((((cs.length : Nat) : Int) - 1) - (i : Int)).toNat) default).out), .fz 1 (((cs.getD (((((cs.length : Nat) : Int) - 1) - (i : Int)).toNat) default).args).map irow), .v (.int .u64 (((cs.getD (((((cs.length : Nat) : Int) - 1) - (i : Int)).toNat) default).num : Nat) : Int)), vi ((cs.getD (((((cs.length : Nat) : Int) - 1) - (i : Int)).toNat) default).mem)])]⟩) (Le.mk (.c (.c (.c (.c (.c (.nil)))))) (.c (.c (.c (.c (.nil)))))) ?_
 refine AWp.condD rfl (fun c23 => ?_) (fun c23 => ?_)
 have ho2 := ho.resolve_right (fun h => h c23)
 unfold In at ho2
 refine AWp.seq ?_
 refine AWp.regionHeldJ [0] [0, 1, 2, 106] (⟨[(0, .ptr 0 0 0 0), (2, .v (.int .i64 (i : Int))), (6, .ptr 106 0 0 0)], [(0, .cells [.v (.string nm), .slc 1 1 0 ws.length, .slc 2 6 0 cs.length, .fz 1 (ins.map irow), .fz 5 (mems.map Arr.row), .fz 3 (streams.map Strm.row), .v (.slice none 0 0), .v (.slice none 0 0), .v (.int .i64 f0), .v (.int .i64 d0), .v (.slice none 0 0)]), (1, .rows 1 (ws.map irow)), (2, .rows 6 (cs.map Cell.row)), (106, .cells [.v (.int .i64 ((cs.getD (((((cs.length : Nat) : Int) - 1) - (i : Int)).toNat) default).kind)), .v (.int .i64 ((cs.getD (((((cs.length : Nat) : Int) - 1) - (i : Int)).toNat) default).op)), .v (.int .i64 ((cs.getD (((((cs.length : Nat) : Int) - 1) - (i : Int)).toNat) default).out)), .fz 1 (([pickN ws 1 p.a, pickN ws (ws.getD (((cs.getD (((((cs.length : Nat) : Int) - 1) - (i : Int)).toNat) default).out).toNat) 0) p.d] : List Int).map irow), .v (.int .u64 (((cs.getD (((((cs.length : Nat) : Int) - 1) - (i : Int)).toNat) default).num : Nat) : Int)), .v (.int .i64 ((cs.getD (((((cs.length : Nat) : Int) - 1) - (i : Int)).toNat) default).mem))])]⟩) rfl ?_ ?_
 refine AFirst.blind 0 rfl (by kernel_rfl) (Blind.move rfl rfl) (by decide) (AFirst.blind 1 rfl (by kernel_rfl) (Blind.nilCheck rfl rfl) (by decide) (AFirst.loadA 2 rfl (by kernel_rfl) sh27 rfl rfl rfl (Nat.le_of_ble_eq_true rfl) rfl rfl (by decide) ?_))
 refine AFirst.blind 3 rfl (by kernel_rfl) (Blind.fieldAddr fl88_3 rfl rfl) (by decide) (AFirst.blind 4 rfl (by kernel_rfl) (Blind.indexP ar86 rfl rfl (m := 0) rfl (by omega) rfl) (by decide) (AFirst.load 5 rfl (by kernel_rfl) sh5 rfl rfl rfl rfl rfl (by decide) ?_))
 refine AFirst.blind 7 rfl (by kernel_rfl) (Blind.move rfl rfl) (by decide) (AFirst.blind 8 rfl (by kernel_rfl) (Blind.nilCheck rfl rfl) (by decide) (AFirst.loadA 9 rfl (by kernel_rfl) sh27 rfl rfl rfl (Nat.le_of_ble_eq_true rfl) rfl rfl (by decide) ?_))
 refine AFirst.blind 10 rfl (by kernel_rfl) (Blind.move rfl rfl) (by decide) (AFirst.blind 11 rfl (by kernel_rfl) (Blind.nilCheck rfl rfl) (by decide) (AFirst.blind 12 rfl (by kernel_rfl) (Blind.fieldAddr fl27_1 rfl rfl) (by decide) ?_))
 refine AFirst.load 13 rfl (by kernel_rfl) sh22 rfl rfl rfl rfl rfl (by decide) (AFirst.blind 14 rfl (by kernel_rfl) (Blind.fieldAddr fl39_2 rfl rfl) (by decide) (AFirst.blind 18 rfl (by kernel_rfl) (Blind.fieldAddr fl88_3 rfl rfl) (by decide) ?_))
 refine AFirst.blind 19 rfl (by kernel_rfl) (Blind.indexP ar86 rfl rfl (m := 2) rfl (by omega) rfl) (by decide) (AFirst.load 20 rfl (by kernel_rfl) sh5 rfl rfl rfl rfl rfl (by decide) (AFirst.goL rfl rfl (namesIn.cells rfl rfl rfl namesIn.nil) ?_))
 refine AHeld.two 6 15 rfl rfl (by kernel_rfl) ?_ ?_
 refine AOps.callLP [1, 2] ok56 (pick_spec (n := (⟨nm, ws, cs, ins, mems, streams, [], [], f0, d0, []⟩ : Netlist)) (w := 1) (k := p.a) (by show (ws).length ≤ 1048576; omega) (by omega)) rfl (.agg (.keep rfl rfl (.lend rfl rfl (lend_le (by omega)) (lend_eq (by omega)) (.lend rfl rfl (lend_le (by omega)) (lend_eq (by omega)) (.keep rfl rfl (.keep rfl rfl (.keep rfl rfl (.keep rfl rfl (.keep rfl rfl (.keep rfl rfl (.keep rfl rfl (.keep rfl rfl .nil))))))))))) rfl (.keep rfl rfl (.keep rfl rfl .nil))) (lend2 rfl (owns_map irow_frees) (lend1 rfl (owns_map Cell.row_frees))) (by decide) rfl trivial ?_
 refine AOps.nil ⟨rfl, ?_⟩
 refine AHeld.one 15 rfl (by kernel_rfl) ?_
 refine .ld sh3 ?_
 refine AOps.nil ⟨rfl, ?_⟩
 refine AHeld.one 16 rfl (by kernel_rfl) ?_
 refine .vl (Y.indexO (m := ((cs.getD (((((cs.length : Nat) : Int) - 1) - (i : Int)).toNat) default).out).toNat) sl22 rfl rfl (by omega) (by omega)) ?_
 refine AOps.nil ⟨rfl, ?_⟩
 refine AHeld.one 17 rfl (by kernel_rfl) ?_
 refine .vl (Y.load sh3 rfl (row_getD0 (d := 0) (by omega)) rfl rfl) ?_
 refine AOps.nil ⟨rfl, ?_⟩
 refine AHeld.one 21 rfl (by kernel_rfl) ?_
 refine AOps.callLP [1, 2] ok56 (pick_spec (n := (⟨nm, ws, cs, ins, mems, streams, [], [], f0, d0, []⟩ : Netlist)) (w := (ws.getD (((cs.getD (((((cs.length : Nat) : Int) - 1) - (i : Int)).toNat) default).out).toNat) 0)) (k := p.d) (by show (ws).length ≤ 1048576; omega) (by omega)) rfl (.agg (.keep rfl rfl (.lend rfl rfl (lend_le (by omega)) (lend_eq (by omega)) (.lend rfl rfl (lend_le (by omega)) (lend_eq (by omega)) (.keep rfl rfl (.keep rfl rfl (.keep rfl rfl (.keep rfl rfl (.keep rfl rfl (.keep rfl rfl (.keep rfl rfl (.keep rfl rfl .nil))))))))))) rfl (.keep rfl rfl (.keep rfl rfl .nil))) (lend2 rfl (owns_map irow_frees) (lend1 rfl (owns_map Cell.row_frees))) (by decide) rfl trivial ?_
 refine AOps.nil ⟨rfl, ?_⟩
 refine AHeld.one 22 rfl (by kernel_rfl) ?_
 refine AOps.buildSlice (([pickN ws 1 p.a, pickN ws (ws.getD (((cs.getD (((((cs.length : Nat) : Int) - 1) - (i : Int)).toNat) default).out).toNat) 0) p.d] : List Int).map irow) sl22 ze3 rfl rfl rfl rfl rfl (uniform_map (s := 1) (f := irow) (fun _ => rfl)) rfl rfl rfl (by decide) ?_
 refine AOps.nil ⟨rfl, ?_⟩
 refine AHeld.one 23 rfl (by kernel_rfl) ?_
 refine .fa fl39_3 ?_
 refine AOps.nil ⟨rfl, ?_⟩
 refine AHeld.one 24 rfl (by kernel_rfl) (AOps.sh (Sh.freezeE (d := 46) (([pickN ws 1 p.a, pickN ws (ws.getD (((cs.getD (((((cs.length : Nat) : Int) - 1) - (i : Int)).toNat) default).out).toNat) 0) p.d] : List Int).map irow) rfl (by first | rfl | exact rep_map rfl) (Frees.map irow_frees)) (AOps.storeC si22 rfl rfl rfl rfl rfl rfl (Nat.le_of_ble_eq_true rfl) rfl ?_))
 refine AOps.nil ⟨rfl, ?_⟩
 refine AHeld.done (by kernel_rfl) ?_
 exact Le.mk (.c (.c (.c (.nil)))) (.c (.c (.c (.c (.nil)))))
 refine .ld sh3 ?_
 refine AOps.nil ⟨rfl, ?_⟩
 refine AHeld.blind 16 rfl (by kernel_rfl) (Blind.indexO (m := ((cs.getD (((((cs.length : Nat) : Int) - 1) - (i : Int)).toNat) default).out).toNat) sl22 rfl rfl (by omega) (by omega)) (by decide) ?_
 refine AHeld.two 6 17 rfl rfl (by kernel_rfl) ?_ ?_
 refine AOps.callLP [1, 2] ok56 (pick_spec (n := (⟨nm, ws, cs, ins, mems, streams, [], [], f0, d0, []⟩ : Netlist)) (w := 1) (k := p.a) (by show (ws).length ≤ 1048576; omega) (by omega)) rfl (.agg (.keep rfl rfl (.lend rfl rfl (lend_le (by omega)) (lend_eq (by omega)) (.lend rfl rfl (lend_le (by omega)) (lend_eq (by omega)) (.keep rfl rfl (.keep rfl rfl (.keep rfl rfl (.keep rfl rfl (.keep rfl rfl (.keep rfl rfl (.keep rfl rfl (.keep rfl rfl .nil))))))))))) rfl (.keep rfl rfl (.keep rfl rfl .nil))) (lend2 rfl (owns_map irow_frees) (lend1 rfl (owns_map Cell.row_frees))) (by decide) rfl trivial ?_
 refine AOps.nil ⟨rfl, ?_⟩
 refine AHeld.one 17 rfl (by kernel_rfl) ?_
 refine .vl (Y.load sh3 rfl (row_getD0 (d := 0) (by omega)) rfl rfl) ?_
 refine AOps.nil ⟨rfl, ?_⟩
 refine AHeld.one 21 rfl (by kernel_rfl) ?_
 refine AOps.callLP [1, 2] ok56 (pick_spec (n := (⟨nm, ws, cs, ins, mems, streams, [], [], f0, d0, []⟩ : Netlist)) (w := (ws.getD (((cs.getD (((((cs.length : Nat) : Int) - 1) - (i : Int)).toNat) default).out).toNat) 0)) (k := p.d) (by show (ws).length ≤ 1048576; omega) (by omega)) rfl (.agg (.keep rfl rfl (.lend rfl rfl (lend_le (by omega)) (lend_eq (by omega)) (.lend rfl rfl (lend_le (by omega)) (lend_eq (by omega)) (.keep rfl rfl (.keep rfl rfl (.keep rfl rfl (.keep rfl rfl (.keep rfl rfl (.keep rfl rfl (.keep rfl rfl (.keep rfl rfl .nil))))))))))) rfl (.keep rfl rfl (.keep rfl rfl .nil))) (lend2 rfl (owns_map irow_frees) (lend1 rfl (owns_map Cell.row_frees))) (by decide) rfl trivial ?_
 refine AOps.nil ⟨rfl, ?_⟩
 refine AHeld.one 22 rfl (by kernel_rfl) ?_
 refine AOps.buildSlice (([pickN ws 1 p.a, pickN ws (ws.getD (((cs.getD (((((cs.length : Nat) : Int) - 1) - (i : Int)).toNat) default).out).toNat) 0) p.d] : List Int).map irow) sl22 ze3 rfl rfl rfl rfl rfl (uniform_map (s := 1) (f := irow) (fun _ => rfl)) rfl rfl rfl (by decide) ?_
 refine AOps.nil ⟨rfl, ?_⟩
 refine AHeld.one 23 rfl (by kernel_rfl) ?_
 refine .fa fl39_3 ?_
 refine AOps.nil ⟨rfl, ?_⟩
 refine AHeld.one 24 rfl (by kernel_rfl) (AOps.sh (Sh.freezeE (d := 46) (([pickN ws 1 p.a, pickN ws (ws.getD (((cs.getD (((((cs.length : Nat) : Int) - 1) - (i : Int)).toNat) default).out).toNat) 0) p.d] : List Int).map irow) rfl (by first | rfl | exact rep_map rfl) (Frees.map irow_frees)) (AOps.storeC si22 rfl rfl rfl rfl rfl rfl (Nat.le_of_ble_eq_true rfl) rfl ?_))
 refine AOps.nil ⟨rfl, ?_⟩
 refine AHeld.done (by kernel_rfl) ?_
 exact Le.mk (.c (.c (.c (.nil)))) (.c (.c (.c (.c (.nil)))))
 refine .vl (Y.load sh3 rfl (row_getD0 (d := 0) (by omega)) rfl rfl) ?_
 refine AOps.nil ⟨rfl, ?_⟩
 refine AHeld.one 6 rfl (by kernel_rfl) ?_
 refine AOps.callLP [1, 2] ok56 (pick_spec (n := (⟨nm, ws, cs, ins, mems, streams, [], [], f0, d0, []⟩ : Netlist)) (w := 1) (k := p.a) (by show (ws).length ≤ 1048576; omega) (by omega)) rfl (.agg (.keep rfl rfl (.lend rfl rfl (lend_le (by omega)) (lend_eq (by omega)) (.lend rfl rfl (lend_le (by omega)) (lend_eq (by omega)) (.keep rfl rfl (.keep rfl rfl (.keep rfl rfl (.keep rfl rfl (.keep rfl rfl (.keep rfl rfl (.keep rfl rfl (.keep rfl rfl .nil))))))))))) rfl (.keep rfl rfl (.keep rfl rfl .nil))) (lend2 rfl (owns_map irow_frees) (lend1 rfl (owns_map Cell.row_frees))) (by decide) rfl trivial ?_
 refine AOps.nil ⟨rfl, ?_⟩
 refine AHeld.one 21 rfl (by kernel_rfl) ?_
 refine AOps.callLP [1, 2] ok56 (pick_spec (n := (⟨nm, ws, cs, ins, mems, streams, [], [], f0, d0, []⟩ : Netlist)) (w := (ws.getD (((cs.getD (((((cs.length : Nat) : Int) - 1) - (i : Int)).toNat) default).out).toNat) 0)) (k := p.d) (by show (ws).length ≤ 1048576; omega) (by omega)) rfl (.agg (.keep rfl rfl (.lend rfl rfl (lend_le (by omega)) (lend_eq (by omega)) (.lend rfl rfl (lend_le (by omega)) (lend_eq (by omega)) (.keep rfl rfl (.keep rfl rfl (.keep rfl rfl (.keep rfl rfl (.keep rfl rfl (.keep rfl rfl (.keep rfl rfl (.keep rfl rfl .nil))))))))))) rfl (.keep rfl rfl (.keep rfl rfl .nil))) (lend2 rfl (owns_map irow_frees) (lend1 rfl (owns_map Cell.row_frees))) (by decide) rfl trivial ?_
 refine AOps.nil ⟨rfl, ?_⟩
 refine AHeld.one 22 rfl (by kernel_rfl) ?_
 refine AOps.buildSlice (([pickN ws 1 p.a, pickN ws (ws.getD (((cs.getD (((((cs.length : Nat) : Int) - 1) - (i : Int)).toNat) default).out).toNat) 0) p.d] : List Int).map irow) sl22 ze3 rfl rfl rfl rfl rfl (uniform_map (s := 1) (f := irow) (fun _ => rfl)) rfl rfl rfl (by decide) ?_
 refine AOps.nil ⟨rfl, ?_⟩
 refine AHeld.one 23 rfl (by kernel_rfl) ?_
 refine .fa fl39_3 ?_
 refine AOps.nil ⟨rfl, ?_⟩
 refine AHeld.one 24 rfl (by kernel_rfl) (AOps.sh (Sh.freezeE (d := 46) (([pickN ws 1 p.a, pickN ws (ws.getD (((cs.getD (((((cs.length : Nat) : Int) - 1) - (i : Int)).toNat) default).out).toNat) 0) p.d] : List Int).map irow) rfl (by first | rfl | exact rep_map rfl) (Frees.map irow_frees)) (AOps.storeC si22 rfl rfl rfl rfl rfl rfl (Nat.le_of_ble_eq_true rfl) rfl ?_))
 refine AOps.nil ⟨rfl, ?_⟩
 refine AHeld.done (by kernel_rfl) ?_
 exact Le.mk (.c (.c (.c (.nil)))) (.c (.c (.c (.c (.nil)))))
 refine AWp.le (st' := ⟨[(0, .ptr 0 0 0 0), (2, vi (i : Int)), (6, .ptr 106 0 0 0)], [(0, .cells [.v (.string nm), .slc 1 1 0 ws.length, .slc 2 6 0 cs.length, .fz 1 (ins.map irow), .fz 5 (mems.map Arr.row), .fz 3 (streams.map Strm.row), .v (.slice none 0 0), .v (.slice none 0 0), vi f0, vi d0, .v (.slice none 0 0)]), (1, .rows 1 (ws.map irow)), (2, .rows 6 (cs.map Cell.row)), (106, .cells [vi ((cs.getD (((((cs.length : Nat) : Int) - 1) - (i : Int)).toNat) default).kind), vi ((cs.getD (((((cs.length : Nat) : Int) - 1) - (i : Int)).toNat) default).op), vi ((cs.getD (((((cs.length : Nat) : Int) - 1) - (i : Int)).toNat) default).out), .fz 1 (([pickN ws 1 p.a, pickN ws (ws.getD (((cs.getD (((((cs.length : Nat) : Int) - 1) - (i : Int)).toNat) default).out).toNat) 0) p.d] : List Int).map irow), .v (.int .u64 (((cs.getD (((((cs.length : Nat) : Int) - 1) - (i : Int)).toNat) default).num : Nat) : Int)), vi ((cs.getD (((((cs.length : Nat) : Int) - 1) - (i : Int)).toNat) default).mem)])]⟩) (Le.mk (.c (.c (.c (.nil)))) (.c (.c (.c (.c (.nil)))))) ?_
 refine AWp.regionT 14 rfl (by kernel_rfl) (AHead.val (Y.move rfl rfl) (by decide) (AHead.val (Y.nilCheck rfl rfl) (by decide) ?_))
 refine AHead.val (Y.fieldAddr fl27_2 rfl rfl) (by decide) (AHead.val (Y.load sh23 rfl rfl rfl rfl) (by decide) (AHead.val (Y.move rfl rfl) (by decide) ?_))
 refine AHead.val (Y.nilCheck rfl rfl) (by decide) (AHead.val (Y.fieldAddr fl27_2 rfl rfl) (by decide) (AHead.val (Y.load sh23 rfl rfl rfl rfl) (by decide) ?_))
 refine AHead.val (Y.len (n := cs.length) sl23 rfl rfl) (by decide) ?_
 refine AHead.val (Y.subI rfl rfl (by omega)) (by decide) ?_
 refine AHead.val (Y.move rfl rfl) (by decide) ?_
 refine AHead.val (Y.subI rfl rfl (by omega)) (by decide) ?_
 refine AHead.val (Y.loadA sh39 rfl rfl (Nat.le_of_ble_eq_true rfl) rfl rfl) (by decide) ?_
 refine AHead.val (Y.indexO (m := ((((cs.length : Nat) : Int) - 1) - (i : Int)).toNat) sl23 rfl rfl (by omega) (by omega)) (by decide) ?_
 refine AHead.nil ?_
 refine AOps.storeE ((cs.set (((((cs.length : Nat) : Int) - 1) - (i : Int)).toNat) (⟨(cs.getD (((((cs.length : Nat) : Int) - 1) - (i : Int)).toNat) default).kind, (cs.getD (((((cs.length : Nat) : Int) - 1) - (i : Int)).toNat) default).op, (cs.getD (((((cs.length : Nat) : Int) - 1) - (i : Int)).toNat) default).out, ([pickN ws 1 p.a, pickN ws (ws.getD (((cs.getD (((((cs.length : Nat) : Int) - 1) - (i : Int)).toNat) default).out).toNat) 0) p.d] : List Int), (cs.getD (((((cs.length : Nat) : Int) - 1) - (i : Int)).toNat) default).num, (cs.getD (((((cs.length : Nat) : Int) - 1) - (i : Int)).toNat) default).mem⟩ : Cell)).map Cell.row) si39 rfl rfl rfl rfl rfl rfl rfl (row_getD0 (d := default) (by omega)) (Nat.le_of_ble_eq_true rfl) (set_map0 rfl) ?_
 refine AOps.nil ?_
 exact ⟨_, _, rfl, rfl, rfl, (by unfold lateN; rw [if_pos c23])⟩
 refine AWp.skip ?_
 exact ⟨_, _, rfl, rfl, rfl, (by unfold lateN; rw [if_neg c23])⟩
end Go.Proofs.Ytligpghohcfpnaa
