/- The walk of Words. -/
import Derived.Test.YtligpghohcfpnaaNetx0
import Derived.Test.YtligpghohcfpnaaNetx1
import Derived.Test.YtligpghohcfpnaaNetx2
import Derived.Test.YtligpghohcfpnaaAWx3
import Derived.Test.YtligpghohcfpnaaAWx2
set_option linter.unusedSimpArgs false
set_option linter.unusedVariables false
set_option linter.unusedSectionVars false
set_option maxRecDepth 4000
set_option maxHeartbeats 8000000
namespace Go.Proofs.Ytligpghohcfpnaa
open Go Go.AW Go.Proofs



set_option maxRecDepth 4000 in
set_option maxHeartbeats 1000000 in
theorem words_spec {n : Netlist} (hM : VT n) : ACalls Try.prog 43 [.agg (Netlist.row n)] [] [] (fun r o => ∃ (at_ l st : List Int) (d : Int), Ord n l ∧ Arv n at_ ∧ WPath n at_ st d ∧ r = .tup [.agg [.v (.int .i64 d), .fz 1 (st.map irow)], .v (.int .i64 0)] ∧ o = []) := by
 refine ACalls.ofM Try.func43 rfl rfl rfl (n := 93) (by decide) (Nat.le_of_ble_eq_true rfl) ?_
 have hs := hM.small; have hf := hM.formed; have hnc := hM.ncells; have hnw := hM.nwidths; have hna := hM.nargs; have hnr := hM.nrets; have hns := hM.nstreams; have hac := hf.nactive; have hda := hf.ndata
 refine AWpM.seqP (AWp.region (AOps.box 101 rfl rfl rfl rfl rfl (by decide) ?_))
 refine AOps.alloc 102 ze71 rfl rfl (by decide) ?_
 refine .an ?_
 refine AOps.nil (AWpM.seqP (AWp.sh (Sh.freezeO 101 rfl rfl) ?_))
 refine AWp.region (.vl (Y.loadA sh27 rfl rfl (Nat.le_of_ble_eq_true rfl) rfl rfl) (AOps.callV ok46 (arrivals_spec (n := n) hM) rfl (.keep rfl rfl .nil) (by decide) ?_))
 rintro _ ⟨lo16, at_16, hO16, hA16, rfl, _⟩
 refine ⟨rfl, ?_⟩
 refine AOps.moveX rfl (by decide) (AOps.extractU rfl rfl (by decide) (.vl (Y.extract rfl rfl rfl) ?_))
 refine AOps.alloc 104 ze22 rfl rfl (by decide) (AOps.sh (Sh.freezeE (d := 17) (at_16.map irow) rfl (by first | rfl | exact rep_map rfl) (Frees.map irow_frees)) (AOps.storeC si22 rfl rfl rfl rfl rfl rfl (Nat.le_of_ble_eq_true rfl) rfl ?_))
 refine .an ?_
 refine AOps.nil (AWpM.seqP (AWp.seq ?_))
 refine AWp.sh (Sh.freezeO 104 rfl rfl) (AWp.region ?_)
 refine .mv ?_
 refine .vl (Y.neq rfl rfl) (AOps.nil (AWp.condF rfl ?_))
 refine AWp.skip (AWpM.seqP (AWp.region ?_))
 refine .vl (Y.build pl71 ze71 rfl rfl rfl) (AOps.alloc 106 ze71 rfl rfl (by decide) (AOps.alloc 107 ze3 rfl rfl (by decide) ?_))
 refine AOps.storeC si71 rfl rfl rfl rfl rfl rfl (Nat.le_of_ble_eq_true rfl) rfl (AOps.storeC si3 rfl rfl rfl rfl rfl rfl (Nat.le_of_ble_eq_true rfl) rfl (AOps.nil ?_))
 refine AWpM.seq (AWpM.seqP (AWp.region ?_))
 refine .vl (Y.loadA sh27 rfl rfl (Nat.le_of_ble_eq_true rfl) rfl rfl) (AOps.callP ok80 (all_spec2 (n := n)) rfl (.keep rfl rfl .nil) (by decide) rfl (AOps.nil ?_))
 refine AWpM.block ?_
 refine AWpM.rangeFunc (p1 := 26) (p2 := 27) [106, 107] (fun i => [(106, .cells [.v (.int .i64 ((foldW at_16 i).1)), .v (.slice none 0 0)]), (107, .cells [.v (.int .i64 ((foldW at_16 i).2))])]) (fun x => x ∈ allL n) [(4, .fp [.fz 1 (at_16.map irow)] 0), (6, .ptr 106 0 0 0), (7, .ptr 107 0 0 0)] rfl ok111 (all_it (n := n) hM) rfl (by decide) (by decide) (by decide) (.c (.c (.c (.nil)))) rfl (.c (.c (.nil))) (fun _ => rfl) (fun i o ob h => by exact look_all2 (p := RObj [106, 107]) (by exact RObj.cells (by exact ⟨trivial, trivial, trivial⟩) rfl) (by exact RObj.cells (by exact ⟨trivial, trivial⟩) rfl) h) (fun l i x hgi hgx => ?_) (fun y h => h) ?_
 have hin := allL_in hf hgx; have hrn := hA16.rng hM hO16 hin.1; have hi1 := hin.1; have hal := hA16.len; unfold In at hi1
 refine AWpR.seq (AWpR.region ?_)
 refine .an ?_
 refine AOps.nil (AWpR.region ?_)
 refine .an ?_
 refine AOps.nil (AWpR.block (AWpR.seq ?_))
 refine AWpR.regionHeld [106, 107] [106, 107] rfl (AFirst.load 0 rfl (by kernel_rfl) sh3 rfl rfl rfl rfl rfl (by decide) (AFirst.blind 1 rfl (by kernel_rfl) (Blind.lss rfl rfl) (by decide) ?_))
 refine AFirst.blind 2 rfl (by kernel_rfl) (Blind.move rfl rfl) (by decide) ?_
 refine AFirst.splitD (d := 30) rfl (fun c30 => ?_) (fun c30 => ?_)
 refine AFirst.skipOp 3 rfl (by kernel_rfl) rfl (by decide) (by decide) rfl rfl (AFirst.skipOp 4 rfl (by kernel_rfl) rfl (by decide) (by decide) rfl rfl (AFirst.skipOp 5 rfl (by kernel_rfl) rfl (by decide) (by decide) rfl rfl ?_))
 refine AFirst.skipOp 6 rfl (by kernel_rfl) rfl (by decide) (by decide) rfl rfl (AFirst.skipOp 7 rfl (by kernel_rfl) rfl (by decide) (by decide) rfl rfl (AFirst.skipOp 8 rfl (by kernel_rfl) rfl (by decide) (by decide) rfl rfl ?_))
 refine AFirst.skipOp 9 rfl (by kernel_rfl) rfl (by decide) (by decide) rfl rfl (AFirst.skipOp 10 rfl (by kernel_rfl) rfl (by decide) (by decide) rfl rfl (AFirst.skipOp 11 rfl (by kernel_rfl) rfl (by decide) (by decide) rfl rfl ?_))
 refine AFirst.blind 12 rfl (by kernel_rfl) (Blind.pick rfl rfl rfl) (by decide) (AFirst.goL rfl rfl (namesIn.cells rfl rfl rfl (namesIn.cells rfl rfl rfl namesIn.nil)) (AHeld.done (by kernel_rfl) ?_))
 refine AWpR.condT rfl (AWpR.region ?_)
 refine .ld sh22 ?_
 refine .mv ?_
 refine .vl (Y.indexF (m := (x.1).toNat) sl22 rfl rfl (by omega) (row_getD (d := 0) (by omega))) ?_
 refine .ld sh3 ?_
 refine .mv ?_
 refine .vl (Y.addI rfl rfl (by omega)) ?_
 refine .mv ?_
 refine .fa fl71_0 ?_
 refine AOps.storeC si3 rfl rfl rfl rfl rfl rfl (Nat.le_of_ble_eq_true rfl) rfl (AOps.storeC si3 rfl rfl rfl rfl rfl rfl (Nat.le_of_ble_eq_true rfl) rfl (AOps.nil ?_))
 have hs : foldW at_16 (i ++ [x]) = ((at_16.getD ((x.1).toNat) 0) + x.2, x.1) := by (rw [foldW_snoc]; unfold stW; rw [if_pos (by omega)])
 refine ⟨rfl, ?_⟩
 show SubL _ ([(106, .cells [.v (.int .i64 ((foldW at_16 (i ++ [x])).1)), .v (.slice none 0 0)]), (107, .cells [.v (.int .i64 ((foldW at_16 (i ++ [x])).2))])] : List (Nat × Go.AW.Obj))
 rw [hs]; exact .c (.c .nil)
 refine AFirst.loadRun 3 rfl (by kernel_rfl) rfl (by decide) rfl sh22 rfl rfl rfl rfl rfl (by decide) (AFirst.blindRun 4 rfl (by kernel_rfl) rfl (by decide) rfl (Blind.move rfl rfl) (by decide) ?_)
 refine AFirst.blindRun 5 rfl (by kernel_rfl) rfl (by decide) rfl (Blind.indexF (m := (x.1).toNat) sl22 rfl rfl (by omega) (row_getD (d := 0) (by omega))) (by decide) ?_
 refine AFirst.loadRun 6 rfl (by kernel_rfl) rfl (by decide) rfl sh3 rfl rfl rfl rfl rfl (by decide) (AFirst.blindRun 7 rfl (by kernel_rfl) rfl (by decide) rfl (Blind.move rfl rfl) (by decide) ?_)
 refine AFirst.blindRun 8 rfl (by kernel_rfl) rfl (by decide) rfl (Blind.addI rfl rfl (by omega)) (by decide) ?_
 refine AFirst.blindRun 9 rfl (by kernel_rfl) rfl (by decide) rfl (Blind.fieldAddr fl71_0 rfl rfl) (by decide) (AFirst.loadRun 10 rfl (by kernel_rfl) rfl (by decide) rfl sh3 rfl rfl rfl rfl rfl (by decide) (AFirst.blindRun 11 rfl (by kernel_rfl) rfl (by decide) rfl (Blind.gtr rfl rfl) (by decide) ?_))
 refine AFirst.blind 12 rfl (by kernel_rfl) (Blind.pick rfl rfl rfl) (by decide) (AFirst.goL rfl rfl (namesIn.cells rfl rfl rfl (namesIn.cells rfl rfl rfl namesIn.nil)) (AHeld.done (by kernel_rfl) ?_))
 refine AWpR.condD rfl (fun c40 => ?_) (fun c40 => ?_)
 refine AWpR.region ?_
 refine .ld sh22 ?_
 refine .mv ?_
 refine .vl (Y.indexF (m := (x.1).toNat) sl22 rfl rfl (by omega) (row_getD (d := 0) (by omega))) ?_
 refine .ld sh3 ?_
 refine .mv ?_
 refine .vl (Y.addI rfl rfl (by omega)) ?_
 refine .mv ?_
 refine .fa fl71_0 ?_
 refine AOps.storeC si3 rfl rfl rfl rfl rfl rfl (Nat.le_of_ble_eq_true rfl) rfl (AOps.storeC si3 rfl rfl rfl rfl rfl rfl (Nat.le_of_ble_eq_true rfl) rfl (AOps.nil ?_))
 have hs : foldW at_16 (i ++ [x]) = ((at_16.getD ((x.1).toNat) 0) + x.2, x.1) := by (rw [foldW_snoc]; unfold stW; rw [if_pos (by omega)])
 refine ⟨rfl, ?_⟩
 show SubL _ ([(106, .cells [.v (.int .i64 ((foldW at_16 (i ++ [x])).1)), .v (.slice none 0 0)]), (107, .cells [.v (.int .i64 ((foldW at_16 (i ++ [x])).2))])] : List (Nat × Go.AW.Obj))
 rw [hs]; exact .c (.c .nil)
 refine AWpR.skip ?_
 have hs : foldW at_16 (i ++ [x]) = foldW at_16 i := by (rw [foldW_snoc]; unfold stW; rw [if_neg (by omega)])
 refine ⟨rfl, ?_⟩
 show SubL _ ([(106, .cells [.v (.int .i64 ((foldW at_16 (i ++ [x])).1)), .v (.slice none 0 0)]), (107, .cells [.v (.int .i64 ((foldW at_16 (i ++ [x])).2))])] : List (Nat × Go.AW.Obj))
 rw [hs]; exact .c (.c .nil)
 refine AWpM.of (AWp.seq ?_)
 have hW := foldW_latest (at_ := at_16) (L := allL n) (fun e h => (allL_in hf h).1.1)
 obtain ⟨e9, he9, hs9⟩ := hW.some (List.ne_nil_of_mem (done_end hf))
 have h9 := allL_in hf he9; have h91 : (foldW at_16 (allL n)).2 = e9.1 := by rw [hs9]
 have hal := hA16.len
 refine AWp.region (.vl (Y.loadA sh27 rfl rfl (Nat.le_of_ble_eq_true rfl) rfl rfl) (AOps.callV ok81 (driversC_spec (n := n) hM) rfl (.keep rfl rfl .nil) (by decide) ?_))
 rintro _ ⟨cs50, hcs50, rfl, _⟩
 refine ⟨rfl, ?_⟩
 refine AOps.assignX rfl (by decide) (AOps.sh (Sh.freezeE (d := 10) (cs50.map Cell.row) rfl (by first | rfl | exact rep_map rfl) (Frees.map Cell.row_frees)) (AOps.nil ?_))
 refine AWp.join1 (fun (n201_j22 : List Int) => ⟨[(2, .ptr 102 0 0 0), (6, .ptr 106 0 0 0)], [(102, .cells [.v (.int .i64 0), .v (.slice none 0 0)]), (106, .cells [.v (.int .i64 ((foldW at_16 (allL n)).1)), .slc 301 1 0 n201_j22.length]), (301, .rows 1 (n201_j22.map irow))]⟩) (fun (n201_j22 : List Int) => PD n at_16 e9.1 n201_j22) ?_ (fun n201_j22 hJ22 => ?_)
 refine AWp.block (AWp.sh (Sh.nilCell 106 301 1 1 rfl rfl rfl rfl (by decide)) ?_)
 refine AWp.loop2 (fun (last7_0_11 : Int) (n201_11 : List Int) => ⟨[(2, .ptr 102 0 0 0), (4, .fp [.fz 1 (at_16.map irow)] 0), (6, .ptr 106 0 0 0), (7, .ptr 107 0 0 0), (10, .fz 6 (cs50.map Cell.row))], [(102, .cells [.v (.int .i64 0), .v (.slice none 0 0)]), (106, .cells [.v (.int .i64 ((foldW at_16 (allL n)).1)), .slc 301 1 0 n201_11.length]), (107, .cells [.v (.int .i64 last7_0_11)]), (301, .rows 1 (n201_11.map irow))]⟩) (fun (last7_0_11 : Int) (n201_11 : List Int) => (PP n lo16 at_16 e9.1 n201_11 last7_0_11)) (fun (last7_0_11 : Int) (n201_11 : List Int) => n.cells.length + 1 - n201_11.length) ((foldW at_16 (allL n)).2) ([] : List Int) (by (rw [h91]; exact PP.init hf hO16 h9.1)) (Le.mk (.c (.c (.c (.c (.c (.nil)))))) (.c (.cons (look_cells rfl (by first | rfl | (simp only [List.cons.injEq, X.v.injEq, X.slc.injEq, Value.int.injEq, and_true, true_and]; omega) | simp_all)) (.cons (look_cells rfl (by first | rfl | (simp only [List.cons.injEq, X.v.injEq, X.slc.injEq, Value.int.injEq, and_true, true_and]; omega) | simp_all)) (.c (.nil)))))) (fun last7_0_11 n201_11 hI11 => ?_)
 have hP := hI11
 refine AWp.seq (AWp.sr ?_)
 refine .ld sh3 ?_
 refine .vl (Y.geq rfl rfl) (AOps.nil ?_)
 refine AWp.condD rfl (fun c52 => ?_) (fun c52 => ?_)
 refine AWp.skip (AWp.block (AWp.seq ?_))
 have h12 := hP.lt hf (by assumption); have h12i := hP.in_ (by assumption); unfold In at h12i; have h12c := hcs50.len; have h12a := hP.args hf hcs50 (by assumption); have hcl := hP.alen hM hcs50 (by assumption)
 refine AWp.region ?_
 refine .fa fl71_1 ?_
 refine .ld sh22 ?_
 refine .ld sh3 ?_
 refine AOps.buildSlice (([last7_0_11] : List Int).map irow) sl22 ze3 rfl rfl rfl rfl rfl (uniform_map (s := 1) (f := irow) (fun _ => rfl)) rfl rfl rfl (by decide) ?_
 refine AOps.appendE ((n201_11 ++ ([last7_0_11] : List Int)).map irow) (n201_11 ++ ([last7_0_11] : List Int)).length sl22 ze3 rfl rfl rfl rfl (app_le (by first | omega | simp [-List.getD_eq_getElem?_getD] <;> omega)) (app_map (by first | omega | simp [-List.getD_eq_getElem?_getD] <;> omega)) (app_n (by first | omega | simp [-List.getD_eq_getElem?_getD] <;> omega)) (by first | omega | simp [-List.getD_eq_getElem?_getD] <;> omega) (by first | omega | simp [-List.getD_eq_getElem?_getD] <;> omega) (by decide) (by decide) ?_
 refine .fa fl71_1 ?_
 refine AOps.storeC si22 rfl rfl rfl rfl rfl rfl (Nat.le_of_ble_eq_true rfl) rfl (AOps.nil (AWp.sr ?_))
 refine .mv ?_
 refine .ld sh3 ?_
 refine .vl (Y.indexF (m := (last7_0_11).toNat) sl23 rfl rfl (by omega) (row_getD (d := default) (by omega))) ?_
 refine .vl (Y.loadA sh39 rfl rfl (Nat.le_of_ble_eq_true rfl) rfl rfl) (AOps.alloc 111 ze39 rfl rfl (by decide) (AOps.storeC si39 rfl rfl rfl rfl rfl rfl (Nat.le_of_ble_eq_true rfl) rfl ?_))
 refine AOps.nil (AWp.sr (AOps.storeC si3 rfl rfl rfl rfl rfl rfl (Nat.le_of_ble_eq_true rfl) rfl ?_))
 refine AOps.nil (AWp.seq (AWp.sr ?_))
 refine .fa fl39_0 ?_
 refine .ld sh3 ?_
 refine AOps.callP ok21 (comb_spec (w := ((cs50.getD ((last7_0_11).toNat) default).kind))) rfl (.keep rfl rfl .nil) (by decide) rfl (.vl (Y.not rfl) (AOps.nil ?_))
 refine AWp.cond rfl (fun c66 => ?_) (fun c66 => ?_)
 replace c66 : ¬ (Comb ((cs50.getD ((last7_0_11).toNat) default).kind)) := by simpa using c66
 refine AWp.exit ?_
 exact ⟨n201_11 ++ ([last7_0_11] : List Int), by first | exact hP.done (by omega) | exact hP.stop hf hA16 hcs50 (by assumption) (by assumption), Le.mk (.c (.c (.nil))) (.c (.cons (look_cells rfl (by first | rfl | (simp only [List.cons.injEq, X.v.injEq, X.slc.injEq, Value.int.injEq, and_true, true_and]; omega) | simp_all)) (.c (.nil))))⟩
 replace c66 : Comb ((cs50.getD ((last7_0_11).toNat) default).kind) := by simpa using c66
 refine AWp.skip (AWp.sr ?_)
 refine .fa fl39_3 ?_
 refine .ld sh22 ?_
 refine .vl (Y.len (n := ((cs50.getD ((last7_0_11).toNat) default).args).length) sl22 rfl (congrArg some (List.length_map ..))) ?_
 refine .mv ?_
 refine AOps.nil (AWp.block ?_)
 refine AWp.loop2 (fun (n70_17 : Nat) (last7_0_17 : Int) => ⟨[(2, .ptr 102 0 0 0), (4, .fp [.fz 1 (at_16.map irow)] 0), (6, .ptr 106 0 0 0), (7, .ptr 107 0 0 0), (10, .fz 6 (cs50.map Cell.row)), (68, .fz 1 (((cs50.getD ((last7_0_11).toNat) default).args).map irow)), (69, .v (.int .i64 ((((cs50.getD ((last7_0_11).toNat) default).args).length : Nat) : Int))), (70, .v (.int .i64 (n70_17 : Int)))], [(102, .cells [.v (.int .i64 0), .v (.slice none 0 0)]), (106, .cells [.v (.int .i64 ((foldW at_16 (allL n)).1)), .slc 301 1 0 ((n201_11 ++ ([last7_0_11] : List Int)).length)]), (107, .cells [.v (.int .i64 last7_0_17)]), (301, .rows 1 ((n201_11 ++ ([last7_0_11] : List Int)).map irow))]⟩) (fun (n70_17 : Nat) (last7_0_17 : Int) => ((n70_17 : Int) ≤ ((((cs50.getD ((last7_0_11).toNat) default).args).length : Nat) : Int)) ∧ (Best at_16 ((cs50.getD last7_0_11.toNat default).args.take n70_17) last7_0_17)) (fun (n70_17 : Nat) (last7_0_17 : Int) => (((((cs50.getD ((last7_0_11).toNat) default).args).length : Nat) : Int) - (n70_17 : Int)).toNat) 0 (-1) (⟨by omega, Best.nil⟩) (Le.mk (.c (.c (.c (.c (.c (.c (.c (.cons (look_int rfl (by first | rfl | omega)) (.nil))))))))) (.c (.c (.cons (look_cells rfl (by first | rfl | (simp only [List.cons.injEq, X.v.injEq, X.slc.injEq, Value.int.injEq, and_true, true_and]; omega) | simp_all)) (.c (.nil)))))) (fun n70_17 last7_0_17 hI17 => ?_)
 obtain ⟨hb17, hB⟩ := hI17
 refine AWp.sr (.vl (Y.lss rfl rfl) (AOps.nil ?_))
 refine AWp.seq ?_
 refine AWp.condD rfl (fun c71 => ?_) (fun c71 => ?_)
 refine AWp.skip ?_
 refine AWp.join1 (fun (last7_0_j21 : Int) => ⟨[(2, .ptr 102 0 0 0), (4, .fp [.fz 1 (at_16.map irow)] 0), (6, .ptr 106 0 0 0), (7, .ptr 107 0 0 0), (10, .fz 6 (cs50.map Cell.row)), (68, .fz 1 (((cs50.getD ((last7_0_11).toNat) default).args).map irow)), (69, .v (.int .i64 ((((cs50.getD ((last7_0_11).toNat) default).args).length : Nat) : Int))), (70, .v (.int .i64 (n70_17 : Int)))], [(102, .cells [.v (.int .i64 0), .v (.slice none 0 0)]), (106, .cells [.v (.int .i64 ((foldW at_16 (allL n)).1)), .slc 301 1 0 ((n201_11 ++ ([last7_0_11] : List Int)).length)]), (107, .cells [.v (.int .i64 last7_0_j21)]), (301, .rows 1 ((n201_11 ++ ([last7_0_11] : List Int)).map irow))]⟩) (fun (last7_0_j21 : Int) => Best at_16 ((cs50.getD last7_0_11.toNat default).args.take (n70_17 + 1)) last7_0_j21) ?_ (fun last7_0_j21 hJ21 => ?_)
 refine AWp.block (AWp.seq ?_)
 have h18 := h12a ((cs50.getD last7_0_11.toNat default).args.getD n70_17 0) (getD_mem (by omega)); unfold In at h18; have h19 : last7_0_17 < 0 ∨ (0 ≤ last7_0_17 ∧ last7_0_17 < (n.widths.length : Int)) := by (rcases Int.lt_or_le last7_0_17 0 with h | h; exact .inl h; exact .inr (h12a _ (hB.in_ h)))
 refine AWp.region ?_
 refine .vl (Y.indexF (m := n70_17) sl22 rfl rfl (by first | rfl | omega) (row_getD (d := 0) (by omega))) ?_
 refine .ld sh3 ?_
 refine .an ?_
 refine AOps.nil (AWp.seq (AWp.regionS rfl (by kernel_rfl) ?_))
 refine AHead.val (Y.load sh3 rfl rfl rfl rfl) (by decide) (AHead.val (Y.lss rfl rfl) (by decide) (AHead.val (Y.move rfl rfl) (by decide) ?_))
 refine AHead.splitD (d := 76) rfl (fun c76 => ?_) (fun c76 => ?_)
 refine AHead.guardSkipV (d := 76) rfl (by decide) (by decide) rfl rfl (AHead.guardSkipV (d := 76) rfl (by decide) (by decide) rfl rfl (AHead.guardSkipV (d := 76) rfl (by decide) (by decide) rfl rfl ?_))
 refine AHead.guardSkipV (d := 76) rfl (by decide) (by decide) rfl rfl (AHead.guardSkipV (d := 76) rfl (by decide) (by decide) rfl rfl (AHead.guardSkipV (d := 76) rfl (by decide) (by decide) rfl rfl ?_))
 refine AHead.guardSkipV (d := 76) rfl (by decide) (by decide) rfl rfl (AHead.guardSkipV (d := 76) rfl (by decide) (by decide) rfl rfl (AHead.guardSkipV (d := 76) rfl (by decide) (by decide) rfl rfl ?_))
 refine AHead.val (Y.pick rfl rfl rfl) (by decide) (AHead.nil (AWp.condT rfl ?_))
 refine AWp.region ?_
 refine .mv ?_
 refine AOps.storeC si3 rfl rfl rfl rfl rfl rfl (Nat.le_of_ble_eq_true rfl) rfl (AOps.nil ?_)
 exact ⟨((cs50.getD ((last7_0_11).toNat) default).args).getD n70_17 0, by first | exact hB.step (by omega) (fun x hx => (h12a x hx).1) (by omega) | exact hB.keep (by omega) (by omega), Le.mk (.c (.c (.c (.c (.c (.c (.c (.c (.nil))))))))) (.c (.c (.cons (look_cells rfl (by first | rfl | (simp only [List.cons.injEq, X.v.injEq, X.slc.injEq, Value.int.injEq, and_true, true_and]; omega) | simp_all)) (.c (.nil)))))⟩
 refine AHead.guardRun (d := 76) rfl (by decide) rfl (AHead.val (Y.load sh22 rfl rfl rfl rfl) (by decide) (AHead.guardRun (d := 76) rfl (by decide) rfl ?_))
 refine AHead.val (Y.move rfl rfl) (by decide) (AHead.guardRun (d := 76) rfl (by decide) rfl ?_)
 refine AHead.val (Y.indexF (m := (((cs50.getD ((last7_0_11).toNat) default).args).getD n70_17 0).toNat) sl22 rfl rfl (by omega) (row_getD (d := 0) (by omega))) (by decide) ?_
 refine AHead.guardRun (d := 76) rfl (by decide) rfl (AHead.val (Y.load sh3 rfl rfl rfl rfl) (by decide) (AHead.guardRun (d := 76) rfl (by decide) rfl ?_))
 refine AHead.val (Y.load sh22 rfl rfl rfl rfl) (by decide) (AHead.guardRun (d := 76) rfl (by decide) rfl (AHead.val (Y.load sh3 rfl rfl rfl rfl) (by decide) ?_))
 refine AHead.guardRun (d := 76) rfl (by decide) rfl ?_
 refine AHead.val (Y.indexF (m := (last7_0_17).toNat) sl22 rfl rfl (by omega) (row_getD (d := 0) (by omega))) (by decide) ?_
 refine AHead.guardRun (d := 76) rfl (by decide) rfl (AHead.val (Y.load sh3 rfl rfl rfl rfl) (by decide) (AHead.guardRun (d := 76) rfl (by decide) rfl ?_))
 refine AHead.val (Y.gtr rfl rfl) (by decide) (AHead.val (Y.pick rfl rfl rfl) (by decide) (AHead.nil ?_))
 refine AWp.condD rfl (fun c86 => ?_) (fun c86 => ?_)
 refine AWp.region ?_
 refine .mv ?_
 refine AOps.storeC si3 rfl rfl rfl rfl rfl rfl (Nat.le_of_ble_eq_true rfl) rfl (AOps.nil ?_)
 exact ⟨((cs50.getD ((last7_0_11).toNat) default).args).getD n70_17 0, by first | exact hB.step (by omega) (fun x hx => (h12a x hx).1) (by omega) | exact hB.keep (by omega) (by omega), Le.mk (.c (.c (.c (.c (.c (.c (.c (.c (.nil))))))))) (.c (.c (.cons (look_cells rfl (by first | rfl | (simp only [List.cons.injEq, X.v.injEq, X.slc.injEq, Value.int.injEq, and_true, true_and]; omega) | simp_all)) (.c (.nil)))))⟩
 refine AWp.skip ?_
 exact ⟨last7_0_17, by first | exact hB.step (by omega) (fun x hx => (h12a x hx).1) (by omega) | exact hB.keep (by omega) (by omega), Le.mk (.c (.c (.c (.c (.c (.c (.c (.c (.nil))))))))) (.c (.c (.cons (look_cells rfl (by first | rfl | (simp only [List.cons.injEq, X.v.injEq, X.slc.injEq, Value.int.injEq, and_true, true_and]; omega) | simp_all)) (.c (.nil)))))⟩
 refine AWp.region ?_
 refine .vl (Y.addI rfl rfl (by omega)) ?_
 refine .mv ?_
 refine AOps.nil ?_
 exact ⟨n70_17 + 1, last7_0_j21, ⟨by omega, hJ21⟩, by omega, Le.mk (.c (.c (.c (.c (.c (.c (.c (.cons (look_int rfl (by first | rfl | omega)) (.nil))))))))) (.c (.c (.cons (look_cells rfl (by first | rfl | (simp only [List.cons.injEq, X.v.injEq, X.slc.injEq, Value.int.injEq, and_true, true_and]; omega) | simp_all)) (.c (.nil)))))⟩
 refine AWp.exit ?_
 exact ⟨last7_0_17, n201_11 ++ ([last7_0_11] : List Int), hP.go hf hO16 hA16 (fun w hw => (hA16.rng hM hO16 hw).1) hcs50 (by assumption) (by assumption) (k := n70_17) (by omega) hB, by (simp only [List.length_append, List.length_cons, List.length_nil]; omega), Le.mk (.c (.c (.c (.c (.c (.nil)))))) (.c (.cons (look_cells rfl (by first | rfl | (simp only [List.cons.injEq, X.v.injEq, X.slc.injEq, Value.int.injEq, and_true, true_and]; omega) | simp_all)) (.cons (look_cells rfl (by first | rfl | (simp only [List.cons.injEq, X.v.injEq, X.slc.injEq, Value.int.injEq, and_true, true_and]; omega) | simp_all)) (.c (.nil)))))⟩
 refine AWp.exit ?_
 exact ⟨n201_11, by first | exact hP.done (by omega) | exact hP.stop hf hA16 hcs50 (by assumption) (by assumption), Le.mk (.c (.c (.nil))) (.c (.cons (look_cells rfl (by first | rfl | (simp only [List.cons.injEq, X.v.injEq, X.slc.injEq, Value.int.injEq, and_true, true_and]; omega) | simp_all)) (.c (.nil))))⟩
 refine AWp.seq ?_
 have h22 := hJ22.len
 refine AWp.region ?_
 refine .fa fl71_1 ?_
 refine .ld sh22 ?_
 refine AOps.callO [301] [] ok82 (reverse_spec (l := n201_j22) (by omega)) rfl (.named rfl rfl .nil) ⟨rfl, trivial⟩ rfl (by decide) (fun _ h => by cases h) (fun _ h => by cases h) (by decide) (by decide) ?_
 rintro r objs' ⟨rfl, rfl⟩ _
 refine ⟨⟨rfl, (by intro ob hob; simp only [List.mem_cons, List.not_mem_nil, or_false] at hob; rcases hob with rfl; rfl), .inl rfl⟩, ?_⟩
 refine AOps.nil (AWp.seq ?_)
 refine AWp.sh (Sh.fzObj 106 301 1 rfl rfl rfl (len_map (by first | omega | simp [-List.getD_eq_getElem?_getD] <;> omega)) (Frees.map irow_frees) (by decide) rfl rfl rfl) ?_
 refine AWp.region (.vl (Y.loadA sh71 rfl rfl (Nat.le_of_ble_eq_true rfl) rfl rfl) (AOps.storeC si71 rfl rfl rfl rfl rfl rfl (Nat.le_of_ble_eq_true rfl) rfl ?_))
 refine .an ?_
 refine AOps.nil (AWp.ret ?_)
 exact ⟨_, _, rfl, rfl, at_16, lo16, _, _, hO16, hA16, hJ22.rev (a := e9.2) he9 (by rw [hs9]) hW.max, rfl, rfl⟩

end Go.Proofs.Ytligpghohcfpnaa
/- The walk of the example. -/
namespace Go.Proofs.Ytligpghohcfpnaa
open Go Go.AW Go.Proofs



set_option maxRecDepth 4000 in
set_option maxHeartbeats 1000000 in
theorem awake48_spec  : ACalls Try.prog 40 [] [] [] (fun r o => r = .v (.bool true) ∧ o = []) := by
 refine ACalls.of Try.func40 rfl rfl rfl (n := 28) (by decide) (Nat.zero_le _) (AWp.sr ?_)
 refine .an ?_
 refine AOps.nil (AWp.sr ?_)
 refine AOps.buildSlice (([1, 1] : List Int).map irow) sl22 ze3 rfl rfl rfl rfl rfl (uniform_map (s := 1) (f := irow) (fun _ => rfl)) rfl rfl rfl (by decide) ?_
 refine AOps.buildSlice (([1, 0] : List Int).map irow) sl22 ze3 rfl rfl rfl rfl rfl (uniform_map (s := 1) (f := irow) (fun _ => rfl)) rfl rfl rfl (by decide) ?_
 refine AOps.sh (Sh.freezeE (d := 5) (([1, 0] : List Int).map irow) rfl (by first | rfl | exact rep_map rfl) (Frees.map irow_frees)) (.vl (Y.build pl39 ze39 rfl rfl rfl) (.vl (Y.build pl39 ze39 rfl rfl rfl) ?_))
 refine AOps.sh (Sh.fzA (d := 7) 1 3 rfl rfl) ?_
 refine AOps.buildSlice (([(⟨4, 0, 0, ([1, 0] : List Int), 0, 0⟩ : Cell), (⟨1, 0, 1, ([] : List Int), 0, 0⟩ : Cell)] : List Cell).map Cell.row) sl23 ze39 rfl rfl rfl rfl rfl (uniform_map (s := 6) (f := Cell.row) (fun _ => rfl)) rfl rfl rfl (by decide) ?_
 refine AOps.sh (Sh.freezeE (d := 8) (([(⟨4, 0, 0, ([1, 0] : List Int), 0, 0⟩ : Cell), (⟨1, 0, 1, ([] : List Int), 0, 0⟩ : Cell)] : List Cell).map Cell.row) rfl (by first | rfl | exact rep_map rfl) (Frees.map Cell.row_frees)) (AOps.sh (Sh.freezeE (d := 4) (([1, 1] : List Int).map irow) rfl (by first | rfl | exact rep_map rfl) (Frees.map irow_frees)) (.vl (Y.build pl27 ze27 rfl rfl rfl) ?_))
 refine AOps.sh (Sh.fzA (d := 9) 1 3 rfl rfl) (AOps.sh (Sh.fzA (d := 9) 5 4 rfl rfl) (AOps.sh (Sh.fzA (d := 9) 3 5 rfl rfl) ?_))
 refine AOps.sh (Sh.fzA (d := 9) 1 6 rfl rfl) (AOps.sh (Sh.fzA (d := 9) 1 7 rfl rfl) (AOps.sh (Sh.fzA (d := 9) 1 10 rfl rfl) ?_))
 refine AOps.alloc 101 ze27 rfl rfl (by decide) (AOps.storeC si27 rfl rfl rfl rfl rfl rfl (Nat.le_of_ble_eq_true rfl) rfl (AOps.nil ?_))
 refine AWp.sr (.vl (Y.loadA sh27 rfl rfl (Nat.le_of_ble_eq_true rfl) rfl rfl) ?_)
 refine AOps.callV ok43 (words_spec (n := (⟨ByteArray.empty, ([1, 1] : List Int), ([(⟨4, 0, 0, ([1, 0] : List Int), 0, 0⟩ : Cell), (⟨1, 0, 1, ([] : List Int), 0, 0⟩ : Cell)] : List Cell), ([] : List Int), ([] : List Arr), ([] : List Strm), ([] : List Int), ([] : List Int), 1, 0, ([] : List Int)⟩ : Netlist)) nA_vt) rfl (.keep rfl rfl .nil) (by decide) ?_
 rintro _ ⟨at_12, lo12, st12, dl12, hO12, hA12, hPt12, rfl, _⟩
 refine ⟨rfl, ?_⟩
 refine .mv ?_
 refine .vl (Y.extract rfl rfl rfl) (.vl (Y.extract rfl rfl rfl) (AOps.alloc 102 ze71 rfl rfl (by decide) ?_))
 refine AOps.storeC si71 rfl rfl rfl rfl rfl rfl (Nat.le_of_ble_eq_true rfl) rfl ?_
 refine .an ?_
 refine AOps.nil (AWp.seq ?_)
 have hp := nA_path hA12 hPt12
 refine AWp.region ?_
 refine .mv ?_
 refine .vl (Y.eql rfl rfl) ?_
 refine .mv ?_
 refine .gw 17 (Y.fieldAddr fl71_0 rfl rfl) (.gw 17 (Y.load sh3 rfl rfl rfl rfl) (.gw 17 (Y.eql rfl rfl) ?_))
 refine .pk ?_
 refine .mv ?_
 refine AOps.splitD (d := 22) rfl (fun c22 => ?_) (fun c22 => ?_)
 refine .gw 22 (Y.fieldAddr fl71_1 rfl rfl) (.gw 22 (Y.load sh22 rfl rfl rfl rfl) (.gw 22 (Y.len (n := st12.length) sl22 rfl (congrArg some (List.length_map ..))) ?_))
 refine .gw 22 (Y.eql rfl rfl) ?_
 refine .pk ?_
 refine .an ?_
 refine AOps.nil (AWp.ret ?_)
 exact .rb rfl (decide_eq_true (by omega))
 refine .gz 22 (.gz 22 (.gz 22 ?_))
 refine .gz 22 ?_
 refine .pk ?_
 refine .an ?_
 refine AOps.nil (AWp.ret ?_)
 exact .rb rfl (absurd hp.1 c22)

end Go.Proofs.Ytligpghohcfpnaa
/- Walks through equality. -/
namespace Go.Proofs.Ytligpghohcfpnaa
open Go Go.AW Go.Proofs
end Go.Proofs.Ytligpghohcfpnaa
/- Walks through what plans are made with. -/
namespace Go.Proofs.Ytligpghohcfpnaa
open Go Go.AW Go.Proofs
theorem width_spec {k : Nat} : ACalls Try.prog 53 [.v (.int .u8 (k : Int))] [] [] (fun r o => r = (vi (widthN k)) ∧ o = []) := by
 refine ACalls.of Try.func53 rfl rfl rfl (n := 8) (by decide) (nbE rfl) (.sr ?_)
 refine .an ?_
 refine .nil (.sr ?_)
 refine .buildSlice (([1, 2, 4, 7, 8, 13, 33, 64] : List Int).map irow) sl22 ze3 rfl rfl rfl rfl rfl (uniform_map (s := 1) (f := irow) (fun _ => rfl)) rfl rfl rfl (by decide) ?_
 refine .mv ?_
 refine .vl (Y.remI rfl rfl (by first | omega | simp [-List.getD_eq_getElem?_getD] <;> omega)) ?_
 refine .sh (Sh.freezeE (d := 3) (([1, 2, 4, 7, 8, 13, 33, 64] : List Int).map irow) rfl (by first | rfl | exact rep_map rfl) (Frees.map irow_frees)) ?_
 refine .vl (Y.indexF (m := k % 8) sl22 rfl rfl (by first | rfl | omega) (row_getD (d := 0) (by first | omega | simp [-List.getD_eq_getElem?_getD] <;> omega))) ?_
 refine .ld sh3 ?_
 refine .an ?_
 refine .nil (.ret ?_)
 exact .ri rfl (rfl)
theorem pick_spec {n : Netlist} {w : Int} {k : Nat} (hn : n.widths.length ≤ 1048576) (hk : k < 256) : ACalls Try.prog 56 [.agg (Netlist.prow n), vi w, .v (.int .u8 (k : Int))] [] [] (fun r o => r = (vi (pickN n.widths w k)) ∧ o = []) := by
 refine ACalls.of Try.func56 rfl rfl rfl (n := 38) (by decide) (nbE rfl) ?_
 have hpl0 := pickL_len n.widths w
 refine .sr (.box 103 rfl rfl rfl rfl rfl (by decide) ?_)
 refine .an ?_
 refine .nil (.sr ?_)
 refine .an ?_
 refine .sh (Sh.nil (d := 7) 107 1 rfl (by decide)) (.nil (.seq ?_))
 refine .sr ?_
 refine .an ?_
 refine .nil (.block ?_)
 refine .loop2 (fun (i_3 : Nat) (l_3 : List Int) => ⟨[(1, vi w), (2, .v (.int .u8 (k : Int))), (3, .ptr 103 0 0 0), (7, .slc 107 1 0 l_3.length), (8, vi (i_3 : Int))], [(103, .cells (Netlist.prow n)), (107, .rows 1 (l_3.map irow))]⟩) (fun (i_3 : Nat) (l_3 : List Int) => ((i_3 : Int) ≤ ((n.widths.length : Nat) : Int)) ∧ (l_3 = pickL n.widths w i_3)) (fun (i_3 : Nat) (l_3 : List Int) => (((n.widths.length : Nat) : Int) - (i_3 : Int)).toNat) 0 ([] : List Int) (⟨by first | omega | (simp [-List.getD_eq_getElem?_getD]; done) | (simp [-List.getD_eq_getElem?_getD]; omega), rfl⟩) (Le.mk (.c (.c (.c (.cons (look_slc rfl (by first | omega | simp [-List.getD_eq_getElem?_getD] <;> omega)) (.cons (look_int rfl (by first | rfl | omega)) (.nil)))))) (.c (.c (.nil)))) (fun i_3 l_3 hI3 => ?_)
 obtain ⟨hb3, hl⟩ := hI3
 refine .seq (.sr ?_)
 refine .mv ?_
 refine .fa fl27_1 ?_
 refine .ld sh22 ?_
 refine .vl (Y.len (n := n.widths.length) sl22 rfl (congrArg some (List.length_map ..))) (.vl (Y.lss rfl rfl) (.nil ?_))
 refine .condD rfl (fun c13 => ?_) (fun c13 => ?_)
 refine .skip ?_
 refine .join1 (fun (l_j4 : List Int) => ⟨[(1, vi w), (2, .v (.int .u8 (k : Int))), (3, .ptr 103 0 0 0), (7, .slc 107 1 0 l_j4.length), (8, vi (i_3 : Int))], [(103, .cells (Netlist.prow n)), (107, .rows 1 (l_j4.map irow))]⟩) (fun (l_j4 : List Int) => l_j4 = pickL n.widths w (i_3 + 1)) ?_ (fun l_j4 hJ4 => ?_)
 refine .block (.seq ?_)
 have hlb := hpl0 i_3; rw [← hl] at hlb
 refine .region ?_
 refine .fa fl27_1 ?_
 refine .ld sh22 ?_
 refine .mv ?_
 refine .vl (Y.indexF (m := i_3) sl22 rfl rfl (by first | rfl | omega) (row_getD (d := 0) (by omega))) ?_
 refine .ld sh3 ?_
 refine .mv ?_
 refine .vl (Y.eql rfl rfl) (.nil ?_)
 refine .condD rfl (fun c22 => ?_) (fun c22 => ?_)
 refine .region ?_
 refine .mv ?_
 refine .mv ?_
 refine .buildSlice (([(i_3 : Int)] : List Int).map irow) sl22 ze3 rfl rfl rfl rfl rfl (uniform_map (s := 1) (f := irow) (fun _ => rfl)) rfl rfl rfl (by decide) ?_
 refine .appendE ((l_3 ++ ([(i_3 : Int)] : List Int)).map irow) (l_3 ++ ([(i_3 : Int)] : List Int)).length sl22 ze3 rfl rfl rfl rfl (app_le (by first | omega | simp [-List.getD_eq_getElem?_getD] <;> omega)) (app_map (by first | omega | simp [-List.getD_eq_getElem?_getD] <;> omega)) (app_n (by first | omega | simp [-List.getD_eq_getElem?_getD] <;> omega)) (by first | omega | simp [-List.getD_eq_getElem?_getD] <;> omega) (by first | omega | simp [-List.getD_eq_getElem?_getD] <;> omega) (by decide) (by decide) ?_
 refine .an ?_
 refine .nil ?_
 exact ⟨l_3 ++ ([(i_3 : Int)] : List Int), by first | (rw [hl]; exact (pickL_yes (by assumption)).symm) | exact hl.trans (pickL_no (by assumption)).symm, Le.mk (.c (.c (.c (.cons (look_slc rfl (by omega)) (.c (.nil)))))) (.c (.c (.nil)))⟩
 refine .skip ?_
 exact ⟨l_3, by first | (rw [hl]; exact (pickL_yes (by assumption)).symm) | exact hl.trans (pickL_no (by assumption)).symm, Le.mk (.c (.c (.c (.cons (look_slc rfl (by omega)) (.c (.nil)))))) (.c (.c (.nil)))⟩
 refine .region ?_
 refine .mv ?_
 refine .vl (Y.addI rfl rfl (by omega)) ?_
 refine .an ?_
 refine .nil ?_
 exact ⟨i_3 + 1, l_j4, ⟨by omega, hJ4⟩, by omega, Le.mk (.c (.c (.c (.cons (look_slc rfl (by omega)) (.cons (look_int rfl (by first | rfl | omega)) (.nil)))))) (.c (.c (.nil)))⟩
 refine .exit (.seq (.seq ?_))
 have he : l_3 = pickL n.widths w n.widths.length := by rw [hl, show i_3 = n.widths.length by omega]
 have hlb := hpl0 i_3; rw [← hl] at hlb
 refine .region ?_
 refine .mv ?_
 refine .vl (Y.len (n := l_3.length) sl22 rfl rfl) (.vl (Y.eql rfl rfl) (.nil ?_))
 refine .condD rfl (fun c29 => ?_) (fun c29 => ?_)
 refine .sr ?_
 refine .an ?_
 refine .nil (.ret ?_)
 exact .ri rfl (by unfold pickN; rw [← he, if_pos (by omega)])
 refine .skip (.seq ?_)
 have hmod : k % l_3.length < l_3.length := Nat.mod_lt _ (by omega)
 refine .region ?_
 refine .mv ?_
 refine .mv ?_
 refine .vl (Y.convK ii5 ii3 rfl (by first | rfl | exact IntWalk.i64_in _ (by omega))) ?_
 refine .mv ?_
 refine .vl (Y.len (n := l_3.length) sl22 rfl rfl) ?_
 refine .vl (Y.remI rfl rfl (by first | omega | simp [-List.getD_eq_getElem?_getD] <;> omega)) ?_
 refine .vl (Y.indexO (m := k % l_3.length) sl22 rfl rfl (by first | rfl | omega) (by omega)) ?_
 refine .vl (Y.load sh3 rfl (row_getD0 (d := 0) (by omega)) rfl rfl) ?_
 refine .an ?_
 refine .nil (.ret ?_)
 exact .ri rfl (by unfold pickN; rw [← he, if_neg (by omega)])
theorem pickF_spec {n : Netlist} {w : Int} {k : Nat} (hn : n.widths.length ≤ 1048576) (hk : k < 256) : ACalls Try.prog 56 [.agg (Netlist.row n), vi w, .v (.int .u8 (k : Int))] [] [] (fun r o => r = (vi (pickN n.widths w k)) ∧ o = []) := by
 refine ACalls.of Try.func56 rfl rfl rfl (n := 38) (by decide) (nbE rfl) ?_
 have hpl0 := pickL_len n.widths w
 refine .sr (.box 103 rfl rfl rfl rfl rfl (by decide) ?_)
 refine .an ?_
 refine .nil (.sr ?_)
 refine .an ?_
 refine .sh (Sh.nil (d := 7) 107 1 rfl (by decide)) (.nil (.seq ?_))
 refine .sr ?_
 refine .an ?_
 refine .nil (.block ?_)
 refine .loop2 (fun (i_3 : Nat) (l_3 : List Int) => ⟨[(1, vi w), (2, .v (.int .u8 (k : Int))), (3, .ptr 103 0 0 0), (7, .slc 107 1 0 l_3.length), (8, vi (i_3 : Int))], [(103, .cells (Netlist.row n)), (107, .rows 1 (l_3.map irow))]⟩) (fun (i_3 : Nat) (l_3 : List Int) => ((i_3 : Int) ≤ ((n.widths.length : Nat) : Int)) ∧ (l_3 = pickL n.widths w i_3)) (fun (i_3 : Nat) (l_3 : List Int) => (((n.widths.length : Nat) : Int) - (i_3 : Int)).toNat) 0 ([] : List Int) (⟨by first | omega | (simp [-List.getD_eq_getElem?_getD]; done) | (simp [-List.getD_eq_getElem?_getD]; omega), rfl⟩) (Le.mk (.c (.c (.c (.cons (look_slc rfl (by first | omega | simp [-List.getD_eq_getElem?_getD] <;> omega)) (.cons (look_int rfl (by first | rfl | omega)) (.nil)))))) (.c (.c (.nil)))) (fun i_3 l_3 hI3 => ?_)
 obtain ⟨hb3, hl⟩ := hI3
 refine .seq (.sr ?_)
 refine .mv ?_
 refine .fa fl27_1 ?_
 refine .ld sh22 ?_
 refine .vl (Y.len (n := n.widths.length) sl22 rfl (congrArg some (List.length_map ..))) (.vl (Y.lss rfl rfl) (.nil ?_))
 refine .condD rfl (fun c13 => ?_) (fun c13 => ?_)
 refine .skip ?_
 refine .join1 (fun (l_j4 : List Int) => ⟨[(1, vi w), (2, .v (.int .u8 (k : Int))), (3, .ptr 103 0 0 0), (7, .slc 107 1 0 l_j4.length), (8, vi (i_3 : Int))], [(103, .cells (Netlist.row n)), (107, .rows 1 (l_j4.map irow))]⟩) (fun (l_j4 : List Int) => l_j4 = pickL n.widths w (i_3 + 1)) ?_ (fun l_j4 hJ4 => ?_)
 refine .block (.seq ?_)
 have hlb := hpl0 i_3; rw [← hl] at hlb
 refine .region ?_
 refine .fa fl27_1 ?_
 refine .ld sh22 ?_
 refine .mv ?_
 refine .vl (Y.indexF (m := i_3) sl22 rfl rfl (by first | rfl | omega) (row_getD (d := 0) (by omega))) ?_
 refine .ld sh3 ?_
 refine .mv ?_
 refine .vl (Y.eql rfl rfl) (.nil ?_)
 refine .condD rfl (fun c22 => ?_) (fun c22 => ?_)
 refine .region ?_
 refine .mv ?_
 refine .mv ?_
 refine .buildSlice (([(i_3 : Int)] : List Int).map irow) sl22 ze3 rfl rfl rfl rfl rfl (uniform_map (s := 1) (f := irow) (fun _ => rfl)) rfl rfl rfl (by decide) ?_
 refine .appendE ((l_3 ++ ([(i_3 : Int)] : List Int)).map irow) (l_3 ++ ([(i_3 : Int)] : List Int)).length sl22 ze3 rfl rfl rfl rfl (app_le (by first | omega | simp [-List.getD_eq_getElem?_getD] <;> omega)) (app_map (by first | omega | simp [-List.getD_eq_getElem?_getD] <;> omega)) (app_n (by first | omega | simp [-List.getD_eq_getElem?_getD] <;> omega)) (by first | omega | simp [-List.getD_eq_getElem?_getD] <;> omega) (by first | omega | simp [-List.getD_eq_getElem?_getD] <;> omega) (by decide) (by decide) ?_
 refine .an ?_
 refine .nil ?_
 exact ⟨l_3 ++ ([(i_3 : Int)] : List Int), by first | (rw [hl]; exact (pickL_yes (by assumption)).symm) | exact hl.trans (pickL_no (by assumption)).symm, Le.mk (.c (.c (.c (.cons (look_slc rfl (by omega)) (.c (.nil)))))) (.c (.c (.nil)))⟩
 refine .skip ?_
 exact ⟨l_3, by first | (rw [hl]; exact (pickL_yes (by assumption)).symm) | exact hl.trans (pickL_no (by assumption)).symm, Le.mk (.c (.c (.c (.cons (look_slc rfl (by omega)) (.c (.nil)))))) (.c (.c (.nil)))⟩
 refine .region ?_
 refine .mv ?_
 refine .vl (Y.addI rfl rfl (by omega)) ?_
 refine .an ?_
 refine .nil ?_
 exact ⟨i_3 + 1, l_j4, ⟨by omega, hJ4⟩, by omega, Le.mk (.c (.c (.c (.cons (look_slc rfl (by omega)) (.cons (look_int rfl (by first | rfl | omega)) (.nil)))))) (.c (.c (.nil)))⟩
 refine .exit (.seq (.seq ?_))
 have he : l_3 = pickL n.widths w n.widths.length := by rw [hl, show i_3 = n.widths.length by omega]
 have hlb := hpl0 i_3; rw [← hl] at hlb
 refine .region ?_
 refine .mv ?_
 refine .vl (Y.len (n := l_3.length) sl22 rfl rfl) (.vl (Y.eql rfl rfl) (.nil ?_))
 refine .condD rfl (fun c29 => ?_) (fun c29 => ?_)
 refine .sr ?_
 refine .an ?_
 refine .nil (.ret ?_)
 exact .ri rfl (by unfold pickN; rw [← he, if_pos (by omega)])
 refine .skip (.seq ?_)
 have hmod : k % l_3.length < l_3.length := Nat.mod_lt _ (by omega)
 refine .region ?_
 refine .mv ?_
 refine .mv ?_
 refine .vl (Y.convK ii5 ii3 rfl (by first | rfl | exact IntWalk.i64_in _ (by omega))) ?_
 refine .mv ?_
 refine .vl (Y.len (n := l_3.length) sl22 rfl rfl) ?_
 refine .vl (Y.remI rfl rfl (by first | omega | simp [-List.getD_eq_getElem?_getD] <;> omega)) ?_
 refine .vl (Y.indexO (m := k % l_3.length) sl22 rfl rfl (by first | rfl | omega) (by omega)) ?_
 refine .vl (Y.load sh3 rfl (row_getD0 (d := 0) (by omega)) rfl rfl) ?_
 refine .an ?_
 refine .nil (.ret ?_)
 exact .ri rfl (by unfold pickN; rw [← he, if_neg (by omega)])
end Go.Proofs.Ytligpghohcfpnaa
/- Small facts for the widths of the specification. -/
namespace Go.Proofs.Ytligpghohcfpnaa
open Go Go.AW

end Go.Proofs.Ytligpghohcfpnaa
/- Walks through the specification of words. -/
namespace Go.Proofs.Ytligpghohcfpnaa
open Go Go.AW Go.Proofs
theorem bits_spec {w : Int} {x : Nat} (hx : x < 18446744073709551616) : ACalls Try.prog 67 [vi w, .v (.int .u64 ((x : Nat) : Int))] [] [] (fun r o => r = .uni 1 ((bitsN (limN w) x).map irow) ∧ o = []) := by
 refine ACalls.of Try.func67 rfl rfl rfl (n := 22) (by decide) (nbE rfl) ?_
 have hl := limN_le w
 refine .sr ?_
 refine .an ?_
 refine .nil (.sr ?_)
 refine .an ?_
 refine .sh (Sh.nil (d := 5) 105 1 rfl (by decide)) (.nil (.seq ?_))
 refine .sr ?_
 refine .an ?_
 refine .nil (.block ?_)
 refine .loop3 (fun (x1_3 : Nat) (i6_3 : Nat) (out5_3 : List Int) => ⟨[(0, vi w), (1, .v (.int .u64 (x1_3 : Int))), (5, .slc 105 1 0 out5_3.length), (6, vi (i6_3 : Int))], [(105, .rows 1 (out5_3.map irow))]⟩) (fun (x1_3 : Nat) (i6_3 : Nat) (out5_3 : List Int) => ((i6_3 : Int) ≤ ((limN w : Nat) : Int)) ∧ (out5_3.length = i6_3) ∧ (out5_3 = bitsN i6_3 x) ∧ (x1_3 = x / 2 ^ i6_3) ∧ (x1_3 < 18446744073709551616)) (fun (x1_3 : Nat) (i6_3 : Nat) (out5_3 : List Int) => (((limN w : Nat) : Int) - (i6_3 : Int)).toNat) x 0 ([] : List Int) (⟨by first | omega | (simp [-List.getD_eq_getElem?_getD]; done) | (simp [-List.getD_eq_getElem?_getD]; omega), rfl, rfl, by simp, hx⟩) (Le.mk (.c (.cons (look_int rfl (by first | rfl | omega)) (.cons (look_slc rfl (by first | omega | simp [-List.getD_eq_getElem?_getD] <;> omega)) (.cons (look_int rfl (by first | rfl | omega)) (.nil))))) (.c (.nil))) (fun x1_3 i6_3 out5_3 hI3 => ?_)
 obtain ⟨hb3, hlen, hb, hv, hm⟩ := hI3
 refine .seq (.sr ?_)
 refine .mv ?_
 refine .mv ?_
 refine .callP ok104 (lim104_spec (w := w)) rfl (.keep rfl rfl .nil) (by decide) rfl (.vl (Y.lss rfl rfl) (.nil ?_))
 refine .condD rfl (fun c10 => ?_) (fun c10 => ?_)
 refine .skip (.seq (.block ?_))
 refine .sr ?_
 refine .mv ?_
 refine .mv ?_
 refine .vl (Y.remN (a := x1_3) (b := 2) rfl rfl (by omega)) ?_
 refine .vl (Y.convK ii37 ii3 rfl (by first | rfl | exact IntWalk.i64_in _ (by omega))) ?_
 refine .buildSlice (([((x1_3 % 2 : Nat) : Int)] : List Int).map irow) sl22 ze3 rfl rfl rfl rfl rfl (uniform_map (s := 1) (f := irow) (fun _ => rfl)) rfl rfl rfl (by decide) ?_
 refine .appendE ((out5_3 ++ ([((x1_3 % 2 : Nat) : Int)] : List Int)).map irow) (out5_3 ++ ([((x1_3 % 2 : Nat) : Int)] : List Int)).length sl22 ze3 rfl rfl rfl rfl (app_le (by first | omega | simp [-List.getD_eq_getElem?_getD] <;> omega)) (app_map (by first | omega | simp [-List.getD_eq_getElem?_getD] <;> omega)) (app_n (by first | omega | simp [-List.getD_eq_getElem?_getD] <;> omega)) (by first | omega | simp [-List.getD_eq_getElem?_getD] <;> omega) (by first | omega | simp [-List.getD_eq_getElem?_getD] <;> omega) (by decide) (by decide) ?_
 refine .an ?_
 refine .nil (.region ?_)
 refine .mv ?_
 refine .vl (Y.quoN (a := x1_3) (b := 2) rfl rfl (by omega)) ?_
 refine .an ?_
 refine .nil (.region ?_)
 refine .mv ?_
 refine .vl (Y.addI rfl rfl (by omega)) ?_
 refine .an ?_
 refine .nil ?_
 exact ⟨x1_3 / 2, i6_3 + 1, out5_3 ++ ([((x1_3 % 2 : Nat) : Int)] : List Int), ⟨by omega, by simp; omega, by rw [hb, bitsN_succ, hv], by rw [hv, Nat.div_div_eq_div_mul, Nat.pow_succ], by omega⟩, by omega, Le.mk (.c (.cons (look_int rfl (by first | rfl | omega)) (.cons (look_slc rfl (by omega)) (.cons (look_int rfl (by first | rfl | omega)) (.nil))))) (.c (.nil))⟩
 refine .exit (.sr ?_)
 refine .mv ?_
 refine .an ?_
 refine .sh (Sh.detach (d := 4) (o := 105) rfl rfl (len_map (by omega)) (by decide)) ?_
 refine .nil (.ret ?_)
 exact ⟨_, _, rfl, rfl, (cg1 (fun (z0 : List Int) => X.uni 1 (z0.map irow)) (by rw [hb, show i6_3 = limN w by omega] : out5_3 = bitsN (limN w) x) : X.uni 1 (out5_3.map irow) = X.uni 1 ((bitsN (limN w) x).map irow)), rfl⟩
theorem word_spec {l : List Int} (h1 : ∀ b ∈ l, 0 ≤ b ∧ b ≤ 1) (h2 : l.length ≤ 64) : ACalls Try.prog 66 [.fz 1 (l.map irow)] [] [] (fun r o => r = .v (.int .u64 ((wordN l : Nat) : Int)) ∧ o = []) := by
 refine ACalls.of Try.func66 rfl rfl rfl (n := 21) (by decide) (nbE rfl) (.sr ?_)
 refine .an ?_
 refine .nil (.sr ?_)
 refine .an ?_
 refine .nil (.seq (.sr ?_))
 refine .mv ?_
 refine .vl (Y.len (n := l.length) sl22 rfl (congrArg some (List.length_map ..))) ?_
 refine .vl (Y.subI rfl rfl (by first | omega | simp [-List.getD_eq_getElem?_getD] <;> omega)) ?_
 refine .an ?_
 refine .nil (.block ?_)
 refine .loop2 (fun (x3_3 : Nat) (i4_3 : Int) => ⟨[(0, .fz 1 (l.map irow)), (3, .v (.int .u64 (x3_3 : Int))), (4, vi i4_3)], []⟩) (fun (x3_3 : Nat) (i4_3 : Int) => (-1 ≤ i4_3 ∧ i4_3 < (l.length : Int)) ∧ (x3_3 = wordN (l.drop (i4_3 + 1).toNat))) (fun (x3_3 : Nat) (i4_3 : Int) => (i4_3 + 1).toNat) 0 (((l.length : Nat) : Int) - 1) (⟨by omega, by rw [List.drop_eq_nil_of_le (by omega)]; rfl⟩) (Le.mk (.c (.cons (look_int rfl (by first | rfl | omega)) (.cons (look_int rfl (by first | rfl | omega)) (.nil)))) (.nil)) (fun x3_3 i4_3 hI3 => ?_)
 obtain ⟨hi, hx⟩ := hI3
 refine .seq (.sr ?_)
 refine .mv ?_
 refine .vl (Y.geq rfl rfl) (.nil ?_)
 refine .condD rfl (fun c9 => ?_) (fun c9 => ?_)
 refine .skip (.seq (.block ?_))
 refine .region ?_
 refine .mv ?_
 refine .vl (Y.mulN (a := 2) (b := x3_3) rfl rfl) ?_
 refine .mv ?_
 refine .mv ?_
 refine .vl (Y.indexF (m := (i4_3).toNat) sl22 rfl rfl (by omega) (row_getD (d := 0) (by omega))) ?_
 have hb := h1 _ (getD_mem (l := l) (i := i4_3.toNat) (by omega))
 refine .ld sh3 ?_
 refine .vl (Y.conv ii3 ii37 rfl (u64_toNat _ (by omega))) ?_
 refine .vl (Y.addN (a := ((2 * x3_3) % 18446744073709551616)) (b := ((l.getD ((i4_3).toNat) 0).toNat)) rfl rfl) ?_
 refine .an ?_
 refine .nil (.region ?_)
 refine .mv ?_
 refine .vl (Y.subI rfl rfl (by first | omega | simp [-List.getD_eq_getElem?_getD] <;> omega)) ?_
 refine .an ?_
 refine .nil ?_
 exact ⟨(((2 * x3_3) % 18446744073709551616) + ((l.getD ((i4_3).toNat) 0).toNat)) % 18446744073709551616, i4_3 - 1, ⟨by omega, word_step h1 h2 (by omega) hx⟩, by omega, Le.mk (.c (.cons (look_int rfl (by first | rfl | omega)) (.cons (look_int rfl (by first | rfl | omega)) (.nil)))) (.nil)⟩
 refine .exit (.sr ?_)
 refine .mv ?_
 refine .an ?_
 refine .nil (.ret ?_)
 exact .ri rfl (by rw [hx, show (i4_3 + 1).toNat = 0 by omega, List.drop_zero])
theorem rfit_spec {w : Int} {x : Nat} (hx : x < 18446744073709551616) : ACalls Try.prog 26 [vi w, .v (.int .u64 ((x : Nat) : Int))] [] [] (fun r o => r = .v (.int .u64 ((fitN w x : Nat) : Int)) ∧ o = []) := by
 refine ACalls.of Try.func26 rfl rfl rfl (n := 9) (by decide) (nbE rfl) (.sr ?_)
 refine .an ?_
 refine .nil (.sr ?_)
 refine .mv ?_
 refine .mv ?_
 refine .callP ok67 (bits_spec (w := w) (x := x) ((by omega))) rfl (.keep rfl rfl (.keep rfl rfl .nil)) (by decide) rfl ?_
 refine .sh (Sh.freezeE (d := 7) ((bitsN (limN w) x).map irow) rfl (by first | rfl | exact rep_map rfl) (Frees.map irow_frees)) (.callP ok66 (word_spec (l := (bitsN (limN w) x)) (bitsN_01 _ _) (by rw [bitsN_len]; exact limN_le _)) rfl (.keep rfl rfl .nil) (by decide) rfl ?_)
 refine .an ?_
 refine .nil (.ret ?_)
 exact .ri rfl (by rw [wordN_bits]; rfl)
end Go.Proofs.Ytligpghohcfpnaa
/- Walks through the widths of the specification. -/
namespace Go.Proofs.Ytligpghohcfpnaa
open Go Go.AW Go.Proofs
end Go.Proofs.Ytligpghohcfpnaa
/- Combinational cycles, by what is known, in plain Lean. -/
namespace Go.Proofs.Ytligpghohcfpnaa
open Go Go.AW

def KN0 (n : Netlist) (k : Nat) (kn : List Bool) : Prop := ∀ w : Int, In w n.widths.length → (kn.getD w.toNat false = true ↔ ∃ j, Drives n j w ∧ j < k ∧ ¬ Comb (n.cell j).kind)
theorem KN0.init (n : Netlist) : KN0 n 0 (List.replicate n.widths.length false) := by
 intro w hw
 unfold In at hw
 rw [List.getD_eq_getElem?_getD, List.getElem?_replicate, if_pos (by omega)]
 exact ⟨fun h => (by cases h), fun ⟨j, h1, h2, _⟩ => (by have := h1.1; omega)⟩
theorem KN0.skip {n : Netlist} {k : Nat} {l : List Bool} (h : KN0 n k l) (hc : Comb (n.cells.getD k default).kind ∨ (n.cells.getD k default).kind = 7) : KN0 n (k + 1) l := by
 intro w hw
 rw [h w hw]
 constructor
 ·rintro ⟨j, h1, h2, h3⟩; exact ⟨j, h1, by omega, h3⟩
 ·rintro ⟨j, h1, h2, h3⟩
  refine ⟨j, h1, ?_, h3⟩
  rcases Int.lt_or_eq_of_le (show j ≤ k by omega) with h' | h'
  ·exact h'
  ·subst h'
   rcases hc with hc | hc
   ·exact absurd hc h3
   ·exact absurd hc h1.2.1
theorem KN0.step {n : Netlist} {k : Nat} {l : List Bool} (h : KN0 n k l) (hk : k < n.cells.length) (hl : l.length = n.widths.length) (hc : ¬ Comb (n.cells.getD k default).kind) (h7 : (n.cells.getD k default).kind ≠ 7) (ho : In (n.cells.getD k default).out n.widths.length) :
  KN0 n (k + 1) (l.set (n.cells.getD k default).out.toNat true) := by
 intro w hw
 unfold In at ho
 have hw' := hw
 unfold In at hw'
 rw [getD_set]
 by_cases e : (n.cells.getD k default).out = w
 ·rw [if_pos ⟨by omega, by omega⟩]
  exact ⟨fun _ => ⟨(k : Int), ⟨⟨by omega, by omega⟩, h7, e⟩, by omega, hc⟩, fun _ => rfl⟩
 ·rw [if_neg (by omega), h w hw]
  constructor
  ·rintro ⟨j, h1, h2, h3⟩; exact ⟨j, h1, by omega, h3⟩
  ·rintro ⟨j, h1, h2, h3⟩
   refine ⟨j, h1, ?_, h3⟩
   rcases Int.lt_or_eq_of_le (show j ≤ k by omega) with h' | h'
   ·exact h'
   ·subst h'; exact absurd h1.2.2 e
structure LD (n : Netlist) (done : List Int) (kn : List Bool) (left : Int) : Prop where
 nd : done.Nodup
 cm : ∀ x ∈ done, CombAt n x
 kn : ∀ w, In w n.widths.length → (kn.getD w.toNat false = true ↔ ¬ Open n done w)
 left : left = (n.cells.length : Int) - ((seqL n n.cells.length).length : Int) - (done.length : Int)
 topo : ∀ p i s, done = p ++ i :: s → need n p i = 0
section
variable {n : Netlist} (hf : Formed n)
include hf
theorem LD.init {kn : List Bool} (h : KN0 n n.cells.length kn) : LD n [] kn ((n.cells.length : Int) - ((seqL n n.cells.length).length : Int)) where
 nd := List.nodup_nil
 cm := fun _ h => (by cases h)
 kn := fun w hw => by
  rw [h w hw]
  constructor
  ·rintro ⟨j, h1, h2, h3⟩ ⟨⟨i, hi, e⟩, _⟩
   have := hf.unique h1 (e ▸ hi.drives)
   subst this; exact h3 hi.2
  ·intro ho
   obtain ⟨j, hj⟩ := hf.driver hw
   refine ⟨j, hj, by have := hj.1; omega, fun hc => ho ⟨⟨j, ⟨hj.1, hc⟩, hj.2.2⟩, fun _ h => (by cases h)⟩⟩
 left := by simp
 topo := fun p i s h => by simp at h
theorem LD.step {done : List Int} {kn : List Bool} {left i : Int} (h : LD n done kn left) (hl : kn.length = n.widths.length) (hi : CombAt n i) (hk : kn.getD (n.cell i).out.toNat false = false) (hz : need n done i = 0) :
  LD n (done ++ [i]) (kn.set (n.cell i).out.toNat true) (left - 1) := by
 have hio := hf.outIn hi.drives
 have hop : Open n done (n.cell i).out := Classical.byContradiction fun hh => by
  have := (h.kn _ hio).2 hh
  rw [hk] at this; cases this
 have hni : i ∉ done := fun hm => hop.2 i hm rfl
 refine ⟨?_, fun x hx => ?_, fun w hw => ?_, ?_, fun p j s e => ?_⟩
 ·rw [List.nodup_append]
  exact ⟨h.nd, by simp, fun a ha b hb e => hni (by rw [← List.mem_singleton.1 hb, ← e]; exact ha)⟩
 ·rcases List.mem_append.1 hx with hx | hx
  ·exact h.cm x hx
  ·rw [List.mem_singleton.1 hx]; exact hi
 ·unfold In at hio
  have hw' := hw
  unfold In at hw'
  have ho : Open n (done ++ [i]) w ↔ Open n done w ∧ (n.cell i).out ≠ w := by
   constructor
   ·rintro ⟨a, b⟩
    exact ⟨⟨a, fun j hj => b j (by simp [hj])⟩, b i (by simp)⟩
   ·rintro ⟨⟨a, b⟩, c⟩
    refine ⟨a, fun j hj => ?_⟩
    rcases List.mem_append.1 hj with hj | hj
    ·exact b j hj
    ·rw [List.mem_singleton.1 hj]; exact c
  rw [getD_set, ho]
  by_cases e : (n.cell i).out = w
  ·rw [if_pos ⟨by omega, by omega⟩]
   exact ⟨fun _ h => h.2 e, fun _ => rfl⟩
  ·rw [if_neg (by omega), h.kn w hw]
   exact ⟨fun h1 h2 => h1 h2.1, fun h1 h2 => h1 ⟨h2, e⟩⟩
 ·rw [h.left, List.length_append]; simp; omega
 ·rcases List.eq_nil_or_concat s with rfl | ⟨s', x, rfl⟩
  ·obtain ⟨rfl, e3⟩ := List.append_inj' (t₁ := [i]) (t₂ := [j]) e rfl
   cases e3
   exact hz
  ·have e2 := List.append_inj' (s₁ := done) (s₂ := p ++ j :: s') (t₁ := [i]) (t₂ := [x]) (by rw [e]; simp) rfl
   exact h.topo p j s' e2.1
theorem LD.known {done : List Int} {kn : List Bool} {left : Int} (h : LD n done kn left) {i : Int} (hi : 0 ≤ i ∧ i < n.cells.length) : (∀ x ∈ (n.cell i).args, kn.getD x.toNat false = true) ↔ need n done i = 0 := by
 unfold need
 rw [List.countP_eq_zero]
 constructor
 ·intro hh x hx ho
  exact (h.kn x (hf.argIn hi hx)).1 (hh x hx) (of_decide_eq_true ho)
 ·intro hh x hx
  exact (h.kn x (hf.argIn hi hx)).2 (fun ho => hh x hx (decide_eq_true ho))
def Stuck (n : Netlist) (k : Int) (done : List Int) : Prop := ∀ i, CombAt n i → i < k → Open n done (n.cell i).out → need n done i ≠ 0
theorem LD.ki {done : List Int} {kn : List Bool} {left : Int} (h : LD n done kn left) (hs : Stuck n n.cells.length done) : KI n done [] ((List.range n.cells.length).map (fun (i : Nat) => (need n done (i : Int) : Int))) where
 nd := by simpa using h.nd
 cm := fun x hx => h.cm x (by simpa using hx)
 hrem := fun i hi => by
  have hb := hi.1
  rw [List.getD_eq_getElem?_getD, List.getElem?_map, List.getElem?_range (by omega)]
  simp only [Option.map_some, Option.getD_some]
  rw [show ((i.toNat : Nat) : Int) = i by omega]
 full := fun i hi => by
  rw [List.append_nil]
  constructor
  ·intro hm
   obtain ⟨p, s, e⟩ := List.append_of_mem hm
   have := h.topo p i s e
   rw [need_zero] at this ⊢
   intro x hx hc
   obtain ⟨j, hj, e2⟩ := this x hx hc
   exact ⟨j, by rw [e]; simp [hj], e2⟩
  ·intro hz
   refine Classical.byContradiction fun hn => hs i hi hi.1.2 ⟨⟨i, hi, rfl⟩, fun j hj e => hn ?_⟩ hz
   have := hf.unique (h.cm j hj).drives (e ▸ hi.drives)
   exact this ▸ hj
 topo := h.topo
end
theorem LD.pos {n : Netlist} {done : List Int} {kn : List Bool} {left : Int} (h : LD n done kn left) : 0 ≤ left ∧ left ≤ n.cells.length := by
 have hnd : (seqL n n.cells.length ++ done).Nodup := by
  rw [List.nodup_append]
  refine ⟨seqL_nodup _ _, h.nd, fun a ha b hb e => ?_⟩
  subst e
  exact (mem_seqL.1 ha).2 (h.cm a hb).2
 have := length_le_of_subset (m := (List.range n.cells.length).map (fun (i : Nat) => (i : Int))) hnd (fun x hx => by
  have hx' : 0 ≤ x ∧ x < n.cells.length := by
   rcases List.mem_append.1 hx with hx | hx
   ·exact (mem_seqL.1 hx).1
   ·exact (h.cm x hx).1
  exact List.mem_map.2 ⟨x.toNat, List.mem_range.2 (by omega), by omega⟩)
 rw [List.length_append, List.length_map, List.length_range] at this
 have hl := h.left
 omega
def Rnd (n : Netlist) (k left0 : Int) (kn : List Bool) (left : Int) (more : Bool) : Prop := ∃ done, LD n done kn left ∧ left ≤ left0 ∧ (more = true → left < left0) ∧ (more = false → Stuck n k done)
theorem Rnd.seq {n : Netlist} {k : Nat} {left0 left : Int} {kn : List Bool} {more : Bool} (h : Rnd n k left0 kn left more) (hc : ¬ Comb (n.cells.getD k default).kind) : Rnd n ((k + 1 : Nat) : Int) left0 kn left more := by
 obtain ⟨done, h1, h2, h3, h4⟩ := h
 refine ⟨done, h1, h2, h3, fun hm i hi h0 => h4 hm i hi (lt_succ_of hc hi h0)⟩
section
variable {n : Netlist} (hf : Formed n) {k : Nat} {left0 left : Int} {kn : List Bool} {more : Bool}
include hf
theorem Rnd.skip (h : Rnd n k left0 kn left more) (hk : k < n.cells.length) (hc : kn.getD (n.cells.getD k default).out.toNat false = true ∨ ¬ ∀ x ∈ (n.cells.getD k default).args, kn.getD x.toNat false = true) (hcm : Comb (n.cells.getD k default).kind) : Rnd n ((k + 1 : Nat) : Int) left0 kn left more := by
 obtain ⟨done, h1, h2, h3, h4⟩ := h
 have hi : CombAt n (k : Int) := ⟨⟨by omega, by omega⟩, hcm⟩
 refine ⟨done, h1, h2, h3, fun hm i hii h0 => ?_⟩
 by_cases e : i = k
 ·subst e
  intro ho hz
  rcases hc with hc | hc
  ·exact (h1.kn _ (hf.outIn hi.drives)).1 hc ho
  ·exact hc ((h1.known hf hi.1).2 hz)
 ·exact h4 hm i hii (by omega)
theorem Rnd.step (h : Rnd n k left0 kn left more) (hk : k < n.cells.length) (hl : kn.length = n.widths.length) (h1 : kn.getD (n.cells.getD k default).out.toNat false = false) (h2 : ∀ x ∈ (n.cells.getD k default).args, kn.getD x.toNat false = true) (hcm : Comb (n.cells.getD k default).kind) :
  Rnd n ((k + 1 : Nat) : Int) left0 (kn.set (n.cells.getD k default).out.toNat true) (left - 1) true := by
 obtain ⟨done, a1, a2, a3, a4⟩ := h
 have hi : CombAt n (k : Int) := ⟨⟨by omega, by omega⟩, hcm⟩
 refine ⟨done ++ [(k : Int)], a1.step hf hl hi h1 ((a1.known hf hi.1).1 h2), by omega, fun _ => by omega, fun h => (by cases h)⟩
end
theorem KN0.next {n : Netlist} (hf : Formed n) {k : Nat} {kn : List Bool} (h : KN0 n k kn) (hk : k < n.cells.length) (hl : kn.length = n.widths.length) :
  (¬ Comb (n.cells.getD k default).kind → 0 ≤ (n.cells.getD k default).out → KN0 n (k + 1) (kn.set (n.cells.getD k default).out.toNat true)) ∧ (Comb (n.cells.getD k default).kind → KN0 n (k + 1) kn ∧ 0 ≤ (n.cells.getD k default).out) ∧
  (¬ 0 ≤ (n.cells.getD k default).out → KN0 n (k + 1) kn) ∧ (0 ≤ (n.cells.getD k default).out → (n.cells.getD k default).out < n.widths.length) := by
 obtain ⟨_, _, a3, a4⟩ := hf.cells k hk
 refine ⟨fun hc ho => ?_, fun hc => ⟨h.skip (.inl hc), ?_⟩, fun ho => ?_, fun ho => ?_⟩
 ·have h7 : (n.cells.getD k default).kind ≠ 7 := fun h7 => by have := a3 h7; omega
  exact h.step hk hl hc h7 (a4 h7)
 ·have h7 : (n.cells.getD k default).kind ≠ 7 := fun h7 => by rw [h7] at hc; revert hc; unfold Comb; omega
  exact (a4 h7).1
 ·have h7 : (n.cells.getD k default).kind = 7 := Classical.byContradiction fun h7 => ho (a4 h7).1
  exact h.skip (.inr h7)
 ·have h7 : (n.cells.getD k default).kind ≠ 7 := fun h7 => by have := a3 h7; omega
  exact (a4 h7).2
end Go.Proofs.Ytligpghohcfpnaa
/- The empty netlist. -/
namespace Go.Proofs.Ytligpghohcfpnaa
open Go Go.AW
end Go.Proofs.Ytligpghohcfpnaa
/- The widths of the specification, whatever the kind. -/
namespace Go.Proofs.Ytligpghohcfpnaa
open Go Go.AW Go.Proofs
end Go.Proofs.Ytligpghohcfpnaa
/- Walks through Check, and through the specification of a cell. -/
namespace Go.Proofs.Ytligpghohcfpnaa
open Go Go.AW Go.Proofs
end Go.Proofs.Ytligpghohcfpnaa
/- The specification of a cell, whatever its kind. -/
namespace Go.Proofs.Ytligpghohcfpnaa
open Go Go.AW Go.Proofs
end Go.Proofs.Ytligpghohcfpnaa
/- Walks through the specification of well-formed netlists. -/
namespace Go.Proofs.Ytligpghohcfpnaa
open Go Go.AW Go.Proofs
end Go.Proofs.Ytligpghohcfpnaa
/- Walks through the specification of netlists. -/
namespace Go.Proofs.Ytligpghohcfpnaa
open Go Go.AW Go.Proofs
end Go.Proofs.Ytligpghohcfpnaa
/- Walks through the builder. -/
namespace Go.Proofs.Ytligpghohcfpnaa
open Go Go.AW Go.Proofs
end Go.Proofs.Ytligpghohcfpnaa
/- Walks through the parts of plans. -/
namespace Go.Proofs.Ytligpghohcfpnaa
open Go Go.AW Go.Proofs
theorem operator_spec {n : Netlist} {p : Prt} (hn : n.widths.length ≤ 1048576) (h0 : 0 < n.widths.length) (hp : p.Ok) (hg : Ground n) (hi : n.ins.length ≤ 1048576) : ACalls Try.prog 91 [.agg (Netlist.prow n), .agg (Prt.row p)] [] [] (fun r o => ∃ c w, PartP n c w ∧ r = .tup [.agg (Cell.orow c), vi w] ∧ o = []) := by
 refine ACalls.ofS Try.func91 rfl rfl rfl (n := 96) (by decide) (nbE rfl) ?_
 have hp1 := hp.kind; have hp2 := hp.op; have hp3 := hp.width; have hp4 := hp.a; have hp5 := hp.b; have hp6 := hp.d; have hp7 := hp.num; have hm1 := Nat.mod_lt p.a h0; have hm2 := Nat.mod_lt p.b h0
 refine .sr (.box 102 rfl rfl rfl rfl rfl (by decide) (.box 103 rfl rfl rfl rfl rfl (by decide) ?_))
 refine .alloc 104 ze39 rfl rfl (by decide) ?_
 refine .an ?_
 refine .nil (.seq (.sh (Sh.freezeO 102 rfl rfl) ?_))
 refine .sh (Sh.freezeO 103 rfl rfl) (.region ?_)
 refine .buildSlice (([2, 3, 9, 10, 11, 12, 13, 14, 15, 16, 17, 18, 19, 20, 21, 22, 23, 24] : List Int).map irow) sl22 ze3 rfl rfl rfl rfl rfl (uniform_map (s := 1) (f := irow) (fun _ => rfl)) rfl rfl rfl (by decide) ?_
 refine .assignX rfl (by decide) (.sh (Sh.freezeE (d := 6) (([2, 3, 9, 10, 11, 12, 13, 14, 15, 16, 17, 18, 19, 20, 21, 22, 23, 24] : List Int).map irow) rfl (by first | rfl | exact rep_map rfl) (Frees.map irow_frees)) (.nil ?_))
 refine .le (st' := ⟨[(2, .fp (Netlist.prow n) 0), (3, .fp (Prt.row p) 0), (4, .ptr 104 0 0 0), (6, .fz 1 (([2, 3, 9, 10, 11, 12, 13, 14, 15, 16, 17, 18, 19, 20, 21, 22, 23, 24] : List Int).map irow))], [(104, .cells [vi 0, vi 0, vi 0, .v (.slice none 0 0), .v (.int .u64 0), vi 0])]⟩) (Le.mk (.c (.c (.c (.c (.nil))))) (.c (.nil))) ?_
 refine .sr ?_
 refine .mv ?_
 refine .fa fl88_1 ?_
 refine .ld sh5 ?_
 refine .vl (Y.convK ii5 ii3 rfl (by first | rfl | exact IntWalk.i64_in _ (by omega))) ?_
 refine .mv ?_
 refine .vl (Y.len (n := ([2, 3, 9, 10, 11, 12, 13, 14, 15, 16, 17, 18, 19, 20, 21, 22, 23, 24] : List Int).length) sl22 rfl (congrArg some (List.length_map ..))) ?_
 refine .vl (Y.remI rfl rfl (by first | omega | simp [-List.getD_eq_getElem?_getD] <;> omega)) ?_
 refine .vl (Y.indexF (m := p.op % (([2, 3, 9, 10, 11, 12, 13, 14, 15, 16, 17, 18, 19, 20, 21, 22, 23, 24] : List Int).length)) sl22 rfl rfl (by first | rfl | omega) (row_getD (d := 0) (by first | omega | simp [-List.getD_eq_getElem?_getD] <;> omega))) ?_
 refine .ld sh3 ?_
 refine .an ?_
 refine .nil (.sr ?_)
 refine .fa fl88_2 ?_
 refine .ld sh5 ?_
 refine .callP ok53 (width_spec (k := p.width)) rfl (.keep rfl rfl .nil) (by decide) rfl ?_
 refine .an ?_
 refine .nil (.sr ?_)
 refine .mv ?_
 refine .vl (Y.build pl39 ze39 rfl rfl rfl) (.alloc 109 ze39 rfl rfl (by decide) (.storeC si39 rfl rfl rfl rfl rfl rfl (nbE rfl) rfl ?_))
 refine .nil (.seq (.block ?_))
 refine .sr ?_
 refine .mv ?_
 refine .vl (Y.eql rfl rfl) ?_
 refine .an ?_
 refine .nil ?_
 refine .condD rfl (fun c42 => ?_) (fun c42 => ?_)
 refine .regionHeld0 rfl (.loadA 0 rfl (by kernel_rfl) sh27 rfl rfl rfl (nbE rfl) rfl rfl (by decide) (.blind 1 rfl (by kernel_rfl) (Blind.fieldAddr fl88_3 rfl rfl) (by decide) ?_))
 refine .blind 2 rfl (by kernel_rfl) (Blind.indexP ar86 rfl rfl (m := 0) rfl (by omega) rfl) (by decide) (.load 3 rfl (by kernel_rfl) sh5 rfl rfl rfl rfl rfl (by decide) (.loadA 5 rfl (by kernel_rfl) sh27 rfl rfl rfl (nbE rfl) rfl rfl (by decide) ?_))
 refine .blind 6 rfl (by kernel_rfl) (Blind.move rfl rfl) (by decide) (.blind 7 rfl (by kernel_rfl) (Blind.fieldAddr fl88_3 rfl rfl) (by decide) (.blind 8 rfl (by kernel_rfl) (Blind.indexP ar86 rfl rfl (m := 1) rfl (by omega) rfl) (by decide) ?_))
 refine .load 9 rfl (by kernel_rfl) sh5 rfl rfl rfl rfl rfl (by decide) (.loadA 11 rfl (by kernel_rfl) sh27 rfl rfl rfl (nbE rfl) rfl rfl (by decide) (.blind 12 rfl (by kernel_rfl) (Blind.move rfl rfl) (by decide) ?_))
 refine .blind 13 rfl (by kernel_rfl) (Blind.fieldAddr fl88_3 rfl rfl) (by decide) (.blind 14 rfl (by kernel_rfl) (Blind.indexP ar86 rfl rfl (m := 2) rfl (by omega) rfl) (by decide) (.load 15 rfl (by kernel_rfl) sh5 rfl rfl rfl rfl rfl (by decide) ?_))
 refine .go0 (.one 4 rfl (by kernel_rfl) (.callP ok56 (pick_spec (n := (⟨n.name, n.widths, n.cells, n.ins, n.mems, n.streams, [], [], n.freeze, n.done, []⟩ : Netlist)) (w := 1) (k := p.a) (by show (n.widths).length ≤ 1048576; omega) (by omega)) rfl (.keep rfl rfl (.keep rfl rfl (.keep rfl rfl .nil))) (by decide) rfl ?_))
 refine .nil ⟨rfl, ?_⟩
 refine .one 10 rfl (by kernel_rfl) ?_
 refine .callP ok56 (pick_spec (n := (⟨n.name, n.widths, n.cells, n.ins, n.mems, n.streams, [], [], n.freeze, n.done, []⟩ : Netlist)) (w := (widthN p.width)) (k := p.b) (by show (n.widths).length ≤ 1048576; omega) (by omega)) rfl (.keep rfl rfl (.keep rfl rfl (.keep rfl rfl .nil))) (by decide) rfl ?_
 refine .nil ⟨rfl, ?_⟩
 refine .one 16 rfl (by kernel_rfl) ?_
 refine .callP ok56 (pick_spec (n := (⟨n.name, n.widths, n.cells, n.ins, n.mems, n.streams, [], [], n.freeze, n.done, []⟩ : Netlist)) (w := (widthN p.width)) (k := p.d) (by show (n.widths).length ≤ 1048576; omega) (by omega)) rfl (.keep rfl rfl (.keep rfl rfl (.keep rfl rfl .nil))) (by decide) rfl ?_
 refine .nil ⟨rfl, ?_⟩
 refine .one 17 rfl (by kernel_rfl) ?_
 refine .buildSlice (([pickN n.widths 1 p.a, pickN n.widths (widthN p.width) p.b, pickN n.widths (widthN p.width) p.d] : List Int).map irow) sl22 ze3 rfl rfl rfl rfl rfl (uniform_map (s := 1) (f := irow) (fun _ => rfl)) rfl rfl rfl (by decide) ?_
 refine .nil ⟨rfl, ?_⟩
 refine .one 18 rfl (by kernel_rfl) ?_
 refine .fa fl39_3 ?_
 refine .nil ⟨rfl, ?_⟩
 refine .one 19 rfl (by kernel_rfl) ?_
 refine .sh (Sh.adoptE (d := 62) (n := ([pickN n.widths 1 p.a, pickN n.widths (widthN p.width) p.b, pickN n.widths (widthN p.width) p.d] : List Int).length) 162 (([pickN n.widths 1 p.a, pickN n.widths (widthN p.width) p.b, pickN n.widths (widthN p.width) p.d] : List Int).map irow) rfl (by first | rfl | exact rep_map rfl) (len_map rfl) (by decide)) ?_
 refine .storeC si22 rfl rfl rfl rfl rfl rfl (nbE rfl) rfl ?_
 refine .nil ⟨rfl, ?_⟩
 refine .done (by kernel_rfl) ?_
 refine .le (st' := ⟨[(4, .ptr 104 0 0 0), (8, vi (widthN p.width)), (9, .ptr 109 0 0 0)], [(104, .cells [vi 0, vi 0, vi 0, .v (.slice none 0 0), .v (.int .u64 0), vi 0]), (109, .cells [vi 2, vi (([2, 3, 9, 10, 11, 12, 13, 14, 15, 16, 17, 18, 19, 20, 21, 22, 23, 24] : List Int).getD (p.op % (([2, 3, 9, 10, 11, 12, 13, 14, 15, 16, 17, 18, 19, 20, 21, 22, 23, 24] : List Int).length)) 0), vi 0, .slc 162 1 0 (([pickN n.widths 1 p.a, pickN n.widths (widthN p.width) p.b, pickN n.widths (widthN p.width) p.d] : List Int).length), .v (.int .u64 0), vi 0]), (162, .rows 1 (([pickN n.widths 1 p.a, pickN n.widths (widthN p.width) p.b, pickN n.widths (widthN p.width) p.d] : List Int).map irow))]⟩) (Le.mk (.c (.c (.c (.nil)))) (.c (.c (.c (.nil))))) ?_
 refine .sr (.vl (Y.loadA sh39 rfl rfl (nbE rfl) rfl rfl) ?_)
 refine .mv ?_
 refine .storeC si39 rfl rfl rfl rfl rfl rfl (nbE rfl) rfl ?_
 refine .an ?_
 refine .nil (.ret ?_)
 exact ⟨_, rfl, _, _, _, Sh.ownT (d := 0) 3 162 rfl rfl rfl rfl (by first | rfl | exact len_map rfl | exact len_map (by omega)) rfl (by decide), rfl, rfl, (⟨2, ([2, 3, 9, 10, 11, 12, 13, 14, 15, 16, 17, 18, 19, 20, 21, 22, 23, 24] : List Int).getD (p.op % (([2, 3, 9, 10, 11, 12, 13, 14, 15, 16, 17, 18, 19, 20, 21, 22, 23, 24] : List Int).length)) 0, 0, ([pickN n.widths 1 p.a, pickN n.widths (widthN p.width) p.b, pickN n.widths (widthN p.width) p.d] : List Int), 0, 0⟩ : Cell), _, op_sel hg c42, rfl, rfl⟩
 refine .sr ?_
 refine .mv ?_
 refine .callP ok118 (unary_spec (w := (([2, 3, 9, 10, 11, 12, 13, 14, 15, 16, 17, 18, 19, 20, 21, 22, 23, 24] : List Int).getD (p.op % (([2, 3, 9, 10, 11, 12, 13, 14, 15, 16, 17, 18, 19, 20, 21, 22, 23, 24] : List Int).length)) 0))) rfl (.keep rfl rfl .nil) (by decide) rfl ?_
 refine .an ?_
 refine .nil ?_
 refine .condD rfl (fun c64 => ?_) (fun c64 => ?_)
 refine .sr ?_
 refine .fa fl88_3 ?_
 refine .vl (Y.indexP ar86 rfl rfl (m := 0) rfl (by omega) rfl) ?_
 refine .ld sh5 ?_
 refine .vl (Y.convK ii5 ii3 rfl (by first | rfl | exact IntWalk.i64_in _ (by omega))) ?_
 refine .fa fl27_1 ?_
 refine .ld sh22 ?_
 refine .vl (Y.len (n := n.widths.length) sl22 rfl (congrArg some (List.length_map ..))) ?_
 refine .vl (Y.remI rfl rfl (by first | omega | simp [-List.getD_eq_getElem?_getD] <;> omega)) ?_
 refine .an ?_
 refine .nil ?_
 refine .join1 (fun (w8_j15 : Int) => ⟨[(4, .ptr 104 0 0 0), (8, vi w8_j15), (9, .ptr 109 0 0 0), (10, vi (((p.a : Nat) : Int) % ((n.widths.length : Nat) : Int)))], [(104, .cells [vi 0, vi 0, vi 0, .v (.slice none 0 0), .v (.int .u64 0), vi 0]), (109, .cells [vi 2, vi (([2, 3, 9, 10, 11, 12, 13, 14, 15, 16, 17, 18, 19, 20, 21, 22, 23, 24] : List Int).getD (p.op % (([2, 3, 9, 10, 11, 12, 13, 14, 15, 16, 17, 18, 19, 20, 21, 22, 23, 24] : List Int).length)) 0), vi 0, .v (.slice none 0 0), .v (.int .u64 0), vi 0])]⟩) (fun (w8_j15 : Int) => (((([2, 3, 9, 10, 11, 12, 13, 14, 15, 16, 17, 18, 19, 20, 21, 22, 23, 24] : List Int).getD (p.op % (([2, 3, 9, 10, 11, 12, 13, 14, 15, 16, 17, 18, 19, 20, 21, 22, 23, 24] : List Int).length)) 0) = 24) ∧ (w8_j15 = (if (n.widths.getD (p.a % n.widths.length) 0) < (widthN p.width) then (n.widths.getD (p.a % n.widths.length) 0) else (widthN p.width)))) ∨ ((¬ ((([2, 3, 9, 10, 11, 12, 13, 14, 15, 16, 17, 18, 19, 20, 21, 22, 23, 24] : List Int).getD (p.op % (([2, 3, 9, 10, 11, 12, 13, 14, 15, 16, 17, 18, 19, 20, 21, 22, 23, 24] : List Int).length)) 0) = 24)) ∧ (w8_j15 = (if (n.widths.getD (p.a % n.widths.length) 0) > (widthN p.width) then (n.widths.getD (p.a % n.widths.length) 0) else (widthN p.width))))) ?_ (fun w8_j15 hJ15 => ?_)
 refine .sr ?_
 refine .mv ?_
 refine .vl (Y.eql rfl rfl) (.nil ?_)
 refine .condD rfl (fun c76 => ?_) (fun c76 => ?_)
 refine .region ?_
 refine .mv ?_
 refine .fa fl27_1 ?_
 refine .ld sh22 ?_
 refine .mv ?_
 refine .vl (Y.indexF (m := p.a % n.widths.length) sl22 rfl rfl (by first | rfl | omega) (row_getD (d := 0) (by omega))) ?_
 refine .ld sh3 ?_
 refine .vl (Y.min rfl rfl rfl) ?_
 refine .an ?_
 refine .nil ?_
 exact ⟨if (n.widths.getD (p.a % n.widths.length) 0) < (widthN p.width) then (n.widths.getD (p.a % n.widths.length) 0) else (widthN p.width), .inl ⟨c76, rfl⟩, Le.mk (.c (.cons (look_int rfl (by first | rfl | omega)) (.c (.c (.nil))))) (.c (.c (.nil)))⟩
 refine .region ?_
 refine .mv ?_
 refine .fa fl27_1 ?_
 refine .ld sh22 ?_
 refine .mv ?_
 refine .vl (Y.indexF (m := p.a % n.widths.length) sl22 rfl rfl (by first | rfl | omega) (row_getD (d := 0) (by omega))) ?_
 refine .ld sh3 ?_
 refine .vl (Y.max rfl rfl rfl) ?_
 refine .an ?_
 refine .nil ?_
 exact ⟨if (n.widths.getD (p.a % n.widths.length) 0) > (widthN p.width) then (n.widths.getD (p.a % n.widths.length) 0) else (widthN p.width), .inr (⟨c76, rfl⟩), Le.mk (.c (.cons (look_int rfl (by first | rfl | omega)) (.c (.c (.nil))))) (.c (.c (.nil)))⟩
 refine .region ?_
 refine .mv ?_
 refine .buildSlice (([((p.a : Nat) : Int) % ((n.widths.length : Nat) : Int)] : List Int).map irow) sl22 ze3 rfl rfl rfl rfl rfl (uniform_map (s := 1) (f := irow) (fun _ => rfl)) rfl rfl rfl (by decide) ?_
 refine .fa fl39_3 ?_
 refine .sh (Sh.adoptE (d := 92) (n := ([((p.a : Nat) : Int) % ((n.widths.length : Nat) : Int)] : List Int).length) 192 (([((p.a : Nat) : Int) % ((n.widths.length : Nat) : Int)] : List Int).map irow) rfl (by first | rfl | exact rep_map rfl) (len_map rfl) (by decide)) (.storeC si22 rfl rfl rfl rfl rfl rfl (nbE rfl) rfl (.nil ?_))
 refine .le (st' := ⟨[(4, .ptr 104 0 0 0), (8, vi w8_j15), (9, .ptr 109 0 0 0)], [(104, .cells [vi 0, vi 0, vi 0, .v (.slice none 0 0), .v (.int .u64 0), vi 0]), (109, .cells [vi 2, vi (([2, 3, 9, 10, 11, 12, 13, 14, 15, 16, 17, 18, 19, 20, 21, 22, 23, 24] : List Int).getD (p.op % (([2, 3, 9, 10, 11, 12, 13, 14, 15, 16, 17, 18, 19, 20, 21, 22, 23, 24] : List Int).length)) 0), vi 0, .slc 192 1 0 (([((p.a : Nat) : Int) % ((n.widths.length : Nat) : Int)] : List Int).length), .v (.int .u64 0), vi 0]), (192, .rows 1 (([((p.a : Nat) : Int) % ((n.widths.length : Nat) : Int)] : List Int).map irow))]⟩) (Le.mk (.c (.c (.c (.nil)))) (.c (.c (.c (.nil))))) ?_
 refine .sr (.vl (Y.loadA sh39 rfl rfl (nbE rfl) rfl rfl) ?_)
 refine .mv ?_
 refine .storeC si39 rfl rfl rfl rfl rfl rfl (nbE rfl) rfl ?_
 refine .an ?_
 refine .nil (.ret ?_)
 exact ⟨_, rfl, _, _, _, Sh.ownT (d := 0) 3 192 rfl rfl rfl rfl (by first | rfl | exact len_map rfl | exact len_map (by omega)) rfl (by decide), rfl, rfl, (⟨2, ([2, 3, 9, 10, 11, 12, 13, 14, 15, 16, 17, 18, 19, 20, 21, 22, 23, 24] : List Int).getD (p.op % (([2, 3, 9, 10, 11, 12, 13, 14, 15, 16, 17, 18, 19, 20, 21, 22, 23, 24] : List Int).length)) 0, 0, ([((p.a : Nat) : Int) % ((n.widths.length : Nat) : Int)] : List Int), 0, 0⟩ : Cell), _, op_un hg h0 c64 hJ15, rfl, rfl⟩
 refine .seq (.regionHeld0 rfl (.loadA 0 rfl (by kernel_rfl) sh27 rfl rfl rfl (nbE rfl) rfl rfl (by decide) ?_))
 refine .blind 1 rfl (by kernel_rfl) (Blind.move rfl rfl) (by decide) (.blind 2 rfl (by kernel_rfl) (Blind.fieldAddr fl88_3 rfl rfl) (by decide) (.blind 3 rfl (by kernel_rfl) (Blind.indexP ar86 rfl rfl (m := 0) rfl (by omega) rfl) (by decide) ?_))
 refine .load 4 rfl (by kernel_rfl) sh5 rfl rfl rfl rfl rfl (by decide) (.loadA 6 rfl (by kernel_rfl) sh27 rfl rfl rfl (nbE rfl) rfl rfl (by decide) (.blind 7 rfl (by kernel_rfl) (Blind.move rfl rfl) (by decide) ?_))
 refine .blind 8 rfl (by kernel_rfl) (Blind.fieldAddr fl88_3 rfl rfl) (by decide) (.blind 9 rfl (by kernel_rfl) (Blind.indexP ar86 rfl rfl (m := 1) rfl (by omega) rfl) (by decide) (.load 10 rfl (by kernel_rfl) sh5 rfl rfl rfl rfl rfl (by decide) ?_))
 refine .go0 (.one 5 rfl (by kernel_rfl) ?_)
 refine .callP ok56 (pick_spec (n := (⟨n.name, n.widths, n.cells, n.ins, n.mems, n.streams, [], [], n.freeze, n.done, []⟩ : Netlist)) (w := (widthN p.width)) (k := p.a) (by show (n.widths).length ≤ 1048576; omega) (by omega)) rfl (.keep rfl rfl (.keep rfl rfl (.keep rfl rfl .nil))) (by decide) rfl ?_
 refine .nil ⟨rfl, ?_⟩
 refine .one 11 rfl (by kernel_rfl) ?_
 refine .callP ok56 (pick_spec (n := (⟨n.name, n.widths, n.cells, n.ins, n.mems, n.streams, [], [], n.freeze, n.done, []⟩ : Netlist)) (w := (widthN p.width)) (k := p.b) (by show (n.widths).length ≤ 1048576; omega) (by omega)) rfl (.keep rfl rfl (.keep rfl rfl (.keep rfl rfl .nil))) (by decide) rfl ?_
 refine .nil ⟨rfl, ?_⟩
 refine .one 12 rfl (by kernel_rfl) ?_
 refine .buildSlice (([pickN n.widths (widthN p.width) p.a, pickN n.widths (widthN p.width) p.b] : List Int).map irow) sl22 ze3 rfl rfl rfl rfl rfl (uniform_map (s := 1) (f := irow) (fun _ => rfl)) rfl rfl rfl (by decide) ?_
 refine .nil ⟨rfl, ?_⟩
 refine .one 13 rfl (by kernel_rfl) ?_
 refine .fa fl39_3 ?_
 refine .nil ⟨rfl, ?_⟩
 refine .one 14 rfl (by kernel_rfl) ?_
 refine .sh (Sh.adoptE (d := 38) (n := ([pickN n.widths (widthN p.width) p.a, pickN n.widths (widthN p.width) p.b] : List Int).length) 138 (([pickN n.widths (widthN p.width) p.a, pickN n.widths (widthN p.width) p.b] : List Int).map irow) rfl (by first | rfl | exact rep_map rfl) (len_map rfl) (by decide)) ?_
 refine .storeC si22 rfl rfl rfl rfl rfl rfl (nbE rfl) rfl ?_
 refine .nil ⟨rfl, ?_⟩
 refine .done (by kernel_rfl) ?_
 refine .le (st' := ⟨[(4, .ptr 104 0 0 0), (7, vi (([2, 3, 9, 10, 11, 12, 13, 14, 15, 16, 17, 18, 19, 20, 21, 22, 23, 24] : List Int).getD (p.op % (([2, 3, 9, 10, 11, 12, 13, 14, 15, 16, 17, 18, 19, 20, 21, 22, 23, 24] : List Int).length)) 0)), (8, vi (widthN p.width)), (9, .ptr 109 0 0 0)], [(104, .cells [vi 0, vi 0, vi 0, .v (.slice none 0 0), .v (.int .u64 0), vi 0]), (109, .cells [vi 2, vi (([2, 3, 9, 10, 11, 12, 13, 14, 15, 16, 17, 18, 19, 20, 21, 22, 23, 24] : List Int).getD (p.op % (([2, 3, 9, 10, 11, 12, 13, 14, 15, 16, 17, 18, 19, 20, 21, 22, 23, 24] : List Int).length)) 0), vi 0, .slc 138 1 0 (([pickN n.widths (widthN p.width) p.a, pickN n.widths (widthN p.width) p.b] : List Int).length), .v (.int .u64 0), vi 0]), (138, .rows 1 (([pickN n.widths (widthN p.width) p.a, pickN n.widths (widthN p.width) p.b] : List Int).map irow))]⟩) (Le.mk (.c (.c (.c (.c (.nil))))) (.c (.c (.c (.nil))))) ?_
 refine .sr ?_
 refine .mv ?_
 refine .callP ok77 (refIsCompare_spec (w := (([2, 3, 9, 10, 11, 12, 13, 14, 15, 16, 17, 18, 19, 20, 21, 22, 23, 24] : List Int).getD (p.op % (([2, 3, 9, 10, 11, 12, 13, 14, 15, 16, 17, 18, 19, 20, 21, 22, 23, 24] : List Int).length)) 0))) rfl (.keep rfl rfl .nil) (by decide) rfl (.nil ?_)
 refine .condD rfl (fun c41 => ?_) (fun c41 => ?_)
 refine .region ?_
 refine .an ?_
 refine .nil ?_
 refine .le (st' := ⟨[(4, .ptr 104 0 0 0), (8, vi 1), (9, .ptr 109 0 0 0)], [(104, .cells [vi 0, vi 0, vi 0, .v (.slice none 0 0), .v (.int .u64 0), vi 0]), (109, .cells [vi 2, vi (([2, 3, 9, 10, 11, 12, 13, 14, 15, 16, 17, 18, 19, 20, 21, 22, 23, 24] : List Int).getD (p.op % (([2, 3, 9, 10, 11, 12, 13, 14, 15, 16, 17, 18, 19, 20, 21, 22, 23, 24] : List Int).length)) 0), vi 0, .slc 138 1 0 (([pickN n.widths (widthN p.width) p.a, pickN n.widths (widthN p.width) p.b] : List Int).length), .v (.int .u64 0), vi 0]), (138, .rows 1 (([pickN n.widths (widthN p.width) p.a, pickN n.widths (widthN p.width) p.b] : List Int).map irow))]⟩) (Le.mk (.c (.c (.c (.nil)))) (.c (.c (.c (.nil))))) ?_
 refine .sr (.vl (Y.loadA sh39 rfl rfl (nbE rfl) rfl rfl) ?_)
 refine .mv ?_
 refine .storeC si39 rfl rfl rfl rfl rfl rfl (nbE rfl) rfl ?_
 refine .an ?_
 refine .nil (.ret ?_)
 exact ⟨_, rfl, _, _, _, Sh.ownT (d := 0) 3 138 rfl rfl rfl rfl (by first | rfl | exact len_map rfl | exact len_map (by omega)) rfl (by decide), rfl, rfl, (⟨2, ([2, 3, 9, 10, 11, 12, 13, 14, 15, 16, 17, 18, 19, 20, 21, 22, 23, 24] : List Int).getD (p.op % (([2, 3, 9, 10, 11, 12, 13, 14, 15, 16, 17, 18, 19, 20, 21, 22, 23, 24] : List Int).length)) 0, 0, ([pickN n.widths (widthN p.width) p.a, pickN n.widths (widthN p.width) p.b] : List Int), 0, 0⟩ : Cell), _, op_two hg (ops_in _) c42 c64 (.inl ⟨c41, rfl⟩), rfl, rfl⟩
 refine .skip ?_
 refine .le (st' := ⟨[(4, .ptr 104 0 0 0), (8, vi (widthN p.width)), (9, .ptr 109 0 0 0)], [(104, .cells [vi 0, vi 0, vi 0, .v (.slice none 0 0), .v (.int .u64 0), vi 0]), (109, .cells [vi 2, vi (([2, 3, 9, 10, 11, 12, 13, 14, 15, 16, 17, 18, 19, 20, 21, 22, 23, 24] : List Int).getD (p.op % (([2, 3, 9, 10, 11, 12, 13, 14, 15, 16, 17, 18, 19, 20, 21, 22, 23, 24] : List Int).length)) 0), vi 0, .slc 138 1 0 (([pickN n.widths (widthN p.width) p.a, pickN n.widths (widthN p.width) p.b] : List Int).length), .v (.int .u64 0), vi 0]), (138, .rows 1 (([pickN n.widths (widthN p.width) p.a, pickN n.widths (widthN p.width) p.b] : List Int).map irow))]⟩) (Le.mk (.c (.c (.c (.nil)))) (.c (.c (.c (.nil))))) ?_
 refine .sr (.vl (Y.loadA sh39 rfl rfl (nbE rfl) rfl rfl) ?_)
 refine .mv ?_
 refine .storeC si39 rfl rfl rfl rfl rfl rfl (nbE rfl) rfl ?_
 refine .an ?_
 refine .nil (.ret ?_)
 exact ⟨_, rfl, _, _, _, Sh.ownT (d := 0) 3 138 rfl rfl rfl rfl (by first | rfl | exact len_map rfl | exact len_map (by omega)) rfl (by decide), rfl, rfl, (⟨2, ([2, 3, 9, 10, 11, 12, 13, 14, 15, 16, 17, 18, 19, 20, 21, 22, 23, 24] : List Int).getD (p.op % (([2, 3, 9, 10, 11, 12, 13, 14, 15, 16, 17, 18, 19, 20, 21, 22, 23, 24] : List Int).length)) 0, 0, ([pickN n.widths (widthN p.width) p.a, pickN n.widths (widthN p.width) p.b] : List Int), 0, 0⟩ : Cell), _, op_two hg (ops_in _) c42 c64 (.inr ⟨c41, rfl⟩), rfl, rfl⟩
theorem part_spec {n : Netlist} {p : Prt} (hn : n.widths.length ≤ 1048576) (h0 : 0 < n.widths.length) (hp : p.Ok) (hg : Ground n) (hi : n.ins.length ≤ 1048576) : ACalls Try.prog 54 [.agg (Netlist.prow n), .agg (Prt.row p)] [] [] (fun r o => ∃ c w, PartP n c w ∧ r = .tup [.agg (Cell.orow c), vi w] ∧ o = []) := by
 refine ACalls.ofS Try.func54 rfl rfl rfl (n := 208) (by decide) (nbE rfl) ?_
 have hp1 := hp.kind; have hp2 := hp.op; have hp3 := hp.width; have hp4 := hp.a; have hp5 := hp.b; have hp6 := hp.d; have hp7 := hp.num; have hm1 := Nat.mod_lt p.a h0; have hm2 := Nat.mod_lt p.b h0
 refine .sr (.box 102 rfl rfl rfl rfl rfl (by decide) (.box 103 rfl rfl rfl rfl rfl (by decide) ?_))
 refine .alloc 104 ze39 rfl rfl (by decide) ?_
 refine .an ?_
 refine .nil (.seq (.sh (Sh.freezeO 102 rfl rfl) ?_))
 refine .sh (Sh.freezeO 103 rfl rfl) (.region ?_)
 refine .fa fl88_2 ?_
 refine .ld sh5 ?_
 refine .callP ok53 (width_spec (k := p.width)) rfl (.keep rfl rfl .nil) (by decide) rfl ?_
 refine .an ?_
 refine .nil (.sr ?_)
 refine .fa fl88_0 ?_
 refine .ld sh5 ?_
 refine .vl (Y.remI rfl rfl (by first | omega | simp [-List.getD_eq_getElem?_getD] <;> omega)) ?_
 refine .vl (Y.convK ii5 ii3 rfl (by first | rfl | exact IntWalk.i64_in _ (by omega))) ?_
 refine .vl (Y.addI rfl rfl (by omega)) ?_
 refine .vl (Y.build pl39 ze39 rfl rfl rfl) (.alloc 107 ze39 rfl rfl (by decide) (.storeC si39 rfl rfl rfl rfl rfl rfl (nbE rfl) rfl ?_))
 refine .nil (.seq (.regionS rfl (by kernel_rfl) ?_))
 refine .val (Y.fieldAddr fl88_3 rfl rfl) (by decide) (.val (Y.indexP ar86 rfl rfl (m := 0) rfl (by omega) rfl) (by decide) (.val (Y.load sh5 rfl rfl rfl rfl) (by decide) ?_))
 refine .val (Y.fieldAddr fl88_3 rfl rfl) (by decide) (.val (Y.indexP ar86 rfl rfl (m := 1) rfl (by omega) rfl) (by decide) (.val (Y.load sh5 rfl rfl rfl rfl) (by decide) ?_))
 refine .val (Y.fieldAddr fl88_3 rfl rfl) (by decide) (.val (Y.indexP ar86 rfl rfl (m := 2) rfl (by omega) rfl) (by decide) (.val (Y.load sh5 rfl rfl rfl rfl) (by decide) ?_))
 refine .val (Y.assign rfl rfl) (by decide) (.val (Y.assign rfl rfl) (by decide) (.val (Y.assign rfl rfl) (by decide) ?_))
 refine .nil ?_
 refine .le (st' := ⟨[(2, .fp (Netlist.prow n) 0), (3, .fp (Prt.row p) 0), (4, .ptr 104 0 0 0), (6, vi (widthN p.width)), (7, .ptr 107 0 0 0), (8, .v (.int .u8 ((p.a : Nat) : Int))), (9, .v (.int .u8 ((p.b : Nat) : Int))), (10, .v (.int .u8 ((p.d : Nat) : Int)))], [(104, .cells [vi 0, vi 0, vi 0, .v (.slice none 0 0), .v (.int .u64 0), vi 0]), (107, .cells [vi (1 + (((p.kind : Nat) : Int) % 10)), vi 0, vi (-1), .v (.slice none 0 0), .v (.int .u64 0), vi 0])]⟩) (Le.mk (.c (.c (.c (.c (.c (.c (.c (.c (.nil))))))))) (.c (.c (.nil)))) ?_
 refine .seq (.sr ?_)
 refine .fa fl39_0 ?_
 refine .ld sh3 ?_
 refine .nil (.block (.sr ?_))
 refine .vl (Y.eql rfl rfl) ?_
 refine .an ?_
 refine .nil ?_
 refine .condD rfl (fun c67 => ?_) (fun c67 => ?_)
 refine .region ?_
 refine .mv ?_
 refine .fa fl88_4 ?_
 refine .ld sh37 ?_
 refine .callP ok26 (rfit_spec (w := (widthN p.width)) (x := p.num) ((by omega))) rfl (.keep rfl rfl (.keep rfl rfl .nil)) (by decide) rfl ?_
 refine .fa fl39_4 ?_
 refine .storeC si37 rfl rfl rfl rfl rfl rfl (nbE rfl) rfl (.nil ?_)
 refine .le (st' := ⟨[(4, .ptr 104 0 0 0), (6, vi (widthN p.width)), (7, .ptr 107 0 0 0)], [(104, .cells [vi 0, vi 0, vi 0, .v (.slice none 0 0), .v (.int .u64 0), vi 0]), (107, .cells [vi (1 + (((p.kind : Nat) : Int) % 10)), vi 0, vi (-1), .v (.slice none 0 0), .v (.int .u64 ((fitN (widthN p.width) p.num : Nat) : Int)), vi 0])]⟩) (Le.mk (.c (.c (.c (.nil)))) (.c (.c (.nil)))) ?_
 refine .sr (.vl (Y.loadA sh39 rfl rfl (nbE rfl) rfl rfl) ?_)
 refine .mv ?_
 refine .storeC si39 rfl rfl rfl rfl rfl rfl (nbE rfl) rfl ?_
 refine .an ?_
 refine .nil (.sh (Sh.nilCell 104 399 1 3 rfl rfl rfl rfl (by decide)) (.ret ?_))
 exact ⟨_, rfl, _, _, _, Sh.ownT (d := 0) 3 399 rfl rfl rfl rfl (by first | rfl | exact len_map rfl | exact len_map (by omega)) rfl (by decide), rfl, rfl, (⟨1 + (((p.kind : Nat) : Int) % 10), 0, -1, ([] : List Int), fitN (widthN p.width) p.num, 0⟩ : Cell), _, pt_const hg (by omega), rfl, rfl⟩
 refine .sr (.vl (Y.eql rfl rfl) ?_)
 refine .an ?_
 refine .nil ?_
 refine .condD rfl (fun c74 => ?_) (fun c74 => ?_)
 refine .sr (.vl (Y.loadA sh27 rfl rfl (nbE rfl) rfl rfl) (.vl (Y.loadA sh88 rfl rfl (nbE rfl) rfl rfl) ?_))
 refine .callV ok91 (operator_spec (n := n) (p := p) hn h0 hp hg hi) rfl (.keep rfl rfl (.keep rfl rfl .nil)) (by decide) ?_
 rintro _ ⟨cO78, wO78, hO78, rfl, _⟩
 refine ⟨rfl, ?_⟩
 refine .extractU rfl rfl (by decide) (.vl (Y.extract rfl rfl rfl) (.sh (Sh.nameN (d := 79) 3 2083 cO78.args.length rfl rfl rfl (by decide) (len_map rfl)) ?_))
 refine .storeC si39 rfl rfl rfl rfl rfl rfl (nbE rfl) rfl ?_
 refine .an ?_
 refine .nil (.ret ?_)
 exact ⟨_, rfl, _, _, _, Sh.ownT (d := 0) 3 2083 rfl rfl rfl rfl (by first | rfl | exact len_map rfl | exact len_map (by omega)) rfl (by decide), rfl, rfl, cO78, _, hO78, rfl, rfl⟩
 refine .sr (.vl (Y.eql rfl rfl) ?_)
 refine .an ?_
 refine .nil ?_
 refine .condD rfl (fun c81 => ?_) (fun c81 => ?_)
 refine .regionHeld0 rfl (.loadA 0 rfl (by kernel_rfl) sh27 rfl rfl rfl (nbE rfl) rfl rfl (by decide) (.blind 1 rfl (by kernel_rfl) (Blind.move rfl rfl) (by decide) ?_))
 refine .loadA 3 rfl (by kernel_rfl) sh27 rfl rfl rfl (nbE rfl) rfl rfl (by decide) (.blind 4 rfl (by kernel_rfl) (Blind.move rfl rfl) (by decide) (.blind 5 rfl (by kernel_rfl) (Blind.move rfl rfl) (by decide) ?_))
 refine .loadA 7 rfl (by kernel_rfl) sh27 rfl rfl rfl (nbE rfl) rfl rfl (by decide) (.blind 8 rfl (by kernel_rfl) (Blind.move rfl rfl) (by decide) (.loadA 10 rfl (by kernel_rfl) sh27 rfl rfl rfl (nbE rfl) rfl rfl (by decide) ?_))
 refine .blind 11 rfl (by kernel_rfl) (Blind.move rfl rfl) (by decide) (.blind 12 rfl (by kernel_rfl) (Blind.fieldAddr fl88_1 rfl rfl) (by decide) (.load 13 rfl (by kernel_rfl) sh5 rfl rfl rfl rfl rfl (by decide) ?_))
 refine .go0 (.one 2 rfl (by kernel_rfl) (.callP ok56 (pick_spec (n := (⟨n.name, n.widths, n.cells, n.ins, n.mems, n.streams, [], [], n.freeze, n.done, []⟩ : Netlist)) (w := 1) (k := p.a) (by show (n.widths).length ≤ 1048576; omega) (by omega)) rfl (.keep rfl rfl (.keep rfl rfl (.keep rfl rfl .nil))) (by decide) rfl ?_))
 refine .nil ⟨rfl, ?_⟩
 refine .one 6 rfl (by kernel_rfl) ?_
 refine .callP ok56 (pick_spec (n := (⟨n.name, n.widths, n.cells, n.ins, n.mems, n.streams, [], [], n.freeze, n.done, []⟩ : Netlist)) (w := (widthN p.width)) (k := p.b) (by show (n.widths).length ≤ 1048576; omega) (by omega)) rfl (.keep rfl rfl (.keep rfl rfl (.keep rfl rfl .nil))) (by decide) rfl ?_
 refine .nil ⟨rfl, ?_⟩
 refine .one 9 rfl (by kernel_rfl) (.callP ok56 (pick_spec (n := (⟨n.name, n.widths, n.cells, n.ins, n.mems, n.streams, [], [], n.freeze, n.done, []⟩ : Netlist)) (w := 1) (k := p.d) (by show (n.widths).length ≤ 1048576; omega) (by omega)) rfl (.keep rfl rfl (.keep rfl rfl (.keep rfl rfl .nil))) (by decide) rfl ?_)
 refine .nil ⟨rfl, ?_⟩
 refine .one 14 rfl (by kernel_rfl) ?_
 refine .callP ok56 (pick_spec (n := (⟨n.name, n.widths, n.cells, n.ins, n.mems, n.streams, [], [], n.freeze, n.done, []⟩ : Netlist)) (w := (widthN p.width)) (k := p.op) (by show (n.widths).length ≤ 1048576; omega) (by omega)) rfl (.keep rfl rfl (.keep rfl rfl (.keep rfl rfl .nil))) (by decide) rfl ?_
 refine .nil ⟨rfl, ?_⟩
 refine .one 15 rfl (by kernel_rfl) ?_
 refine .buildSlice (([pickN n.widths 1 p.a, pickN n.widths (widthN p.width) p.b, pickN n.widths 1 p.d, pickN n.widths (widthN p.width) p.op] : List Int).map irow) sl22 ze3 rfl rfl rfl rfl rfl (uniform_map (s := 1) (f := irow) (fun _ => rfl)) rfl rfl rfl (by decide) ?_
 refine .nil ⟨rfl, ?_⟩
 refine .one 16 rfl (by kernel_rfl) ?_
 refine .fa fl39_3 ?_
 refine .nil ⟨rfl, ?_⟩
 refine .one 17 rfl (by kernel_rfl) ?_
 refine .sh (Sh.adoptE (d := 98) (n := ([pickN n.widths 1 p.a, pickN n.widths (widthN p.width) p.b, pickN n.widths 1 p.d, pickN n.widths (widthN p.width) p.op] : List Int).length) 198 (([pickN n.widths 1 p.a, pickN n.widths (widthN p.width) p.b, pickN n.widths 1 p.d, pickN n.widths (widthN p.width) p.op] : List Int).map irow) rfl (by first | rfl | exact rep_map rfl) (len_map rfl) (by decide)) ?_
 refine .storeC si22 rfl rfl rfl rfl rfl rfl (nbE rfl) rfl ?_
 refine .nil ⟨rfl, ?_⟩
 refine .done (by kernel_rfl) ?_
 refine .le (st' := ⟨[(4, .ptr 104 0 0 0), (6, vi (widthN p.width)), (7, .ptr 107 0 0 0)], [(104, .cells [vi 0, vi 0, vi 0, .v (.slice none 0 0), .v (.int .u64 0), vi 0]), (107, .cells [vi (1 + (((p.kind : Nat) : Int) % 10)), vi 0, vi (-1), .slc 198 1 0 (([pickN n.widths 1 p.a, pickN n.widths (widthN p.width) p.b, pickN n.widths 1 p.d, pickN n.widths (widthN p.width) p.op] : List Int).length), .v (.int .u64 0), vi 0]), (198, .rows 1 (([pickN n.widths 1 p.a, pickN n.widths (widthN p.width) p.b, pickN n.widths 1 p.d, pickN n.widths (widthN p.width) p.op] : List Int).map irow))]⟩) (Le.mk (.c (.c (.c (.nil)))) (.c (.c (.c (.nil))))) ?_
 refine .sr (.vl (Y.loadA sh39 rfl rfl (nbE rfl) rfl rfl) ?_)
 refine .mv ?_
 refine .storeC si39 rfl rfl rfl rfl rfl rfl (nbE rfl) rfl ?_
 refine .an ?_
 refine .nil (.ret ?_)
 exact ⟨_, rfl, _, _, _, Sh.ownT (d := 0) 3 198 rfl rfl rfl rfl (by first | rfl | exact len_map rfl | exact len_map (by omega)) rfl (by decide), rfl, rfl, (⟨1 + (((p.kind : Nat) : Int) % 10), 0, -1, ([pickN n.widths 1 p.a, pickN n.widths (widthN p.width) p.b, pickN n.widths 1 p.d, pickN n.widths (widthN p.width) p.op] : List Int), 0, 0⟩ : Cell), _, pt_mux hg (by omega), rfl, rfl⟩
 refine .sr (.vl (Y.eql rfl rfl) ?_)
 refine .an ?_
 refine .nil ?_
 refine .condD rfl (fun c100 => ?_) (fun c100 => ?_)
 refine .sr ?_
 refine .mv ?_
 refine .fa fl88_4 ?_
 refine .ld sh37 ?_
 refine .callP ok26 (rfit_spec (w := (widthN p.width)) (x := p.num) ((by omega))) rfl (.keep rfl rfl (.keep rfl rfl .nil)) (by decide) rfl ?_
 refine .fa fl39_4 ?_
 refine .storeC si37 rfl rfl rfl rfl rfl rfl (nbE rfl) rfl (.nil ?_)
 refine .le (st' := ⟨[(2, .fp (Netlist.prow n) 0), (4, .ptr 104 0 0 0), (6, vi (widthN p.width)), (7, .ptr 107 0 0 0), (8, .v (.int .u8 ((p.a : Nat) : Int))), (9, .v (.int .u8 ((p.b : Nat) : Int)))], [(104, .cells [vi 0, vi 0, vi 0, .v (.slice none 0 0), .v (.int .u64 0), vi 0]), (107, .cells [vi (1 + (((p.kind : Nat) : Int) % 10)), vi 0, vi (-1), .v (.slice none 0 0), .v (.int .u64 ((fitN (widthN p.width) p.num : Nat) : Int)), vi 0])]⟩) (Le.mk (.c (.c (.c (.c (.c (.c (.nil))))))) (.c (.c (.nil)))) ?_
 refine .regionHeld0 rfl (.loadA 0 rfl (by kernel_rfl) sh27 rfl rfl rfl (nbE rfl) rfl rfl (by decide) (.blind 1 rfl (by kernel_rfl) (Blind.move rfl rfl) (by decide) ?_))
 refine .loadA 3 rfl (by kernel_rfl) sh27 rfl rfl rfl (nbE rfl) rfl rfl (by decide) (.blind 4 rfl (by kernel_rfl) (Blind.move rfl rfl) (by decide) (.blind 5 rfl (by kernel_rfl) (Blind.move rfl rfl) (by decide) ?_))
 refine .go0 (.one 2 rfl (by kernel_rfl) (.callP ok56 (pick_spec (n := (⟨n.name, n.widths, n.cells, n.ins, n.mems, n.streams, [], [], n.freeze, n.done, []⟩ : Netlist)) (w := 1) (k := p.a) (by show (n.widths).length ≤ 1048576; omega) (by omega)) rfl (.keep rfl rfl (.keep rfl rfl (.keep rfl rfl .nil))) (by decide) rfl ?_))
 refine .nil ⟨rfl, ?_⟩
 refine .one 6 rfl (by kernel_rfl) ?_
 refine .callP ok56 (pick_spec (n := (⟨n.name, n.widths, n.cells, n.ins, n.mems, n.streams, [], [], n.freeze, n.done, []⟩ : Netlist)) (w := (widthN p.width)) (k := p.b) (by show (n.widths).length ≤ 1048576; omega) (by omega)) rfl (.keep rfl rfl (.keep rfl rfl (.keep rfl rfl .nil))) (by decide) rfl ?_
 refine .nil ⟨rfl, ?_⟩
 refine .one 7 rfl (by kernel_rfl) ?_
 refine .buildSlice (([pickN n.widths 1 p.a, pickN n.widths (widthN p.width) p.b] : List Int).map irow) sl22 ze3 rfl rfl rfl rfl rfl (uniform_map (s := 1) (f := irow) (fun _ => rfl)) rfl rfl rfl (by decide) ?_
 refine .nil ⟨rfl, ?_⟩
 refine .one 8 rfl (by kernel_rfl) ?_
 refine .fa fl39_3 ?_
 refine .nil ⟨rfl, ?_⟩
 refine .one 9 rfl (by kernel_rfl) (.sh (Sh.adoptE (d := 114) (n := ([pickN n.widths 1 p.a, pickN n.widths (widthN p.width) p.b] : List Int).length) 214 (([pickN n.widths 1 p.a, pickN n.widths (widthN p.width) p.b] : List Int).map irow) rfl (by first | rfl | exact rep_map rfl) (len_map rfl) (by decide)) (.storeC si22 rfl rfl rfl rfl rfl rfl (nbE rfl) rfl ?_))
 refine .nil ⟨rfl, ?_⟩
 refine .done (by kernel_rfl) ?_
 refine .le (st' := ⟨[(4, .ptr 104 0 0 0), (6, vi (widthN p.width)), (7, .ptr 107 0 0 0)], [(104, .cells [vi 0, vi 0, vi 0, .v (.slice none 0 0), .v (.int .u64 0), vi 0]), (107, .cells [vi (1 + (((p.kind : Nat) : Int) % 10)), vi 0, vi (-1), .slc 214 1 0 (([pickN n.widths 1 p.a, pickN n.widths (widthN p.width) p.b] : List Int).length), .v (.int .u64 ((fitN (widthN p.width) p.num : Nat) : Int)), vi 0]), (214, .rows 1 (([pickN n.widths 1 p.a, pickN n.widths (widthN p.width) p.b] : List Int).map irow))]⟩) (Le.mk (.c (.c (.c (.nil)))) (.c (.c (.c (.nil))))) ?_
 refine .sr (.vl (Y.loadA sh39 rfl rfl (nbE rfl) rfl rfl) ?_)
 refine .mv ?_
 refine .storeC si39 rfl rfl rfl rfl rfl rfl (nbE rfl) rfl ?_
 refine .an ?_
 refine .nil (.ret ?_)
 exact ⟨_, rfl, _, _, _, Sh.ownT (d := 0) 3 214 rfl rfl rfl rfl (by first | rfl | exact len_map rfl | exact len_map (by omega)) rfl (by decide), rfl, rfl, (⟨1 + (((p.kind : Nat) : Int) % 10), 0, -1, ([pickN n.widths 1 p.a, pickN n.widths (widthN p.width) p.b] : List Int), fitN (widthN p.width) p.num, 0⟩ : Cell), _, pt_reg hg (by omega), rfl, rfl⟩
 refine .sr (.vl (Y.eql rfl rfl) ?_)
 refine .an ?_
 refine .nil ?_
 refine .condD rfl (fun c116 => ?_) (fun c116 => ?_)
 refine .sr ?_
 refine .fa fl88_1 ?_
 refine .ld sh5 ?_
 refine .vl (Y.remI rfl rfl (by first | omega | simp [-List.getD_eq_getElem?_getD] <;> omega)) ?_
 refine .vl (Y.convK ii5 ii3 rfl (by first | rfl | exact IntWalk.i64_in _ (by omega))) ?_
 refine .vl (Y.addI rfl rfl (by omega)) ?_
 refine .fa fl39_1 ?_
 refine .storeC si3 rfl rfl rfl rfl rfl rfl (nbE rfl) rfl (.nil (.sr ?_))
 refine .fa fl88_4 ?_
 refine .ld sh37 ?_
 refine .vl (Y.remN (a := p.num) (b := 4) rfl rfl (by omega)) ?_
 refine .vl (Y.addN (a := 1) (b := (p.num % 4)) rfl rfl) ?_
 refine .fa fl39_4 ?_
 refine .storeC si37 rfl rfl rfl rfl rfl rfl (nbE rfl) rfl (.nil ?_)
 refine .le (st' := ⟨[(2, .fp (Netlist.prow n) 0), (4, .ptr 104 0 0 0), (6, vi (widthN p.width)), (7, .ptr 107 0 0 0), (8, .v (.int .u8 ((p.a : Nat) : Int))), (9, .v (.int .u8 ((p.b : Nat) : Int)))], [(104, .cells [vi 0, vi 0, vi 0, .v (.slice none 0 0), .v (.int .u64 0), vi 0]), (107, .cells [vi (1 + (((p.kind : Nat) : Int) % 10)), vi (4 + (((p.op : Nat) : Int) % 5)), vi (-1), .v (.slice none 0 0), .v (.int .u64 (((1 + (p.num % 4)) % 18446744073709551616 : Nat) : Int)), vi 0])]⟩) (Le.mk (.c (.c (.c (.c (.c (.c (.nil))))))) (.c (.c (.nil)))) ?_
 refine .regionHeld0 rfl (.loadA 0 rfl (by kernel_rfl) sh27 rfl rfl rfl (nbE rfl) rfl rfl (by decide) (.blind 1 rfl (by kernel_rfl) (Blind.move rfl rfl) (by decide) ?_))
 refine .blind 2 rfl (by kernel_rfl) (Blind.move rfl rfl) (by decide) (.loadA 4 rfl (by kernel_rfl) sh27 rfl rfl rfl (nbE rfl) rfl rfl (by decide) (.blind 5 rfl (by kernel_rfl) (Blind.move rfl rfl) (by decide) ?_))
 refine .blind 6 rfl (by kernel_rfl) (Blind.move rfl rfl) (by decide) (.go0 (.one 3 rfl (by kernel_rfl) ?_))
 refine .callP ok56 (pick_spec (n := (⟨n.name, n.widths, n.cells, n.ins, n.mems, n.streams, [], [], n.freeze, n.done, []⟩ : Netlist)) (w := (widthN p.width)) (k := p.a) (by show (n.widths).length ≤ 1048576; omega) (by omega)) rfl (.keep rfl rfl (.keep rfl rfl (.keep rfl rfl .nil))) (by decide) rfl ?_
 refine .nil ⟨rfl, ?_⟩
 refine .one 7 rfl (by kernel_rfl) ?_
 refine .callP ok56 (pick_spec (n := (⟨n.name, n.widths, n.cells, n.ins, n.mems, n.streams, [], [], n.freeze, n.done, []⟩ : Netlist)) (w := (widthN p.width)) (k := p.b) (by show (n.widths).length ≤ 1048576; omega) (by omega)) rfl (.keep rfl rfl (.keep rfl rfl (.keep rfl rfl .nil))) (by decide) rfl ?_
 refine .nil ⟨rfl, ?_⟩
 refine .one 8 rfl (by kernel_rfl) ?_
 refine .buildSlice (([pickN n.widths (widthN p.width) p.a, pickN n.widths (widthN p.width) p.b] : List Int).map irow) sl22 ze3 rfl rfl rfl rfl rfl (uniform_map (s := 1) (f := irow) (fun _ => rfl)) rfl rfl rfl (by decide) ?_
 refine .nil ⟨rfl, ?_⟩
 refine .one 9 rfl (by kernel_rfl) ?_
 refine .fa fl39_3 ?_
 refine .nil ⟨rfl, ?_⟩
 refine .one 10 rfl (by kernel_rfl) ?_
 refine .sh (Sh.adoptE (d := 137) (n := ([pickN n.widths (widthN p.width) p.a, pickN n.widths (widthN p.width) p.b] : List Int).length) 237 (([pickN n.widths (widthN p.width) p.a, pickN n.widths (widthN p.width) p.b] : List Int).map irow) rfl (by first | rfl | exact rep_map rfl) (len_map rfl) (by decide)) ?_
 refine .storeC si22 rfl rfl rfl rfl rfl rfl (nbE rfl) rfl ?_
 refine .nil ⟨rfl, ?_⟩
 refine .done (by kernel_rfl) ?_
 refine .le (st' := ⟨[(4, .ptr 104 0 0 0), (6, vi (widthN p.width)), (7, .ptr 107 0 0 0)], [(104, .cells [vi 0, vi 0, vi 0, .v (.slice none 0 0), .v (.int .u64 0), vi 0]), (107, .cells [vi (1 + (((p.kind : Nat) : Int) % 10)), vi (4 + (((p.op : Nat) : Int) % 5)), vi (-1), .slc 237 1 0 (([pickN n.widths (widthN p.width) p.a, pickN n.widths (widthN p.width) p.b] : List Int).length), .v (.int .u64 (((1 + (p.num % 4)) % 18446744073709551616 : Nat) : Int)), vi 0]), (237, .rows 1 (([pickN n.widths (widthN p.width) p.a, pickN n.widths (widthN p.width) p.b] : List Int).map irow))]⟩) (Le.mk (.c (.c (.c (.nil)))) (.c (.c (.c (.nil))))) ?_
 refine .sr (.vl (Y.loadA sh39 rfl rfl (nbE rfl) rfl rfl) ?_)
 refine .mv ?_
 refine .storeC si39 rfl rfl rfl rfl rfl rfl (nbE rfl) rfl ?_
 refine .an ?_
 refine .nil (.ret ?_)
 exact ⟨_, rfl, _, _, _, Sh.ownT (d := 0) 3 237 rfl rfl rfl rfl (by first | rfl | exact len_map rfl | exact len_map (by omega)) rfl (by decide), rfl, rfl, (⟨1 + (((p.kind : Nat) : Int) % 10), 4 + (((p.op : Nat) : Int) % 5), -1, ([pickN n.widths (widthN p.width) p.a, pickN n.widths (widthN p.width) p.b] : List Int), (1 + (p.num % 4)) % 18446744073709551616, 0⟩ : Cell), _, pt_unit hg (by omega) (by omega) (by omega), rfl, rfl⟩
 refine .seq (.sr (.vl (Y.eql rfl rfl) ?_))
 refine .an ?_
 refine .nil ?_
 refine .condKD rfl (fun c139 => ?_) (fun c139 => ?_)
 refine .skip (.condT rfl (.seq ?_))
 refine .sr ?_
 refine .fa fl27_4 ?_
 refine .ld sh24 ?_
 refine .vl (Y.len (n := n.mems.length) sl24 rfl (congrArg some (List.length_map ..))) (.vl (Y.eql rfl rfl) (.nil ?_))
 refine .condD rfl (fun c145 => ?_) (fun c145 => ?_)
 refine .sr (.vl (Y.build pl39 ze39 rfl rfl rfl) (.storeC si39 rfl rfl rfl rfl rfl rfl (nbE rfl) rfl ?_))
 refine .an ?_
 refine .nil (.sh (Sh.nilCell 104 399 1 3 rfl rfl rfl rfl (by decide)) (.ret ?_))
 exact ⟨_, rfl, _, _, _, Sh.ownT (d := 0) 3 399 rfl rfl rfl rfl (by first | rfl | exact len_map rfl | exact len_map (by omega)) rfl (by decide), rfl, rfl, (⟨0, 0, 0, ([] : List Int), 0, 0⟩ : Cell), _, pt_none hg, rfl, rfl⟩
 refine .skip (.sr ?_)
 refine .fa fl88_1 ?_
 refine .ld sh5 ?_
 refine .vl (Y.convK ii5 ii3 rfl (by first | rfl | exact IntWalk.i64_in _ (by omega))) ?_
 refine .fa fl27_4 ?_
 refine .ld sh24 ?_
 refine .vl (Y.len (n := n.mems.length) sl24 rfl (congrArg some (List.length_map ..))) ?_
 refine .vl (Y.remI rfl rfl (by first | omega | simp [-List.getD_eq_getElem?_getD] <;> omega)) ?_
 refine .fa fl39_5 ?_
 refine .storeC si3 rfl rfl rfl rfl rfl rfl (nbE rfl) rfl (.nil (.seq ?_))
 have hmm : p.op % n.mems.length < n.mems.length := Nat.mod_lt _ (by omega)
 refine .region ?_
 refine .fa fl27_4 ?_
 refine .ld sh24 ?_
 refine .fa fl39_5 ?_
 refine .ld sh3 ?_
 refine .vl (Y.indexF (m := p.op % n.mems.length) sl24 rfl rfl (by first | rfl | omega) (row_getD (d := default) (by omega))) ?_
 refine .fa fl48_1 ?_
 refine .ld sh3 ?_
 refine .an ?_
 refine .nil ?_
 refine .le (st' := ⟨[(2, .fp (Netlist.prow n) 0), (4, .ptr 104 0 0 0), (6, vi ((n.mems.getD (p.op % n.mems.length) default).width)), (7, .ptr 107 0 0 0), (8, .v (.int .u8 ((p.a : Nat) : Int))), (9, .v (.int .u8 ((p.b : Nat) : Int))), (10, .v (.int .u8 ((p.d : Nat) : Int)))], [(104, .cells [vi 0, vi 0, vi 0, .v (.slice none 0 0), .v (.int .u64 0), vi 0]), (107, .cells [vi (1 + (((p.kind : Nat) : Int) % 10)), vi 0, vi (-1), .v (.slice none 0 0), .v (.int .u64 0), vi (((p.op : Nat) : Int) % ((n.mems.length : Nat) : Int))])]⟩) (Le.mk (.c (.c (.c (.c (.c (.c (.c (.nil)))))))) (.c (.c (.nil)))) ?_
 refine .seq (.regionHeld0 rfl (.loadA 0 rfl (by kernel_rfl) sh27 rfl rfl rfl (nbE rfl) rfl rfl (by decide) ?_))
 refine .blind 1 rfl (by kernel_rfl) (Blind.move rfl rfl) (by decide) (.blind 3 rfl (by kernel_rfl) (Blind.move rfl rfl) (by decide) ?_)
 refine .blind 4 rfl (by kernel_rfl) (Blind.convK ii5 ii3 rfl (by first | rfl | exact IntWalk.i64_in _ (by omega))) (by decide) ?_
 refine .blind 5 rfl (by kernel_rfl) (Blind.fieldAddr fl27_1 rfl rfl) (by decide) (.load 6 rfl (by kernel_rfl) sh22 rfl rfl rfl rfl rfl (by decide) (.blind 7 rfl (by kernel_rfl) (Blind.len (n := n.widths.length) sl22 rfl (congrArg some (List.length_map ..))) (by decide) ?_))
 refine .blind 8 rfl (by kernel_rfl) (Blind.remI rfl rfl (by omega)) (by decide) ?_
 refine .go0 (.one 2 rfl (by kernel_rfl) (.callP ok56 (pick_spec (n := (⟨n.name, n.widths, n.cells, n.ins, n.mems, n.streams, [], [], n.freeze, n.done, []⟩ : Netlist)) (w := 1) (k := p.a) (by show (n.widths).length ≤ 1048576; omega) (by omega)) rfl (.keep rfl rfl (.keep rfl rfl (.keep rfl rfl .nil))) (by decide) rfl ?_))
 refine .nil ⟨rfl, ?_⟩
 refine .one 9 rfl (by kernel_rfl) ?_
 refine .buildSlice (([pickN n.widths 1 p.a, ((p.b : Nat) : Int) % ((n.widths.length : Nat) : Int)] : List Int).map irow) sl22 ze3 rfl rfl rfl rfl rfl (uniform_map (s := 1) (f := irow) (fun _ => rfl)) rfl rfl rfl (by decide) ?_
 refine .nil ⟨rfl, ?_⟩
 refine .one 10 rfl (by kernel_rfl) ?_
 refine .fa fl39_3 ?_
 refine .nil ⟨rfl, ?_⟩
 refine .one 11 rfl (by kernel_rfl) ?_
 refine .sh (Sh.adoptE (d := 171) (n := ([pickN n.widths 1 p.a, ((p.b : Nat) : Int) % ((n.widths.length : Nat) : Int)] : List Int).length) 271 (([pickN n.widths 1 p.a, ((p.b : Nat) : Int) % ((n.widths.length : Nat) : Int)] : List Int).map irow) rfl (by first | rfl | exact rep_map rfl) (len_map rfl) (by decide)) ?_
 refine .storeC si22 rfl rfl rfl rfl rfl rfl (nbE rfl) rfl ?_
 refine .nil ⟨rfl, ?_⟩
 refine .done (by kernel_rfl) ?_
 refine .le (st' := ⟨[(2, .fp (Netlist.prow n) 0), (4, .ptr 104 0 0 0), (6, vi ((n.mems.getD (p.op % n.mems.length) default).width)), (7, .ptr 107 0 0 0), (10, .v (.int .u8 ((p.d : Nat) : Int)))], [(104, .cells [vi 0, vi 0, vi 0, .v (.slice none 0 0), .v (.int .u64 0), vi 0]), (107, .cells [vi (1 + (((p.kind : Nat) : Int) % 10)), vi 0, vi (-1), .slc 271 1 0 (([pickN n.widths 1 p.a, ((p.b : Nat) : Int) % ((n.widths.length : Nat) : Int)] : List Int).length), .v (.int .u64 0), vi (((p.op : Nat) : Int) % ((n.mems.length : Nat) : Int))]), (271, .rows 1 (([pickN n.widths 1 p.a, ((p.b : Nat) : Int) % ((n.widths.length : Nat) : Int)] : List Int).map irow))]⟩) (Le.mk (.c (.c (.c (.c (.c (.nil)))))) (.c (.c (.c (.nil))))) ?_
 refine .sr ?_
 refine .fa fl39_0 ?_
 refine .ld sh3 ?_
 refine .vl (Y.eql rfl rfl) (.nil ?_)
 refine .condD rfl (fun c175 => ?_) (fun c175 => ?_)
 refine .regionHeldJ0 (⟨[(4, .ptr 104 0 0 0), (6, .v (.int .i64 ((n.mems.getD (p.op % n.mems.length) default).width))), (7, .ptr 107 0 0 0)], [(104, .cells [.v (.int .i64 0), .v (.int .i64 0), .v (.int .i64 0), .v (.slice none 0 0), .v (.int .u64 0), .v (.int .i64 0)]), (107, .cells [.v (.int .i64 (1 + (((p.kind : Nat) : Int) % 10))), .v (.int .i64 0), .v (.int .i64 (-1)), .slc 271 1 0 ((([pickN n.widths 1 p.a, ((p.b : Nat) : Int) % ((n.widths.length : Nat) : Int)] : List Int) ++ ([pickN n.widths ((n.mems.getD (p.op % n.mems.length) default).width) p.d] : List Int)).length), .v (.int .u64 0), .v (.int .i64 (((p.op : Nat) : Int) % ((n.mems.length : Nat) : Int)))]), (271, .rows 1 ((([pickN n.widths 1 p.a, ((p.b : Nat) : Int) % ((n.widths.length : Nat) : Int)] : List Int) ++ ([pickN n.widths ((n.mems.getD (p.op % n.mems.length) default).width) p.d] : List Int)).map irow))]⟩) rfl ?_ ?_
 refine .blind 0 rfl (by kernel_rfl) (Blind.fieldAddr fl39_3 rfl rfl) (by decide) (.loadA 2 rfl (by kernel_rfl) sh27 rfl rfl rfl (nbE rfl) rfl rfl (by decide) (.blind 3 rfl (by kernel_rfl) (Blind.move rfl rfl) (by decide) ?_))
 refine .blind 4 rfl (by kernel_rfl) (Blind.move rfl rfl) (by decide) (.go0 ?_)
 refine .two 1 5 rfl rfl (by kernel_rfl) ?_ ?_
 refine .ld sh22 ?_
 refine .nil ⟨rfl, ?_⟩
 refine .one 5 rfl (by kernel_rfl) ?_
 refine .callP ok56 (pick_spec (n := (⟨n.name, n.widths, n.cells, n.ins, n.mems, n.streams, [], [], n.freeze, n.done, []⟩ : Netlist)) (w := ((n.mems.getD (p.op % n.mems.length) default).width)) (k := p.d) (by show (n.widths).length ≤ 1048576; omega) (by omega)) rfl (.keep rfl rfl (.keep rfl rfl (.keep rfl rfl .nil))) (by decide) rfl ?_
 refine .nil ⟨rfl, ?_⟩
 refine .one 6 rfl (by kernel_rfl) ?_
 refine .buildSlice (([pickN n.widths ((n.mems.getD (p.op % n.mems.length) default).width) p.d] : List Int).map irow) sl22 ze3 rfl rfl rfl rfl rfl (uniform_map (s := 1) (f := irow) (fun _ => rfl)) rfl rfl rfl (by decide) ?_
 refine .nil ⟨rfl, ?_⟩
 refine .one 7 rfl (by kernel_rfl) ?_
 refine .appendE ((([pickN n.widths 1 p.a, ((p.b : Nat) : Int) % ((n.widths.length : Nat) : Int)] : List Int) ++ ([pickN n.widths ((n.mems.getD (p.op % n.mems.length) default).width) p.d] : List Int)).map irow) (([pickN n.widths 1 p.a, ((p.b : Nat) : Int) % ((n.widths.length : Nat) : Int)] : List Int) ++ ([pickN n.widths ((n.mems.getD (p.op % n.mems.length) default).width) p.d] : List Int)).length sl22 ze3 rfl rfl rfl rfl (app_le (by first | omega | simp [-List.getD_eq_getElem?_getD] <;> omega)) (app_map (by first | omega | simp [-List.getD_eq_getElem?_getD] <;> omega)) (app_n (by first | omega | simp [-List.getD_eq_getElem?_getD] <;> omega)) (by first | omega | simp [-List.getD_eq_getElem?_getD] <;> omega) (by first | omega | simp [-List.getD_eq_getElem?_getD] <;> omega) (by decide) (by decide) ?_
 refine .nil ⟨rfl, ?_⟩
 refine .one 8 rfl (by kernel_rfl) ?_
 refine .fa fl39_3 ?_
 refine .nil ⟨rfl, ?_⟩
 refine .one 9 rfl (by kernel_rfl) (.storeC si22 rfl rfl rfl rfl rfl rfl (nbE rfl) rfl ?_)
 refine .nil ⟨rfl, ?_⟩
 refine .done (by kernel_rfl) ?_
 exact Le.mk (.c (.c (.c (.nil)))) (.c (.c (.c (.nil))))
 refine .callP ok56 (pick_spec (n := (⟨n.name, n.widths, n.cells, n.ins, n.mems, n.streams, [], [], n.freeze, n.done, []⟩ : Netlist)) (w := ((n.mems.getD (p.op % n.mems.length) default).width)) (k := p.d) (by show (n.widths).length ≤ 1048576; omega) (by omega)) rfl (.keep rfl rfl (.keep rfl rfl (.keep rfl rfl .nil))) (by decide) rfl ?_
 refine .nil ⟨rfl, ?_⟩
 refine .two 1 6 rfl rfl (by kernel_rfl) ?_ ?_
 refine .ld sh22 ?_
 refine .nil ⟨rfl, ?_⟩
 refine .one 6 rfl (by kernel_rfl) ?_
 refine .buildSlice (([pickN n.widths ((n.mems.getD (p.op % n.mems.length) default).width) p.d] : List Int).map irow) sl22 ze3 rfl rfl rfl rfl rfl (uniform_map (s := 1) (f := irow) (fun _ => rfl)) rfl rfl rfl (by decide) ?_
 refine .nil ⟨rfl, ?_⟩
 refine .one 7 rfl (by kernel_rfl) ?_
 refine .appendE ((([pickN n.widths 1 p.a, ((p.b : Nat) : Int) % ((n.widths.length : Nat) : Int)] : List Int) ++ ([pickN n.widths ((n.mems.getD (p.op % n.mems.length) default).width) p.d] : List Int)).map irow) (([pickN n.widths 1 p.a, ((p.b : Nat) : Int) % ((n.widths.length : Nat) : Int)] : List Int) ++ ([pickN n.widths ((n.mems.getD (p.op % n.mems.length) default).width) p.d] : List Int)).length sl22 ze3 rfl rfl rfl rfl (app_le (by first | omega | simp [-List.getD_eq_getElem?_getD] <;> omega)) (app_map (by first | omega | simp [-List.getD_eq_getElem?_getD] <;> omega)) (app_n (by first | omega | simp [-List.getD_eq_getElem?_getD] <;> omega)) (by first | omega | simp [-List.getD_eq_getElem?_getD] <;> omega) (by first | omega | simp [-List.getD_eq_getElem?_getD] <;> omega) (by decide) (by decide) ?_
 refine .nil ⟨rfl, ?_⟩
 refine .one 8 rfl (by kernel_rfl) ?_
 refine .fa fl39_3 ?_
 refine .nil ⟨rfl, ?_⟩
 refine .one 9 rfl (by kernel_rfl) (.storeC si22 rfl rfl rfl rfl rfl rfl (nbE rfl) rfl ?_)
 refine .nil ⟨rfl, ?_⟩
 refine .done (by kernel_rfl) ?_
 exact Le.mk (.c (.c (.c (.nil)))) (.c (.c (.c (.nil))))
 refine .buildSlice (([pickN n.widths ((n.mems.getD (p.op % n.mems.length) default).width) p.d] : List Int).map irow) sl22 ze3 rfl rfl rfl rfl rfl (uniform_map (s := 1) (f := irow) (fun _ => rfl)) rfl rfl rfl (by decide) ?_
 refine .nil ⟨rfl, ?_⟩
 refine .one 1 rfl (by kernel_rfl) ?_
 refine .ld sh22 ?_
 refine .nil ⟨rfl, ?_⟩
 refine .one 7 rfl (by kernel_rfl) ?_
 refine .appendE ((([pickN n.widths 1 p.a, ((p.b : Nat) : Int) % ((n.widths.length : Nat) : Int)] : List Int) ++ ([pickN n.widths ((n.mems.getD (p.op % n.mems.length) default).width) p.d] : List Int)).map irow) (([pickN n.widths 1 p.a, ((p.b : Nat) : Int) % ((n.widths.length : Nat) : Int)] : List Int) ++ ([pickN n.widths ((n.mems.getD (p.op % n.mems.length) default).width) p.d] : List Int)).length sl22 ze3 rfl rfl rfl rfl (app_le (by first | omega | simp [-List.getD_eq_getElem?_getD] <;> omega)) (app_map (by first | omega | simp [-List.getD_eq_getElem?_getD] <;> omega)) (app_n (by first | omega | simp [-List.getD_eq_getElem?_getD] <;> omega)) (by first | omega | simp [-List.getD_eq_getElem?_getD] <;> omega) (by first | omega | simp [-List.getD_eq_getElem?_getD] <;> omega) (by decide) (by decide) ?_
 refine .nil ⟨rfl, ?_⟩
 refine .one 8 rfl (by kernel_rfl) ?_
 refine .fa fl39_3 ?_
 refine .nil ⟨rfl, ?_⟩
 refine .one 9 rfl (by kernel_rfl) (.storeC si22 rfl rfl rfl rfl rfl rfl (nbE rfl) rfl ?_)
 refine .nil ⟨rfl, ?_⟩
 refine .done (by kernel_rfl) ?_
 exact Le.mk (.c (.c (.c (.nil)))) (.c (.c (.c (.nil))))
 refine .le (st' := ⟨[(4, .ptr 104 0 0 0), (6, vi ((n.mems.getD (p.op % n.mems.length) default).width)), (7, .ptr 107 0 0 0)], [(104, .cells [vi 0, vi 0, vi 0, .v (.slice none 0 0), .v (.int .u64 0), vi 0]), (107, .cells [vi (1 + (((p.kind : Nat) : Int) % 10)), vi 0, vi (-1), .slc 271 1 0 ((([pickN n.widths 1 p.a, ((p.b : Nat) : Int) % ((n.widths.length : Nat) : Int)] : List Int) ++ ([pickN n.widths ((n.mems.getD (p.op % n.mems.length) default).width) p.d] : List Int)).length), .v (.int .u64 0), vi (((p.op : Nat) : Int) % ((n.mems.length : Nat) : Int))]), (271, .rows 1 ((([pickN n.widths 1 p.a, ((p.b : Nat) : Int) % ((n.widths.length : Nat) : Int)] : List Int) ++ ([pickN n.widths ((n.mems.getD (p.op % n.mems.length) default).width) p.d] : List Int)).map irow))]⟩) (Le.mk (.c (.c (.c (.nil)))) (.c (.c (.c (.nil))))) ?_
 refine .sr (.vl (Y.loadA sh39 rfl rfl (nbE rfl) rfl rfl) ?_)
 refine .mv ?_
 refine .storeC si39 rfl rfl rfl rfl rfl rfl (nbE rfl) rfl ?_
 refine .an ?_
 refine .nil (.ret ?_)
 exact ⟨_, rfl, _, _, _, Sh.ownT (d := 0) 3 271 rfl rfl rfl rfl (by first | rfl | exact len_map rfl | exact len_map (by omega)) rfl (by decide), rfl, rfl, (⟨1 + (((p.kind : Nat) : Int) % 10), 0, -1, ([pickN n.widths 1 p.a, ((p.b : Nat) : Int) % ((n.widths.length : Nat) : Int)] : List Int) ++ ([pickN n.widths ((n.mems.getD (p.op % n.mems.length) default).width) p.d] : List Int), 0, ((p.op : Nat) : Int) % ((n.mems.length : Nat) : Int)⟩ : Cell), _, pt_write hg h0 (by omega) (by omega), rfl, rfl⟩
 refine .skip ?_
 refine .le (st' := ⟨[(4, .ptr 104 0 0 0), (6, vi ((n.mems.getD (p.op % n.mems.length) default).width)), (7, .ptr 107 0 0 0)], [(104, .cells [vi 0, vi 0, vi 0, .v (.slice none 0 0), .v (.int .u64 0), vi 0]), (107, .cells [vi (1 + (((p.kind : Nat) : Int) % 10)), vi 0, vi (-1), .slc 271 1 0 (([pickN n.widths 1 p.a, ((p.b : Nat) : Int) % ((n.widths.length : Nat) : Int)] : List Int).length), .v (.int .u64 0), vi (((p.op : Nat) : Int) % ((n.mems.length : Nat) : Int))]), (271, .rows 1 (([pickN n.widths 1 p.a, ((p.b : Nat) : Int) % ((n.widths.length : Nat) : Int)] : List Int).map irow))]⟩) (Le.mk (.c (.c (.c (.nil)))) (.c (.c (.c (.nil))))) ?_
 refine .sr (.vl (Y.loadA sh39 rfl rfl (nbE rfl) rfl rfl) ?_)
 refine .mv ?_
 refine .storeC si39 rfl rfl rfl rfl rfl rfl (nbE rfl) rfl ?_
 refine .an ?_
 refine .nil (.ret ?_)
 exact ⟨_, rfl, _, _, _, Sh.ownT (d := 0) 3 271 rfl rfl rfl rfl (by first | rfl | exact len_map rfl | exact len_map (by omega)) rfl (by decide), rfl, rfl, (⟨1 + (((p.kind : Nat) : Int) % 10), 0, -1, ([pickN n.widths 1 p.a, ((p.b : Nat) : Int) % ((n.widths.length : Nat) : Int)] : List Int), 0, ((p.op : Nat) : Int) % ((n.mems.length : Nat) : Int)⟩ : Cell), _, pt_read hg h0 (by omega) (by omega), rfl, rfl⟩
 refine .region (.vl (Y.eql rfl rfl) ?_)
 refine .an ?_
 refine .nil ?_
 refine .condKD rfl (fun c139 => ?_) (fun c139 => ?_)
 refine .seq (.sr ?_)
 refine .fa fl27_4 ?_
 refine .ld sh24 ?_
 refine .vl (Y.len (n := n.mems.length) sl24 rfl (congrArg some (List.length_map ..))) (.vl (Y.eql rfl rfl) (.nil ?_))
 refine .condD rfl (fun c145 => ?_) (fun c145 => ?_)
 refine .sr (.vl (Y.build pl39 ze39 rfl rfl rfl) (.storeC si39 rfl rfl rfl rfl rfl rfl (nbE rfl) rfl ?_))
 refine .an ?_
 refine .nil (.sh (Sh.nilCell 104 399 1 3 rfl rfl rfl rfl (by decide)) (.ret ?_))
 exact ⟨_, rfl, _, _, _, Sh.ownT (d := 0) 3 399 rfl rfl rfl rfl (by first | rfl | exact len_map rfl | exact len_map (by omega)) rfl (by decide), rfl, rfl, (⟨0, 0, 0, ([] : List Int), 0, 0⟩ : Cell), _, pt_none hg, rfl, rfl⟩
 refine .skip (.sr ?_)
 refine .fa fl88_1 ?_
 refine .ld sh5 ?_
 refine .vl (Y.convK ii5 ii3 rfl (by first | rfl | exact IntWalk.i64_in _ (by omega))) ?_
 refine .fa fl27_4 ?_
 refine .ld sh24 ?_
 refine .vl (Y.len (n := n.mems.length) sl24 rfl (congrArg some (List.length_map ..))) ?_
 refine .vl (Y.remI rfl rfl (by first | omega | simp [-List.getD_eq_getElem?_getD] <;> omega)) ?_
 refine .fa fl39_5 ?_
 refine .storeC si3 rfl rfl rfl rfl rfl rfl (nbE rfl) rfl (.nil (.seq ?_))
 have hmm : p.op % n.mems.length < n.mems.length := Nat.mod_lt _ (by omega)
 refine .region ?_
 refine .fa fl27_4 ?_
 refine .ld sh24 ?_
 refine .fa fl39_5 ?_
 refine .ld sh3 ?_
 refine .vl (Y.indexF (m := p.op % n.mems.length) sl24 rfl rfl (by first | rfl | omega) (row_getD (d := default) (by omega))) ?_
 refine .fa fl48_1 ?_
 refine .ld sh3 ?_
 refine .an ?_
 refine .nil ?_
 refine .le (st' := ⟨[(2, .fp (Netlist.prow n) 0), (4, .ptr 104 0 0 0), (6, vi ((n.mems.getD (p.op % n.mems.length) default).width)), (7, .ptr 107 0 0 0), (8, .v (.int .u8 ((p.a : Nat) : Int))), (9, .v (.int .u8 ((p.b : Nat) : Int))), (10, .v (.int .u8 ((p.d : Nat) : Int)))], [(104, .cells [vi 0, vi 0, vi 0, .v (.slice none 0 0), .v (.int .u64 0), vi 0]), (107, .cells [vi (1 + (((p.kind : Nat) : Int) % 10)), vi 0, vi (-1), .v (.slice none 0 0), .v (.int .u64 0), vi (((p.op : Nat) : Int) % ((n.mems.length : Nat) : Int))])]⟩) (Le.mk (.c (.c (.c (.c (.c (.c (.c (.nil)))))))) (.c (.c (.nil)))) ?_
 refine .seq (.regionHeld0 rfl (.loadA 0 rfl (by kernel_rfl) sh27 rfl rfl rfl (nbE rfl) rfl rfl (by decide) ?_))
 refine .blind 1 rfl (by kernel_rfl) (Blind.move rfl rfl) (by decide) (.blind 3 rfl (by kernel_rfl) (Blind.move rfl rfl) (by decide) ?_)
 refine .blind 4 rfl (by kernel_rfl) (Blind.convK ii5 ii3 rfl (by first | rfl | exact IntWalk.i64_in _ (by omega))) (by decide) ?_
 refine .blind 5 rfl (by kernel_rfl) (Blind.fieldAddr fl27_1 rfl rfl) (by decide) (.load 6 rfl (by kernel_rfl) sh22 rfl rfl rfl rfl rfl (by decide) (.blind 7 rfl (by kernel_rfl) (Blind.len (n := n.widths.length) sl22 rfl (congrArg some (List.length_map ..))) (by decide) ?_))
 refine .blind 8 rfl (by kernel_rfl) (Blind.remI rfl rfl (by omega)) (by decide) ?_
 refine .go0 (.one 2 rfl (by kernel_rfl) (.callP ok56 (pick_spec (n := (⟨n.name, n.widths, n.cells, n.ins, n.mems, n.streams, [], [], n.freeze, n.done, []⟩ : Netlist)) (w := 1) (k := p.a) (by show (n.widths).length ≤ 1048576; omega) (by omega)) rfl (.keep rfl rfl (.keep rfl rfl (.keep rfl rfl .nil))) (by decide) rfl ?_))
 refine .nil ⟨rfl, ?_⟩
 refine .one 9 rfl (by kernel_rfl) ?_
 refine .buildSlice (([pickN n.widths 1 p.a, ((p.b : Nat) : Int) % ((n.widths.length : Nat) : Int)] : List Int).map irow) sl22 ze3 rfl rfl rfl rfl rfl (uniform_map (s := 1) (f := irow) (fun _ => rfl)) rfl rfl rfl (by decide) ?_
 refine .nil ⟨rfl, ?_⟩
 refine .one 10 rfl (by kernel_rfl) ?_
 refine .fa fl39_3 ?_
 refine .nil ⟨rfl, ?_⟩
 refine .one 11 rfl (by kernel_rfl) ?_
 refine .sh (Sh.adoptE (d := 171) (n := ([pickN n.widths 1 p.a, ((p.b : Nat) : Int) % ((n.widths.length : Nat) : Int)] : List Int).length) 271 (([pickN n.widths 1 p.a, ((p.b : Nat) : Int) % ((n.widths.length : Nat) : Int)] : List Int).map irow) rfl (by first | rfl | exact rep_map rfl) (len_map rfl) (by decide)) ?_
 refine .storeC si22 rfl rfl rfl rfl rfl rfl (nbE rfl) rfl ?_
 refine .nil ⟨rfl, ?_⟩
 refine .done (by kernel_rfl) ?_
 refine .le (st' := ⟨[(2, .fp (Netlist.prow n) 0), (4, .ptr 104 0 0 0), (6, vi ((n.mems.getD (p.op % n.mems.length) default).width)), (7, .ptr 107 0 0 0), (10, .v (.int .u8 ((p.d : Nat) : Int)))], [(104, .cells [vi 0, vi 0, vi 0, .v (.slice none 0 0), .v (.int .u64 0), vi 0]), (107, .cells [vi (1 + (((p.kind : Nat) : Int) % 10)), vi 0, vi (-1), .slc 271 1 0 (([pickN n.widths 1 p.a, ((p.b : Nat) : Int) % ((n.widths.length : Nat) : Int)] : List Int).length), .v (.int .u64 0), vi (((p.op : Nat) : Int) % ((n.mems.length : Nat) : Int))]), (271, .rows 1 (([pickN n.widths 1 p.a, ((p.b : Nat) : Int) % ((n.widths.length : Nat) : Int)] : List Int).map irow))]⟩) (Le.mk (.c (.c (.c (.c (.c (.nil)))))) (.c (.c (.c (.nil))))) ?_
 refine .sr ?_
 refine .fa fl39_0 ?_
 refine .ld sh3 ?_
 refine .vl (Y.eql rfl rfl) (.nil ?_)
 refine .condD rfl (fun c175 => ?_) (fun c175 => ?_)
 refine .regionHeldJ0 (⟨[(4, .ptr 104 0 0 0), (6, .v (.int .i64 ((n.mems.getD (p.op % n.mems.length) default).width))), (7, .ptr 107 0 0 0)], [(104, .cells [.v (.int .i64 0), .v (.int .i64 0), .v (.int .i64 0), .v (.slice none 0 0), .v (.int .u64 0), .v (.int .i64 0)]), (107, .cells [.v (.int .i64 (1 + (((p.kind : Nat) : Int) % 10))), .v (.int .i64 0), .v (.int .i64 (-1)), .slc 271 1 0 ((([pickN n.widths 1 p.a, ((p.b : Nat) : Int) % ((n.widths.length : Nat) : Int)] : List Int) ++ ([pickN n.widths ((n.mems.getD (p.op % n.mems.length) default).width) p.d] : List Int)).length), .v (.int .u64 0), .v (.int .i64 (((p.op : Nat) : Int) % ((n.mems.length : Nat) : Int)))]), (271, .rows 1 ((([pickN n.widths 1 p.a, ((p.b : Nat) : Int) % ((n.widths.length : Nat) : Int)] : List Int) ++ ([pickN n.widths ((n.mems.getD (p.op % n.mems.length) default).width) p.d] : List Int)).map irow))]⟩) rfl ?_ ?_
 refine .blind 0 rfl (by kernel_rfl) (Blind.fieldAddr fl39_3 rfl rfl) (by decide) (.loadA 2 rfl (by kernel_rfl) sh27 rfl rfl rfl (nbE rfl) rfl rfl (by decide) (.blind 3 rfl (by kernel_rfl) (Blind.move rfl rfl) (by decide) ?_))
 refine .blind 4 rfl (by kernel_rfl) (Blind.move rfl rfl) (by decide) (.go0 ?_)
 refine .two 1 5 rfl rfl (by kernel_rfl) ?_ ?_
 refine .ld sh22 ?_
 refine .nil ⟨rfl, ?_⟩
 refine .one 5 rfl (by kernel_rfl) ?_
 refine .callP ok56 (pick_spec (n := (⟨n.name, n.widths, n.cells, n.ins, n.mems, n.streams, [], [], n.freeze, n.done, []⟩ : Netlist)) (w := ((n.mems.getD (p.op % n.mems.length) default).width)) (k := p.d) (by show (n.widths).length ≤ 1048576; omega) (by omega)) rfl (.keep rfl rfl (.keep rfl rfl (.keep rfl rfl .nil))) (by decide) rfl ?_
 refine .nil ⟨rfl, ?_⟩
 refine .one 6 rfl (by kernel_rfl) ?_
 refine .buildSlice (([pickN n.widths ((n.mems.getD (p.op % n.mems.length) default).width) p.d] : List Int).map irow) sl22 ze3 rfl rfl rfl rfl rfl (uniform_map (s := 1) (f := irow) (fun _ => rfl)) rfl rfl rfl (by decide) ?_
 refine .nil ⟨rfl, ?_⟩
 refine .one 7 rfl (by kernel_rfl) ?_
 refine .appendE ((([pickN n.widths 1 p.a, ((p.b : Nat) : Int) % ((n.widths.length : Nat) : Int)] : List Int) ++ ([pickN n.widths ((n.mems.getD (p.op % n.mems.length) default).width) p.d] : List Int)).map irow) (([pickN n.widths 1 p.a, ((p.b : Nat) : Int) % ((n.widths.length : Nat) : Int)] : List Int) ++ ([pickN n.widths ((n.mems.getD (p.op % n.mems.length) default).width) p.d] : List Int)).length sl22 ze3 rfl rfl rfl rfl (app_le (by first | omega | simp [-List.getD_eq_getElem?_getD] <;> omega)) (app_map (by first | omega | simp [-List.getD_eq_getElem?_getD] <;> omega)) (app_n (by first | omega | simp [-List.getD_eq_getElem?_getD] <;> omega)) (by first | omega | simp [-List.getD_eq_getElem?_getD] <;> omega) (by first | omega | simp [-List.getD_eq_getElem?_getD] <;> omega) (by decide) (by decide) ?_
 refine .nil ⟨rfl, ?_⟩
 refine .one 8 rfl (by kernel_rfl) ?_
 refine .fa fl39_3 ?_
 refine .nil ⟨rfl, ?_⟩
 refine .one 9 rfl (by kernel_rfl) (.storeC si22 rfl rfl rfl rfl rfl rfl (nbE rfl) rfl ?_)
 refine .nil ⟨rfl, ?_⟩
 refine .done (by kernel_rfl) ?_
 exact Le.mk (.c (.c (.c (.nil)))) (.c (.c (.c (.nil))))
 refine .callP ok56 (pick_spec (n := (⟨n.name, n.widths, n.cells, n.ins, n.mems, n.streams, [], [], n.freeze, n.done, []⟩ : Netlist)) (w := ((n.mems.getD (p.op % n.mems.length) default).width)) (k := p.d) (by show (n.widths).length ≤ 1048576; omega) (by omega)) rfl (.keep rfl rfl (.keep rfl rfl (.keep rfl rfl .nil))) (by decide) rfl ?_
 refine .nil ⟨rfl, ?_⟩
 refine .two 1 6 rfl rfl (by kernel_rfl) ?_ ?_
 refine .ld sh22 ?_
 refine .nil ⟨rfl, ?_⟩
 refine .one 6 rfl (by kernel_rfl) ?_
 refine .buildSlice (([pickN n.widths ((n.mems.getD (p.op % n.mems.length) default).width) p.d] : List Int).map irow) sl22 ze3 rfl rfl rfl rfl rfl (uniform_map (s := 1) (f := irow) (fun _ => rfl)) rfl rfl rfl (by decide) ?_
 refine .nil ⟨rfl, ?_⟩
 refine .one 7 rfl (by kernel_rfl) ?_
 refine .appendE ((([pickN n.widths 1 p.a, ((p.b : Nat) : Int) % ((n.widths.length : Nat) : Int)] : List Int) ++ ([pickN n.widths ((n.mems.getD (p.op % n.mems.length) default).width) p.d] : List Int)).map irow) (([pickN n.widths 1 p.a, ((p.b : Nat) : Int) % ((n.widths.length : Nat) : Int)] : List Int) ++ ([pickN n.widths ((n.mems.getD (p.op % n.mems.length) default).width) p.d] : List Int)).length sl22 ze3 rfl rfl rfl rfl (app_le (by first | omega | simp [-List.getD_eq_getElem?_getD] <;> omega)) (app_map (by first | omega | simp [-List.getD_eq_getElem?_getD] <;> omega)) (app_n (by first | omega | simp [-List.getD_eq_getElem?_getD] <;> omega)) (by first | omega | simp [-List.getD_eq_getElem?_getD] <;> omega) (by first | omega | simp [-List.getD_eq_getElem?_getD] <;> omega) (by decide) (by decide) ?_
 refine .nil ⟨rfl, ?_⟩
 refine .one 8 rfl (by kernel_rfl) ?_
 refine .fa fl39_3 ?_
 refine .nil ⟨rfl, ?_⟩
 refine .one 9 rfl (by kernel_rfl) (.storeC si22 rfl rfl rfl rfl rfl rfl (nbE rfl) rfl ?_)
 refine .nil ⟨rfl, ?_⟩
 refine .done (by kernel_rfl) ?_
 exact Le.mk (.c (.c (.c (.nil)))) (.c (.c (.c (.nil))))
 refine .buildSlice (([pickN n.widths ((n.mems.getD (p.op % n.mems.length) default).width) p.d] : List Int).map irow) sl22 ze3 rfl rfl rfl rfl rfl (uniform_map (s := 1) (f := irow) (fun _ => rfl)) rfl rfl rfl (by decide) ?_
 refine .nil ⟨rfl, ?_⟩
 refine .one 1 rfl (by kernel_rfl) ?_
 refine .ld sh22 ?_
 refine .nil ⟨rfl, ?_⟩
 refine .one 7 rfl (by kernel_rfl) ?_
 refine .appendE ((([pickN n.widths 1 p.a, ((p.b : Nat) : Int) % ((n.widths.length : Nat) : Int)] : List Int) ++ ([pickN n.widths ((n.mems.getD (p.op % n.mems.length) default).width) p.d] : List Int)).map irow) (([pickN n.widths 1 p.a, ((p.b : Nat) : Int) % ((n.widths.length : Nat) : Int)] : List Int) ++ ([pickN n.widths ((n.mems.getD (p.op % n.mems.length) default).width) p.d] : List Int)).length sl22 ze3 rfl rfl rfl rfl (app_le (by first | omega | simp [-List.getD_eq_getElem?_getD] <;> omega)) (app_map (by first | omega | simp [-List.getD_eq_getElem?_getD] <;> omega)) (app_n (by first | omega | simp [-List.getD_eq_getElem?_getD] <;> omega)) (by first | omega | simp [-List.getD_eq_getElem?_getD] <;> omega) (by first | omega | simp [-List.getD_eq_getElem?_getD] <;> omega) (by decide) (by decide) ?_
 refine .nil ⟨rfl, ?_⟩
 refine .one 8 rfl (by kernel_rfl) ?_
 refine .fa fl39_3 ?_
 refine .nil ⟨rfl, ?_⟩
 refine .one 9 rfl (by kernel_rfl) (.storeC si22 rfl rfl rfl rfl rfl rfl (nbE rfl) rfl ?_)
 refine .nil ⟨rfl, ?_⟩
 refine .done (by kernel_rfl) ?_
 exact Le.mk (.c (.c (.c (.nil)))) (.c (.c (.c (.nil))))
 refine .le (st' := ⟨[(4, .ptr 104 0 0 0), (6, vi ((n.mems.getD (p.op % n.mems.length) default).width)), (7, .ptr 107 0 0 0)], [(104, .cells [vi 0, vi 0, vi 0, .v (.slice none 0 0), .v (.int .u64 0), vi 0]), (107, .cells [vi (1 + (((p.kind : Nat) : Int) % 10)), vi 0, vi (-1), .slc 271 1 0 ((([pickN n.widths 1 p.a, ((p.b : Nat) : Int) % ((n.widths.length : Nat) : Int)] : List Int) ++ ([pickN n.widths ((n.mems.getD (p.op % n.mems.length) default).width) p.d] : List Int)).length), .v (.int .u64 0), vi (((p.op : Nat) : Int) % ((n.mems.length : Nat) : Int))]), (271, .rows 1 ((([pickN n.widths 1 p.a, ((p.b : Nat) : Int) % ((n.widths.length : Nat) : Int)] : List Int) ++ ([pickN n.widths ((n.mems.getD (p.op % n.mems.length) default).width) p.d] : List Int)).map irow))]⟩) (Le.mk (.c (.c (.c (.nil)))) (.c (.c (.c (.nil))))) ?_
 refine .sr (.vl (Y.loadA sh39 rfl rfl (nbE rfl) rfl rfl) ?_)
 refine .mv ?_
 refine .storeC si39 rfl rfl rfl rfl rfl rfl (nbE rfl) rfl ?_
 refine .an ?_
 refine .nil (.ret ?_)
 exact ⟨_, rfl, _, _, _, Sh.ownT (d := 0) 3 271 rfl rfl rfl rfl (by first | rfl | exact len_map rfl | exact len_map (by omega)) rfl (by decide), rfl, rfl, (⟨1 + (((p.kind : Nat) : Int) % 10), 0, -1, ([pickN n.widths 1 p.a, ((p.b : Nat) : Int) % ((n.widths.length : Nat) : Int)] : List Int) ++ ([pickN n.widths ((n.mems.getD (p.op % n.mems.length) default).width) p.d] : List Int), 0, ((p.op : Nat) : Int) % ((n.mems.length : Nat) : Int)⟩ : Cell), _, pt_write hg h0 (by omega) (by omega), rfl, rfl⟩
 refine .skip ?_
 refine .le (st' := ⟨[(4, .ptr 104 0 0 0), (6, vi ((n.mems.getD (p.op % n.mems.length) default).width)), (7, .ptr 107 0 0 0)], [(104, .cells [vi 0, vi 0, vi 0, .v (.slice none 0 0), .v (.int .u64 0), vi 0]), (107, .cells [vi (1 + (((p.kind : Nat) : Int) % 10)), vi 0, vi (-1), .slc 271 1 0 (([pickN n.widths 1 p.a, ((p.b : Nat) : Int) % ((n.widths.length : Nat) : Int)] : List Int).length), .v (.int .u64 0), vi (((p.op : Nat) : Int) % ((n.mems.length : Nat) : Int))]), (271, .rows 1 (([pickN n.widths 1 p.a, ((p.b : Nat) : Int) % ((n.widths.length : Nat) : Int)] : List Int).map irow))]⟩) (Le.mk (.c (.c (.c (.nil)))) (.c (.c (.c (.nil))))) ?_
 refine .sr (.vl (Y.loadA sh39 rfl rfl (nbE rfl) rfl rfl) ?_)
 refine .mv ?_
 refine .storeC si39 rfl rfl rfl rfl rfl rfl (nbE rfl) rfl ?_
 refine .an ?_
 refine .nil (.ret ?_)
 exact ⟨_, rfl, _, _, _, Sh.ownT (d := 0) 3 271 rfl rfl rfl rfl (by first | rfl | exact len_map rfl | exact len_map (by omega)) rfl (by decide), rfl, rfl, (⟨1 + (((p.kind : Nat) : Int) % 10), 0, -1, ([pickN n.widths 1 p.a, ((p.b : Nat) : Int) % ((n.widths.length : Nat) : Int)] : List Int), 0, ((p.op : Nat) : Int) % ((n.mems.length : Nat) : Int)⟩ : Cell), _, pt_read hg h0 (by omega) (by omega), rfl, rfl⟩
 refine .sr (.vl (Y.eql rfl rfl) ?_)
 refine .an ?_
 refine .nil ?_
 refine .condD rfl (fun c185 => ?_) (fun c185 => ?_)
 refine .seq (.sr ?_)
 refine .fa fl27_3 ?_
 refine .ld sh22 ?_
 refine .vl (Y.len (n := n.ins.length) sl22 rfl (congrArg some (List.length_map ..))) (.vl (Y.eql rfl rfl) (.nil ?_))
 refine .condD rfl (fun c190 => ?_) (fun c190 => ?_)
 refine .sr (.vl (Y.build pl39 ze39 rfl rfl rfl) (.storeC si39 rfl rfl rfl rfl rfl rfl (nbE rfl) rfl ?_))
 refine .an ?_
 refine .nil (.sh (Sh.nilCell 104 399 1 3 rfl rfl rfl rfl (by decide)) (.ret ?_))
 exact ⟨_, rfl, _, _, _, Sh.ownT (d := 0) 3 399 rfl rfl rfl rfl (by first | rfl | exact len_map rfl | exact len_map (by omega)) rfl (by decide), rfl, rfl, (⟨0, 0, 0, ([] : List Int), 0, 0⟩ : Cell), _, pt_none hg, rfl, rfl⟩
 refine .skip (.sr ?_)
 refine .fa fl88_4 ?_
 refine .ld sh37 ?_
 refine .fa fl27_3 ?_
 refine .ld sh22 ?_
 refine .vl (Y.len (n := n.ins.length) sl22 rfl (congrArg some (List.length_map ..))) ?_
 refine .vl (Y.convK ii3 ii37 rfl (by first | rfl | exact IntWalk.u64_in _ (by omega))) ?_
 refine .vl (Y.remN (a := p.num) (b := n.ins.length) rfl rfl (by omega)) ?_
 refine .fa fl39_4 ?_
 refine .storeC si37 rfl rfl rfl rfl rfl rfl (nbE rfl) rfl (.nil ?_)
 have hmm : p.num % n.ins.length < n.ins.length := Nat.mod_lt _ (by omega)
 refine .region ?_
 refine .fa fl27_3 ?_
 refine .ld sh22 ?_
 refine .fa fl39_4 ?_
 refine .ld sh37 ?_
 refine .vl (Y.indexF (m := p.num % n.ins.length) sl22 rfl rfl (by first | rfl | omega) (row_getD (d := 0) (by omega))) ?_
 refine .ld sh3 ?_
 refine .an ?_
 refine .nil ?_
 refine .le (st' := ⟨[(4, .ptr 104 0 0 0), (6, vi (n.ins.getD (p.num % n.ins.length) 0)), (7, .ptr 107 0 0 0)], [(104, .cells [vi 0, vi 0, vi 0, .v (.slice none 0 0), .v (.int .u64 0), vi 0]), (107, .cells [vi (1 + (((p.kind : Nat) : Int) % 10)), vi 0, vi (-1), .v (.slice none 0 0), .v (.int .u64 ((p.num % n.ins.length : Nat) : Int)), vi 0])]⟩) (Le.mk (.c (.c (.c (.nil)))) (.c (.c (.nil)))) ?_
 refine .sr (.vl (Y.loadA sh39 rfl rfl (nbE rfl) rfl rfl) ?_)
 refine .mv ?_
 refine .storeC si39 rfl rfl rfl rfl rfl rfl (nbE rfl) rfl ?_
 refine .an ?_
 refine .nil (.sh (Sh.nilCell 104 399 1 3 rfl rfl rfl rfl (by decide)) (.ret ?_))
 exact ⟨_, rfl, _, _, _, Sh.ownT (d := 0) 3 399 rfl rfl rfl rfl (by first | rfl | exact len_map rfl | exact len_map (by omega)) rfl (by decide), rfl, rfl, (⟨1 + (((p.kind : Nat) : Int) % 10), 0, -1, ([] : List Int), p.num % n.ins.length, 0⟩ : Cell), _, pt_input hg (by omega) (by omega) hi, rfl, rfl⟩
 refine .seq (.sr ?_)
 refine .fa fl27_5 ?_
 refine .ld sh25 ?_
 refine .vl (Y.len (n := n.streams.length) sl25 rfl (congrArg some (List.length_map ..))) (.vl (Y.eql rfl rfl) (.nil ?_))
 refine .condD rfl (fun c34 => ?_) (fun c34 => ?_)
 refine .sr (.vl (Y.build pl39 ze39 rfl rfl rfl) (.storeC si39 rfl rfl rfl rfl rfl rfl (nbE rfl) rfl ?_))
 refine .an ?_
 refine .nil (.sh (Sh.nilCell 104 399 1 3 rfl rfl rfl rfl (by decide)) (.ret ?_))
 exact ⟨_, rfl, _, _, _, Sh.ownT (d := 0) 3 399 rfl rfl rfl rfl (by first | rfl | exact len_map rfl | exact len_map (by omega)) rfl (by decide), rfl, rfl, (⟨0, 0, 0, ([] : List Int), 0, 0⟩ : Cell), _, pt_none hg, rfl, rfl⟩
 refine .skip (.sr ?_)
 refine .fa fl88_1 ?_
 refine .ld sh5 ?_
 refine .vl (Y.convK ii5 ii3 rfl (by first | rfl | exact IntWalk.i64_in _ (by omega))) ?_
 refine .fa fl27_5 ?_
 refine .ld sh25 ?_
 refine .vl (Y.len (n := n.streams.length) sl25 rfl (congrArg some (List.length_map ..))) ?_
 refine .vl (Y.remI rfl rfl (by first | omega | simp [-List.getD_eq_getElem?_getD] <;> omega)) ?_
 refine .fa fl39_5 ?_
 refine .storeC si3 rfl rfl rfl rfl rfl rfl (nbE rfl) rfl (.nil (.seq ?_))
 have hmm : p.op % n.streams.length < n.streams.length := Nat.mod_lt _ (by omega)
 refine .region ?_
 refine .fa fl27_5 ?_
 refine .ld sh25 ?_
 refine .fa fl39_5 ?_
 refine .ld sh3 ?_
 refine .vl (Y.indexF (m := p.op % n.streams.length) sl25 rfl rfl (by first | rfl | omega) (row_getD (d := default) (by omega))) ?_
 refine .fa fl83_1 ?_
 refine .ld sh3 ?_
 refine .an ?_
 refine .nil ?_
 refine .le (st' := ⟨[(2, .fp (Netlist.prow n) 0), (4, .ptr 104 0 0 0), (6, vi ((n.streams.getD (p.op % n.streams.length) default).width)), (7, .ptr 107 0 0 0)], [(104, .cells [vi 0, vi 0, vi 0, .v (.slice none 0 0), .v (.int .u64 0), vi 0]), (107, .cells [vi (1 + (((p.kind : Nat) : Int) % 10)), vi 0, vi (-1), .v (.slice none 0 0), .v (.int .u64 0), vi (((p.op : Nat) : Int) % ((n.streams.length : Nat) : Int))])]⟩) (Le.mk (.c (.c (.c (.c (.nil))))) (.c (.c (.nil)))) ?_
 refine .join1 (fun (c7_0_j11 : Nat) => ⟨[(4, .ptr 104 0 0 0), (6, vi ((n.streams.getD (p.op % n.streams.length) default).width)), (7, .ptr 107 0 0 0)], [(104, .cells [vi 0, vi 0, vi 0, .v (.slice none 0 0), .v (.int .u64 0), vi 0]), (107, .cells [vi (c7_0_j11 : Int), vi 0, vi (-1), .v (.slice none 0 0), .v (.int .u64 0), vi (((p.op : Nat) : Int) % ((n.streams.length : Nat) : Int))])]⟩) (fun (c7_0_j11 : Nat) => (((1 + (((p.kind : Nat) : Int) % 10)) = 10) ∧ (((n.streams.getD (p.op % n.streams.length) default).out) = true) ∧ (c7_0_j11 = 9)) ∨ (((1 + (((p.kind : Nat) : Int) % 10)) = 10) ∧ (((n.streams.getD (p.op % n.streams.length) default).out) = false) ∧ (c7_0_j11 = (1 + (p.kind % 10)))) ∨ ((¬ ((1 + (((p.kind : Nat) : Int) % 10)) = 10)) ∧ (c7_0_j11 = (1 + (p.kind % 10))))) ?_ (fun c7_0_j11 hJ11 => ?_)
 refine .sr ?_
 refine .fa fl39_0 ?_
 refine .ld sh3 ?_
 refine .vl (Y.eql rfl rfl) ?_
 refine .mv ?_
 refine .splitD (d := 54) rfl (fun c54 => ?_) (fun c54 => ?_)
 refine .gw 54 (Y.fieldAddr fl27_5 rfl rfl) (.gw 54 (Y.load sh25 rfl rfl rfl rfl) (.gw 54 (Y.fieldAddr fl39_5 rfl rfl) ?_))
 refine .gw 54 (Y.load sh3 rfl rfl rfl rfl) ?_
 refine .gw 54 (Y.indexF (m := p.op % n.streams.length) sl25 rfl rfl (by first | rfl | omega) (row_getD (d := default) (by omega))) ?_
 refine .gw 54 (Y.fieldAddr fl83_2 rfl rfl) (.gw 54 (Y.load sh4 rfl rfl rfl rfl) ?_)
 refine .pk ?_
 refine .nil ?_
 refine .cond rfl (fun c62 => ?_) (fun c62 => ?_)
 refine .region ?_
 refine .fa fl39_0 ?_
 refine .storeC si3 rfl rfl rfl rfl rfl rfl (nbE rfl) rfl (.nil ?_)
 exact ⟨9, .inl ⟨c54, c62, rfl⟩, Le.mk (.c (.c (.c (.nil)))) (.c (.cons (look_cells rfl (by first | rfl | (simp only [List.cons.injEq, X.v.injEq, X.slc.injEq, Value.int.injEq, and_true, true_and]; omega) | simp_all)) (.nil)))⟩
 refine .skip ?_
 exact ⟨1 + (p.kind % 10), .inr (.inl ⟨c54, c62, rfl⟩), Le.mk (.c (.c (.c (.nil)))) (.c (.cons (look_cells rfl (by first | rfl | (simp only [List.cons.injEq, X.v.injEq, X.slc.injEq, Value.int.injEq, and_true, true_and]; omega) | simp_all)) (.nil)))⟩
 refine .gz 54 (.gz 54 (.gz 54 ?_))
 refine .gz 54 (.gz 54 (.gz 54 ?_))
 refine .gz 54 ?_
 refine .pk ?_
 refine .nil (.condF rfl (.skip ?_))
 exact ⟨1 + (p.kind % 10), .inr (.inr (⟨c54, rfl⟩)), Le.mk (.c (.c (.c (.nil)))) (.c (.cons (look_cells rfl (by first | rfl | (simp only [List.cons.injEq, X.v.injEq, X.slc.injEq, Value.int.injEq, and_true, true_and]; omega) | simp_all)) (.nil)))⟩
 refine .sr ?_
 refine .fa fl39_0 ?_
 refine .ld sh3 ?_
 refine .vl (Y.eql rfl rfl) (.nil ?_)
 refine .condD rfl (fun c66 => ?_) (fun c66 => ?_)
 refine .region ?_
 refine .an ?_
 refine .nil ?_
 refine .le (st' := ⟨[(4, .ptr 104 0 0 0), (6, vi 1), (7, .ptr 107 0 0 0)], [(104, .cells [vi 0, vi 0, vi 0, .v (.slice none 0 0), .v (.int .u64 0), vi 0]), (107, .cells [vi (c7_0_j11 : Int), vi 0, vi (-1), .v (.slice none 0 0), .v (.int .u64 0), vi (((p.op : Nat) : Int) % ((n.streams.length : Nat) : Int))])]⟩) (Le.mk (.c (.c (.c (.nil)))) (.c (.c (.nil)))) ?_
 refine .sr (.vl (Y.loadA sh39 rfl rfl (nbE rfl) rfl rfl) ?_)
 refine .mv ?_
 refine .storeC si39 rfl rfl rfl rfl rfl rfl (nbE rfl) rfl ?_
 refine .an ?_
 refine .nil (.sh (Sh.nilCell 104 399 1 3 rfl rfl rfl rfl (by decide)) (.ret ?_))
 exact ⟨_, rfl, _, _, _, Sh.ownT (d := 0) 3 399 rfl rfl rfl rfl (by first | rfl | exact len_map rfl | exact len_map (by omega)) rfl (by decide), rfl, rfl, (⟨(c7_0_j11 : Int), 0, -1, ([] : List Int), 0, ((p.op : Nat) : Int) % ((n.streams.length : Nat) : Int)⟩ : Cell), _, pt_open hg (by omega) (by omega), rfl, rfl⟩
 refine .skip ?_
 refine .le (st' := ⟨[(4, .ptr 104 0 0 0), (6, vi ((n.streams.getD (p.op % n.streams.length) default).width)), (7, .ptr 107 0 0 0)], [(104, .cells [vi 0, vi 0, vi 0, .v (.slice none 0 0), .v (.int .u64 0), vi 0]), (107, .cells [vi (c7_0_j11 : Int), vi 0, vi (-1), .v (.slice none 0 0), .v (.int .u64 0), vi (((p.op : Nat) : Int) % ((n.streams.length : Nat) : Int))])]⟩) (Le.mk (.c (.c (.c (.nil)))) (.c (.c (.nil)))) ?_
 refine .sr (.vl (Y.loadA sh39 rfl rfl (nbE rfl) rfl rfl) ?_)
 refine .mv ?_
 refine .storeC si39 rfl rfl rfl rfl rfl rfl (nbE rfl) rfl ?_
 refine .an ?_
 refine .nil (.sh (Sh.nilCell 104 399 1 3 rfl rfl rfl rfl (by decide)) (.ret ?_))
 exact ⟨_, rfl, _, _, _, Sh.ownT (d := 0) 3 399 rfl rfl rfl rfl (by first | rfl | exact len_map rfl | exact len_map (by omega)) rfl (by decide), rfl, rfl, (⟨(c7_0_j11 : Int), 0, -1, ([] : List Int), 0, ((p.op : Nat) : Int) % ((n.streams.length : Nat) : Int)⟩ : Cell), _, pt_data hg (by omega) (by omega) (by grind), rfl, rfl⟩
end Go.Proofs.Ytligpghohcfpnaa
/- The walk of late. -/
namespace Go.Proofs.Ytligpghohcfpnaa
open Go Go.AW Go.Proofs
theorem late_spec {nm : ByteArray} {ws ins : List Int} {cs : List Cell} {mems : List Arr} {streams : List Strm} {f0 d0 : Int} {p : Prt} {i cl : Nat} (hcl : cl = cs.length) (hn : ws.length ≤ 1048576) (hc : cs.length ≤ 1048576) (hp : p.Ok) (hi : i < cs.length) (ho : In (cs.getD (((((cs.length : Nat) : Int) - 1) - (i : Int)).toNat) default).out ws.length ∨ (cs.getD (((((cs.length : Nat) : Int) - 1) - (i : Int)).toNat) default).kind ≠ 4) : ACalls Try.prog 55 [.ptr 0 0 0 0, .agg (Prt.row p), vi (i : Int)] [.cells [.v (.string nm), .slc 1 1 0 ws.length, .slc 2 6 0 cl, .fz 1 (ins.map irow), .fz 5 (mems.map Arr.row), .fz 3 (streams.map Strm.row), .v (.slice none 0 0), .v (.slice none 0 0), vi f0, vi d0, .v (.slice none 0 0)], .rows 1 (ws.map irow), .rows 6 (cs.map Cell.row)] [0, 1, 2] (fun r o => r = .tup [] ∧ o = [.cells [.v (.string nm), .slc 1 1 0 ws.length, .slc 2 6 0 cl, .fz 1 (ins.map irow), .fz 5 (mems.map Arr.row), .fz 3 (streams.map Strm.row), .v (.slice none 0 0), .v (.slice none 0 0), vi f0, vi d0, .v (.slice none 0 0)], .rows 1 (ws.map irow), .rows 6 ((lateN ws cs p i).map Cell.row)]) := by
 refine ACalls.of Try.func55 rfl rfl rfl (n := 62) (by decide) (nbE rfl) ?_
 subst hcl
 have hp4 := hp.a; have hp6 := hp.d
 refine .sr (.box 104 rfl rfl rfl rfl rfl (by decide) (.nil ?_))
 refine .seq (.sh (Sh.freezeO 104 rfl rfl) ?_)
 refine .regionHeldJ [0] [0, 1, 2, 104] (⟨[(0, .ptr 0 0 0 0), (2, .v (.int .i64 (i : Int))), (4, .fp (Prt.row p) 0), (6, .ptr 106 0 0 0)], [(0, .cells [.v (.string nm), .slc 1 1 0 ws.length, .slc 2 6 0 cs.length, .fz 1 (ins.map irow), .fz 5 (mems.map Arr.row), .fz 3 (streams.map Strm.row), .v (.slice none 0 0), .v (.slice none 0 0), .v (.int .i64 f0), .v (.int .i64 d0), .v (.slice none 0 0)]), (1, .rows 1 (ws.map irow)), (2, .rows 6 (cs.map Cell.row)), (106, .cells [.v (.int .i64 ((cs.getD (((((cs.length : Nat) : Int) - 1) - (i : Int)).toNat) default).kind)), .v (.int .i64 ((cs.getD (((((cs.length : Nat) : Int) - 1) - (i : Int)).toNat) default).op)), .v (.int .i64 ((cs.getD (((((cs.length : Nat) : Int) - 1) - (i : Int)).toNat) default).out)), .fz 1 (((cs.getD (((((cs.length : Nat) : Int) - 1) - (i : Int)).toNat) default).args).map irow), .v (.int .u64 (((cs.getD (((((cs.length : Nat) : Int) - 1) - (i : Int)).toNat) default).num : Nat) : Int)), .v (.int .i64 ((cs.getD (((((cs.length : Nat) : Int) - 1) - (i : Int)).toNat) default).mem))])]⟩) rfl ?_ ?_
 refine .blind 0 rfl (by kernel_rfl) (Blind.move rfl rfl) (by decide) (.blind 1 rfl (by kernel_rfl) (Blind.nilCheck rfl rfl) (by decide) (.blind 2 rfl (by kernel_rfl) (Blind.fieldAddr fl27_2 rfl rfl) (by decide) ?_))
 refine .load 3 rfl (by kernel_rfl) sh23 rfl rfl rfl rfl rfl (by decide) (.blind 4 rfl (by kernel_rfl) (Blind.move rfl rfl) (by decide) (.blind 5 rfl (by kernel_rfl) (Blind.nilCheck rfl rfl) (by decide) ?_))
 refine .blind 6 rfl (by kernel_rfl) (Blind.fieldAddr fl27_2 rfl rfl) (by decide) (.load 7 rfl (by kernel_rfl) sh23 rfl rfl rfl rfl rfl (by decide) (.blind 8 rfl (by kernel_rfl) (Blind.len (n := cs.length) sl23 rfl rfl) (by decide) ?_))
 refine .blind 9 rfl (by kernel_rfl) (Blind.subI rfl rfl (by omega)) (by decide) ?_
 refine .blind 10 rfl (by kernel_rfl) (Blind.move rfl rfl) (by decide) ?_
 refine .blind 11 rfl (by kernel_rfl) (Blind.subI rfl rfl (by omega)) (by decide) ?_
 refine .blind 12 rfl (by kernel_rfl) (Blind.indexO (m := ((((cs.length : Nat) : Int) - 1) - (i : Int)).toNat) sl23 rfl rfl (by omega) (by omega)) (by decide) ?_
 refine .goL rfl rfl (namesIn.cells rfl rfl rfl namesIn.nil) ?_
 refine .two 13 14 rfl rfl (by kernel_rfl) ?_ ?_
 refine .vl (Y.loadA sh39 rfl (row_getD0 (d := default) (by first | omega | simp [-List.getD_eq_getElem?_getD] <;> omega)) (nbE rfl) rfl rfl) ?_
 refine .nil ⟨rfl, ?_⟩
 refine .one 14 rfl (by kernel_rfl) (.alloc 106 ze39 rfl rfl (by decide) ?_)
 refine .nil ⟨rfl, ?_⟩
 refine .one 15 rfl (by kernel_rfl) (.storeC si39 rfl rfl rfl rfl rfl rfl (nbE rfl) rfl ?_)
 refine .nil ⟨rfl, ?_⟩
 refine .done (by kernel_rfl) ?_
 exact Le.mk (.c (.c (.c (.c (.nil))))) (.c (.c (.c (.c (.nil)))))
 refine .alloc 106 ze39 rfl rfl (by decide) ?_
 refine .nil ⟨rfl, ?_⟩
 refine .one 13 rfl (by kernel_rfl) ?_
 refine .vl (Y.loadA sh39 rfl (row_getD0 (d := default) (by first | omega | simp [-List.getD_eq_getElem?_getD] <;> omega)) (nbE rfl) rfl rfl) ?_
 refine .nil ⟨rfl, ?_⟩
 refine .one 15 rfl (by kernel_rfl) (.storeC si39 rfl rfl rfl rfl rfl rfl (nbE rfl) rfl ?_)
 refine .nil ⟨rfl, ?_⟩
 refine .done (by kernel_rfl) ?_
 exact Le.mk (.c (.c (.c (.c (.nil))))) (.c (.c (.c (.c (.nil)))))
 refine .le (st' := ⟨[(0, .ptr 0 0 0 0), (2, vi (i : Int)), (4, .fp (Prt.row p) 0), (6, .ptr 106 0 0 0)], [(0, .cells [.v (.string nm), .slc 1 1 0 ws.length, .slc 2 6 0 cs.length, .fz 1 (ins.map irow), .fz 5 (mems.map Arr.row), .fz 3 (streams.map Strm.row), .v (.slice none 0 0), .v (.slice none 0 0), vi f0, vi d0, .v (.slice none 0 0)]), (1, .rows 1 (ws.map irow)), (2, .rows 6 (cs.map Cell.row)), (106, .cells [vi ((cs.getD (((((cs.length : Nat) : Int) - 1) - (i : Int)).toNat) default).kind), vi ((cs.getD (((((cs.length : Nat) : Int) - 1) - (i : Int)).toNat) default).op), vi ((cs.getD (((((cs.length : Nat) : Int) - 1) - (i : Int)).toNat) default).out), .fz 1 (((cs.getD (((((cs.length : Nat) : Int) - 1) - (i : Int)).toNat) default).args).map irow), .v (.int .u64 (((cs.getD (((((cs.length : Nat) : Int) - 1) - (i : Int)).toNat) default).num : Nat) : Int)), vi ((cs.getD (((((cs.length : Nat) : Int) - 1) - (i : Int)).toNat) default).mem)])]⟩) (Le.mk (.c (.c (.c (.c (.nil))))) (.c (.c (.c (.c (.nil)))))) ?_
 refine .sr ?_
 refine .fa fl39_0 ?_
 refine .ld sh3 ?_
 refine .vl (Y.eql rfl rfl) (.nil ?_)
 refine .le (st' := ⟨[(0, .ptr 0 0 0 0), (2, vi (i : Int)), (4, .fp (Prt.row p) 0), (6, .ptr 106 0 0 0), (23, .v (.bool (decide (((cs.getD (((((cs.length : Nat) : Int) - 1) - (i : Int)).toNat) default).kind) = 4))))], [(0, .cells [.v (.string nm), .slc 1 1 0 ws.length, .slc 2 6 0 cs.length, .fz 1 (ins.map irow), .fz 5 (mems.map Arr.row), .fz 3 (streams.map Strm.row), .v (.slice none 0 0), .v (.slice none 0 0), vi f0, vi d0, .v (.slice none 0 0)]), (1, .rows 1 (ws.map irow)), (2, .rows 6 (cs.map Cell.row)), (106, .cells [vi ((cs.getD (((((cs.length : Nat) : Int) - 1) - (i : Int)).toNat) default).kind), vi ((cs.getD (((((cs.length : Nat) : Int) - 1) - (i : Int)).toNat) default).op), vi ((cs.getD (((((cs.length : Nat) : Int) - 1) - (i : Int)).toNat) default).out), .fz 1 (((cs.getD (((((cs.length : Nat) : Int) - 1) - (i : Int)).toNat) default).args).map irow), .v (.int .u64 (((cs.getD (((((cs.length : Nat) : Int) - 1) - (i : Int)).toNat) default).num : Nat) : Int)), vi ((cs.getD (((((cs.length : Nat) : Int) - 1) - (i : Int)).toNat) default).mem)])]⟩) (Le.mk (.c (.c (.c (.c (.c (.nil)))))) (.c (.c (.c (.c (.nil)))))) ?_
 refine .condD rfl (fun c23 => ?_) (fun c23 => ?_)
 have ho2 := ho.resolve_right (fun h => h c23)
 unfold In at ho2
 refine .seq ?_
 refine .regionHeldJ [0] [0, 1, 2, 106] (⟨[(0, .ptr 0 0 0 0), (2, .v (.int .i64 (i : Int))), (6, .ptr 106 0 0 0)], [(0, .cells [.v (.string nm), .slc 1 1 0 ws.length, .slc 2 6 0 cs.length, .fz 1 (ins.map irow), .fz 5 (mems.map Arr.row), .fz 3 (streams.map Strm.row), .v (.slice none 0 0), .v (.slice none 0 0), .v (.int .i64 f0), .v (.int .i64 d0), .v (.slice none 0 0)]), (1, .rows 1 (ws.map irow)), (2, .rows 6 (cs.map Cell.row)), (106, .cells [.v (.int .i64 ((cs.getD (((((cs.length : Nat) : Int) - 1) - (i : Int)).toNat) default).kind)), .v (.int .i64 ((cs.getD (((((cs.length : Nat) : Int) - 1) - (i : Int)).toNat) default).op)), .v (.int .i64 ((cs.getD (((((cs.length : Nat) : Int) - 1) - (i : Int)).toNat) default).out)), .fz 1 (([pickN ws 1 p.a, pickN ws (ws.getD (((cs.getD (((((cs.length : Nat) : Int) - 1) - (i : Int)).toNat) default).out).toNat) 0) p.d] : List Int).map irow), .v (.int .u64 (((cs.getD (((((cs.length : Nat) : Int) - 1) - (i : Int)).toNat) default).num : Nat) : Int)), .v (.int .i64 ((cs.getD (((((cs.length : Nat) : Int) - 1) - (i : Int)).toNat) default).mem))])]⟩) rfl ?_ ?_
 refine .blind 0 rfl (by kernel_rfl) (Blind.move rfl rfl) (by decide) (.blind 1 rfl (by kernel_rfl) (Blind.nilCheck rfl rfl) (by decide) (.loadA 2 rfl (by kernel_rfl) sh27 rfl rfl rfl (nbE rfl) rfl rfl (by decide) ?_))
 refine .blind 3 rfl (by kernel_rfl) (Blind.fieldAddr fl88_3 rfl rfl) (by decide) (.blind 4 rfl (by kernel_rfl) (Blind.indexP ar86 rfl rfl (m := 0) rfl (by omega) rfl) (by decide) (.load 5 rfl (by kernel_rfl) sh5 rfl rfl rfl rfl rfl (by decide) ?_))
 refine .blind 7 rfl (by kernel_rfl) (Blind.move rfl rfl) (by decide) (.blind 8 rfl (by kernel_rfl) (Blind.nilCheck rfl rfl) (by decide) (.loadA 9 rfl (by kernel_rfl) sh27 rfl rfl rfl (nbE rfl) rfl rfl (by decide) ?_))
 refine .blind 10 rfl (by kernel_rfl) (Blind.move rfl rfl) (by decide) (.blind 11 rfl (by kernel_rfl) (Blind.nilCheck rfl rfl) (by decide) (.blind 12 rfl (by kernel_rfl) (Blind.fieldAddr fl27_1 rfl rfl) (by decide) ?_))
 refine .load 13 rfl (by kernel_rfl) sh22 rfl rfl rfl rfl rfl (by decide) (.blind 14 rfl (by kernel_rfl) (Blind.fieldAddr fl39_2 rfl rfl) (by decide) (.blind 18 rfl (by kernel_rfl) (Blind.fieldAddr fl88_3 rfl rfl) (by decide) ?_))
 refine .blind 19 rfl (by kernel_rfl) (Blind.indexP ar86 rfl rfl (m := 2) rfl (by omega) rfl) (by decide) (.load 20 rfl (by kernel_rfl) sh5 rfl rfl rfl rfl rfl (by decide) (.goL rfl rfl (namesIn.cells rfl rfl rfl namesIn.nil) ?_))
 refine .two 6 15 rfl rfl (by kernel_rfl) ?_ ?_
 refine .callLP [1, 2] ok56 (pick_spec (n := (⟨nm, ws, cs, ins, mems, streams, [], [], f0, d0, []⟩ : Netlist)) (w := 1) (k := p.a) (by show (ws).length ≤ 1048576; omega) (by omega)) rfl (.agg (.keep rfl rfl (.lend rfl rfl (lend_le (by omega)) (lend_eq (by omega)) (.lend rfl rfl (lend_le (by omega)) (lend_eq (by omega)) (.keep rfl rfl (.keep rfl rfl (.keep rfl rfl (.keep rfl rfl (.keep rfl rfl (.keep rfl rfl (.keep rfl rfl (.keep rfl rfl .nil))))))))))) rfl (.keep rfl rfl (.keep rfl rfl .nil))) (lend2 rfl (owns_map irow_frees) (lend1 rfl (owns_map Cell.row_frees))) (by decide) rfl trivial ?_
 refine .nil ⟨rfl, ?_⟩
 refine .one 15 rfl (by kernel_rfl) ?_
 refine .ld sh3 ?_
 refine .nil ⟨rfl, ?_⟩
 refine .one 16 rfl (by kernel_rfl) ?_
 refine .vl (Y.indexO (m := ((cs.getD (((((cs.length : Nat) : Int) - 1) - (i : Int)).toNat) default).out).toNat) sl22 rfl rfl (by omega) (by omega)) ?_
 refine .nil ⟨rfl, ?_⟩
 refine .one 17 rfl (by kernel_rfl) ?_
 refine .vl (Y.load sh3 rfl (row_getD0 (d := 0) (by omega)) rfl rfl) ?_
 refine .nil ⟨rfl, ?_⟩
 refine .one 21 rfl (by kernel_rfl) ?_
 refine .callLP [1, 2] ok56 (pick_spec (n := (⟨nm, ws, cs, ins, mems, streams, [], [], f0, d0, []⟩ : Netlist)) (w := (ws.getD (((cs.getD (((((cs.length : Nat) : Int) - 1) - (i : Int)).toNat) default).out).toNat) 0)) (k := p.d) (by show (ws).length ≤ 1048576; omega) (by omega)) rfl (.agg (.keep rfl rfl (.lend rfl rfl (lend_le (by omega)) (lend_eq (by omega)) (.lend rfl rfl (lend_le (by omega)) (lend_eq (by omega)) (.keep rfl rfl (.keep rfl rfl (.keep rfl rfl (.keep rfl rfl (.keep rfl rfl (.keep rfl rfl (.keep rfl rfl (.keep rfl rfl .nil))))))))))) rfl (.keep rfl rfl (.keep rfl rfl .nil))) (lend2 rfl (owns_map irow_frees) (lend1 rfl (owns_map Cell.row_frees))) (by decide) rfl trivial ?_
 refine .nil ⟨rfl, ?_⟩
 refine .one 22 rfl (by kernel_rfl) ?_
 refine .buildSlice (([pickN ws 1 p.a, pickN ws (ws.getD (((cs.getD (((((cs.length : Nat) : Int) - 1) - (i : Int)).toNat) default).out).toNat) 0) p.d] : List Int).map irow) sl22 ze3 rfl rfl rfl rfl rfl (uniform_map (s := 1) (f := irow) (fun _ => rfl)) rfl rfl rfl (by decide) ?_
 refine .nil ⟨rfl, ?_⟩
 refine .one 23 rfl (by kernel_rfl) ?_
 refine .fa fl39_3 ?_
 refine .nil ⟨rfl, ?_⟩
 refine .one 24 rfl (by kernel_rfl) (.sh (Sh.freezeE (d := 46) (([pickN ws 1 p.a, pickN ws (ws.getD (((cs.getD (((((cs.length : Nat) : Int) - 1) - (i : Int)).toNat) default).out).toNat) 0) p.d] : List Int).map irow) rfl (by first | rfl | exact rep_map rfl) (Frees.map irow_frees)) (.storeC si22 rfl rfl rfl rfl rfl rfl (nbE rfl) rfl ?_))
 refine .nil ⟨rfl, ?_⟩
 refine .done (by kernel_rfl) ?_
 exact Le.mk (.c (.c (.c (.nil)))) (.c (.c (.c (.c (.nil)))))
 refine .ld sh3 ?_
 refine .nil ⟨rfl, ?_⟩
 refine .blind 16 rfl (by kernel_rfl) (Blind.indexO (m := ((cs.getD (((((cs.length : Nat) : Int) - 1) - (i : Int)).toNat) default).out).toNat) sl22 rfl rfl (by omega) (by omega)) (by decide) ?_
 refine .two 6 17 rfl rfl (by kernel_rfl) ?_ ?_
 refine .callLP [1, 2] ok56 (pick_spec (n := (⟨nm, ws, cs, ins, mems, streams, [], [], f0, d0, []⟩ : Netlist)) (w := 1) (k := p.a) (by show (ws).length ≤ 1048576; omega) (by omega)) rfl (.agg (.keep rfl rfl (.lend rfl rfl (lend_le (by omega)) (lend_eq (by omega)) (.lend rfl rfl (lend_le (by omega)) (lend_eq (by omega)) (.keep rfl rfl (.keep rfl rfl (.keep rfl rfl (.keep rfl rfl (.keep rfl rfl (.keep rfl rfl (.keep rfl rfl (.keep rfl rfl .nil))))))))))) rfl (.keep rfl rfl (.keep rfl rfl .nil))) (lend2 rfl (owns_map irow_frees) (lend1 rfl (owns_map Cell.row_frees))) (by decide) rfl trivial ?_
 refine .nil ⟨rfl, ?_⟩
 refine .one 17 rfl (by kernel_rfl) ?_
 refine .vl (Y.load sh3 rfl (row_getD0 (d := 0) (by omega)) rfl rfl) ?_
 refine .nil ⟨rfl, ?_⟩
 refine .one 21 rfl (by kernel_rfl) ?_
 refine .callLP [1, 2] ok56 (pick_spec (n := (⟨nm, ws, cs, ins, mems, streams, [], [], f0, d0, []⟩ : Netlist)) (w := (ws.getD (((cs.getD (((((cs.length : Nat) : Int) - 1) - (i : Int)).toNat) default).out).toNat) 0)) (k := p.d) (by show (ws).length ≤ 1048576; omega) (by omega)) rfl (.agg (.keep rfl rfl (.lend rfl rfl (lend_le (by omega)) (lend_eq (by omega)) (.lend rfl rfl (lend_le (by omega)) (lend_eq (by omega)) (.keep rfl rfl (.keep rfl rfl (.keep rfl rfl (.keep rfl rfl (.keep rfl rfl (.keep rfl rfl (.keep rfl rfl (.keep rfl rfl .nil))))))))))) rfl (.keep rfl rfl (.keep rfl rfl .nil))) (lend2 rfl (owns_map irow_frees) (lend1 rfl (owns_map Cell.row_frees))) (by decide) rfl trivial ?_
 refine .nil ⟨rfl, ?_⟩
 refine .one 22 rfl (by kernel_rfl) ?_
 refine .buildSlice (([pickN ws 1 p.a, pickN ws (ws.getD (((cs.getD (((((cs.length : Nat) : Int) - 1) - (i : Int)).toNat) default).out).toNat) 0) p.d] : List Int).map irow) sl22 ze3 rfl rfl rfl rfl rfl (uniform_map (s := 1) (f := irow) (fun _ => rfl)) rfl rfl rfl (by decide) ?_
 refine .nil ⟨rfl, ?_⟩
 refine .one 23 rfl (by kernel_rfl) ?_
 refine .fa fl39_3 ?_
 refine .nil ⟨rfl, ?_⟩
 refine .one 24 rfl (by kernel_rfl) (.sh (Sh.freezeE (d := 46) (([pickN ws 1 p.a, pickN ws (ws.getD (((cs.getD (((((cs.length : Nat) : Int) - 1) - (i : Int)).toNat) default).out).toNat) 0) p.d] : List Int).map irow) rfl (by first | rfl | exact rep_map rfl) (Frees.map irow_frees)) (.storeC si22 rfl rfl rfl rfl rfl rfl (nbE rfl) rfl ?_))
 refine .nil ⟨rfl, ?_⟩
 refine .done (by kernel_rfl) ?_
 exact Le.mk (.c (.c (.c (.nil)))) (.c (.c (.c (.c (.nil)))))
 refine .vl (Y.load sh3 rfl (row_getD0 (d := 0) (by omega)) rfl rfl) ?_
 refine .nil ⟨rfl, ?_⟩
 refine .one 6 rfl (by kernel_rfl) ?_
 refine .callLP [1, 2] ok56 (pick_spec (n := (⟨nm, ws, cs, ins, mems, streams, [], [], f0, d0, []⟩ : Netlist)) (w := 1) (k := p.a) (by show (ws).length ≤ 1048576; omega) (by omega)) rfl (.agg (.keep rfl rfl (.lend rfl rfl (lend_le (by omega)) (lend_eq (by omega)) (.lend rfl rfl (lend_le (by omega)) (lend_eq (by omega)) (.keep rfl rfl (.keep rfl rfl (.keep rfl rfl (.keep rfl rfl (.keep rfl rfl (.keep rfl rfl (.keep rfl rfl (.keep rfl rfl .nil))))))))))) rfl (.keep rfl rfl (.keep rfl rfl .nil))) (lend2 rfl (owns_map irow_frees) (lend1 rfl (owns_map Cell.row_frees))) (by decide) rfl trivial ?_
 refine .nil ⟨rfl, ?_⟩
 refine .one 21 rfl (by kernel_rfl) ?_
 refine .callLP [1, 2] ok56 (pick_spec (n := (⟨nm, ws, cs, ins, mems, streams, [], [], f0, d0, []⟩ : Netlist)) (w := (ws.getD (((cs.getD (((((cs.length : Nat) : Int) - 1) - (i : Int)).toNat) default).out).toNat) 0)) (k := p.d) (by show (ws).length ≤ 1048576; omega) (by omega)) rfl (.agg (.keep rfl rfl (.lend rfl rfl (lend_le (by omega)) (lend_eq (by omega)) (.lend rfl rfl (lend_le (by omega)) (lend_eq (by omega)) (.keep rfl rfl (.keep rfl rfl (.keep rfl rfl (.keep rfl rfl (.keep rfl rfl (.keep rfl rfl (.keep rfl rfl (.keep rfl rfl .nil))))))))))) rfl (.keep rfl rfl (.keep rfl rfl .nil))) (lend2 rfl (owns_map irow_frees) (lend1 rfl (owns_map Cell.row_frees))) (by decide) rfl trivial ?_
 refine .nil ⟨rfl, ?_⟩
 refine .one 22 rfl (by kernel_rfl) ?_
 refine .buildSlice (([pickN ws 1 p.a, pickN ws (ws.getD (((cs.getD (((((cs.length : Nat) : Int) - 1) - (i : Int)).toNat) default).out).toNat) 0) p.d] : List Int).map irow) sl22 ze3 rfl rfl rfl rfl rfl (uniform_map (s := 1) (f := irow) (fun _ => rfl)) rfl rfl rfl (by decide) ?_
 refine .nil ⟨rfl, ?_⟩
 refine .one 23 rfl (by kernel_rfl) ?_
 refine .fa fl39_3 ?_
 refine .nil ⟨rfl, ?_⟩
 refine .one 24 rfl (by kernel_rfl) (.sh (Sh.freezeE (d := 46) (([pickN ws 1 p.a, pickN ws (ws.getD (((cs.getD (((((cs.length : Nat) : Int) - 1) - (i : Int)).toNat) default).out).toNat) 0) p.d] : List Int).map irow) rfl (by first | rfl | exact rep_map rfl) (Frees.map irow_frees)) (.storeC si22 rfl rfl rfl rfl rfl rfl (nbE rfl) rfl ?_))
 refine .nil ⟨rfl, ?_⟩
 refine .done (by kernel_rfl) ?_
 exact Le.mk (.c (.c (.c (.nil)))) (.c (.c (.c (.c (.nil)))))
 refine .le (st' := ⟨[(0, .ptr 0 0 0 0), (2, vi (i : Int)), (6, .ptr 106 0 0 0)], [(0, .cells [.v (.string nm), .slc 1 1 0 ws.length, .slc 2 6 0 cs.length, .fz 1 (ins.map irow), .fz 5 (mems.map Arr.row), .fz 3 (streams.map Strm.row), .v (.slice none 0 0), .v (.slice none 0 0), vi f0, vi d0, .v (.slice none 0 0)]), (1, .rows 1 (ws.map irow)), (2, .rows 6 (cs.map Cell.row)), (106, .cells [vi ((cs.getD (((((cs.length : Nat) : Int) - 1) - (i : Int)).toNat) default).kind), vi ((cs.getD (((((cs.length : Nat) : Int) - 1) - (i : Int)).toNat) default).op), vi ((cs.getD (((((cs.length : Nat) : Int) - 1) - (i : Int)).toNat) default).out), .fz 1 (([pickN ws 1 p.a, pickN ws (ws.getD (((cs.getD (((((cs.length : Nat) : Int) - 1) - (i : Int)).toNat) default).out).toNat) 0) p.d] : List Int).map irow), .v (.int .u64 (((cs.getD (((((cs.length : Nat) : Int) - 1) - (i : Int)).toNat) default).num : Nat) : Int)), vi ((cs.getD (((((cs.length : Nat) : Int) - 1) - (i : Int)).toNat) default).mem)])]⟩) (Le.mk (.c (.c (.c (.nil)))) (.c (.c (.c (.c (.nil)))))) ?_
 refine .regionT 14 rfl (by kernel_rfl) (.val (Y.move rfl rfl) (by decide) (.val (Y.nilCheck rfl rfl) (by decide) ?_))
 refine .val (Y.fieldAddr fl27_2 rfl rfl) (by decide) (.val (Y.load sh23 rfl rfl rfl rfl) (by decide) (.val (Y.move rfl rfl) (by decide) ?_))
 refine .val (Y.nilCheck rfl rfl) (by decide) (.val (Y.fieldAddr fl27_2 rfl rfl) (by decide) (.val (Y.load sh23 rfl rfl rfl rfl) (by decide) ?_))
 refine .val (Y.len (n := cs.length) sl23 rfl rfl) (by decide) ?_
 refine .val (Y.subI rfl rfl (by omega)) (by decide) ?_
 refine .val (Y.move rfl rfl) (by decide) ?_
 refine .val (Y.subI rfl rfl (by omega)) (by decide) ?_
 refine .val (Y.loadA sh39 rfl rfl (nbE rfl) rfl rfl) (by decide) ?_
 refine .val (Y.indexO (m := ((((cs.length : Nat) : Int) - 1) - (i : Int)).toNat) sl23 rfl rfl (by omega) (by omega)) (by decide) ?_
 refine .nil ?_
 refine .storeE ((cs.set (((((cs.length : Nat) : Int) - 1) - (i : Int)).toNat) (⟨(cs.getD (((((cs.length : Nat) : Int) - 1) - (i : Int)).toNat) default).kind, (cs.getD (((((cs.length : Nat) : Int) - 1) - (i : Int)).toNat) default).op, (cs.getD (((((cs.length : Nat) : Int) - 1) - (i : Int)).toNat) default).out, ([pickN ws 1 p.a, pickN ws (ws.getD (((cs.getD (((((cs.length : Nat) : Int) - 1) - (i : Int)).toNat) default).out).toNat) 0) p.d] : List Int), (cs.getD (((((cs.length : Nat) : Int) - 1) - (i : Int)).toNat) default).num, (cs.getD (((((cs.length : Nat) : Int) - 1) - (i : Int)).toNat) default).mem⟩ : Cell)).map Cell.row) si39 rfl rfl rfl rfl rfl rfl rfl (row_getD0 (d := default) (by omega)) (nbE rfl) (set_map0 rfl) ?_
 refine .nil ?_
 exact ⟨_, _, rfl, rfl, rfl, (by unfold lateN; rw [if_pos c23])⟩
 refine .skip ?_
 exact ⟨_, _, rfl, rfl, rfl, (by unfold lateN; rw [if_neg c23])⟩
end Go.Proofs.Ytligpghohcfpnaa
