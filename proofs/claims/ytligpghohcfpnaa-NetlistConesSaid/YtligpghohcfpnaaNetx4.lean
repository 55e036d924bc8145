/- Walks of cones. -/
import Derived.Test.YtligpghohcfpnaaNetx0
import Derived.Test.YtligpghohcfpnaaNetx3
import Derived.Test.YtligpghohcfpnaaAWx2
import Derived.Test.YtligpghohcfpnaaNetx2
set_option linter.unusedSimpArgs false
set_option linter.unusedVariables false
set_option linter.unusedSectionVars false
set_option maxRecDepth 4000
set_option maxHeartbeats 8000000
namespace Go.Proofs.Ytligpghohcfpnaa
open Go Go.AW Go.Proofs
theorem cone_spec {n : Netlist} {w : Int} (hM : MadeP n) (hw : In w n.widths.length) : ACalls Try.prog 34 [.agg (Netlist.row n), vi w] [] [] (fun r o => ∃ s : List Bool, ConeL n [w] s ∧ r = .uni 1 ((outL s n.cells.length).map irow) ∧ o = []) := by
 refine ACalls.of Try.func34 rfl rfl rfl (n := 43) (by decide) (Nat.le_of_ble_eq_true rfl) ?_
 have hs := hM.small; have hf := hM.formed; have hFt := hM.fit; have hAc := hM.acyclic; have hnc := hM.ncells; have hnw := hM.nwidths; have hni := hM.nins; have hna := hM.nargs; have hw2 := hw; unfold In at hw2
 refine AWp.sr (AOps.box 102 rfl rfl rfl rfl rfl (by decide) ?_)
 refine .an ?_
 refine AOps.nil (AWp.seq (AWp.seq ?_))
 refine AWp.sh (Sh.freezeO 102 rfl rfl) (AWp.region ?_)
 refine .mv ?_
 refine .vl (Y.lss rfl rfl) ?_
 refine .mv ?_
 refine AOps.splitD (d := 11) rfl (fun c11 => ?_) (fun c11 => ?_)
 exfalso; omega
 refine .gw 11 (Y.move rfl rfl) (.gw 11 (Y.fieldAddr fl27_1 rfl rfl) (.gw 11 (Y.load sh22 rfl rfl rfl rfl) ?_))
 refine .gw 11 (Y.len (n := n.widths.length) sl22 rfl (congrArg some (List.length_map ..))) (.gw 11 (Y.geq rfl rfl) ?_)
 refine .pk ?_
 refine AOps.nil ?_
 refine AWp.condD rfl (fun c17 => ?_) (fun c17 => ?_)
 exfalso; omega
 refine AWp.skip (AWp.sr ?_)
 refine .fa fl27_2 ?_
 refine .ld sh23 ?_
 refine .vl (Y.len (n := n.cells.length) sl23 rfl (congrArg some (List.length_map ..))) ?_
 refine AOps.makeSlice (n := n.cells.length) sl63 ze4 rfl rfl rfl rfl (by omega) (by omega) (by decide) ?_
 refine AOps.assignX rfl (by decide) (AOps.sh (Sh.adoptE (d := 5) (n := n.cells.length) 105 ((List.replicate n.cells.length false).map brow) rfl (by first | rfl | exact rep_map rfl) (len_map (by simp)) (by decide)) (AOps.nil ?_))
 refine AWp.seq (AWp.regionHeld0 rfl (AFirst.loadA 0 rfl (by kernel_rfl) sh27 rfl rfl rfl (Nat.le_of_ble_eq_true rfl) rfl rfl (by decide) ?_))
 refine AFirst.loadA 1 rfl (by kernel_rfl) sh27 rfl rfl rfl (Nat.le_of_ble_eq_true rfl) rfl rfl (by decide) (AFirst.blind 3 rfl (by kernel_rfl) (Blind.move rfl rfl) (by decide) (AFirst.blind 4 rfl (by kernel_rfl) (Blind.move rfl rfl) (by decide) ?_))
 refine AFirst.go0 ?_
 refine AHeld.two 2 5 rfl rfl (by kernel_rfl) ?_ ?_
 refine AOps.callV ok70 (drivers2_spec (n := n) hs hf) rfl (.keep rfl rfl .nil) (by decide) ?_
 rintro _ ⟨dl24, hdl24, rfl, _⟩
 refine ⟨rfl, ?_⟩
 refine AOps.nil ⟨rfl, ?_⟩
 refine AHeld.one 5 rfl (by kernel_rfl) ?_
 refine AOps.buildSlice (([w] : List Int).map irow) sl22 ze3 rfl rfl rfl rfl rfl (uniform_map (s := 1) (f := irow) (fun _ => rfl)) rfl rfl rfl (by decide) ?_
 refine AOps.nil ⟨rfl, ?_⟩
 refine AHeld.one 6 rfl (by kernel_rfl) (AOps.sh (Sh.freezeE (d := 24) (dl24.map irow) rfl (by first | rfl | exact rep_map rfl) (Frees.map irow_frees)) (AOps.sh (Sh.freezeE (d := 27) (([w] : List Int).map irow) rfl (by first | rfl | exact rep_map rfl) (Frees.map irow_frees)) ?_))
 refine AOps.callO [105] [] ok69 (mark_spec (n := n) (by_ := dl24) (ws := ([w] : List Int)) hM (by assumption) (fun x hx => by rw [List.mem_singleton.1 hx]; exact hw) (by simp)) rfl (.keep rfl rfl (.keep rfl rfl (.named rfl rfl (.keep rfl rfl .nil)))) ⟨rfl, trivial⟩ rfl (by decide) (fun _ h => by cases h) (fun _ h => by cases h) (by decide) (by decide) ?_
 rintro r objs' ⟨sM, hsM, rfl, rfl⟩ _
 refine ⟨⟨rfl, (by intro ob hob; simp only [List.mem_cons, List.not_mem_nil, or_false] at hob; rcases hob with rfl; rfl), .inl rfl⟩, ?_⟩
 refine AOps.nil ⟨rfl, ?_⟩
 refine AHeld.done (by kernel_rfl) (AWp.sr ?_)
 refine .an ?_
 refine AOps.sh (Sh.nil (d := 6) 106 1 rfl (by decide)) (AOps.nil (AWp.seq ?_))
 refine AWp.seq ?_
 have hsl := hsM.1
 refine AWp.region ?_
 refine .mv ?_
 refine .vl (Y.len (n := n.cells.length) sl63 rfl rfl) ?_
 refine .mv ?_
 refine AOps.nil (AWp.block ?_)
 refine AWp.loop2 (fun (n31_7 : Nat) (out6_7 : List Int) => ⟨[(6, .slc 106 1 0 out6_7.length), (29, .slc 105 1 0 n.cells.length), (30, vi ((n.cells.length : Nat) : Int)), (31, vi (n31_7 : Int))], [(105, .rows 1 (sM.map brow)), (106, .rows 1 (out6_7.map irow))]⟩) (fun (n31_7 : Nat) (out6_7 : List Int) => ((n31_7 : Int) ≤ ((n.cells.length : Nat) : Int)) ∧ (out6_7 = outL sM n31_7)) (fun (n31_7 : Nat) (out6_7 : List Int) => (((n.cells.length : Nat) : Int) - (n31_7 : Int)).toNat) 0 ([] : List Int) (⟨by first | omega | (simp [-List.getD_eq_getElem?_getD]; done) | (simp [-List.getD_eq_getElem?_getD]; omega), rfl⟩) (Le.mk (.cons (look_slc rfl (by first | omega | simp [-List.getD_eq_getElem?_getD] <;> omega)) (.c (.c (.cons (look_int rfl (by first | rfl | omega)) (.nil))))) (.c (.c (.nil)))) (fun n31_7 out6_7 hI7 => ?_)
 obtain ⟨hb7, ho⟩ := hI7
 refine AWp.sr (.vl (Y.lss rfl rfl) (AOps.nil ?_))
 refine AWp.seq ?_
 refine AWp.condD rfl (fun c32 => ?_) (fun c32 => ?_)
 refine AWp.skip ?_
 refine AWp.join1 (fun (out6_j11 : List Int) => ⟨[(6, .slc 106 1 0 out6_j11.length), (29, .slc 105 1 0 n.cells.length), (30, vi ((n.cells.length : Nat) : Int)), (31, vi (n31_7 : Int))], [(105, .rows 1 (sM.map brow)), (106, .rows 1 (out6_j11.map irow))]⟩) (fun (out6_j11 : List Int) => out6_j11 = outL sM (n31_7 + 1)) ?_ (fun out6_j11 hJ11 => ?_)
 refine AWp.block (AWp.sr ?_)
 refine .mv ?_
 refine .vl (Y.indexO (m := n31_7) sl63 rfl rfl (by first | rfl | omega) (by omega)) ?_
 refine .vl (Y.load sh4 rfl (row_getD0 (d := false) (by omega)) rfl rfl) ?_
 refine .an ?_
 refine .an ?_
 refine AOps.nil (AWp.sr ?_)
 refine .mv ?_
 refine AOps.nil ?_
 refine AWp.cond rfl (fun c36 => ?_) (fun c36 => ?_)
 have hlb := outL_len sM n31_7; rw [← ho] at hlb
 refine AWp.region ?_
 refine .mv ?_
 refine .mv ?_
 refine AOps.buildSlice (([(n31_7 : Int)] : List Int).map irow) sl22 ze3 rfl rfl rfl rfl rfl (uniform_map (s := 1) (f := irow) (fun _ => rfl)) rfl rfl rfl (by decide) ?_
 refine AOps.appendE ((out6_7 ++ ([(n31_7 : Int)] : List Int)).map irow) (out6_7 ++ ([(n31_7 : Int)] : List Int)).length sl22 ze3 rfl rfl rfl rfl (app_le (by first | omega | simp [-List.getD_eq_getElem?_getD] <;> omega)) (app_map (by first | omega | simp [-List.getD_eq_getElem?_getD] <;> omega)) (app_n (by first | omega | simp [-List.getD_eq_getElem?_getD] <;> omega)) (by first | omega | simp [-List.getD_eq_getElem?_getD] <;> omega) (by first | omega | simp [-List.getD_eq_getElem?_getD] <;> omega) (by decide) (by decide) ?_
 refine .an ?_
 refine AOps.nil ?_
 exact ⟨out6_7 ++ ([(n31_7 : Int)] : List Int), by first | (rw [ho]; exact (outL_yes (by assumption)).symm) | exact ho.trans (outL_no (by assumption)).symm, Le.mk (.cons (look_slc rfl (by omega)) (.c (.c (.c (.nil))))) (.c (.c (.nil)))⟩
 refine AWp.skip ?_
 exact ⟨out6_7, by first | (rw [ho]; exact (outL_yes (by assumption)).symm) | exact ho.trans (outL_no (by assumption)).symm, Le.mk (.cons (look_slc rfl (by omega)) (.c (.c (.c (.nil))))) (.c (.c (.nil)))⟩
 refine AWp.region ?_
 refine .vl (Y.addI rfl rfl (by omega)) ?_
 refine .mv ?_
 refine AOps.nil ?_
 exact ⟨n31_7 + 1, out6_j11, ⟨by omega, hJ11⟩, by omega, Le.mk (.cons (look_slc rfl (by omega)) (.c (.c (.cons (look_int rfl (by first | rfl | omega)) (.nil))))) (.c (.c (.nil)))⟩
 refine AWp.exit (AWp.sr ?_)
 refine .mv ?_
 refine .an ?_
 refine AOps.sh (Sh.detach (d := 4) (o := 106) rfl rfl (len_map (by omega)) (by decide)) ?_
 refine AOps.nil (AWp.ret ?_)
 exact ⟨_, _, rfl, rfl, sM, hsM, by rw [ho, show n31_7 = n.cells.length by omega]; exact ⟨rfl, rfl⟩⟩
 refine AOps.buildSlice (([w] : List Int).map irow) sl22 ze3 rfl rfl rfl rfl rfl (uniform_map (s := 1) (f := irow) (fun _ => rfl)) rfl rfl rfl (by decide) ?_
 refine AOps.nil ⟨rfl, ?_⟩
 refine AHeld.one 2 rfl (by kernel_rfl) (AOps.callV ok70 (drivers2_spec (n := n) hs hf) rfl (.keep rfl rfl .nil) (by decide) ?_)
 rintro _ ⟨dl24, hdl24, rfl, _⟩
 refine ⟨rfl, ?_⟩
 refine AOps.nil ⟨rfl, ?_⟩
 refine AHeld.one 6 rfl (by kernel_rfl) (AOps.sh (Sh.freezeE (d := 24) (dl24.map irow) rfl (by first | rfl | exact rep_map rfl) (Frees.map irow_frees)) (AOps.sh (Sh.freezeE (d := 27) (([w] : List Int).map irow) rfl (by first | rfl | exact rep_map rfl) (Frees.map irow_frees)) ?_))
 refine AOps.callO [105] [] ok69 (mark_spec (n := n) (by_ := dl24) (ws := ([w] : List Int)) hM (by assumption) (fun x hx => by rw [List.mem_singleton.1 hx]; exact hw) (by simp)) rfl (.keep rfl rfl (.keep rfl rfl (.named rfl rfl (.keep rfl rfl .nil)))) ⟨rfl, trivial⟩ rfl (by decide) (fun _ h => by cases h) (fun _ h => by cases h) (by decide) (by decide) ?_
 rintro r objs' ⟨sM, hsM, rfl, rfl⟩ _
 refine ⟨⟨rfl, (by intro ob hob; simp only [List.mem_cons, List.not_mem_nil, or_false] at hob; rcases hob with rfl; rfl), .inl rfl⟩, ?_⟩
 refine AOps.nil ⟨rfl, ?_⟩
 refine AHeld.done (by kernel_rfl) (AWp.sr ?_)
 refine .an ?_
 refine AOps.sh (Sh.nil (d := 6) 106 1 rfl (by decide)) (AOps.nil (AWp.seq ?_))
 refine AWp.seq ?_
 have hsl := hsM.1
 refine AWp.region ?_
 refine .mv ?_
 refine .vl (Y.len (n := n.cells.length) sl63 rfl rfl) ?_
 refine .mv ?_
 refine AOps.nil (AWp.block ?_)
 refine AWp.loop2 (fun (n31_7 : Nat) (out6_7 : List Int) => ⟨[(6, .slc 106 1 0 out6_7.length), (29, .slc 105 1 0 n.cells.length), (30, vi ((n.cells.length : Nat) : Int)), (31, vi (n31_7 : Int))], [(105, .rows 1 (sM.map brow)), (106, .rows 1 (out6_7.map irow))]⟩) (fun (n31_7 : Nat) (out6_7 : List Int) => ((n31_7 : Int) ≤ ((n.cells.length : Nat) : Int)) ∧ (out6_7 = outL sM n31_7)) (fun (n31_7 : Nat) (out6_7 : List Int) => (((n.cells.length : Nat) : Int) - (n31_7 : Int)).toNat) 0 ([] : List Int) (⟨by first | omega | (simp [-List.getD_eq_getElem?_getD]; done) | (simp [-List.getD_eq_getElem?_getD]; omega), rfl⟩) (Le.mk (.cons (look_slc rfl (by first | omega | simp [-List.getD_eq_getElem?_getD] <;> omega)) (.c (.c (.cons (look_int rfl (by first | rfl | omega)) (.nil))))) (.c (.c (.nil)))) (fun n31_7 out6_7 hI7 => ?_)
 obtain ⟨hb7, ho⟩ := hI7
 refine AWp.sr (.vl (Y.lss rfl rfl) (AOps.nil ?_))
 refine AWp.seq ?_
 refine AWp.condD rfl (fun c32 => ?_) (fun c32 => ?_)
 refine AWp.skip ?_
 refine AWp.join1 (fun (out6_j11 : List Int) => ⟨[(6, .slc 106 1 0 out6_j11.length), (29, .slc 105 1 0 n.cells.length), (30, vi ((n.cells.length : Nat) : Int)), (31, vi (n31_7 : Int))], [(105, .rows 1 (sM.map brow)), (106, .rows 1 (out6_j11.map irow))]⟩) (fun (out6_j11 : List Int) => out6_j11 = outL sM (n31_7 + 1)) ?_ (fun out6_j11 hJ11 => ?_)
 refine AWp.block (AWp.sr ?_)
 refine .mv ?_
 refine .vl (Y.indexO (m := n31_7) sl63 rfl rfl (by first | rfl | omega) (by omega)) ?_
 refine .vl (Y.load sh4 rfl (row_getD0 (d := false) (by omega)) rfl rfl) ?_
 refine .an ?_
 refine .an ?_
 refine AOps.nil (AWp.sr ?_)
 refine .mv ?_
 refine AOps.nil ?_
 refine AWp.cond rfl (fun c36 => ?_) (fun c36 => ?_)
 have hlb := outL_len sM n31_7; rw [← ho] at hlb
 refine AWp.region ?_
 refine .mv ?_
 refine .mv ?_
 refine AOps.buildSlice (([(n31_7 : Int)] : List Int).map irow) sl22 ze3 rfl rfl rfl rfl rfl (uniform_map (s := 1) (f := irow) (fun _ => rfl)) rfl rfl rfl (by decide) ?_
 refine AOps.appendE ((out6_7 ++ ([(n31_7 : Int)] : List Int)).map irow) (out6_7 ++ ([(n31_7 : Int)] : List Int)).length sl22 ze3 rfl rfl rfl rfl (app_le (by first | omega | simp [-List.getD_eq_getElem?_getD] <;> omega)) (app_map (by first | omega | simp [-List.getD_eq_getElem?_getD] <;> omega)) (app_n (by first | omega | simp [-List.getD_eq_getElem?_getD] <;> omega)) (by first | omega | simp [-List.getD_eq_getElem?_getD] <;> omega) (by first | omega | simp [-List.getD_eq_getElem?_getD] <;> omega) (by decide) (by decide) ?_
 refine .an ?_
 refine AOps.nil ?_
 exact ⟨out6_7 ++ ([(n31_7 : Int)] : List Int), by first | (rw [ho]; exact (outL_yes (by assumption)).symm) | exact ho.trans (outL_no (by assumption)).symm, Le.mk (.cons (look_slc rfl (by omega)) (.c (.c (.c (.nil))))) (.c (.c (.nil)))⟩
 refine AWp.skip ?_
 exact ⟨out6_7, by first | (rw [ho]; exact (outL_yes (by assumption)).symm) | exact ho.trans (outL_no (by assumption)).symm, Le.mk (.cons (look_slc rfl (by omega)) (.c (.c (.c (.nil))))) (.c (.c (.nil)))⟩
 refine AWp.region ?_
 refine .vl (Y.addI rfl rfl (by omega)) ?_
 refine .mv ?_
 refine AOps.nil ?_
 exact ⟨n31_7 + 1, out6_j11, ⟨by omega, hJ11⟩, by omega, Le.mk (.cons (look_slc rfl (by omega)) (.c (.c (.cons (look_int rfl (by first | rfl | omega)) (.nil))))) (.c (.c (.nil)))⟩
 refine AWp.exit (AWp.sr ?_)
 refine .mv ?_
 refine .an ?_
 refine AOps.sh (Sh.detach (d := 4) (o := 106) rfl rfl (len_map (by omega)) (by decide)) ?_
 refine AOps.nil (AWp.ret ?_)
 exact ⟨_, _, rfl, rfl, sM, hsM, by rw [ho, show n31_7 = n.cells.length by omega]; exact ⟨rfl, rfl⟩⟩
theorem coneNone_spec {n : Netlist} {w : Int} (hM : MadeP n) (hw : ¬ In w n.widths.length) : ACalls Try.prog 34 [.agg (Netlist.row n), vi w] [] [] (fun r o => r = .uni 1 (([] : List Int).map irow) ∧ o = []) := by
 refine ACalls.of Try.func34 rfl rfl rfl (n := 43) (by decide) (Nat.le_of_ble_eq_true rfl) ?_
 have hs := hM.small; have hf := hM.formed; have hFt := hM.fit; have hAc := hM.acyclic; have hnc := hM.ncells; have hnw := hM.nwidths; have hni := hM.nins; have hna := hM.nargs; unfold In at hw
 refine AWp.sr (AOps.box 102 rfl rfl rfl rfl rfl (by decide) ?_)
 refine .an ?_
 refine AOps.nil (AWp.seq (AWp.seq ?_))
 refine AWp.sh (Sh.freezeO 102 rfl rfl) (AWp.region ?_)
 refine .mv ?_
 refine .vl (Y.lss rfl rfl) ?_
 refine .mv ?_
 refine AOps.splitD (d := 11) rfl (fun c11 => ?_) (fun c11 => ?_)
 refine .gz 11 (.gz 11 (.gz 11 ?_))
 refine .gz 11 (.gz 11 ?_)
 refine .pk ?_
 refine AOps.nil (AWp.condT rfl (AWp.sr ?_))
 refine .an ?_
 refine AOps.nil (AWp.sh (Sh.nilU (d := 4) 1 rfl) (AWp.ret ?_))
 exact ⟨_, _, rfl, rfl, rfl, rfl⟩
 refine .gw 11 (Y.move rfl rfl) (.gw 11 (Y.fieldAddr fl27_1 rfl rfl) (.gw 11 (Y.load sh22 rfl rfl rfl rfl) ?_))
 refine .gw 11 (Y.len (n := n.widths.length) sl22 rfl (congrArg some (List.length_map ..))) (.gw 11 (Y.geq rfl rfl) ?_)
 refine .pk ?_
 refine AOps.nil ?_
 refine AWp.condD rfl (fun c17 => ?_) (fun c17 => ?_)
 refine AWp.sr ?_
 refine .an ?_
 refine AOps.nil (AWp.sh (Sh.nilU (d := 4) 1 rfl) (AWp.ret ?_))
 exact ⟨_, _, rfl, rfl, rfl, rfl⟩
 exfalso; omega
theorem refCone_spec {n : Netlist} {w : Int} (hM : MadeP n) (hw : In w n.widths.length) : ACalls Try.prog 35 [.agg (Netlist.row n), vi w] [] [] (fun r o => ∃ s : List Bool, ConeL n [w] s ∧ r = .uni 1 (s.map brow) ∧ o = []) := by
 refine ACalls.of Try.func35 rfl rfl rfl (n := 78) (by decide) (Nat.le_of_ble_eq_true rfl) ?_
 have hs := hM.small; have hf := hM.formed; have hFt := hM.fit; have hAc := hM.acyclic; have hnc := hM.ncells; have hnw := hM.nwidths; have hni := hM.nins; have hna := hM.nargs; have hw2 := hw; unfold In at hw2
 refine AWp.sr (AOps.box 102 rfl rfl rfl rfl rfl (by decide) ?_)
 refine .an ?_
 refine AOps.nil (AWp.sr ?_)
 refine .fa fl27_2 ?_
 refine .ld sh23 ?_
 refine .vl (Y.len (n := n.cells.length) sl23 rfl (congrArg some (List.length_map ..))) ?_
 refine AOps.makeSlice (n := n.cells.length) sl63 ze4 rfl rfl rfl rfl (by omega) (by omega) (by decide) ?_
 refine AOps.assignX rfl (by decide) (AOps.sh (Sh.adoptE (d := 5) (n := n.cells.length) 105 ((List.replicate n.cells.length false).map brow) rfl (by first | rfl | exact rep_map rfl) (len_map (by simp)) (by decide)) (AOps.nil ?_))
 refine AWp.sr (.vl (Y.loadA sh27 rfl rfl (Nat.le_of_ble_eq_true rfl) rfl rfl) (AOps.callV ok38 (drivers_spec (n := n) hs hf) rfl (.keep rfl rfl .nil) (by decide) ?_))
 rintro _ ⟨dl15, hdl15, rfl, _⟩
 refine ⟨rfl, ?_⟩
 refine AOps.assignX rfl (by decide) (AOps.sh (Sh.freezeE (d := 6) (dl15.map irow) rfl (by first | rfl | exact rep_map rfl) (Frees.map irow_frees)) (AOps.nil ?_))
 refine AWp.seq ?_
 have hdll := hdl15.len
 refine AWp.region ?_
 refine .mv ?_
 refine .mv ?_
 refine .vl (Y.indexF (m := (w).toNat) sl22 rfl rfl (by omega) (row_getD (d := 0) (by omega))) ?_
 refine .ld sh3 ?_
 refine AOps.buildSlice (([dl15.getD ((w).toNat) 0] : List Int).map irow) sl22 ze3 rfl rfl rfl rfl rfl (uniform_map (s := 1) (f := irow) (fun _ => rfl)) rfl rfl rfl (by decide) ?_
 refine AOps.assignX rfl (by decide) (AOps.sh (Sh.adoptE (d := 7) (n := ([dl15.getD ((w).toNat) 0] : List Int).length) 107 (([dl15.getD ((w).toNat) 0] : List Int).map irow) rfl (by first | rfl | exact rep_map rfl) (len_map rfl) (by decide)) (AOps.nil ?_))
 refine AWp.seq (AWp.block ?_)
 refine AWp.loop2 (fun (in5_4 : List Bool) (open7_4 : List Int) => ⟨[(2, .ptr 102 0 0 0), (5, .slc 105 1 0 n.cells.length), (6, .fz 1 (dl15.map irow)), (7, .slc 107 1 0 open7_4.length)], [(102, .cells (Netlist.row n)), (105, .rows 1 (in5_4.map brow)), (107, .rows 1 (open7_4.map irow))]⟩) (fun (in5_4 : List Bool) (open7_4 : List Int) => (in5_4.length = n.cells.length) ∧ (∃ L, open7_4 = L.map (fun x => dl15.getD x.toNat 0) ∧ Srch n dl15 [w] L in5_4)) (fun (in5_4 : List Bool) (open7_4 : List Int) => open7_4.length + 5 * unseen in5_4) (List.replicate n.cells.length false) ([dl15.getD ((w).toNat) 0] : List Int) (⟨by first | omega | (simp [-List.getD_eq_getElem?_getD]; done) | (simp [-List.getD_eq_getElem?_getD]; omega), ⟨[w], rfl, Srch.init (fun x hx => by rw [List.mem_singleton.1 hx]; exact hw)⟩⟩) (Le.mk (.c (.c (.c (.cons (look_slc rfl (by first | omega | simp [-List.getD_eq_getElem?_getD] <;> omega)) (.nil))))) (.c (.c (.c (.nil))))) (fun in5_4 open7_4 hI4 => ?_)
 obtain ⟨hl105, hX⟩ := hI4
 refine AWp.seq (AWp.sr ?_)
 refine .mv ?_
 refine .vl (Y.len (n := open7_4.length) sl22 rfl rfl) (.vl (Y.gtr rfl rfl) (AOps.nil ?_))
 refine AWp.condD rfl (fun c23 => ?_) (fun c23 => ?_)
 refine AWp.skip (AWp.block (AWp.seq ?_))
 obtain ⟨L, hL, hS⟩ := hX
 have hLl : open7_4.length = L.length := by rw [hL]; simp
 have hlast := hS.last hdl15 (by omega)
 have hsz := hS.sz
 simp only [List.length_cons, List.length_nil] at hsz
 have hlv : open7_4.getD (open7_4.length - 1) 0 = dl15.getD (L.getD (L.length - 1) 0).toNat 0 := by rw [hLl, hL]; exact mapW (by omega)
 rw [← hlv] at hlast
 refine AWp.region ?_
 refine .mv ?_
 refine .mv ?_
 refine .vl (Y.len (n := open7_4.length) sl22 rfl rfl) (.vl (Y.sub rfl rfl (natsub (a := open7_4.length) (b := 1) (by omega))) ?_)
 refine .vl (Y.indexO (m := open7_4.length - 1) sl22 rfl rfl (by first | rfl | omega) (by omega)) ?_
 refine .vl (Y.load sh3 rfl (row_getD0 (d := 0) (by omega)) rfl rfl) ?_
 refine .an ?_
 refine AOps.nil (AWp.sr ?_)
 refine .mv ?_
 refine .mv ?_
 refine .vl (Y.len (n := open7_4.length) sl22 rfl rfl) (.vl (Y.sub rfl rfl (natsub (a := open7_4.length) (b := 1) (by omega))) ?_)
 refine .vl (Y.sliceO (l := 0) (h := open7_4.length - 1) sl22 rfl (.none _) (.some rfl) (by omega) (by omega)) ?_
 refine AOps.sh (Sh.trimE (d := 34) (o := 107) ((open7_4.take (open7_4.length - 1)).map irow) rfl rfl (take_le (by omega)) take_he (by decide)) ?_
 refine .an ?_
 refine AOps.nil (AWp.seq (AWp.sr ?_))
 refine .mv ?_
 refine .mv ?_
 refine .vl (Y.indexO (m := (open7_4.getD (open7_4.length - 1) 0).toNat) sl63 rfl rfl (by omega) (by omega)) ?_
 refine .vl (Y.load sh4 rfl (row_getD0 (d := false) (by omega)) rfl rfl) ?_
 refine AOps.nil ?_
 refine AWp.cond rfl (fun c38 => ?_) (fun c38 => ?_)
 refine AWp.exit ?_
 exact ⟨in5_4, open7_4.take (open7_4.length - 1), ⟨by first | omega | (simp [-List.getD_eq_getElem?_getD]; done) | (simp [-List.getD_eq_getElem?_getD]; omega), by first | (obtain ⟨L2, e1, e2, _, _⟩ := hS.ref hdl15 hna hf (by omega) hlv (by assumption) hO hkc (by omega) (by first | exact .inl (by omega) | exact .inr (by assumption)); exact ⟨L2, e1, e2⟩) | exact ⟨L.take (L.length - 1), by rw [hLl, hL, List.map_take], hS.skip (by omega) (by rw [← hlv]; assumption)⟩⟩, by first | (obtain ⟨L2, e1, _, e2, e3⟩ := hS.ref hdl15 hna hf (by omega) hlv (by assumption) hO hkc (by omega) (by first | exact .inl (by omega) | exact .inr (by assumption)); rw [e1, List.length_map]; omega) | (simp only [List.length_take]; omega), Le.mk (.c (.c (.c (.cons (look_slc rfl (by first | omega | simp [-List.getD_eq_getElem?_getD] <;> omega)) (.nil))))) (.c (.c (.c (.nil))))⟩
 refine AWp.skip (AWp.sr ?_)
 refine .mv ?_
 refine .mv ?_
 refine .vl (Y.indexO (m := (open7_4.getD (open7_4.length - 1) 0).toNat) sl63 rfl rfl (by omega) (by omega)) ?_
 refine AOps.storeE ((in5_4.set ((open7_4.getD (open7_4.length - 1) 0).toNat) true).map brow) si4 rfl rfl rfl rfl rfl rfl rfl (row_getD0 (d := false) (by omega)) (Nat.le_of_ble_eq_true rfl) (set_map0 rfl) ?_
 refine AOps.nil (AWp.seq ?_)
 have hn4 := hna (n.cells.getD (open7_4.getD (open7_4.length - 1) 0).toNat default) (getD_in (by omega))
 refine AWp.region ?_
 refine .an ?_
 refine AOps.nil (AWp.block ?_)
 refine AWp.loop2 (fun (k9_10 : Nat) (open7_10 : List Int) => ⟨[(2, .ptr 102 0 0 0), (5, .slc 105 1 0 n.cells.length), (6, .fz 1 (dl15.map irow)), (7, .slc 107 1 0 open7_10.length), (8, vi (open7_4.getD (open7_4.length - 1) 0)), (9, vi (k9_10 : Int))], [(102, .cells (Netlist.row n)), (105, .rows 1 ((in5_4.set ((open7_4.getD (open7_4.length - 1) 0).toNat) true).map brow)), (107, .rows 1 (open7_10.map irow))]⟩) (fun (k9_10 : Nat) (open7_10 : List Int) => (k9_10 ≤ (n.cells.getD (open7_4.getD (open7_4.length - 1) 0).toNat default).args.length) ∧ (0 < k9_10 → Comb (n.cells.getD (open7_4.getD (open7_4.length - 1) 0).toNat default).kind) ∧ (open7_10 = (L.take (L.length - 1)).map (fun x => dl15.getD x.toNat 0) ++ ((n.cells.getD (open7_4.getD (open7_4.length - 1) 0).toNat default).args.take k9_10).map (fun x => dl15.getD x.toNat 0))) (fun (k9_10 : Nat) (open7_10 : List Int) => (n.cells.getD (open7_4.getD (open7_4.length - 1) 0).toNat default).args.length - k9_10) 0 (open7_4.take (open7_4.length - 1)) (⟨by omega, fun h => by omega, by rw [hLl, hL]; simp [List.map_take]⟩) (Le.mk (.c (.c (.c (.cons (look_slc rfl (by first | omega | simp [-List.getD_eq_getElem?_getD] <;> omega)) (.c (.cons (look_int rfl (by first | rfl | omega)) (.nil))))))) (.c (.c (.c (.nil))))) (fun k9_10 open7_10 hI10 => ?_)
 obtain ⟨hk10, hkc, hO⟩ := hI10
 refine AWp.seq (AWp.sr ?_)
 refine .mv ?_
 refine .fa fl27_2 ?_
 refine .ld sh23 ?_
 refine .mv ?_
 refine .vl (Y.indexF (m := (open7_4.getD (open7_4.length - 1) 0).toNat) sl23 rfl rfl (by omega) (row_getD (d := default) (by omega))) ?_
 refine .fa fl39_3 ?_
 refine .ld sh22 ?_
 refine .vl (Y.len (n := ((n.cells.getD ((open7_4.getD (open7_4.length - 1) 0).toNat) default).args).length) sl22 rfl (congrArg some (List.length_map ..))) (.vl (Y.lss rfl rfl) ?_)
 refine .mv ?_
 refine AOps.splitD (d := 51) rfl (fun c51 => ?_) (fun c51 => ?_)
 refine .gw 51 (Y.fieldAddr fl27_2 rfl rfl) (.gw 51 (Y.load sh23 rfl rfl rfl rfl) (.gw 51 (Y.move rfl rfl) ?_))
 refine .gw 51 (Y.indexF (m := (open7_4.getD (open7_4.length - 1) 0).toNat) sl23 rfl rfl (by omega) (row_getD (d := default) (by omega))) ?_
 refine .gw 51 (Y.fieldAddr fl39_0 rfl rfl) (.gw 51 (Y.load sh3 rfl rfl rfl rfl) (AOps.guardRun (d := 51) rfl (by decide) rfl ?_))
 refine AOps.callP ok22 (refComb_spec (w := ((n.cells.getD ((open7_4.getD (open7_4.length - 1) 0).toNat) default).kind))) rfl (.keep rfl rfl .nil) (by decide) rfl ?_
 refine .pk ?_
 refine AOps.nil ?_
 refine AWp.condD rfl (fun c59 => ?_) (fun c59 => ?_)
 refine AWp.skip (AWp.seq (AWp.block ?_))
 have hin := hf.argIn (i := open7_4.getD (open7_4.length - 1) 0) (x := (n.cells.getD (open7_4.getD (open7_4.length - 1) 0).toNat default).args.getD k9_10 0) ⟨by omega, by omega⟩ (getD_mem (l := (n.cells.getD (open7_4.getD (open7_4.length - 1) 0).toNat default).args) (by omega))
 unfold In at hin
 have hol : open7_10.length = L.length - 1 + k9_10 := by rw [hO, List.length_append, List.length_map, List.length_map, take_len (by omega), take_len (by omega)]
 refine AWp.region ?_
 refine .mv ?_
 refine .mv ?_
 refine .fa fl27_2 ?_
 refine .ld sh23 ?_
 refine .mv ?_
 refine .vl (Y.indexF (m := (open7_4.getD (open7_4.length - 1) 0).toNat) sl23 rfl rfl (by omega) (row_getD (d := default) (by omega))) ?_
 refine .fa fl39_3 ?_
 refine .ld sh22 ?_
 refine .mv ?_
 refine .vl (Y.indexF (m := k9_10) sl22 rfl rfl (by first | rfl | omega) (row_getD (d := 0) (by omega))) ?_
 refine .ld sh3 ?_
 refine .vl (Y.indexF (m := (((n.cells.getD ((open7_4.getD (open7_4.length - 1) 0).toNat) default).args).getD k9_10 0).toNat) sl22 rfl rfl (by omega) (row_getD (d := 0) (by omega))) ?_
 refine .ld sh3 ?_
 refine AOps.buildSlice (([dl15.getD ((((n.cells.getD ((open7_4.getD (open7_4.length - 1) 0).toNat) default).args).getD k9_10 0).toNat) 0] : List Int).map irow) sl22 ze3 rfl rfl rfl rfl rfl (uniform_map (s := 1) (f := irow) (fun _ => rfl)) rfl rfl rfl (by decide) ?_
 refine AOps.appendE ((open7_10 ++ ([dl15.getD ((((n.cells.getD ((open7_4.getD (open7_4.length - 1) 0).toNat) default).args).getD k9_10 0).toNat) 0] : List Int)).map irow) (open7_10 ++ ([dl15.getD ((((n.cells.getD ((open7_4.getD (open7_4.length - 1) 0).toNat) default).args).getD k9_10 0).toNat) 0] : List Int)).length sl22 ze3 rfl rfl rfl rfl (app_le (by first | omega | simp [-List.getD_eq_getElem?_getD] <;> omega)) (app_map (by first | omega | simp [-List.getD_eq_getElem?_getD] <;> omega)) (app_n (by first | omega | simp [-List.getD_eq_getElem?_getD] <;> omega)) (by first | omega | simp [-List.getD_eq_getElem?_getD] <;> omega) (by first | omega | simp [-List.getD_eq_getElem?_getD] <;> omega) (by decide) (by decide) ?_
 refine .an ?_
 refine AOps.nil (AWp.region ?_)
 refine .mv ?_
 refine .vl (Y.addI rfl rfl (by omega)) ?_
 refine .an ?_
 refine AOps.nil ?_
 exact ⟨k9_10 + 1, open7_10 ++ ([dl15.getD ((((n.cells.getD ((open7_4.getD (open7_4.length - 1) 0).toNat) default).args).getD k9_10 0).toNat) 0] : List Int), ⟨by omega, fun _ => by assumption, by rw [hO, take_one (d := (0 : Int)) (by omega), List.map_append, List.append_assoc]; rfl⟩, by omega, Le.mk (.c (.c (.c (.cons (look_slc rfl (by omega)) (.c (.cons (look_int rfl (by first | rfl | omega)) (.nil))))))) (.c (.c (.c (.nil))))⟩
 refine AWp.exit ?_
 exact ⟨in5_4.set ((open7_4.getD (open7_4.length - 1) 0).toNat) true, open7_10, ⟨by first | omega | (simp [-List.getD_eq_getElem?_getD]; done) | (simp [-List.getD_eq_getElem?_getD]; omega), by first | (obtain ⟨L2, e1, e2, _, _⟩ := hS.ref hdl15 hna hf (by omega) hlv (by assumption) hO hkc (by omega) (by first | exact .inl (by omega) | exact .inr (by assumption)); exact ⟨L2, e1, e2⟩) | exact ⟨L.take (L.length - 1), by rw [hLl, hL, List.map_take], hS.skip (by omega) (by rw [← hlv]; assumption)⟩⟩, by first | (obtain ⟨L2, e1, _, e2, e3⟩ := hS.ref hdl15 hna hf (by omega) hlv (by assumption) hO hkc (by omega) (by first | exact .inl (by omega) | exact .inr (by assumption)); rw [e1, List.length_map]; omega) | (simp only [List.length_take]; omega), Le.mk (.c (.c (.c (.cons (look_slc rfl (by first | omega | simp [-List.getD_eq_getElem?_getD] <;> omega)) (.nil))))) (.c (.c (.c (.nil))))⟩
 refine .gz 51 (.gz 51 (.gz 51 ?_))
 refine .gz 51 (.gz 51 (.gz 51 ?_))
 refine .gz 51 ?_
 refine .pk ?_
 refine AOps.nil (AWp.condF rfl (AWp.exit ?_))
 exact ⟨in5_4.set ((open7_4.getD (open7_4.length - 1) 0).toNat) true, open7_10, ⟨by first | omega | (simp [-List.getD_eq_getElem?_getD]; done) | (simp [-List.getD_eq_getElem?_getD]; omega), by first | (obtain ⟨L2, e1, e2, _, _⟩ := hS.ref hdl15 hna hf (by omega) hlv (by assumption) hO hkc (by omega) (by first | exact .inl (by omega) | exact .inr (by assumption)); exact ⟨L2, e1, e2⟩) | exact ⟨L.take (L.length - 1), by rw [hLl, hL, List.map_take], hS.skip (by omega) (by rw [← hlv]; assumption)⟩⟩, by first | (obtain ⟨L2, e1, _, e2, e3⟩ := hS.ref hdl15 hna hf (by omega) hlv (by assumption) hO hkc (by omega) (by first | exact .inl (by omega) | exact .inr (by assumption)); rw [e1, List.length_map]; omega) | (simp only [List.length_take]; omega), Le.mk (.c (.c (.c (.cons (look_slc rfl (by first | omega | simp [-List.getD_eq_getElem?_getD] <;> omega)) (.nil))))) (.c (.c (.c (.nil))))⟩
 refine AWp.exit (AWp.sr ?_)
 refine .mv ?_
 refine .an ?_
 refine AOps.sh (Sh.detach (d := 4) (o := 105) rfl rfl (len_map (by omega)) (by decide)) ?_
 refine AOps.nil (AWp.ret ?_)
 obtain ⟨L, hL, hS⟩ := hX
 have h9 := congrArg List.length hL
 rw [List.length_map] at h9
 exact ⟨_, _, rfl, rfl, in5_4, hS.done hdl15 hf (by omega) (fun x hx => by rw [List.mem_singleton.1 hx]; exact hw), rfl, rfl⟩
end Go.Proofs.Ytligpghohcfpnaa
/- The walk of NetlistCones. -/
namespace Go.Proofs.Ytligpghohcfpnaa
open Go Go.AW Go.Proofs
theorem netlistCones_spec {p : Pln} (hk : p.Ok) : ACalls Try.prog 8 [.agg (Pln.row p)] [] [] (fun r o => r = .v (.bool true) ∧ o = []) := by
 refine ACalls.of Try.func8 rfl rfl rfl (n := 74) (by decide) (Nat.le_of_ble_eq_true rfl) (AWp.sr (AOps.box 101 rfl rfl rfl rfl rfl (by decide) ?_))
 refine .an ?_
 refine AOps.nil (AWp.seq (AWp.sr ?_))
 refine AOps.callP ok15 (awake_spec) rfl .nil (by decide) rfl (.vl (Y.not rfl) ?_)
 refine .mv ?_
 refine .gw 11 (Y.loadA sh36 rfl rfl (Nat.le_of_ble_eq_true rfl) rfl rfl) (AOps.guardRun (d := 11) rfl (by decide) rfl (AOps.callP ok18 (few_spec (p := p)) rfl (.keep rfl rfl .nil) (by decide) rfl ?_))
 refine .gw 11 (Y.not rfl) ?_
 refine .pk ?_
 refine AOps.nil ?_
 refine AWp.cond rfl (fun c15 => ?_) (fun c15 => ?_)
 replace c15 : ¬ (p.Few) := by simpa using c15
 refine AWp.sr (AOps.callP ok15 (awake_spec) rfl .nil (by decide) rfl ?_)
 refine .an ?_
 refine AOps.nil (AWp.ret ?_)
 exact .rb rfl (rfl)
 replace c15 : p.Few := by simpa using c15
 refine AWp.skip (AWp.sr (.vl (Y.loadA sh36 rfl rfl (Nat.le_of_ble_eq_true rfl) rfl rfl) ?_))
 refine AOps.callV ok19 (made_spec (p := p) (by assumption) hk) rfl (.keep rfl rfl .nil) (by decide) ?_
 rintro _ ⟨nM18, hM18, rfl, _⟩
 refine ⟨rfl, ?_⟩
 refine AOps.alloc 103 ze27 rfl rfl (by decide) (AOps.sh (Sh.nameN (d := 18) 1 861 nM18.widths.length rfl rfl rfl (by decide) (len_map rfl)) (AOps.sh (Sh.nameN (d := 18) 2 862 nM18.cells.length rfl rfl rfl (by decide) (len_map rfl)) ?_))
 refine AOps.storeC si27 rfl rfl rfl rfl rfl rfl (Nat.le_of_ble_eq_true rfl) rfl (AOps.nil (AWp.seq ?_))
 refine AWp.seq ?_
 have hs := hM18.small; have hf := hM18.formed; have hFt := hM18.fit; have hAc := hM18.acyclic; have hnc := hM18.ncells; have hnw := hM18.nwidths; have hni := hM18.nins; have hna := hM18.nargs; have hM := hM18
 refine AWp.region ?_
 refine .fa fl27_1 ?_
 refine .ld sh22 ?_
 refine .vl (Y.len (n := nM18.widths.length) sl22 rfl rfl) ?_
 refine .mv ?_
 refine AOps.nil (AWp.block ?_)
 refine AWp.loop1 (fun (n22_5 : Nat) => ⟨[(3, .ptr 103 0 0 0), (21, vi ((nM18.widths.length : Nat) : Int)), (22, vi (n22_5 : Int))], [(103, .cells [.v (.string nM18.name), .slc 861 1 0 nM18.widths.length, .slc 862 6 0 nM18.cells.length, .fz 1 (nM18.ins.map irow), .fz 5 (nM18.mems.map Arr.row), .fz 3 (nM18.streams.map Strm.row), .fz 1 (nM18.active.map irow), .fz 1 (nM18.data.map irow), vi nM18.freeze, vi nM18.done, .fz 1 (nM18.rets.map irow)]), (861, .rows 1 (nM18.widths.map irow)), (862, .rows 6 (nM18.cells.map Cell.row))]⟩) (fun (n22_5 : Nat) => ((n22_5 : Int) ≤ ((nM18.widths.length : Nat) : Int))) (fun (n22_5 : Nat) => (((nM18.widths.length : Nat) : Int) - (n22_5 : Int)).toNat) 0 (by omega) (Le.mk (.c (.c (.cons (look_int rfl (by first | rfl | omega)) (.nil)))) (.c (.c (.c (.nil))))) (fun n22_5 hI5 => ?_)
 have hb5 := hI5
 refine AWp.sr (.vl (Y.lss rfl rfl) (AOps.nil ?_))
 refine AWp.seq ?_
 refine AWp.condD rfl (fun c23 => ?_) (fun c23 => ?_)
 refine AWp.skip (AWp.seq (AWp.block ?_))
 refine AWp.sr ?_
 refine .mv ?_
 refine .an ?_
 refine AOps.nil (AWp.seq (AWp.regionHeld [103] [103, 861, 862] rfl ?_))
 refine AFirst.loadA 0 rfl (by kernel_rfl) sh27 rfl rfl rfl (Nat.le_of_ble_eq_true rfl) rfl rfl (by decide) (AFirst.blind 1 rfl (by kernel_rfl) (Blind.move rfl rfl) (by decide) (AFirst.loadA 3 rfl (by kernel_rfl) sh27 rfl rfl rfl (Nat.le_of_ble_eq_true rfl) rfl rfl (by decide) ?_))
 refine AFirst.blind 4 rfl (by kernel_rfl) (Blind.move rfl rfl) (by decide) (AFirst.goL rfl rfl (namesIn.cells rfl rfl rfl namesIn.nil) (AHeld.one 2 rfl (by kernel_rfl) ?_))
 refine AOps.callLV [861, 862] ok34 (cone_spec (n := nM18) (w := (n22_5 : Int)) hM ⟨by omega, by omega⟩) rfl (.agg (.keep rfl rfl (.lend rfl rfl (lend_le (by omega)) (lend_eq (by omega)) (.lend rfl rfl (lend_le (by omega)) (lend_eq (by omega)) (.keep rfl rfl (.keep rfl rfl (.keep rfl rfl (.keep rfl rfl (.keep rfl rfl (.keep rfl rfl (.keep rfl rfl (.keep rfl rfl .nil))))))))))) rfl (.keep rfl rfl .nil)) (lend2 rfl (owns_map irow_frees) (lend1 rfl (owns_map Cell.row_frees))) (by decide) ?_
 rintro _ ⟨sC27, hsC27, rfl, _⟩
 refine ⟨rfl, (plainr_map irow_plains _), ?_⟩
 refine AOps.nil ⟨rfl, ?_⟩
 refine AHeld.one 5 rfl (by kernel_rfl) ?_
 refine AOps.callLV [861, 862] ok35 (refCone_spec (n := nM18) (w := (n22_5 : Int)) hM ⟨by omega, by omega⟩) rfl (.agg (.keep rfl rfl (.lend rfl rfl (lend_le (by omega)) (lend_eq (by omega)) (.lend rfl rfl (lend_le (by omega)) (lend_eq (by omega)) (.keep rfl rfl (.keep rfl rfl (.keep rfl rfl (.keep rfl rfl (.keep rfl rfl (.keep rfl rfl (.keep rfl rfl (.keep rfl rfl .nil))))))))))) rfl (.keep rfl rfl .nil)) (lend2 rfl (owns_map irow_frees) (lend1 rfl (owns_map Cell.row_frees))) (by decide) ?_
 rintro _ ⟨sR30, hsR30, rfl, _⟩
 refine ⟨rfl, (plainr_map brow_plains _), ?_⟩
 refine AOps.nil ⟨rfl, ?_⟩
 refine AHeld.one 6 rfl (by kernel_rfl) (AOps.assignX rfl (by decide) (AOps.sh (Sh.freezeE (d := 5) ((outL sC27 nM18.cells.length).map irow) rfl (by first | rfl | exact rep_map rfl) (Frees.map irow_frees)) ?_))
 refine AOps.nil ⟨rfl, ?_⟩
 refine AHeld.one 7 rfl (by kernel_rfl) (AOps.assignX rfl (by decide) (AOps.sh (Sh.freezeE (d := 6) (sR30.map brow) rfl (by first | rfl | exact rep_map rfl) (Frees.map brow_frees)) ?_))
 refine AOps.nil ⟨rfl, ?_⟩
 refine AHeld.done (by kernel_rfl) (AWp.seq ?_)
 have hse : sC27 = sR30 := hsC27.eq hsR30
 have hsl := hsR30.1; have hgl := outL_len sC27 nM18.cells.length
 refine AWp.region ?_
 refine .an ?_
 refine AOps.nil (AWp.seq (AWp.sr ?_))
 refine .mv ?_
 refine .vl (Y.len (n := sR30.length) sl63 rfl (congrArg some (List.length_map ..))) ?_
 refine .mv ?_
 refine AOps.nil (AWp.block ?_)
 refine AWp.loop2 (fun (k7_10 : Nat) (n33_10 : Nat) => ⟨[(3, .ptr 103 0 0 0), (5, .fz 1 ((outL sC27 nM18.cells.length).map irow)), (6, .fz 1 (sR30.map brow)), (7, vi (k7_10 : Int)), (21, vi ((nM18.widths.length : Nat) : Int)), (22, vi (n22_5 : Int)), (32, vi ((sR30.length : Nat) : Int)), (33, vi (n33_10 : Int))], [(103, .cells [.v (.string nM18.name), .slc 861 1 0 nM18.widths.length, .slc 862 6 0 nM18.cells.length, .fz 1 (nM18.ins.map irow), .fz 5 (nM18.mems.map Arr.row), .fz 3 (nM18.streams.map Strm.row), .fz 1 (nM18.active.map irow), .fz 1 (nM18.data.map irow), vi nM18.freeze, vi nM18.done, .fz 1 (nM18.rets.map irow)]), (861, .rows 1 (nM18.widths.map irow)), (862, .rows 6 (nM18.cells.map Cell.row))]⟩) (fun (k7_10 : Nat) (n33_10 : Nat) => ((n33_10 : Int) ≤ ((sR30.length : Nat) : Int)) ∧ (k7_10 = (outL sR30 n33_10).length)) (fun (k7_10 : Nat) (n33_10 : Nat) => (((sR30.length : Nat) : Int) - (n33_10 : Int)).toNat) 0 0 (⟨by omega, rfl⟩) (Le.mk (.c (.c (.c (.cons (look_int rfl (by first | rfl | omega)) (.c (.c (.c (.cons (look_int rfl (by first | rfl | omega)) (.nil))))))))) (.c (.c (.c (.nil))))) (fun k7_10 n33_10 hI10 => ?_)
 obtain ⟨hb10, hkk⟩ := hI10
 refine AWp.sr (.vl (Y.lss rfl rfl) (AOps.nil ?_))
 refine AWp.seq ?_
 refine AWp.condD rfl (fun c34 => ?_) (fun c34 => ?_)
 refine AWp.skip ?_
 refine AWp.join1 (fun (k7_j16 : Nat) => ⟨[(3, .ptr 103 0 0 0), (5, .fz 1 ((outL sC27 nM18.cells.length).map irow)), (6, .fz 1 (sR30.map brow)), (7, vi (k7_j16 : Int)), (21, vi ((nM18.widths.length : Nat) : Int)), (22, vi (n22_5 : Int)), (32, vi ((sR30.length : Nat) : Int)), (33, vi (n33_10 : Int))], [(103, .cells [.v (.string nM18.name), .slc 861 1 0 nM18.widths.length, .slc 862 6 0 nM18.cells.length, .fz 1 (nM18.ins.map irow), .fz 5 (nM18.mems.map Arr.row), .fz 3 (nM18.streams.map Strm.row), .fz 1 (nM18.active.map irow), .fz 1 (nM18.data.map irow), vi nM18.freeze, vi nM18.done, .fz 1 (nM18.rets.map irow)]), (861, .rows 1 (nM18.widths.map irow)), (862, .rows 6 (nM18.cells.map Cell.row))]⟩) (fun (k7_j16 : Nat) => k7_j16 = (outL sR30 (n33_10 + 1)).length) ?_ (fun k7_j16 hJ16 => ?_)
 refine AWp.block (AWp.sr ?_)
 refine .mv ?_
 refine .an ?_
 refine AOps.nil (AWp.seq (AWp.sr ?_))
 refine .mv ?_
 refine .mv ?_
 refine .vl (Y.indexF (m := n33_10) sl63 rfl rfl (by first | rfl | omega) (row_getD (d := false) (by omega))) ?_
 refine .ld sh4 ?_
 refine .vl (Y.not rfl) (AOps.nil ?_)
 refine AWp.cond rfl (fun c40 => ?_) (fun c40 => ?_)
 replace c40 : (sR30.getD n33_10 false) = false := by simpa using c40
 refine AWp.exit ?_
 exact ⟨k7_10, by first | (rw [outL_yes (by assumption), List.length_append, hkk]; rfl) | (rw [outL_no (by assumption)]; exact hkk), Le.mk (.c (.c (.c (.cons (look_int rfl (by first | rfl | omega)) (.c (.c (.c (.c (.nil))))))))) (.c (.c (.c (.nil))))⟩
 replace c40 : (sR30.getD n33_10 false) = true := by simpa using c40
 refine AWp.skip (AWp.seq (AWp.sr ?_))
 refine .mv ?_
 refine .mv ?_
 refine .vl (Y.len (n := (outL sC27 nM18.cells.length).length) sl22 rfl (congrArg some (List.length_map ..))) (.vl (Y.geq rfl rfl) ?_)
 refine .mv ?_
 refine AOps.splitD (d := 45) rfl (fun c45 => ?_) (fun c45 => ?_)
 exfalso; have h9 := outL_at (s := sR30) (i := n33_10) (k := nM18.cells.length) (by omega) (by assumption); rw [hse] at c45; omega
 refine .gw 45 (Y.move rfl rfl) (.gw 45 (Y.move rfl rfl) ?_)
 refine .gw 45 (Y.indexF (m := k7_10) sl22 rfl rfl (by first | rfl | omega) (row_getD (d := 0) (by omega))) ?_
 refine .gw 45 (Y.load sh3 rfl rfl rfl rfl) (.gw 45 (Y.move rfl rfl) (.gw 45 (Y.neq rfl rfl) ?_))
 refine .pk ?_
 refine AOps.nil ?_
 refine AWp.condD rfl (fun c52 => ?_) (fun c52 => ?_)
 exfalso; have h9 := outL_at (s := sR30) (i := n33_10) (k := nM18.cells.length) (by omega) (by assumption); rw [hse, hkk] at c52; exact c52 h9.2
 refine AWp.skip (AWp.region ?_)
 refine .mv ?_
 refine .vl (Y.addI rfl rfl (by omega)) ?_
 refine .an ?_
 refine AOps.nil ?_
 exact ⟨k7_10 + 1, by first | (rw [outL_yes (by assumption), List.length_append, hkk]; rfl) | (rw [outL_no (by assumption)]; exact hkk), Le.mk (.c (.c (.c (.cons (look_int rfl (by first | rfl | omega)) (.c (.c (.c (.c (.nil))))))))) (.c (.c (.c (.nil))))⟩
 refine AWp.region ?_
 refine .vl (Y.addI rfl rfl (by omega)) ?_
 refine .mv ?_
 refine AOps.nil ?_
 exact ⟨k7_j16, n33_10 + 1, ⟨by omega, hJ16⟩, by omega, Le.mk (.c (.c (.c (.cons (look_int rfl (by first | rfl | omega)) (.c (.c (.c (.cons (look_int rfl (by first | rfl | omega)) (.nil))))))))) (.c (.c (.c (.nil))))⟩
 refine AWp.exit (AWp.sr ?_)
 refine .mv ?_
 refine .mv ?_
 refine .vl (Y.len (n := (outL sC27 nM18.cells.length).length) sl22 rfl (congrArg some (List.length_map ..))) (.vl (Y.neq rfl rfl) (AOps.nil ?_))
 refine AWp.condD rfl (fun c59 => ?_) (fun c59 => ?_)
 exfalso; rw [hse, hkk, show n33_10 = nM18.cells.length by omega] at c59; exact c59 rfl
 refine AWp.skip (AWp.region ?_)
 refine .vl (Y.addI rfl rfl (by omega)) ?_
 refine .mv ?_
 refine AOps.nil ?_
 exact ⟨n22_5 + 1, by omega, by omega, Le.mk (.c (.c (.cons (look_int rfl (by first | rfl | omega)) (.nil)))) (.c (.c (.c (.nil))))⟩
 refine AWp.exit (AWp.sr (.vl (Y.loadA sh27 rfl rfl (Nat.le_of_ble_eq_true rfl) rfl rfl) ?_))
 refine AOps.callLP [861, 862] ok34 (coneNone_spec (n := nM18) (w := (-1)) hM (by unfold In; omega)) rfl (.agg (.keep rfl rfl (.lend rfl rfl (lend_le (by omega)) (lend_eq (by omega)) (.lend rfl rfl (lend_le (by omega)) (lend_eq (by omega)) (.keep rfl rfl (.keep rfl rfl (.keep rfl rfl (.keep rfl rfl (.keep rfl rfl (.keep rfl rfl (.keep rfl rfl (.keep rfl rfl .nil))))))))))) rfl (.keep rfl rfl .nil)) (lend2 rfl (owns_map irow_frees) (lend1 rfl (owns_map Cell.row_frees))) (by decide) rfl (plainr_map irow_plains _) ?_
 refine .vl (Y.len (n := ([] : List Int).length) sl22 rfl (congrArg some (List.length_map ..))) (.vl (Y.eql rfl rfl) ?_)
 refine .mv ?_
 refine AOps.splitD (d := 65) rfl (fun c65 => ?_) (fun c65 => ?_)
 refine .gw 65 (Y.loadA sh27 rfl rfl (Nat.le_of_ble_eq_true rfl) rfl rfl) (.gw 65 (Y.fieldAddr fl27_1 rfl rfl) (.gw 65 (Y.load sh22 rfl rfl rfl rfl) ?_))
 refine .gw 65 (Y.len (n := nM18.widths.length) sl22 rfl rfl) (AOps.guardRun (d := 65) rfl (by decide) rfl ?_)
 refine AOps.callLP [861, 862] ok34 (coneNone_spec (n := nM18) (w := ((nM18.widths.length : Nat) : Int)) hM (by unfold In; omega)) rfl (.agg (.keep rfl rfl (.lend rfl rfl (lend_le (by omega)) (lend_eq (by omega)) (.lend rfl rfl (lend_le (by omega)) (lend_eq (by omega)) (.keep rfl rfl (.keep rfl rfl (.keep rfl rfl (.keep rfl rfl (.keep rfl rfl (.keep rfl rfl (.keep rfl rfl (.keep rfl rfl .nil))))))))))) rfl (.keep rfl rfl .nil)) (lend2 rfl (owns_map irow_frees) (lend1 rfl (owns_map Cell.row_frees))) (by decide) rfl (plainr_map irow_plains _) ?_
 refine .gw 65 (Y.len (n := ([] : List Int).length) sl22 rfl (congrArg some (List.length_map ..))) (.gw 65 (Y.eql rfl rfl) ?_)
 refine .pk ?_
 refine .an ?_
 refine AOps.nil (AWp.ret ?_)
 exact .rb rfl (by simp)
 exfalso; simp at c65
end Go.Proofs.Ytligpghohcfpnaa
