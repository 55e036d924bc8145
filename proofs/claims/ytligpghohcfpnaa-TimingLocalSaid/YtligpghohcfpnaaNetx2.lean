/- The walk through formed. -/
import Derived.Test.YtligpghohcfpnaaNetx0
import Derived.Test.YtligpghohcfpnaaNetx1
import Derived.Test.YtligpghohcfpnaaAWx2
import Derived.Test.YtligpghohcfpnaaAWx3
set_option linter.unusedSimpArgs false
set_option linter.unusedVariables false
set_option linter.unusedSectionVars false
set_option maxRecDepth 4000
set_option maxHeartbeats 8000000
namespace Go.Proofs.Ytligpghohcfpnaa
open Go Go.AW Go.Proofs
theorem formed1_spec {i : Int} {n : Netlist} : ACalls Try.prog 94 [vi i, .fp (Netlist.row n) 0] [] [] (fun r o => r = .v (.bool (decide (In i n.widths.length))) ∧ o = []) := by
 refine ACalls.of Try.func94 rfl rfl rfl (n := 13) (by decide) (nbE rfl) (.sr ?_)
 refine .an ?_
 refine .nil (.sr ?_)
 refine .mv ?_
 refine .vl (Y.geq rfl rfl) ?_
 refine .mv ?_
 refine .splitD (d := 6) rfl (fun c6 => ?_) (fun c6 => ?_)
 refine .gw 6 (Y.move rfl rfl) (.gw 6 (Y.fieldAddr fl27_1 rfl rfl) (.gw 6 (Y.load sh22 rfl rfl rfl rfl) ?_))
 refine .gw 6 (Y.len (n := n.widths.length) sl22 rfl (congrArg some (List.length_map ..))) (.gw 6 (Y.lss rfl rfl) ?_)
 refine .pk ?_
 refine .an ?_
 refine .nil (.ret ?_)
 exact .rb rfl (dd (by (simp only [In]) <;> (first | omega | grind)))
 refine .gz 6 (.gz 6 (.gz 6 ?_))
 refine .gz 6 (.gz 6 ?_)
 refine .pk ?_
 refine .an ?_
 refine .nil (.ret ?_)
 exact .rb rfl (df (by (simp only [In]) <;> (first | omega | grind)))
theorem formed2_spec {i : Int} {n : Netlist} : ACalls Try.prog 96 [vi i, .fp ([.clo (.func 94) [] [.fp (Netlist.row n) 0]]) 0] [] [] (fun r o => r = .v (.bool (!decide (In i n.widths.length))) ∧ o = []) := by
 refine ACalls.of Try.func96 rfl rfl rfl (n := 8) (by decide) (nbE rfl) (.sr ?_)
 refine .an ?_
 refine .nil (.sr ?_)
 refine .ld sh45 ?_
 refine .mv ?_
 refine .callCP rfl ok94 (formed1_spec (i := i)) rfl (.keep rfl rfl (.keep rfl rfl .nil)) (by decide) rfl (.vl (Y.not rfl) ?_)
 refine .an ?_
 refine .nil (.ret ?_)
 exact .rb rfl (rfl)
theorem formed3_spec {i : Int} {n : Netlist} : ACalls Try.prog 97 [vi i, .fp ([.clo (.func 94) [] [.fp (Netlist.row n) 0]]) 0] [] [] (fun r o => r = .v (.bool (!decide (In i n.widths.length))) ∧ o = []) := by
 refine ACalls.of Try.func97 rfl rfl rfl (n := 8) (by decide) (nbE rfl) (.sr ?_)
 refine .an ?_
 refine .nil (.sr ?_)
 refine .ld sh45 ?_
 refine .mv ?_
 refine .callCP rfl ok94 (formed1_spec (i := i)) rfl (.keep rfl rfl (.keep rfl rfl .nil)) (by decide) rfl (.vl (Y.not rfl) ?_)
 refine .an ?_
 refine .nil (.ret ?_)
 exact .rb rfl (rfl)
theorem formed_spec {n : Netlist} (hs : n.Small) (hwi : n.widths.length + n.ins.length ≤ 17592186044416) : ACalls Try.prog 57 [.agg (Netlist.row n)] [] [] (fun r o => r = .v (.bool (decide (Formed n))) ∧ o = []) := by
 refine ACalls.of Try.func57 rfl rfl rfl (n := 234) (by decide) (nbE rfl) ?_
 have hs1 := hs.name; have hs2 := hs.widths; have hs3 := hs.cells; have hs4 := hs.ins; have hs5 := hs.mems; have hs6 := hs.streams; have hs7 := hs.active; have hs8 := hs.data; have hs9 := hs.rets
 have hcat : ([n.widths, n.ins] : List (List Int)).flatten = n.widths ++ n.ins := by simp
 have hcl : (([n.widths, n.ins] : List (List Int)).flatten).length = n.widths.length + n.ins.length := by simp
 refine .sr (.box 101 rfl rfl rfl rfl rfl (by decide) ?_)
 refine .an ?_
 refine .nil (.seq (.sr ?_))
 refine .fa fl27_0 ?_
 refine .ld sh9 ?_
 refine .callP ok92 (named_spec (s := n.name) (by first | assumption | omega)) rfl (.keep rfl rfl .nil) (by decide) rfl (.vl (Y.not rfl) ?_)
 refine .mv ?_
 refine .split (d := 17) rfl (fun c17 => ?_) (fun c17 => ?_)
 replace c17 : ¬ (Named n.name) := by simpa using c17
 refine .gz 17 (.gz 17 (.gz 17 ?_))
 refine .gz 17 ?_
 refine .pk ?_
 refine .mv ?_
 refine .gz 23 (.gz 23 (.gz 23 ?_))
 refine .gz 23 ?_
 refine .pk ?_
 refine .mv ?_
 refine .gz 29 (.gz 29 (.gz 29 ?_))
 refine .gz 29 ?_
 refine .pk ?_
 refine .mv ?_
 refine .gz 35 (.gz 35 (.gz 35 ?_))
 refine .gz 35 ?_
 refine .pk ?_
 refine .mv ?_
 refine .gz 41 (.gz 41 (.gz 41 ?_))
 refine .gz 41 (.gz 41 (.gz 41 ?_))
 refine .gz 41 ?_
 refine .pk ?_
 refine .mv ?_
 refine .gz 50 (.gz 50 (.gz 50 ?_))
 refine .gz 50 (.gz 50 (.gz 50 ?_))
 refine .gz 50 ?_
 refine .pk ?_
 refine .nil (.condT rfl (.sr ?_))
 refine .an ?_
 refine .nil (.ret ?_)
 exact .rb rfl (df (fun h => by have h1 := h.name; have h2 := h.ncells; have h3 := h.nwidths; have h4 := h.nmems; have h5 := h.nstreams; have h6 := h.nactive; have h7 := h.ndata; first | omega | contradiction))
 replace c17 : Named n.name := by simpa using c17
 refine .gw 17 (Y.fieldAddr fl27_2 rfl rfl) (.gw 17 (Y.load sh23 rfl rfl rfl rfl) (.gw 17 (Y.len (n := n.cells.length) sl23 rfl (congrArg some (List.length_map ..))) ?_))
 refine .gw 17 (Y.gtr rfl rfl) ?_
 refine .pk ?_
 refine .mv ?_
 refine .splitD (d := 23) rfl (fun c23 => ?_) (fun c23 => ?_)
 refine .gz 23 (.gz 23 (.gz 23 ?_))
 refine .gz 23 ?_
 refine .pk ?_
 refine .mv ?_
 refine .gz 29 (.gz 29 (.gz 29 ?_))
 refine .gz 29 ?_
 refine .pk ?_
 refine .mv ?_
 refine .gz 35 (.gz 35 (.gz 35 ?_))
 refine .gz 35 ?_
 refine .pk ?_
 refine .mv ?_
 refine .gz 41 (.gz 41 (.gz 41 ?_))
 refine .gz 41 (.gz 41 (.gz 41 ?_))
 refine .gz 41 ?_
 refine .pk ?_
 refine .mv ?_
 refine .gz 50 (.gz 50 (.gz 50 ?_))
 refine .gz 50 (.gz 50 (.gz 50 ?_))
 refine .gz 50 ?_
 refine .pk ?_
 refine .nil (.condT rfl (.sr ?_))
 refine .an ?_
 refine .nil (.ret ?_)
 exact .rb rfl (df (fun h => by have h1 := h.name; have h2 := h.ncells; have h3 := h.nwidths; have h4 := h.nmems; have h5 := h.nstreams; have h6 := h.nactive; have h7 := h.ndata; first | omega | contradiction))
 refine .gw 23 (Y.fieldAddr fl27_1 rfl rfl) (.gw 23 (Y.load sh22 rfl rfl rfl rfl) (.gw 23 (Y.len (n := n.widths.length) sl22 rfl (congrArg some (List.length_map ..))) ?_))
 refine .gw 23 (Y.gtr rfl rfl) ?_
 refine .pk ?_
 refine .mv ?_
 refine .splitD (d := 29) rfl (fun c29 => ?_) (fun c29 => ?_)
 refine .gz 29 (.gz 29 (.gz 29 ?_))
 refine .gz 29 ?_
 refine .pk ?_
 refine .mv ?_
 refine .gz 35 (.gz 35 (.gz 35 ?_))
 refine .gz 35 ?_
 refine .pk ?_
 refine .mv ?_
 refine .gz 41 (.gz 41 (.gz 41 ?_))
 refine .gz 41 (.gz 41 (.gz 41 ?_))
 refine .gz 41 ?_
 refine .pk ?_
 refine .mv ?_
 refine .gz 50 (.gz 50 (.gz 50 ?_))
 refine .gz 50 (.gz 50 (.gz 50 ?_))
 refine .gz 50 ?_
 refine .pk ?_
 refine .nil (.condT rfl (.sr ?_))
 refine .an ?_
 refine .nil (.ret ?_)
 exact .rb rfl (df (fun h => by have h1 := h.name; have h2 := h.ncells; have h3 := h.nwidths; have h4 := h.nmems; have h5 := h.nstreams; have h6 := h.nactive; have h7 := h.ndata; first | omega | contradiction))
 refine .gw 29 (Y.fieldAddr fl27_4 rfl rfl) (.gw 29 (Y.load sh24 rfl rfl rfl rfl) (.gw 29 (Y.len (n := n.mems.length) sl24 rfl (congrArg some (List.length_map ..))) ?_))
 refine .gw 29 (Y.gtr rfl rfl) ?_
 refine .pk ?_
 refine .mv ?_
 refine .splitD (d := 35) rfl (fun c35 => ?_) (fun c35 => ?_)
 refine .gz 35 (.gz 35 (.gz 35 ?_))
 refine .gz 35 ?_
 refine .pk ?_
 refine .mv ?_
 refine .gz 41 (.gz 41 (.gz 41 ?_))
 refine .gz 41 (.gz 41 (.gz 41 ?_))
 refine .gz 41 ?_
 refine .pk ?_
 refine .mv ?_
 refine .gz 50 (.gz 50 (.gz 50 ?_))
 refine .gz 50 (.gz 50 (.gz 50 ?_))
 refine .gz 50 ?_
 refine .pk ?_
 refine .nil (.condT rfl (.sr ?_))
 refine .an ?_
 refine .nil (.ret ?_)
 exact .rb rfl (df (fun h => by have h1 := h.name; have h2 := h.ncells; have h3 := h.nwidths; have h4 := h.nmems; have h5 := h.nstreams; have h6 := h.nactive; have h7 := h.ndata; first | omega | contradiction))
 refine .gw 35 (Y.fieldAddr fl27_5 rfl rfl) (.gw 35 (Y.load sh25 rfl rfl rfl rfl) (.gw 35 (Y.len (n := n.streams.length) sl25 rfl (congrArg some (List.length_map ..))) ?_))
 refine .gw 35 (Y.gtr rfl rfl) ?_
 refine .pk ?_
 refine .mv ?_
 refine .splitD (d := 41) rfl (fun c41 => ?_) (fun c41 => ?_)
 refine .gz 41 (.gz 41 (.gz 41 ?_))
 refine .gz 41 (.gz 41 (.gz 41 ?_))
 refine .gz 41 ?_
 refine .pk ?_
 refine .mv ?_
 refine .gz 50 (.gz 50 (.gz 50 ?_))
 refine .gz 50 (.gz 50 (.gz 50 ?_))
 refine .gz 50 ?_
 refine .pk ?_
 refine .nil (.condT rfl (.sr ?_))
 refine .an ?_
 refine .nil (.ret ?_)
 exact .rb rfl (df (fun h => by have h1 := h.name; have h2 := h.ncells; have h3 := h.nwidths; have h4 := h.nmems; have h5 := h.nstreams; have h6 := h.nactive; have h7 := h.ndata; first | omega | contradiction))
 refine .gw 41 (Y.fieldAddr fl27_6 rfl rfl) (.gw 41 (Y.load sh22 rfl rfl rfl rfl) (.gw 41 (Y.len (n := n.active.length) sl22 rfl (congrArg some (List.length_map ..))) ?_))
 refine .gw 41 (Y.fieldAddr fl27_5 rfl rfl) (.gw 41 (Y.load sh25 rfl rfl rfl rfl) (.gw 41 (Y.len (n := n.streams.length) sl25 rfl (congrArg some (List.length_map ..))) ?_))
 refine .gw 41 (Y.neq rfl rfl) ?_
 refine .pk ?_
 refine .mv ?_
 refine .splitD (d := 50) rfl (fun c50 => ?_) (fun c50 => ?_)
 refine .gz 50 (.gz 50 (.gz 50 ?_))
 refine .gz 50 (.gz 50 (.gz 50 ?_))
 refine .gz 50 ?_
 refine .pk ?_
 refine .nil (.condT rfl (.sr ?_))
 refine .an ?_
 refine .nil (.ret ?_)
 exact .rb rfl (df (fun h => by have h1 := h.name; have h2 := h.ncells; have h3 := h.nwidths; have h4 := h.nmems; have h5 := h.nstreams; have h6 := h.nactive; have h7 := h.ndata; first | omega | contradiction))
 refine .gw 50 (Y.fieldAddr fl27_7 rfl rfl) (.gw 50 (Y.load sh22 rfl rfl rfl rfl) (.gw 50 (Y.len (n := n.data.length) sl22 rfl (congrArg some (List.length_map ..))) ?_))
 refine .gw 50 (Y.fieldAddr fl27_5 rfl rfl) (.gw 50 (Y.load sh25 rfl rfl rfl rfl) (.gw 50 (Y.len (n := n.streams.length) sl25 rfl (congrArg some (List.length_map ..))) ?_))
 refine .gw 50 (Y.neq rfl rfl) ?_
 refine .pk ?_
 refine .nil ?_
 refine .condD rfl (fun c58 => ?_) (fun c58 => ?_)
 refine .sr ?_
 refine .an ?_
 refine .nil (.ret ?_)
 exact .rb rfl (df (fun h => by have h1 := h.name; have h2 := h.ncells; have h3 := h.nwidths; have h4 := h.nmems; have h5 := h.nstreams; have h6 := h.nactive; have h7 := h.ndata; first | omega | contradiction))
 refine .skip (.seq (.sr ?_))
 refine .fa fl27_1 ?_
 refine .ld sh22 ?_
 refine .fa fl27_3 ?_
 refine .ld sh22 ?_
 refine .buildSlice (([n.widths, n.ins] : List (List Int)).map lrow) sl92 ze22 rfl rfl rfl rfl rfl (uniform_map (s := 1) (f := lrow) (fun _ => rfl)) rfl rfl rfl (by decide) ?_
 refine .sh (Sh.freezeE (d := 63) (([n.widths, n.ins] : List (List Int)).map lrow) rfl (by first | rfl | exact rep_map rfl) (Frees.map lrow_frees)) (.callP ok72 (concat_spec (ls := ([n.widths, n.ins] : List (List Int))) (by simp) (by simp; omega)) rfl (.keep rfl rfl .nil) (by decide) rfl (.vl (Y.len (n := (([n.widths, n.ins] : List (List Int)).flatten).length) sl22 rfl (congrArg some (List.length_map ..))) ?_))
 refine .mv ?_
 refine .nil (.block (.sh (Sh.freezeE (d := 64) ((([n.widths, n.ins] : List (List Int)).flatten).map irow) rfl (by first | rfl | exact rep_map rfl) (Frees.map irow_frees)) ?_))
 refine .loop1 (fun (n66_4 : Nat) => ⟨[(1, .ptr 101 0 0 0), (64, .fz 1 ((([n.widths, n.ins] : List (List Int)).flatten).map irow)), (65, vi (((([n.widths, n.ins] : List (List Int)).flatten).length : Nat) : Int)), (66, vi (n66_4 : Int))], [(101, .cells (Netlist.row n))]⟩) (fun (n66_4 : Nat) => ((n66_4 : Int) ≤ (((([n.widths, n.ins] : List (List Int)).flatten).length : Nat) : Int)) ∧ (∀ j, j < n66_4 → Wide (([n.widths, n.ins] : List (List Int)).flatten.getD j 0))) (fun (n66_4 : Nat) => ((((([n.widths, n.ins] : List (List Int)).flatten).length : Nat) : Int) - (n66_4 : Int)).toNat) 0 (⟨by omega, fun j hj => by omega⟩) (Le.mk (.c (.c (.c (.cons (look_int rfl (by first | rfl | omega)) (.nil))))) (.c (.nil))) (fun n66_4 hI4 => ?_)
 obtain ⟨hb4, hw⟩ := hI4
 refine .sr (.vl (Y.lss rfl rfl) (.nil ?_))
 refine .seq ?_
 refine .condD rfl (fun c67 => ?_) (fun c67 => ?_)
 refine .skip (.seq (.block ?_))
 refine .sr ?_
 refine .vl (Y.indexF (m := n66_4) sl22 rfl rfl (by first | rfl | omega) (row_getD (d := 0) (by omega))) ?_
 refine .ld sh3 ?_
 refine .an ?_
 refine .nil (.sr ?_)
 refine .mv ?_
 refine .callP ok93 (wide_spec (w := ((([n.widths, n.ins] : List (List Int)).flatten).getD n66_4 0))) rfl (.keep rfl rfl .nil) (by decide) rfl (.vl (Y.not rfl) (.nil ?_))
 refine .cond rfl (fun c72 => ?_) (fun c72 => ?_)
 replace c72 : ¬ (Wide ((([n.widths, n.ins] : List (List Int)).flatten).getD n66_4 0)) := by simpa using c72
 refine .sr ?_
 refine .an ?_
 refine .nil (.ret ?_)
 exact .rb rfl (df (fun h => by have h1 := h.wide n66_4 (by rw [List.length_append]; omega); rw [← hcat] at h1; contradiction))
 replace c72 : Wide ((([n.widths, n.ins] : List (List Int)).flatten).getD n66_4 0) := by simpa using c72
 refine .skip (.region ?_)
 refine .vl (Y.addI rfl rfl (by omega)) ?_
 refine .mv ?_
 refine .nil ?_
 exact ⟨n66_4 + 1, ⟨by omega, below_succ' hw (by assumption)⟩, by omega, Le.mk (.c (.c (.c (.cons (look_int rfl (by first | rfl | omega)) (.nil))))) (.c (.nil))⟩
 refine .exit (.seq (.sr ?_))
 refine .fa fl27_4 ?_
 refine .ld sh24 ?_
 refine .vl (Y.len (n := n.mems.length) sl24 rfl (congrArg some (List.length_map ..))) ?_
 refine .mv ?_
 refine .nil (.block ?_)
 refine .loop1 (fun (n77_10 : Nat) => ⟨[(1, .ptr 101 0 0 0), (75, .fz 5 (n.mems.map Arr.row)), (76, vi ((n.mems.length : Nat) : Int)), (77, vi (n77_10 : Int))], [(101, .cells (Netlist.row n))]⟩) (fun (n77_10 : Nat) => ((n77_10 : Int) ≤ ((n.mems.length : Nat) : Int)) ∧ (∀ j, j < n77_10 → MemOK (n.mems.getD j default))) (fun (n77_10 : Nat) => (((n.mems.length : Nat) : Int) - (n77_10 : Int)).toNat) 0 (⟨by omega, fun j hj => by omega⟩) (Le.mk (.c (.c (.c (.cons (look_int rfl (by first | rfl | omega)) (.nil))))) (.c (.nil))) (fun n77_10 hI10 => ?_)
 obtain ⟨hb10, hm⟩ := hI10
 refine .sr (.vl (Y.lss rfl rfl) (.nil ?_))
 refine .seq ?_
 refine .condD rfl (fun c78 => ?_) (fun c78 => ?_)
 refine .skip (.seq (.block ?_))
 refine .sr ?_
 refine .vl (Y.indexF (m := n77_10) sl24 rfl rfl (by first | rfl | omega) (row_getD (d := default) (by omega))) ?_
 refine .vl (Y.loadA sh48 rfl rfl (nbE rfl) rfl rfl) (.alloc 106 ze48 rfl rfl (by decide) (.storeC si48 rfl rfl rfl rfl rfl rfl (nbE rfl) rfl ?_))
 refine .nil (.sr ?_)
 have hmn := hs.memNames _ (getD_mem' (l := n.mems) (i := n77_10) (d := default) (by omega))
 refine .fa fl48_0 ?_
 refine .ld sh9 ?_
 refine .callP ok92 (named_spec (s := ((n.mems.getD n77_10 default).name)) (by first | assumption | omega)) rfl (.keep rfl rfl .nil) (by decide) rfl (.vl (Y.not rfl) ?_)
 refine .mv ?_
 refine .split (d := 85) rfl (fun c85 => ?_) (fun c85 => ?_)
 replace c85 : ¬ (Named ((n.mems.getD n77_10 default).name)) := by simpa using c85
 refine .gz 85 (.gz 85 (.gz 85 ?_))
 refine .gz 85 ?_
 refine .pk ?_
 refine .mv ?_
 refine .gz 91 (.gz 91 (.gz 91 ?_))
 refine .pk ?_
 refine .mv ?_
 refine .gz 96 (.gz 96 (.gz 96 ?_))
 refine .pk ?_
 refine .mv ?_
 refine .gz 101 (.gz 101 (.gz 101 ?_))
 refine .pk ?_
 refine .mv ?_
 refine .gz 106 (.gz 106 (.gz 106 ?_))
 refine .pk ?_
 refine .nil (.condT rfl (.sr ?_))
 refine .an ?_
 refine .nil (.ret ?_)
 exact .rb rfl (df (fun h => by have h1 := h.mems n77_10 (by omega); unfold MemOK at h1; obtain ⟨a1, a2, a3, a4, a5, a6⟩ := h1; first | contradiction | omega))
 replace c85 : Named ((n.mems.getD n77_10 default).name) := by simpa using c85
 refine .gw 85 (Y.fieldAddr fl48_1 rfl rfl) (.gw 85 (Y.load sh3 rfl rfl rfl rfl) (.guardRun (d := 85) rfl (by decide) rfl ?_))
 refine .callP ok93 (wide_spec (w := ((n.mems.getD n77_10 default).width))) rfl (.keep rfl rfl .nil) (by decide) rfl (.gw 85 (Y.not rfl) ?_)
 refine .pk ?_
 refine .mv ?_
 refine .split (d := 91) rfl (fun c91 => ?_) (fun c91 => ?_)
 replace c91 : ¬ (Wide ((n.mems.getD n77_10 default).width)) := by simpa using c91
 refine .gz 91 (.gz 91 (.gz 91 ?_))
 refine .pk ?_
 refine .mv ?_
 refine .gz 96 (.gz 96 (.gz 96 ?_))
 refine .pk ?_
 refine .mv ?_
 refine .gz 101 (.gz 101 (.gz 101 ?_))
 refine .pk ?_
 refine .mv ?_
 refine .gz 106 (.gz 106 (.gz 106 ?_))
 refine .pk ?_
 refine .nil (.condT rfl (.sr ?_))
 refine .an ?_
 refine .nil (.ret ?_)
 exact .rb rfl (df (fun h => by have h1 := h.mems n77_10 (by omega); unfold MemOK at h1; obtain ⟨a1, a2, a3, a4, a5, a6⟩ := h1; first | contradiction | omega))
 replace c91 : Wide ((n.mems.getD n77_10 default).width) := by simpa using c91
 refine .gw 91 (Y.fieldAddr fl48_2 rfl rfl) (.gw 91 (Y.load sh3 rfl rfl rfl rfl) (.gw 91 (Y.lss rfl rfl) ?_))
 refine .pk ?_
 refine .mv ?_
 refine .splitD (d := 96) rfl (fun c96 => ?_) (fun c96 => ?_)
 refine .gz 96 (.gz 96 (.gz 96 ?_))
 refine .pk ?_
 refine .mv ?_
 refine .gz 101 (.gz 101 (.gz 101 ?_))
 refine .pk ?_
 refine .mv ?_
 refine .gz 106 (.gz 106 (.gz 106 ?_))
 refine .pk ?_
 refine .nil (.condT rfl (.sr ?_))
 refine .an ?_
 refine .nil (.ret ?_)
 exact .rb rfl (df (fun h => by have h1 := h.mems n77_10 (by omega); unfold MemOK at h1; obtain ⟨a1, a2, a3, a4, a5, a6⟩ := h1; first | contradiction | omega))
 refine .gw 96 (Y.fieldAddr fl48_2 rfl rfl) (.gw 96 (Y.load sh3 rfl rfl rfl rfl) (.gw 96 (Y.gtr rfl rfl) ?_))
 refine .pk ?_
 refine .mv ?_
 refine .splitD (d := 101) rfl (fun c101 => ?_) (fun c101 => ?_)
 refine .gz 101 (.gz 101 (.gz 101 ?_))
 refine .pk ?_
 refine .mv ?_
 refine .gz 106 (.gz 106 (.gz 106 ?_))
 refine .pk ?_
 refine .nil (.condT rfl (.sr ?_))
 refine .an ?_
 refine .nil (.ret ?_)
 exact .rb rfl (df (fun h => by have h1 := h.mems n77_10 (by omega); unfold MemOK at h1; obtain ⟨a1, a2, a3, a4, a5, a6⟩ := h1; first | contradiction | omega))
 refine .gw 101 (Y.fieldAddr fl48_3 rfl rfl) (.gw 101 (Y.load sh3 rfl rfl rfl rfl) (.gw 101 (Y.neq rfl rfl) ?_))
 refine .pk ?_
 refine .mv ?_
 refine .splitD (d := 106) rfl (fun c106 => ?_) (fun c106 => ?_)
 refine .gz 106 (.gz 106 (.gz 106 ?_))
 refine .pk ?_
 refine .nil (.condT rfl (.sr ?_))
 refine .an ?_
 refine .nil (.ret ?_)
 exact .rb rfl (df (fun h => by have h1 := h.mems n77_10 (by omega); unfold MemOK at h1; obtain ⟨a1, a2, a3, a4, a5, a6⟩ := h1; first | contradiction | omega))
 refine .gw 106 (Y.fieldAddr fl48_4 rfl rfl) (.gw 106 (Y.load sh3 rfl rfl rfl rfl) (.gw 106 (Y.neq rfl rfl) ?_))
 refine .pk ?_
 refine .nil ?_
 refine .condD rfl (fun c110 => ?_) (fun c110 => ?_)
 refine .sr ?_
 refine .an ?_
 refine .nil (.ret ?_)
 exact .rb rfl (df (fun h => by have h1 := h.mems n77_10 (by omega); unfold MemOK at h1; obtain ⟨a1, a2, a3, a4, a5, a6⟩ := h1; first | contradiction | omega))
 refine .skip (.region ?_)
 refine .vl (Y.addI rfl rfl (by omega)) ?_
 refine .mv ?_
 refine .nil ?_
 exact ⟨n77_10 + 1, ⟨by omega, below_succ' hm (by unfold MemOK; refine ⟨?_, ?_, ?_, ?_, ?_, ?_⟩ <;> first | assumption | omega)⟩, by omega, Le.mk (.c (.c (.c (.cons (look_int rfl (by first | rfl | omega)) (.nil))))) (.c (.nil))⟩
 refine .exit (.sr (.sh (Sh.freezeO 101 rfl rfl) ?_))
 refine .vl (Y.makeFunc rfl rfl rfl rfl) (.alloc 107 ze45 rfl rfl (by decide) (.storeC si45 rfl rfl rfl rfl rfl rfl (nbE rfl) rfl ?_))
 refine .nil (.seq (.seq ?_))
 refine .sh (Sh.freezeO 107 rfl rfl) (.region ?_)
 refine .fa fl27_5 ?_
 refine .ld sh25 ?_
 refine .vl (Y.len (n := n.streams.length) sl25 rfl (congrArg some (List.length_map ..))) ?_
 refine .mv ?_
 refine .nil (.block ?_)
 refine .loop1 (fun (n116_17 : Nat) => ⟨[(1, .fp (Netlist.row n) 0), (7, .fp ([.clo (.func 94) [] [.fp (Netlist.row n) 0]]) 0), (114, .fz 3 (n.streams.map Strm.row)), (115, vi ((n.streams.length : Nat) : Int)), (116, vi (n116_17 : Int))], []⟩) (fun (n116_17 : Nat) => ((n116_17 : Int) ≤ ((n.streams.length : Nat) : Int)) ∧ (∀ j, j < n116_17 → StrOK n j)) (fun (n116_17 : Nat) => (((n.streams.length : Nat) : Int) - (n116_17 : Int)).toNat) 0 (⟨by omega, fun j hj => by omega⟩) (Le.mk (.c (.c (.c (.c (.cons (look_int rfl (by first | rfl | omega)) (.nil)))))) (.nil)) (fun n116_17 hI17 => ?_)
 obtain ⟨hb17, hst⟩ := hI17
 refine .sr (.vl (Y.lss rfl rfl) (.nil ?_))
 refine .seq ?_
 refine .condD rfl (fun c117 => ?_) (fun c117 => ?_)
 refine .skip ?_
 refine .join4 (fun (n144_j21 : Bool) (n153_j21 : Bool) (n159_j21 : Bool) (n166_j21 : Bool) => ⟨[(1, .fp (Netlist.row n) 0), (7, .fp ([.clo (.func 94) [] [.fp (Netlist.row n) 0]]) 0), (114, .fz 3 (n.streams.map Strm.row)), (115, vi ((n.streams.length : Nat) : Int)), (116, vi (n116_17 : Int)), (126, .ptr 109 0 0 1), (127, vi ((n.streams.getD n116_17 default).width)), (128, .v (.bool (decide (Wide ((n.streams.getD n116_17 default).width))))), (129, .v (.bool (!decide (Wide ((n.streams.getD n116_17 default).width))))), (132, .clo (.func 94) [] [.fp (Netlist.row n) 0]), (133, .fp (Netlist.row n) 6), (134, .fz 1 (n.active.map irow)), (135, vi (n116_17 : Int)), (136, .fp (irow (n.active.getD n116_17 0)) 0), (137, vi (n.active.getD n116_17 0)), (138, .v (.bool (decide (In (n.active.getD n116_17 0) n.widths.length)))), (139, .v (.bool (!decide (In (n.active.getD n116_17 0) n.widths.length)))), (142, .ptr 109 0 0 2), (143, .v (.bool ((n.streams.getD n116_17 default).out))), (144, .v (.bool n144_j21)), (153, .v (.bool n153_j21)), (156, .ptr 109 0 0 2), (157, .v (.bool ((n.streams.getD n116_17 default).out))), (158, .v (.bool (!((n.streams.getD n116_17 default).out)))), (159, .v (.bool n159_j21)), (166, .v (.bool n166_j21))], [(109, .cells [.v (.string ((n.streams.getD n116_17 default).name)), vi ((n.streams.getD n116_17 default).width), .v (.bool ((n.streams.getD n116_17 default).out))])]⟩) (fun (n144_j21 : Bool) (n153_j21 : Bool) (n159_j21 : Bool) (n166_j21 : Bool) => StrOK n n116_17) ?_ (fun n144_j21 n153_j21 n159_j21 n166_j21 hJ21 => ?_)
 refine .block (.sr ?_)
 have hsn := hs.strNames _ (getD_mem' (l := n.streams) (i := n116_17) (d := default) (by omega))
 refine .mv ?_
 refine .vl (Y.indexF (m := n116_17) sl25 rfl rfl (by first | rfl | omega) (row_getD (d := default) (by omega))) ?_
 refine .vl (Y.loadA sh83 rfl rfl (nbE rfl) rfl rfl) (.alloc 109 ze83 rfl rfl (by decide) ?_)
 refine .an ?_
 refine .storeC si83 rfl rfl rfl rfl rfl rfl (nbE rfl) rfl (.nil (.seq ?_))
 refine .regionAny rfl (.quietN (n := 45) [0, 1] [2, 3, 4, 5, 6, 7, 8, 9, 10, 11, 12, 13, 14, 15, 16, 17, 18, 19, 20, 21, 22, 23, 24, 25, 26, 27, 28, 29, 30, 31, 32, 33, 34, 35, 36, 37, 38, 39, 40, 41, 42, 43, 44, 45, 46] 2 rfl (by kernel_rfl) (.cn 0 rfl (Y.fieldAddr fl83_0 rfl rfl) ?_))
 refine .cn 1 rfl (Y.load sh9 rfl rfl rfl rfl) (.nil (.one 2 rfl (by kernel_rfl) ?_))
 refine .callP ok92 (named_spec (s := ((n.streams.getD n116_17 default).name)) (by first | assumption | omega)) rfl (.keep rfl rfl .nil) (by decide) rfl ?_
 refine .nil ⟨rfl, ?_⟩
 refine .quietN (n := 40) [3, 4, 5, 6] [7, 8, 9, 10, 11, 12, 13, 14, 15, 16, 17, 18, 19, 20, 21, 22, 23, 24, 25, 26, 27, 28, 29, 30, 31, 32, 33, 34, 35, 36, 37, 38, 39, 40, 41, 42, 43, 44, 45, 46] 7 rfl (by kernel_rfl) (.cn 3 rfl (Y.not rfl) (.cn 4 rfl (Y.move rfl rfl) ?_))
 refine .split (d := 125) rfl (fun c125 => ?_) (fun c125 => ?_)
 replace c125 : ¬ (Named ((n.streams.getD n116_17 default).name)) := by simpa using c125
 refine .sk 5 rfl rfl rfl rfl (.sk 6 rfl rfl rfl rfl (.nil ?_))
 refine .skipOp 7 rfl (by kernel_rfl) rfl (by decide) (by decide) rfl rfl (.skipOp 8 rfl (by kernel_rfl) rfl (by decide) (by decide) rfl rfl (.quietN (n := 30) [9, 10, 11, 12, 13, 14, 15, 16] [17, 18, 19, 20, 21, 22, 23, 24, 25, 26, 27, 28, 29, 30, 31, 32, 33, 34, 35, 36, 37, 38, 39, 40, 41, 42, 43, 44, 45, 46] 17 rfl (by kernel_rfl) ?_))
 refine .cn 9 rfl (Y.pick rfl rfl rfl) (.cn 10 rfl (Y.move rfl rfl) (.sk 11 rfl rfl rfl rfl ?_))
 refine .sk 12 rfl rfl rfl rfl (.sk 13 rfl rfl rfl rfl (.sk 14 rfl rfl rfl rfl ?_))
 refine .sk 15 rfl rfl rfl rfl (.sk 16 rfl rfl rfl rfl (.nil ?_))
 refine .skipOp 17 rfl (by kernel_rfl) rfl (by decide) (by decide) rfl rfl (.skipOp 18 rfl (by kernel_rfl) rfl (by decide) (by decide) rfl rfl (.quietN (n := 17) [19, 20, 21, 22, 23, 24, 25, 26, 27, 28, 29] [30, 31, 32, 33, 34, 35, 36, 37, 38, 39, 40, 41, 42, 43, 44, 45, 46] 30 rfl (by kernel_rfl) ?_))
 refine .cn 19 rfl (Y.pick rfl rfl rfl) (.cn 20 rfl (Y.move rfl rfl) (.sk 21 rfl rfl rfl rfl ?_))
 refine .sk 22 rfl rfl rfl rfl (.sk 23 rfl rfl rfl rfl (.sk 24 rfl rfl rfl rfl ?_))
 refine .sk 25 rfl rfl rfl rfl (.sk 26 rfl rfl rfl rfl (.sk 27 rfl rfl rfl rfl ?_))
 refine .sk 28 rfl rfl rfl rfl (.sk 29 rfl rfl rfl rfl (.nil ?_))
 refine .skipOp 30 rfl (by kernel_rfl) rfl (by decide) (by decide) rfl rfl (.skipOp 31 rfl (by kernel_rfl) rfl (by decide) (by decide) rfl rfl (.skipOp 32 rfl (by kernel_rfl) rfl (by decide) (by decide) rfl rfl ?_))
 refine .quietN (n := 0) [33, 34, 35, 36, 37, 38, 39, 40, 41, 42, 43, 44, 45, 46] [] 0 rfl (by kernel_rfl) (.cn 33 rfl (Y.pick rfl rfl rfl) (.cn 34 rfl (Y.move rfl rfl) ?_))
 refine .sk 35 rfl rfl rfl rfl (.sk 36 rfl rfl rfl rfl (.sk 37 rfl rfl rfl rfl ?_))
 refine .sk 38 rfl rfl rfl rfl (.sk 39 rfl rfl rfl rfl (.sk 40 rfl rfl rfl rfl ?_))
 refine .sk 41 rfl rfl rfl rfl (.sk 42 rfl rfl rfl rfl (.sk 43 rfl rfl rfl rfl ?_))
 refine .sk 44 rfl rfl rfl rfl (.sk 45 rfl rfl rfl rfl (.cn 46 rfl (Y.pick rfl rfl rfl) ?_))
 refine .nil (.done (by kernel_rfl) (.condT rfl ?_))
 refine .sr ?_
 refine .an ?_
 refine .nil (.ret ?_)
 exact .rb rfl (df (fun h => by have h1 := h.strs n116_17 (by omega); unfold StrOK at h1; obtain ⟨a1, a2, a3, a4, a5⟩ := h1; first | contradiction | grind))
 replace c125 : Named ((n.streams.getD n116_17 default).name) := by simpa using c125
 refine .rn 5 rfl rfl rfl (Y.fieldAddr fl83_1 rfl rfl) (.rn 6 rfl rfl rfl (Y.load sh3 rfl rfl rfl rfl) (.nil ?_))
 refine .one 7 rfl (by kernel_rfl) (.guardRun (d := 125) rfl (by decide) rfl (.callP ok93 (wide_spec (w := ((n.streams.getD n116_17 default).width))) rfl (.keep rfl rfl .nil) (by decide) rfl ?_))
 refine .nil ⟨rfl, ?_⟩
 refine .quietN (n := 30) [8, 9, 10, 11, 12, 13, 14, 15, 16] [17, 18, 19, 20, 21, 22, 23, 24, 25, 26, 27, 28, 29, 30, 31, 32, 33, 34, 35, 36, 37, 38, 39, 40, 41, 42, 43, 44, 45, 46] 17 rfl (by kernel_rfl) (.rn 8 rfl rfl rfl (Y.not rfl) (.cn 9 rfl (Y.pick rfl rfl rfl) ?_))
 refine .cn 10 rfl (Y.move rfl rfl) ?_
 refine .split (d := 131) rfl (fun c131 => ?_) (fun c131 => ?_)
 replace c131 : ¬ (Wide ((n.streams.getD n116_17 default).width)) := by simpa using c131
 refine .sk 11 rfl rfl rfl rfl (.sk 12 rfl rfl rfl rfl (.sk 13 rfl rfl rfl rfl ?_))
 refine .sk 14 rfl rfl rfl rfl (.sk 15 rfl rfl rfl rfl (.sk 16 rfl rfl rfl rfl ?_))
 refine .nil (.skipOp 17 rfl (by kernel_rfl) rfl (by decide) (by decide) rfl rfl (.skipOp 18 rfl (by kernel_rfl) rfl (by decide) (by decide) rfl rfl ?_))
 refine .quietN (n := 17) [19, 20, 21, 22, 23, 24, 25, 26, 27, 28, 29] [30, 31, 32, 33, 34, 35, 36, 37, 38, 39, 40, 41, 42, 43, 44, 45, 46] 30 rfl (by kernel_rfl) (.cn 19 rfl (Y.pick rfl rfl rfl) (.cn 20 rfl (Y.move rfl rfl) ?_))
 refine .sk 21 rfl rfl rfl rfl (.sk 22 rfl rfl rfl rfl (.sk 23 rfl rfl rfl rfl ?_))
 refine .sk 24 rfl rfl rfl rfl (.sk 25 rfl rfl rfl rfl (.sk 26 rfl rfl rfl rfl ?_))
 refine .sk 27 rfl rfl rfl rfl (.sk 28 rfl rfl rfl rfl (.sk 29 rfl rfl rfl rfl ?_))
 refine .nil (.skipOp 30 rfl (by kernel_rfl) rfl (by decide) (by decide) rfl rfl (.skipOp 31 rfl (by kernel_rfl) rfl (by decide) (by decide) rfl rfl ?_))
 refine .skipOp 32 rfl (by kernel_rfl) rfl (by decide) (by decide) rfl rfl (.quietN (n := 0) [33, 34, 35, 36, 37, 38, 39, 40, 41, 42, 43, 44, 45, 46] [] 0 rfl (by kernel_rfl) (.cn 33 rfl (Y.pick rfl rfl rfl) ?_))
 refine .cn 34 rfl (Y.move rfl rfl) (.sk 35 rfl rfl rfl rfl (.sk 36 rfl rfl rfl rfl ?_))
 refine .sk 37 rfl rfl rfl rfl (.sk 38 rfl rfl rfl rfl (.sk 39 rfl rfl rfl rfl ?_))
 refine .sk 40 rfl rfl rfl rfl (.sk 41 rfl rfl rfl rfl (.sk 42 rfl rfl rfl rfl ?_))
 refine .sk 43 rfl rfl rfl rfl (.sk 44 rfl rfl rfl rfl (.sk 45 rfl rfl rfl rfl ?_))
 refine .cn 46 rfl (Y.pick rfl rfl rfl) (.nil (.done (by kernel_rfl) ?_))
 refine .condT rfl (.sr ?_)
 refine .an ?_
 refine .nil (.ret ?_)
 exact .rb rfl (df (fun h => by have h1 := h.strs n116_17 (by omega); unfold StrOK at h1; obtain ⟨a1, a2, a3, a4, a5⟩ := h1; first | contradiction | grind))
 replace c131 : Wide ((n.streams.getD n116_17 default).width) := by simpa using c131
 refine .rn 11 rfl rfl rfl (Y.load sh45 rfl rfl rfl rfl) (.rn 12 rfl rfl rfl (Y.fieldAddr fl27_6 rfl rfl) (.rn 13 rfl rfl rfl (Y.load sh22 rfl rfl rfl rfl) ?_))
 refine .rn 14 rfl rfl rfl (Y.move rfl rfl) ?_
 refine .rn 15 rfl rfl rfl (Y.indexF (m := n116_17) sl22 rfl rfl (by first | rfl | omega) (row_getD (d := 0) (by omega))) ?_
 refine .rn 16 rfl rfl rfl (Y.load sh3 rfl rfl rfl rfl) (.nil (.one 17 rfl (by kernel_rfl) ?_))
 refine .guardRun (d := 131) rfl (by decide) rfl (.callCP rfl ok94 (formed1_spec (i := (n.active.getD n116_17 0))) rfl (.keep rfl rfl (.keep rfl rfl .nil)) (by decide) rfl ?_)
 refine .nil ⟨rfl, ?_⟩
 refine .quietN (n := 17) [18, 19, 20, 21, 22, 23, 24, 25, 26, 27, 28, 29] [30, 31, 32, 33, 34, 35, 36, 37, 38, 39, 40, 41, 42, 43, 44, 45, 46] 30 rfl (by kernel_rfl) (.rn 18 rfl rfl rfl (Y.not rfl) (.cn 19 rfl (Y.pick rfl rfl rfl) ?_))
 refine .cn 20 rfl (Y.move rfl rfl) ?_
 refine .split (d := 141) rfl (fun c141 => ?_) (fun c141 => ?_)
 replace c141 : ¬ (In (n.active.getD n116_17 0) n.widths.length) := by simpa using c141
 refine .sk 21 rfl rfl rfl rfl (.sk 22 rfl rfl rfl rfl (.sk 23 rfl rfl rfl rfl ?_))
 refine .sk 24 rfl rfl rfl rfl (.sk 25 rfl rfl rfl rfl (.sk 26 rfl rfl rfl rfl ?_))
 refine .sk 27 rfl rfl rfl rfl (.sk 28 rfl rfl rfl rfl (.sk 29 rfl rfl rfl rfl ?_))
 refine .nil (.skipOp 30 rfl (by kernel_rfl) rfl (by decide) (by decide) rfl rfl (.skipOp 31 rfl (by kernel_rfl) rfl (by decide) (by decide) rfl rfl ?_))
 refine .skipOp 32 rfl (by kernel_rfl) rfl (by decide) (by decide) rfl rfl (.quietN (n := 0) [33, 34, 35, 36, 37, 38, 39, 40, 41, 42, 43, 44, 45, 46] [] 0 rfl (by kernel_rfl) (.cn 33 rfl (Y.pick rfl rfl rfl) ?_))
 refine .cn 34 rfl (Y.move rfl rfl) (.sk 35 rfl rfl rfl rfl (.sk 36 rfl rfl rfl rfl ?_))
 refine .sk 37 rfl rfl rfl rfl (.sk 38 rfl rfl rfl rfl (.sk 39 rfl rfl rfl rfl ?_))
 refine .sk 40 rfl rfl rfl rfl (.sk 41 rfl rfl rfl rfl (.sk 42 rfl rfl rfl rfl ?_))
 refine .sk 43 rfl rfl rfl rfl (.sk 44 rfl rfl rfl rfl (.sk 45 rfl rfl rfl rfl ?_))
 refine .cn 46 rfl (Y.pick rfl rfl rfl) (.nil (.done (by kernel_rfl) ?_))
 refine .condT rfl (.sr ?_)
 refine .an ?_
 refine .nil (.ret ?_)
 exact .rb rfl (df (fun h => by have h1 := h.strs n116_17 (by omega); unfold StrOK at h1; obtain ⟨a1, a2, a3, a4, a5⟩ := h1; first | contradiction | grind))
 replace c141 : In (n.active.getD n116_17 0) n.widths.length := by simpa using c141
 refine .rn 21 rfl rfl rfl (Y.fieldAddr fl83_2 rfl rfl) (.rn 22 rfl rfl rfl (Y.load sh4 rfl rfl rfl rfl) (.rn 23 rfl rfl rfl (Y.move rfl rfl) ?_))
 refine .split (d := 144) rfl (fun c144 => ?_) (fun c144 => ?_)
 refine .rn 24 rfl rfl rfl (Y.load sh45 rfl rfl rfl rfl) (.rn 25 rfl rfl rfl (Y.fieldAddr fl27_7 rfl rfl) (.rn 26 rfl rfl rfl (Y.load sh22 rfl rfl rfl rfl) ?_))
 refine .rn 27 rfl rfl rfl (Y.move rfl rfl) ?_
 refine .rn 28 rfl rfl rfl (Y.indexF (m := n116_17) sl22 rfl rfl (by first | rfl | omega) (row_getD (d := 0) (by omega))) ?_
 refine .rn 29 rfl rfl rfl (Y.load sh3 rfl rfl rfl rfl) (.nil (.one 30 rfl (by kernel_rfl) ?_))
 refine .guardRun (d := 144) rfl (by decide) rfl (.callCP rfl ok94 (formed1_spec (i := (n.data.getD n116_17 0))) rfl (.keep rfl rfl (.keep rfl rfl .nil)) (by decide) rfl ?_)
 refine .nil ⟨rfl, ?_⟩
 refine .quietN (n := 0) [31, 32, 33, 34, 35, 36, 37, 38, 39, 40, 41, 42, 43, 44, 45, 46] [] 0 rfl (by kernel_rfl) (.rn 31 rfl rfl rfl (Y.not rfl) (.rn 32 rfl rfl rfl (Y.pick rfl rfl rfl) ?_))
 refine .cn 33 rfl (Y.pick rfl rfl rfl) (.cn 34 rfl (Y.move rfl rfl) ?_)
 refine .split (d := 155) rfl (fun c155 => ?_) (fun c155 => ?_)
 replace c155 : ¬ (In (n.data.getD n116_17 0) n.widths.length) := by simpa using c155
 refine .sk 35 rfl rfl rfl rfl (.sk 36 rfl rfl rfl rfl (.sk 37 rfl rfl rfl rfl ?_))
 refine .sk 38 rfl rfl rfl rfl (.sk 39 rfl rfl rfl rfl (.sk 40 rfl rfl rfl rfl ?_))
 refine .sk 41 rfl rfl rfl rfl (.sk 42 rfl rfl rfl rfl (.sk 43 rfl rfl rfl rfl ?_))
 refine .sk 44 rfl rfl rfl rfl (.sk 45 rfl rfl rfl rfl (.cn 46 rfl (Y.pick rfl rfl rfl) ?_))
 refine .nil (.done (by kernel_rfl) (.condT rfl ?_))
 refine .sr ?_
 refine .an ?_
 refine .nil (.ret ?_)
 exact .rb rfl (df (fun h => by have h1 := h.strs n116_17 (by omega); unfold StrOK at h1; obtain ⟨a1, a2, a3, a4, a5⟩ := h1; first | contradiction | grind))
 replace c155 : In (n.data.getD n116_17 0) n.widths.length := by simpa using c155
 refine .rn 35 rfl rfl rfl (Y.fieldAddr fl83_2 rfl rfl) (.rn 36 rfl rfl rfl (Y.load sh4 rfl rfl rfl rfl) (.rn 37 rfl rfl rfl (Y.not rfl) ?_))
 refine .rn 38 rfl rfl rfl (Y.move rfl rfl) ?_
 refine .split (d := 159) rfl (fun c159 => ?_) (fun c159 => ?_)
 replace c159 : ((n.streams.getD n116_17 default).out) = false := by simpa using c159
 refine .rn 39 rfl rfl rfl (Y.fieldAddr fl27_7 rfl rfl) (.rn 40 rfl rfl rfl (Y.load sh22 rfl rfl rfl rfl) (.rn 41 rfl rfl rfl (Y.move rfl rfl) ?_))
 refine .rn 42 rfl rfl rfl (Y.indexF (m := n116_17) sl22 rfl rfl (by first | rfl | omega) (row_getD (d := 0) (by omega))) ?_
 refine .rn 43 rfl rfl rfl (Y.load sh3 rfl rfl rfl rfl) (.rn 44 rfl rfl rfl (Y.neq rfl rfl) (.rn 45 rfl rfl rfl (Y.pick rfl rfl rfl) ?_))
 refine .cn 46 rfl (Y.pick rfl rfl rfl) (.nil (.done (by kernel_rfl) ?_))
 refine .condD rfl (fun c167 => ?_) (fun c167 => ?_)
 refine .sr ?_
 refine .an ?_
 refine .nil (.ret ?_)
 exact .rb rfl (df (fun h => by have h1 := h.strs n116_17 (by omega); unfold StrOK at h1; obtain ⟨a1, a2, a3, a4, a5⟩ := h1; first | contradiction | grind))
 refine .skip ?_
 exact ⟨true, (!decide (In (n.data.getD n116_17 0) n.widths.length)), true, decide ((n.data.getD n116_17 0) ≠ (-1)), by unfold StrOK; grind, Le.mk (.c (.c (.c (.c (.c (.c (.c (.c (.c (.c (.c (.c (.c (.c (.c (.c (.c (.c (.c (.cons (look_bool rfl (by first | rfl | simp_all)) (.cons (look_bool rfl (by first | rfl | simp_all)) (.c (.c (.c (.cons (look_bool rfl (by first | rfl | simp_all)) (.cons (look_bool rfl (by first | rfl | simp_all)) (.nil))))))))))))))))))))))))))) (.c (.nil))⟩
 replace c159 : ((n.streams.getD n116_17 default).out) = true := by simpa using c159
 refine .sk 39 rfl rfl rfl rfl (.sk 40 rfl rfl rfl rfl (.sk 41 rfl rfl rfl rfl ?_))
 refine .sk 42 rfl rfl rfl rfl (.sk 43 rfl rfl rfl rfl (.sk 44 rfl rfl rfl rfl ?_))
 refine .rn 45 rfl rfl rfl (Y.pick rfl rfl rfl) (.cn 46 rfl (Y.pick rfl rfl rfl) (.nil ?_))
 refine .done (by kernel_rfl) (.condF rfl (.skip ?_))
 exact ⟨true, (!decide (In (n.data.getD n116_17 0) n.widths.length)), false, false, by unfold StrOK; grind, Le.mk (.c (.c (.c (.c (.c (.c (.c (.c (.c (.c (.c (.c (.c (.c (.c (.c (.c (.c (.c (.cons (look_bool rfl (by first | rfl | simp_all)) (.cons (look_bool rfl (by first | rfl | simp_all)) (.c (.c (.c (.cons (look_bool rfl (by first | rfl | simp_all)) (.cons (look_bool rfl (by first | rfl | simp_all)) (.nil))))))))))))))))))))))))))) (.c (.nil))⟩
 refine .sk 24 rfl rfl rfl rfl (.sk 25 rfl rfl rfl rfl (.sk 26 rfl rfl rfl rfl ?_))
 refine .sk 27 rfl rfl rfl rfl (.sk 28 rfl rfl rfl rfl (.sk 29 rfl rfl rfl rfl ?_))
 refine .nil (.skipOp 30 rfl (by kernel_rfl) rfl (by decide) (by decide) rfl rfl (.skipOp 31 rfl (by kernel_rfl) rfl (by decide) (by decide) rfl rfl ?_))
 refine .quietN (n := 0) [32, 33, 34, 35, 36, 37, 38, 39, 40, 41, 42, 43, 44, 45, 46] [] 0 rfl (by kernel_rfl) (.rn 32 rfl rfl rfl (Y.pick rfl rfl rfl) (.cn 33 rfl (Y.pick rfl rfl rfl) ?_))
 refine .cn 34 rfl (Y.move rfl rfl) (.rn 35 rfl rfl rfl (Y.fieldAddr fl83_2 rfl rfl) (.rn 36 rfl rfl rfl (Y.load sh4 rfl rfl rfl rfl) ?_))
 refine .rn 37 rfl rfl rfl (Y.not rfl) (.rn 38 rfl rfl rfl (Y.move rfl rfl) ?_)
 refine .split (d := 159) rfl (fun c159 => ?_) (fun c159 => ?_)
 replace c159 : ((n.streams.getD n116_17 default).out) = false := by simpa using c159
 refine .rn 39 rfl rfl rfl (Y.fieldAddr fl27_7 rfl rfl) (.rn 40 rfl rfl rfl (Y.load sh22 rfl rfl rfl rfl) (.rn 41 rfl rfl rfl (Y.move rfl rfl) ?_))
 refine .rn 42 rfl rfl rfl (Y.indexF (m := n116_17) sl22 rfl rfl (by first | rfl | omega) (row_getD (d := 0) (by omega))) ?_
 refine .rn 43 rfl rfl rfl (Y.load sh3 rfl rfl rfl rfl) (.rn 44 rfl rfl rfl (Y.neq rfl rfl) (.rn 45 rfl rfl rfl (Y.pick rfl rfl rfl) ?_))
 refine .cn 46 rfl (Y.pick rfl rfl rfl) (.nil (.done (by kernel_rfl) ?_))
 refine .condD rfl (fun c167 => ?_) (fun c167 => ?_)
 refine .sr ?_
 refine .an ?_
 refine .nil (.ret ?_)
 exact .rb rfl (df (fun h => by have h1 := h.strs n116_17 (by omega); unfold StrOK at h1; obtain ⟨a1, a2, a3, a4, a5⟩ := h1; first | contradiction | grind))
 refine .skip ?_
 exact ⟨false, false, true, decide ((n.data.getD n116_17 0) ≠ (-1)), by unfold StrOK; grind, Le.mk (.c (.c (.c (.c (.c (.c (.c (.c (.c (.c (.c (.c (.c (.c (.c (.c (.c (.c (.c (.cons (look_bool rfl (by first | rfl | simp_all)) (.cons (look_bool rfl (by first | rfl | simp_all)) (.c (.c (.c (.cons (look_bool rfl (by first | rfl | simp_all)) (.cons (look_bool rfl (by first | rfl | simp_all)) (.nil))))))))))))))))))))))))))) (.c (.nil))⟩
 replace c159 : ((n.streams.getD n116_17 default).out) = true := by simpa using c159
 refine .sk 39 rfl rfl rfl rfl (.sk 40 rfl rfl rfl rfl (.sk 41 rfl rfl rfl rfl ?_))
 refine .sk 42 rfl rfl rfl rfl (.sk 43 rfl rfl rfl rfl (.sk 44 rfl rfl rfl rfl ?_))
 refine .rn 45 rfl rfl rfl (Y.pick rfl rfl rfl) (.cn 46 rfl (Y.pick rfl rfl rfl) (.nil ?_))
 refine .done (by kernel_rfl) (.condF rfl (.skip ?_))
 exact ⟨false, false, false, false, by unfold StrOK; grind, Le.mk (.c (.c (.c (.c (.c (.c (.c (.c (.c (.c (.c (.c (.c (.c (.c (.c (.c (.c (.c (.cons (look_bool rfl (by first | rfl | simp_all)) (.cons (look_bool rfl (by first | rfl | simp_all)) (.c (.c (.c (.cons (look_bool rfl (by first | rfl | simp_all)) (.cons (look_bool rfl (by first | rfl | simp_all)) (.nil))))))))))))))))))))))))))) (.c (.nil))⟩
 refine .region ?_
 refine .vl (Y.addI rfl rfl (by omega)) ?_
 refine .mv ?_
 refine .nil ?_
 exact ⟨n116_17 + 1, ⟨by omega, below_succ' hst hJ21⟩, by omega, Le.mk (.c (.c (.c (.c (.cons (look_int rfl (by first | rfl | omega)) (.nil)))))) (.nil)⟩
 refine .exit (.seq (.sr ?_))
 refine .ld sh45 ?_
 refine .fa fl27_8 ?_
 refine .ld sh3 ?_
 refine .callCP rfl ok94 (formed1_spec (i := n.freeze)) rfl (.keep rfl rfl (.keep rfl rfl .nil)) (by decide) rfl (.vl (Y.not rfl) ?_)
 refine .mv ?_
 refine .split (d := 174) rfl (fun c174 => ?_) (fun c174 => ?_)
 replace c174 : ¬ (In n.freeze n.widths.length) := by simpa using c174
 refine .gz 174 (.gz 174 (.gz 174 ?_))
 refine .gz 174 (.gz 174 ?_)
 refine .pk ?_
 refine .mv ?_
 refine .gz 181 (.gz 181 (.gz 181 ?_))
 refine .gz 181 ?_
 refine .pk ?_
 refine .nil (.condT rfl (.sr ?_))
 refine .an ?_
 refine .nil (.ret ?_)
 exact .rb rfl (df (fun h => by have h1 := h.freeze; have h2 := h.done; contradiction))
 replace c174 : In n.freeze n.widths.length := by simpa using c174
 refine .gw 174 (Y.load sh45 rfl rfl rfl rfl) (.gw 174 (Y.fieldAddr fl27_9 rfl rfl) (.gw 174 (Y.load sh3 rfl rfl rfl rfl) ?_))
 refine .guardRun (d := 174) rfl (by decide) rfl (.callCP rfl ok94 (formed1_spec (i := n.done)) rfl (.keep rfl rfl (.keep rfl rfl .nil)) (by decide) rfl (.gw 174 (Y.not rfl) ?_))
 refine .pk ?_
 refine .mv ?_
 refine .split (d := 181) rfl (fun c181 => ?_) (fun c181 => ?_)
 replace c181 : ¬ (In n.done n.widths.length) := by simpa using c181
 refine .gz 181 (.gz 181 (.gz 181 ?_))
 refine .gz 181 ?_
 refine .pk ?_
 refine .nil (.condT rfl (.sr ?_))
 refine .an ?_
 refine .nil (.ret ?_)
 exact .rb rfl (df (fun h => by have h1 := h.freeze; have h2 := h.done; contradiction))
 replace c181 : In n.done n.widths.length := by simpa using c181
 refine .gw 181 (Y.fieldAddr fl27_10 rfl rfl) (.gw 181 (Y.load sh22 rfl rfl rfl rfl) (.gw 181 (Y.makeFunc rfl rfl rfl rfl) ?_))
 refine .guardRun (d := 181) rfl (by decide) rfl ?_
 refine .callP ok95 (containsFuncInt_spec (l := n.rets) (p := fun z => !decide (In z n.widths.length)) ((by omega)) ok96 (fun z _ => formed2_spec)) rfl (.keep rfl rfl (.keep rfl rfl .nil)) (by decide) rfl ?_
 refine .pk ?_
 refine .nil ?_
 refine .cond rfl (fun c186 => ?_) (fun c186 => ?_)
 refine .sr ?_
 refine .an ?_
 refine .nil (.ret ?_)
 exact .rb rfl (df (fun h => absurd h.rets (any_not.1 (by assumption))))
 refine .skip (.sr ?_)
 refine .fa fl27_1 ?_
 refine .ld sh22 ?_
 refine .vl (Y.len (n := n.widths.length) sl22 rfl (congrArg some (List.length_map ..))) ?_
 refine .makeSlice (n := n.widths.length) sl63 ze4 rfl rfl rfl rfl (by omega) (by omega) (by decide) ?_
 refine .assignX rfl (by decide) (.sh (Sh.adoptE (d := 10) (n := n.widths.length) 110 ((List.replicate n.widths.length false).map brow) rfl (by first | rfl | exact rep_map rfl) (len_map (by simp)) (by decide)) (.nil ?_))
 refine .seq (.sr ?_)
 refine .fa fl27_2 ?_
 refine .ld sh23 ?_
 refine .vl (Y.len (n := n.cells.length) sl23 rfl (congrArg some (List.length_map ..))) ?_
 refine .mv ?_
 refine .nil (.block ?_)
 refine .loop2 (fun (n194_26 : Nat) (driven10_26 : List Bool) => ⟨[(1, .fp (Netlist.row n) 0), (7, .fp ([.clo (.func 94) [] [.fp (Netlist.row n) 0]]) 0), (10, .slc 110 1 0 n.widths.length), (192, .fz 6 (n.cells.map Cell.row)), (193, vi ((n.cells.length : Nat) : Int)), (194, vi (n194_26 : Int))], [(110, .rows 1 (driven10_26.map brow))]⟩) (fun (n194_26 : Nat) (driven10_26 : List Bool) => (driven10_26.length = n.widths.length) ∧ ((n194_26 : Int) ≤ ((n.cells.length : Nat) : Int)) ∧ (Drv n n194_26 driven10_26) ∧ (∀ j, j < n194_26 → CellOK n (n.cells.getD j default))) (fun (n194_26 : Nat) (driven10_26 : List Bool) => (((n.cells.length : Nat) : Int) - (n194_26 : Int)).toNat) 0 (List.replicate n.widths.length false) (⟨by first | omega | (simp [-List.getD_eq_getElem?_getD]; done) | (simp [-List.getD_eq_getElem?_getD]; omega) | (unfold In at *; omega), by first | omega | (simp [-List.getD_eq_getElem?_getD]; done) | (simp [-List.getD_eq_getElem?_getD]; omega) | (unfold In at *; omega), Drv.init n, fun j hj => by omega⟩) (Le.mk (.c (.c (.c (.c (.c (.cons (look_int rfl (by first | rfl | omega)) (.nil))))))) (.c (.nil))) (fun n194_26 driven10_26 hI26 => ?_)
 obtain ⟨hl110, hb26, hd, hc⟩ := hI26
 refine .sr (.vl (Y.lss rfl rfl) (.nil ?_))
 refine .seq ?_
 refine .condD rfl (fun c195 => ?_) (fun c195 => ?_)
 refine .skip ?_
 refine .join1 (fun (driven10_j36 : List Bool) => ⟨[(1, .fp (Netlist.row n) 0), (7, .fp ([.clo (.func 94) [] [.fp (Netlist.row n) 0]]) 0), (10, .slc 110 1 0 n.widths.length), (192, .fz 6 (n.cells.map Cell.row)), (193, vi ((n.cells.length : Nat) : Int)), (194, vi (n194_26 : Int)), (203, .agg [.v (.string n.name), .fz 1 (n.widths.map irow), .fz 6 (n.cells.map Cell.row), .fz 1 (n.ins.map irow), .fz 5 (n.mems.map Arr.row), .fz 3 (n.streams.map Strm.row), .fz 1 (n.active.map irow), .fz 1 (n.data.map irow), vi n.freeze, vi n.done, .fz 1 (n.rets.map irow)]), (204, .agg [vi ((n.cells.getD n194_26 default).kind), vi ((n.cells.getD n194_26 default).op), vi ((n.cells.getD n194_26 default).out), .fz 1 (((n.cells.getD n194_26 default).args).map irow), .v (.int .u64 (((n.cells.getD n194_26 default).num : Nat) : Int)), vi ((n.cells.getD n194_26 default).mem)]), (205, .v (.bool (decide (Shaped n (n.cells.getD n194_26 default))))), (206, .v (.bool (!decide (Shaped n (n.cells.getD n194_26 default)))))], [(110, .rows 1 (driven10_j36.map brow))]⟩) (fun (driven10_j36 : List Bool) => (driven10_j36.length = n.widths.length) ∧ (CellOK n (n.cells.getD n194_26 default) ∧ Drv n (n194_26 + 1) driven10_j36)) ?_ (fun driven10_j36 hJx36 => ?_)
 refine .block (.sr ?_)
 refine .vl (Y.indexF (m := n194_26) sl23 rfl rfl (by first | rfl | omega) (row_getD (d := default) (by omega))) ?_
 refine .vl (Y.loadA sh39 rfl rfl (nbE rfl) rfl rfl) (.alloc 112 ze39 rfl rfl (by decide) (.storeC si39 rfl rfl rfl rfl rfl rfl (nbE rfl) rfl ?_))
 refine .nil (.seq (.sr ?_))
 have hca := hs.args (n.cells.getD n194_26 default) (getD_mem' (by omega))
 refine .fa fl39_3 ?_
 refine .ld sh22 ?_
 refine .vl (Y.makeFunc rfl rfl rfl rfl) ?_
 refine .callP ok95 (containsFuncInt_spec (l := ((n.cells.getD n194_26 default).args)) (p := fun z => !decide (In z n.widths.length)) ((by omega)) ok97 (fun z _ => formed3_spec)) rfl (.keep rfl rfl (.keep rfl rfl .nil)) (by decide) rfl ?_
 refine .mv ?_
 refine .split (d := 202) rfl (fun c202 => ?_) (fun c202 => ?_)
 refine .gz 202 (.gz 202 (.gz 202 ?_))
 refine .gz 202 ?_
 refine .pk ?_
 refine .nil (.condT rfl (.sr ?_))
 refine .an ?_
 refine .nil (.ret ?_)
 exact .rb rfl (df (fun h => by have h1 := h.cells n194_26 (by omega); obtain ⟨a1, a2, a3, a4⟩ := h1; first | contradiction | exact absurd a1 (any_not.1 (by assumption)) | (have := a3 (by assumption); contradiction) | (have := a4 (by assumption); contradiction)))
 refine .gw 202 (Y.loadA sh27 rfl rfl (nbE rfl) rfl rfl) (.gw 202 (Y.loadA sh39 rfl rfl (nbE rfl) rfl rfl) (.guardRun (d := 202) rfl (by decide) rfl ?_))
 refine .callP ok98 (shaped_spec (n := n) (c := (n.cells.getD n194_26 default)) hs (by first | assumption | omega)) rfl (.keep rfl rfl (.keep rfl rfl .nil)) (by decide) rfl (.gw 202 (Y.not rfl) ?_)
 refine .pk ?_
 refine .nil ?_
 refine .cond rfl (fun c207 => ?_) (fun c207 => ?_)
 replace c207 : ¬ (Shaped n (n.cells.getD n194_26 default)) := by simpa using c207
 refine .sr ?_
 refine .an ?_
 refine .nil (.ret ?_)
 exact .rb rfl (df (fun h => by have h1 := h.cells n194_26 (by omega); obtain ⟨a1, a2, a3, a4⟩ := h1; first | contradiction | exact absurd a1 (any_not.1 (by assumption)) | (have := a3 (by assumption); contradiction) | (have := a4 (by assumption); contradiction)))
 replace c207 : Shaped n (n.cells.getD n194_26 default) := by simpa using c207
 refine .skip (.seq (.sr ?_))
 refine .fa fl39_0 ?_
 refine .ld sh3 ?_
 refine .vl (Y.eql rfl rfl) (.nil ?_)
 refine .condD rfl (fun c210 => ?_) (fun c210 => ?_)
 refine .seq (.sr ?_)
 refine .fa fl39_2 ?_
 refine .ld sh3 ?_
 refine .vl (Y.neq rfl rfl) (.nil ?_)
 refine .condD rfl (fun c213 => ?_) (fun c213 => ?_)
 refine .sr ?_
 refine .an ?_
 refine .nil (.ret ?_)
 exact .rb rfl (df (fun h => by have h1 := h.cells n194_26 (by omega); obtain ⟨a1, a2, a3, a4⟩ := h1; first | contradiction | exact absurd a1 (any_not.1 (by assumption)) | (have := a3 (by assumption); contradiction) | (have := a4 (by assumption); contradiction)))
 refine .skip (.exit ?_)
 exact ⟨driven10_26, ⟨by omega, ⟨⟨any_not_false (by assumption), by assumption, fun _ => by omega, fun h => absurd (by assumption) h⟩, hd.skip (by omega) (by assumption)⟩⟩, Le.mk (.c (.c (.c (.c (.c (.c (.c (.c (.c (.c (.nil))))))))))) (.c (.nil))⟩
 refine .skip (.seq (.sr ?_))
 refine .ld sh45 ?_
 refine .fa fl39_2 ?_
 refine .ld sh3 ?_
 refine .callCP rfl ok94 (formed1_spec (i := ((n.cells.getD n194_26 default).out))) rfl (.keep rfl rfl (.keep rfl rfl .nil)) (by decide) rfl (.vl (Y.not rfl) ?_)
 refine .mv ?_
 refine .split (d := 219) rfl (fun c219 => ?_) (fun c219 => ?_)
 replace c219 : ¬ (In ((n.cells.getD n194_26 default).out) n.widths.length) := by simpa using c219
 refine .gz 219 (.gz 219 (.gz 219 ?_))
 refine .gz 219 (.gz 219 ?_)
 refine .pk ?_
 refine .nil (.condT rfl (.sr ?_))
 refine .an ?_
 refine .nil (.ret ?_)
 exact .rb rfl (df (fun h => by have h1 := h.cells n194_26 (by omega); obtain ⟨a1, a2, a3, a4⟩ := h1; first | contradiction | exact absurd a1 (any_not.1 (by assumption)) | (have := a3 (by assumption); contradiction) | (have := a4 (by assumption); contradiction)))
 replace c219 : In ((n.cells.getD n194_26 default).out) n.widths.length := by simpa using c219
 refine .gw 219 (Y.move rfl rfl) (.gw 219 (Y.fieldAddr fl39_2 rfl rfl) (.gw 219 (Y.load sh3 rfl rfl rfl rfl) ?_))
 refine .gw 219 (Y.indexO (m := ((n.cells.getD n194_26 default).out).toNat) sl63 rfl rfl (by first | omega | (simp [-List.getD_eq_getElem?_getD]; done) | (simp [-List.getD_eq_getElem?_getD]; omega) | (unfold In at *; omega)) (by first | omega | (simp [-List.getD_eq_getElem?_getD]; done) | (simp [-List.getD_eq_getElem?_getD]; omega) | (unfold In at *; omega))) ?_
 refine .gw 219 (Y.load sh4 rfl (row_getD0 (d := false) (by first | omega | (simp [-List.getD_eq_getElem?_getD]; done) | (simp [-List.getD_eq_getElem?_getD]; omega) | (unfold In at *; omega))) rfl rfl) ?_
 refine .pk ?_
 refine .nil ?_
 refine .cond rfl (fun c225 => ?_) (fun c225 => ?_)
 refine .sr ?_
 refine .an ?_
 refine .nil (.ret ?_)
 exact .rb rfl (df (fun h => Drv.dup hd (by omega) (by assumption) (by assumption) (by assumption) h))
 refine .skip (.region ?_)
 refine .mv ?_
 refine .fa fl39_2 ?_
 refine .ld sh3 ?_
 refine .vl (Y.indexO (m := ((n.cells.getD n194_26 default).out).toNat) sl63 rfl rfl (by first | omega | (simp [-List.getD_eq_getElem?_getD]; done) | (simp [-List.getD_eq_getElem?_getD]; omega) | (unfold In at *; omega)) (by first | omega | (simp [-List.getD_eq_getElem?_getD]; done) | (simp [-List.getD_eq_getElem?_getD]; omega) | (unfold In at *; omega))) ?_
 refine .storeE ((driven10_26.set (((n.cells.getD n194_26 default).out).toNat) true).map brow) si4 rfl rfl rfl rfl rfl rfl rfl (row_getD0 (d := false) (by first | omega | (simp [-List.getD_eq_getElem?_getD]; done) | (simp [-List.getD_eq_getElem?_getD]; omega) | (unfold In at *; omega))) (nbE rfl) (set_map0 rfl) ?_
 refine .nil ?_
 exact ⟨driven10_26.set (((n.cells.getD n194_26 default).out).toNat) true, ⟨by first | omega | (simp [-List.getD_eq_getElem?_getD]; done) | (simp [-List.getD_eq_getElem?_getD]; omega) | (unfold In at *; omega), ⟨⟨any_not_false (by assumption), by assumption, fun h => absurd h (by assumption), fun _ => by assumption⟩, hd.step (by omega) (by assumption) (by assumption) hl110 (by assumption)⟩⟩, Le.mk (.c (.c (.c (.c (.c (.c (.c (.c (.c (.c (.nil))))))))))) (.c (.nil))⟩
 obtain ⟨hlj36_110, hJ36⟩ := hJx36
 refine .region ?_
 refine .vl (Y.addI rfl rfl (by omega)) ?_
 refine .mv ?_
 refine .nil ?_
 exact ⟨n194_26 + 1, driven10_j36, ⟨by omega, by omega, hJ36.2, below_succ' hc hJ36.1⟩, by omega, Le.mk (.c (.c (.c (.c (.c (.cons (look_int rfl (by first | rfl | omega)) (.nil))))))) (.c (.nil))⟩
 refine .exit (.sr ?_)
 refine .mv ?_
 refine .callLP [110] ok99 (containsBool_spec (l := driven10_26) (b := false) ((by omega))) rfl (.lend rfl rfl (lend_le (by omega)) (lend_eq (by omega)) (.keep rfl rfl .nil)) (lend1 rfl (owns_map brow_frees)) (by decide) rfl trivial ?_
 refine .vl (Y.not rfl) ?_
 refine .an ?_
 refine .nil (.ret ?_)
 exact .rb rfl (db ((Drv.all (d := driven10_26) (by rw [show n.cells.length = n194_26 by omega]; exact hd) hl110).trans ⟨fun h => ⟨by assumption, by omega, by omega, by omega, by omega, by omega, by omega, fun j hj => by have := hw j (by rw [List.length_append] at hj; omega); rw [hcat] at this; exact this, fun j hj => hm j (by omega), fun j hj => hst j (by omega), by assumption, by assumption, any_not_false (by assumption), fun j hj => hc j (by omega), h⟩, fun h => h.driven⟩))
end Go.Proofs.Ytligpghohcfpnaa
/- The walk through fits. -/
namespace Go.Proofs.Ytligpghohcfpnaa
open Go Go.AW Go.Proofs
theorem fits_spec {n : Netlist} {c : Cell} (hs : n.Small) (hc : c.args.length ≤ 17592186043904) (hn : c.num < 18446744073709551616) (hsh : Shaped n c) (hw : Wired n c) : ACalls Try.prog 102 [.agg (Netlist.row n), .agg (Cell.row c)] [] [] (fun r o => r = .v (.bool (decide (Fits n c))) ∧ o = []) := by
 refine ACalls.of Try.func102 rfl rfl rfl (n := 239) (by decide) (nbE rfl) ?_
 have hs4 := hs.ins; have hs5 := hs.mems; have hs6 := hs.streams; have ho := hw.out; have hs1 := hs.widths
 refine .sr (.box 102 rfl rfl rfl rfl rfl (by decide) (.box 103 rfl rfl rfl rfl rfl (by decide) ?_))
 refine .an ?_
 refine .nil (.sr ?_)
 refine .an ?_
 refine .nil ?_
 refine .join1 (fun (w5_j4 : Int) => ⟨[(2, .ptr 102 0 0 0), (3, .ptr 103 0 0 0), (5, vi w5_j4)], [(102, .cells (Netlist.row n)), (103, .cells (Cell.row c))]⟩) (fun (w5_j4 : Int) => w5_j4 = n.ow c) ?_ (fun w5_j4 hJ4 => ?_)
 refine .sr ?_
 refine .fa fl39_2 ?_
 refine .ld sh3 ?_
 refine .vl (Y.geq rfl rfl) (.nil ?_)
 refine .condD rfl (fun c13 => ?_) (fun c13 => ?_)
 refine .region ?_
 refine .fa fl27_1 ?_
 refine .ld sh22 ?_
 refine .fa fl39_2 ?_
 refine .ld sh3 ?_
 refine .vl (Y.indexF (m := (c.out).toNat) sl22 rfl rfl (by omega) (row_getD (d := 0) (by omega))) ?_
 refine .ld sh3 ?_
 refine .an ?_
 refine .nil ?_
 exact ⟨n.widths.getD ((c.out).toNat) 0, by unfold Netlist.ow Netlist.wd; rw [if_pos c13], Le.mk (.c (.c (.cons (look_int rfl (by first | rfl | omega)) (.nil)))) (.c (.c (.nil)))⟩
 refine .skip ?_
 exact ⟨0, by unfold Netlist.ow; rw [if_neg c13], Le.mk (.c (.c (.cons (look_int rfl (by first | rfl | omega)) (.nil)))) (.c (.c (.nil)))⟩
 refine .sr ?_
 refine .fa fl39_3 ?_
 refine .ld sh22 ?_
 refine .vl (Y.len (n := c.args.length) sl22 rfl (congrArg some (List.length_map ..))) ?_
 refine .makeSlice (n := c.args.length) sl22 ze3 rfl rfl rfl rfl (by omega) (by omega) (by decide) ?_
 refine .assignX rfl (by decide) (.sh (Sh.adoptE (d := 6) (n := c.args.length) 106 ((List.replicate c.args.length 0).map irow) rfl (by first | rfl | exact rep_map rfl) (len_map (by simp)) (by decide)) (.nil ?_))
 refine .seq (.sr ?_)
 refine .fa fl39_3 ?_
 refine .ld sh22 ?_
 refine .vl (Y.len (n := c.args.length) sl22 rfl (congrArg some (List.length_map ..))) ?_
 refine .mv ?_
 refine .nil (.block ?_)
 refine .loop2 (fun (n27_6 : Nat) (a6_6 : List Int) => ⟨[(2, .ptr 102 0 0 0), (3, .ptr 103 0 0 0), (5, vi w5_j4), (6, .slc 106 1 0 c.args.length), (25, .fz 1 (c.args.map irow)), (26, vi ((c.args.length : Nat) : Int)), (27, vi (n27_6 : Int))], [(102, .cells (Netlist.row n)), (103, .cells (Cell.row c)), (106, .rows 1 (a6_6.map irow))]⟩) (fun (n27_6 : Nat) (a6_6 : List Int) => (a6_6.length = c.args.length) ∧ ((n27_6 : Int) ≤ ((c.args.length : Nat) : Int)) ∧ (∀ j, j < n27_6 → a6_6.getD j 0 = n.av c j)) (fun (n27_6 : Nat) (a6_6 : List Int) => (((c.args.length : Nat) : Int) - (n27_6 : Int)).toNat) 0 (List.replicate c.args.length 0) (⟨by first | omega | (simp [-List.getD_eq_getElem?_getD]; done) | (simp [-List.getD_eq_getElem?_getD]; omega), by first | omega | (simp [-List.getD_eq_getElem?_getD]; done) | (simp [-List.getD_eq_getElem?_getD]; omega), fun j hj => by omega⟩) (Le.mk (.c (.c (.c (.c (.c (.c (.cons (look_int rfl (by first | rfl | omega)) (.nil)))))))) (.c (.c (.c (.nil))))) (fun n27_6 a6_6 hI6 => ?_)
 obtain ⟨hl106, hb6, ha⟩ := hI6
 refine .sr (.vl (Y.lss rfl rfl) (.nil ?_))
 refine .seq ?_
 refine .condD rfl (fun c28 => ?_) (fun c28 => ?_)
 refine .skip (.seq (.block ?_))
 refine .sr ?_
 refine .mv ?_
 refine .vl (Y.indexF (m := n27_6) sl22 rfl rfl (by first | rfl | omega) (row_getD (d := 0) (by omega))) ?_
 refine .ld sh3 ?_
 refine .an ?_
 refine .an ?_
 refine .nil (.region ?_)
 have hwa := hw.arg (k := n27_6) (by omega)
 refine .mv ?_
 refine .mv ?_
 refine .fa fl27_1 ?_
 refine .ld sh22 ?_
 refine .mv ?_
 refine .vl (Y.indexF (m := (c.args.getD n27_6 0).toNat) sl22 rfl rfl (by omega) (row_getD (d := 0) (by omega))) ?_
 refine .ld sh3 ?_
 refine .vl (Y.indexO (m := n27_6) sl22 rfl rfl (by first | rfl | omega) (by omega)) ?_
 refine .storeE ((a6_6.set n27_6 (n.widths.getD ((c.args.getD n27_6 0).toNat) 0)).map irow) si3 rfl rfl rfl rfl rfl rfl rfl (row_getD0 (d := 0) (by omega)) (nbE rfl) (set_map0 rfl) ?_
 refine .nil (.region ?_)
 refine .vl (Y.addI rfl rfl (by omega)) ?_
 refine .mv ?_
 refine .nil ?_
 exact ⟨n27_6 + 1, a6_6.set n27_6 (n.widths.getD ((c.args.getD n27_6 0).toNat) 0), ⟨by first | omega | (simp [-List.getD_eq_getElem?_getD]; done) | (simp [-List.getD_eq_getElem?_getD]; omega), by first | omega | (simp [-List.getD_eq_getElem?_getD]; done) | (simp [-List.getD_eq_getElem?_getD]; omega), fill_succ ha rfl (by omega)⟩, by omega, Le.mk (.c (.c (.c (.c (.c (.c (.cons (look_int rfl (by first | rfl | omega)) (.nil)))))))) (.c (.c (.c (.nil))))⟩
 refine .exit (.seq (.seq ?_))
 have ha0 : 0 < c.args.length → a6_6.getD 0 0 = n.av c 0 := fun h => ha 0 (by omega)
 have ha1 : 1 < c.args.length → a6_6.getD 1 0 = n.av c 1 := fun h => ha 1 (by omega)
 have ha2 : 2 < c.args.length → a6_6.getD 2 0 = n.av c 2 := fun h => ha 2 (by omega)
 refine .region ?_
 refine .fa fl39_0 ?_
 refine .ld sh3 ?_
 refine .nil (.block (.sr ?_))
 refine .vl (Y.eql rfl rfl) ?_
 refine .an ?_
 refine .nil ?_
 refine .condD rfl (fun c43 => ?_) (fun c43 => ?_)
 refine .seq (.regionAny rfl (.blind 0 rfl (by kernel_rfl) (Blind.move rfl rfl) (by decide) ?_))
 refine .blind 1 rfl (by kernel_rfl) (Blind.fieldAddr fl39_4 rfl rfl) (by decide) (.blind 4 rfl (by kernel_rfl) (Blind.fieldAddr fl39_4 rfl rfl) (by decide) ?_)
 refine .two 2 5 rfl rfl (by kernel_rfl) ?_ ?_
 refine .ld sh37 ?_
 refine .nil ⟨rfl, ?_⟩
 refine .two 3 5 rfl rfl (by kernel_rfl) ?_ ?_
 refine .callP ok65 (bfit_spec (w := w5_j4) (x := c.num) ((by omega))) rfl (.keep rfl rfl (.keep rfl rfl .nil)) (by decide) rfl ?_
 refine .nil ⟨rfl, ?_⟩
 refine .quietN (n := 0) [5, 6, 7] [] 0 rfl (by kernel_rfl) (.cn 5 rfl (Y.load sh37 rfl rfl rfl rfl) (.cn 6 rfl (Y.eql rfl rfl) ?_))
 refine .cn 7 rfl (Y.assign rfl rfl) (.nil (.done (by kernel_rfl) ?_))
 refine .ret ?_
 exact .rb rfl (dd (by (simp only [Fits, OpFits, Cmp, ← hJ4, c43, Int.reduceEq, Bool.not_eq_true, false_and, true_and, and_true, and_false, or_false, false_or, ne_eq]) <;> omega))
 refine .ld sh37 ?_
 refine .nil ⟨rfl, ?_⟩
 refine .one 3 rfl (by kernel_rfl) ?_
 refine .callP ok65 (bfit_spec (w := w5_j4) (x := c.num) ((by omega))) rfl (.keep rfl rfl (.keep rfl rfl .nil)) (by decide) rfl ?_
 refine .nil ⟨rfl, ?_⟩
 refine .quietN (n := 0) [6, 7] [] 0 rfl (by kernel_rfl) (.cn 6 rfl (Y.eql rfl rfl) (.cn 7 rfl (Y.assign rfl rfl) ?_))
 refine .nil (.done (by kernel_rfl) (.ret ?_))
 exact .rb rfl (dd (by (simp only [Fits, OpFits, Cmp, ← hJ4, c43, Int.reduceEq, Bool.not_eq_true, false_and, true_and, and_true, and_false, or_false, false_or, ne_eq]) <;> omega))
 refine .ld sh37 ?_
 refine .nil ⟨rfl, ?_⟩
 refine .quietN (n := 3) [2] [3, 6, 7] 3 rfl (by kernel_rfl) (.cn 2 rfl (Y.load sh37 rfl rfl rfl rfl) (.nil ?_))
 refine .one 3 rfl (by kernel_rfl) ?_
 refine .callP ok65 (bfit_spec (w := w5_j4) (x := c.num) ((by omega))) rfl (.keep rfl rfl (.keep rfl rfl .nil)) (by decide) rfl ?_
 refine .nil ⟨rfl, ?_⟩
 refine .quietN (n := 0) [6, 7] [] 0 rfl (by kernel_rfl) (.cn 6 rfl (Y.eql rfl rfl) (.cn 7 rfl (Y.assign rfl rfl) ?_))
 refine .nil (.done (by kernel_rfl) (.ret ?_))
 exact .rb rfl (dd (by (simp only [Fits, OpFits, Cmp, ← hJ4, c43, Int.reduceEq, Bool.not_eq_true, false_and, true_and, and_true, and_false, or_false, false_or, ne_eq]) <;> omega))
 refine .sr (.vl (Y.eql rfl rfl) ?_)
 refine .an ?_
 refine .nil ?_
 refine .condD rfl (fun c52 => ?_) (fun c52 => ?_)
 have hk := hsh.k2 c52
 refine .seq (.sr ?_)
 refine .fa fl39_1 ?_
 refine .ld sh3 ?_
 refine .nil (.block (.sr ?_))
 refine .vl (Y.eql rfl rfl) ?_
 refine .an ?_
 refine .nil ?_
 refine .condD rfl (fun c56 => ?_) (fun c56 => ?_)
 refine .sr ?_
 refine .mv ?_
 refine .vl (Y.indexO (m := 0) sl22 rfl rfl (by first | rfl | omega) (by first | omega | simp [-List.getD_eq_getElem?_getD] <;> omega)) ?_
 refine .vl (Y.load sh3 rfl (row_getD0 (d := 0) (by omega)) rfl rfl) ?_
 refine .vl (Y.eql rfl rfl) ?_
 refine .mv ?_
 refine .splitD (d := 62) rfl (fun c62 => ?_) (fun c62 => ?_)
 refine .gw 62 (Y.move rfl rfl) ?_
 refine .gw 62 (Y.indexO (m := 1) sl22 rfl rfl (by first | rfl | omega) (by omega)) ?_
 refine .gw 62 (Y.load sh3 rfl (row_getD0 (d := 0) (by omega)) rfl rfl) ?_
 refine .gw 62 (Y.move rfl rfl) (.gw 62 (Y.eql rfl rfl) ?_)
 refine .pk ?_
 refine .mv ?_
 refine .splitD (d := 69) rfl (fun c69 => ?_) (fun c69 => ?_)
 refine .gw 69 (Y.move rfl rfl) ?_
 refine .gw 69 (Y.indexO (m := 2) sl22 rfl rfl (by first | rfl | omega) (by omega)) ?_
 refine .gw 69 (Y.load sh3 rfl (row_getD0 (d := 0) (by omega)) rfl rfl) ?_
 refine .gw 69 (Y.move rfl rfl) (.gw 69 (Y.eql rfl rfl) ?_)
 refine .pk ?_
 refine .an ?_
 refine .nil (.ret ?_)
 exact .rb rfl (dd (by (simp only [Fits, OpFits, Cmp, ← hJ4, c52, Int.reduceEq, Bool.not_eq_true, false_and, true_and, and_true, and_false, or_false, false_or, ne_eq]) <;> omega))
 refine .gz 69 (.gz 69 (.gz 69 ?_))
 refine .gz 69 (.gz 69 ?_)
 refine .pk ?_
 refine .an ?_
 refine .nil (.ret ?_)
 exact .rb rfl (df (by (simp only [Fits, OpFits, Cmp, ← hJ4, c52, Int.reduceEq, Bool.not_eq_true, false_and, true_and, and_true, and_false, or_false, false_or, ne_eq]) <;> omega))
 refine .gz 62 (.gz 62 (.gz 62 ?_))
 refine .gz 62 (.gz 62 ?_)
 refine .pk ?_
 refine .mv ?_
 refine .gz 69 (.gz 69 (.gz 69 ?_))
 refine .gz 69 (.gz 69 ?_)
 refine .pk ?_
 refine .an ?_
 refine .nil (.ret ?_)
 exact .rb rfl (df (by (simp only [Fits, OpFits, Cmp, ← hJ4, c52, Int.reduceEq, Bool.not_eq_true, false_and, true_and, and_true, and_false, or_false, false_or, ne_eq]) <;> omega))
 refine .seq (.sr (.vl (Y.eql rfl rfl) ?_))
 refine .an ?_
 refine .nil ?_
 refine .condKD rfl (fun c76 => ?_) (fun c76 => ?_)
 refine .skip (.condT rfl (.sr ?_))
 refine .mv ?_
 refine .vl (Y.indexO (m := 0) sl22 rfl rfl (by first | rfl | omega) (by first | omega | simp [-List.getD_eq_getElem?_getD] <;> omega)) ?_
 refine .vl (Y.load sh3 rfl (row_getD0 (d := 0) (by omega)) rfl rfl) ?_
 refine .mv ?_
 refine .vl (Y.leq rfl rfl) ?_
 refine .an ?_
 refine .nil (.ret ?_)
 exact .rb rfl (dd (by (simp only [Fits, OpFits, Cmp, ← hJ4, c52, Int.reduceEq, Bool.not_eq_true, false_and, true_and, and_true, and_false, or_false, false_or, ne_eq]) <;> omega))
 refine .region (.vl (Y.eql rfl rfl) ?_)
 refine .an ?_
 refine .nil ?_
 refine .condKD rfl (fun c76 => ?_) (fun c76 => ?_)
 refine .sr ?_
 refine .mv ?_
 refine .vl (Y.indexO (m := 0) sl22 rfl rfl (by first | rfl | omega) (by first | omega | simp [-List.getD_eq_getElem?_getD] <;> omega)) ?_
 refine .vl (Y.load sh3 rfl (row_getD0 (d := 0) (by omega)) rfl rfl) ?_
 refine .mv ?_
 refine .vl (Y.leq rfl rfl) ?_
 refine .an ?_
 refine .nil (.ret ?_)
 exact .rb rfl (dd (by (simp only [Fits, OpFits, Cmp, ← hJ4, c52, Int.reduceEq, Bool.not_eq_true, false_and, true_and, and_true, and_false, or_false, false_or, ne_eq]) <;> omega))
 refine .sr (.vl (Y.eql rfl rfl) ?_)
 refine .an ?_
 refine .nil ?_
 refine .condD rfl (fun c84 => ?_) (fun c84 => ?_)
 refine .sr ?_
 refine .mv ?_
 refine .vl (Y.indexO (m := 0) sl22 rfl rfl (by first | rfl | omega) (by first | omega | simp [-List.getD_eq_getElem?_getD] <;> omega)) ?_
 refine .vl (Y.load sh3 rfl (row_getD0 (d := 0) (by omega)) rfl rfl) ?_
 refine .mv ?_
 refine .vl (Y.geq rfl rfl) ?_
 refine .an ?_
 refine .nil (.ret ?_)
 exact .rb rfl (dd (by (simp only [Fits, OpFits, Cmp, ← hJ4, c52, Int.reduceEq, Bool.not_eq_true, false_and, true_and, and_true, and_false, or_false, false_or, ne_eq]) <;> omega))
 refine .skip (.seq (.sr ?_))
 refine .fa fl39_1 ?_
 refine .ld sh3 ?_
 refine .callP ok74 (isCompare_spec (w := c.op)) rfl (.keep rfl rfl .nil) (by decide) rfl (.nil ?_)
 refine .condD rfl (fun c93 => ?_) (fun c93 => ?_)
 unfold Cmp at c93
 refine .seq (.regionS rfl (by kernel_rfl) (.val (Y.move rfl rfl) (by decide) ?_))
 refine .val (Y.eql rfl rfl) (by decide) (.val (Y.move rfl rfl) (by decide) ?_)
 refine .splitD (d := 96) rfl (fun c96 => ?_) (fun c96 => ?_)
 refine .guardRun (d := 96) rfl (by decide) rfl (.val (Y.move rfl rfl) (by decide) (.guardRun (d := 96) rfl (by decide) rfl ?_))
 refine .val (Y.indexO (m := 0) sl22 rfl rfl (by first | rfl | omega) (by omega)) (by decide) ?_
 refine .guardRun (d := 96) rfl (by decide) rfl ?_
 refine .val (Y.load sh3 rfl (row_getD0 (d := 0) (by omega)) rfl rfl) (by decide) ?_
 refine .guardRun (d := 96) rfl (by decide) rfl (.val (Y.move rfl rfl) (by decide) (.guardRun (d := 96) rfl (by decide) rfl ?_))
 refine .val (Y.indexO (m := 1) sl22 rfl rfl (by first | rfl | omega) (by omega)) (by decide) ?_
 refine .guardRun (d := 96) rfl (by decide) rfl ?_
 refine .val (Y.load sh3 rfl (row_getD0 (d := 0) (by omega)) rfl rfl) (by decide) ?_
 refine .guardRun (d := 96) rfl (by decide) rfl (.val (Y.eql rfl rfl) (by decide) (.val (Y.pick rfl rfl rfl) (by decide) ?_))
 refine .val (Y.assign rfl rfl) (by decide) (.nil (.ret ?_))
 exact .rb rfl (dd (by (simp only [Fits, OpFits, Cmp, ← hJ4, c52, Int.reduceEq, Bool.not_eq_true, false_and, true_and, and_true, and_false, or_false, false_or, ne_eq]) <;> omega))
 refine .guardSkipV (d := 96) rfl (by decide) (by decide) rfl rfl (.guardSkipV (d := 96) rfl (by decide) (by decide) rfl rfl (.guardSkipV (d := 96) rfl (by decide) (by decide) rfl rfl ?_))
 refine .guardSkipV (d := 96) rfl (by decide) (by decide) rfl rfl (.guardSkipV (d := 96) rfl (by decide) (by decide) rfl rfl (.guardSkipV (d := 96) rfl (by decide) (by decide) rfl rfl ?_))
 refine .guardSkipV (d := 96) rfl (by decide) (by decide) rfl rfl (.val (Y.pick rfl rfl rfl) (by decide) (.val (Y.assign rfl rfl) (by decide) ?_))
 refine .nil (.ret ?_)
 exact .rb rfl (df (by (simp only [Fits, OpFits, Cmp, ← hJ4, c52, Int.reduceEq, Bool.not_eq_true, false_and, true_and, and_true, and_false, or_false, false_or, ne_eq]) <;> omega))
 unfold Cmp at c93
 refine .skip (.sr ?_)
 refine .mv ?_
 refine .vl (Y.indexO (m := 0) sl22 rfl rfl (by first | rfl | omega) (by first | omega | simp [-List.getD_eq_getElem?_getD] <;> omega)) ?_
 refine .vl (Y.load sh3 rfl (row_getD0 (d := 0) (by omega)) rfl rfl) ?_
 refine .mv ?_
 refine .vl (Y.eql rfl rfl) ?_
 refine .mv ?_
 refine .splitD (d := 110) rfl (fun c110 => ?_) (fun c110 => ?_)
 refine .gw 110 (Y.move rfl rfl) ?_
 refine .gw 110 (Y.indexO (m := 1) sl22 rfl rfl (by first | rfl | omega) (by omega)) ?_
 refine .gw 110 (Y.load sh3 rfl (row_getD0 (d := 0) (by omega)) rfl rfl) ?_
 refine .gw 110 (Y.move rfl rfl) (.gw 110 (Y.eql rfl rfl) ?_)
 refine .pk ?_
 refine .an ?_
 refine .nil (.ret ?_)
 exact .rb rfl (dd (by (simp only [Fits, OpFits, Cmp, ← hJ4, c52, Int.reduceEq, Bool.not_eq_true, false_and, true_and, and_true, and_false, or_false, false_or, ne_eq]) <;> omega))
 refine .gz 110 (.gz 110 (.gz 110 ?_))
 refine .gz 110 (.gz 110 ?_)
 refine .pk ?_
 refine .an ?_
 refine .nil (.ret ?_)
 exact .rb rfl (df (by (simp only [Fits, OpFits, Cmp, ← hJ4, c52, Int.reduceEq, Bool.not_eq_true, false_and, true_and, and_true, and_false, or_false, false_or, ne_eq]) <;> omega))
 refine .sr (.vl (Y.eql rfl rfl) ?_)
 refine .an ?_
 refine .nil ?_
 refine .condD rfl (fun c117 => ?_) (fun c117 => ?_)
 have hk := hsh.k3 c117
 refine .seq (.sr ?_)
 refine .mv ?_
 refine .vl (Y.len (n := c.args.length) sl22 rfl rfl) ?_
 refine .mv ?_
 refine .nil (.block ?_)
 refine .loop1 (fun (n121_27 : Nat) => ⟨[(5, vi w5_j4), (119, .slc 106 1 0 c.args.length), (120, vi ((c.args.length : Nat) : Int)), (121, vi (n121_27 : Int))], [(106, .rows 1 (a6_6.map irow))]⟩) (fun (n121_27 : Nat) => ((n121_27 : Int) ≤ ((c.args.length : Nat) : Int)) ∧ (∀ k, k < n121_27 → MuxFit n c k)) (fun (n121_27 : Nat) => (((c.args.length : Nat) : Int) - (n121_27 : Int)).toNat) 0 (⟨by omega, fun k hk => by omega⟩) (Le.mk (.c (.c (.c (.cons (look_int rfl (by first | rfl | omega)) (.nil))))) (.c (.nil))) (fun n121_27 hI27 => ?_)
 obtain ⟨hb27, hm⟩ := hI27
 refine .sr (.vl (Y.lss rfl rfl) (.nil ?_))
 refine .seq ?_
 refine .condD rfl (fun c122 => ?_) (fun c122 => ?_)
 refine .skip ?_
 refine .join2 (fun (n137_j31 : Bool) (n141_j31 : Bool) => ⟨[(5, vi w5_j4), (119, .slc 106 1 0 c.args.length), (120, vi ((c.args.length : Nat) : Int)), (121, vi (n121_27 : Int)), (134, vi (n121_27 : Int)), (135, vi ((n121_27 : Int) % 2)), (136, .v (.bool (decide (((n121_27 : Int) % 2) = 1)))), (137, .v (.bool n137_j31)), (141, .v (.bool n141_j31))], [(106, .rows 1 (a6_6.map irow))]⟩) (fun (n137_j31 : Bool) (n141_j31 : Bool) => ((((n121_27 : Int) % 2) = 0) ∧ (¬ ((a6_6.getD n121_27 0) ≠ 1)) ∧ (((n121_27 : Int) % 2) = 1) ∧ (¬ ((a6_6.getD n121_27 0) ≠ w5_j4)) ∧ (n137_j31 = true) ∧ (n141_j31 = (decide ((a6_6.getD n121_27 0) ≠ w5_j4)))) ∨ ((((n121_27 : Int) % 2) = 0) ∧ (¬ ((a6_6.getD n121_27 0) ≠ 1)) ∧ (¬ (((n121_27 : Int) % 2) = 1)) ∧ (n137_j31 = false) ∧ (n141_j31 = false)) ∨ ((¬ (((n121_27 : Int) % 2) = 0)) ∧ (((n121_27 : Int) % 2) = 1) ∧ (¬ ((a6_6.getD n121_27 0) ≠ w5_j4)) ∧ (n137_j31 = true) ∧ (n141_j31 = (decide ((a6_6.getD n121_27 0) ≠ w5_j4)))) ∨ ((¬ (((n121_27 : Int) % 2) = 0)) ∧ (¬ (((n121_27 : Int) % 2) = 1)) ∧ (n137_j31 = false) ∧ (n141_j31 = false))) ?_ (fun n137_j31 n141_j31 hJ31 => ?_)
 refine .block (.sr ?_)
 refine .mv ?_
 refine .vl (Y.indexO (m := n121_27) sl22 rfl rfl (by first | rfl | omega) (by omega)) ?_
 refine .vl (Y.load sh3 rfl (row_getD0 (d := 0) (by omega)) rfl rfl) ?_
 refine .an ?_
 refine .an ?_
 refine .nil (.sr ?_)
 refine .mv ?_
 refine .vl (Y.remI rfl rfl (by first | omega | simp [-List.getD_eq_getElem?_getD] <;> omega)) ?_
 refine .vl (Y.eql rfl rfl) ?_
 refine .mv ?_
 refine .splitD (d := 129) rfl (fun c129 => ?_) (fun c129 => ?_)
 refine .gw 129 (Y.move rfl rfl) (.gw 129 (Y.neq rfl rfl) ?_)
 refine .pk ?_
 refine .mv ?_
 refine .splitD (d := 133) rfl (fun c133 => ?_) (fun c133 => ?_)
 refine .gz 133 (.gz 133 (.gz 133 ?_))
 refine .gz 133 (.gz 137 (.gz 137 ?_))
 refine .gz 137 (.gz 133 ?_)
 refine .pk ?_
 refine .nil (.condT rfl (.sr ?_))
 refine .an ?_
 refine .nil (.ret ?_)
 exact .rb rfl (df (fun h => by simp only [Fits, c117, Int.reduceEq, Bool.not_eq_true, false_and, true_and, and_true, and_false, or_false, false_or, ne_eq] at h; have h1 := h n121_27 (by omega); have h2 := ha n121_27 (by omega); unfold MuxFit at h1; omega))
 refine .gw 133 (Y.move rfl rfl) ?_
 refine .gw 133 (Y.remI rfl rfl (by omega)) ?_
 refine .gw 133 (Y.eql rfl rfl) (.gw 133 (Y.move rfl rfl) ?_)
 refine .splitD (d := 137) rfl (fun c137 => ?_) (fun c137 => ?_)
 refine .gw 137 (Y.move rfl rfl) (.gw 137 (Y.move rfl rfl) (.gw 137 (Y.neq rfl rfl) ?_))
 refine .gw 133 (Y.pick rfl rfl rfl) ?_
 refine .pk ?_
 refine .nil ?_
 refine .condD rfl (fun c142 => ?_) (fun c142 => ?_)
 refine .sr ?_
 refine .an ?_
 refine .nil (.ret ?_)
 exact .rb rfl (df (fun h => by simp only [Fits, c117, Int.reduceEq, Bool.not_eq_true, false_and, true_and, and_true, and_false, or_false, false_or, ne_eq] at h; have h1 := h n121_27 (by omega); have h2 := ha n121_27 (by omega); unfold MuxFit at h1; omega))
 refine .skip ?_
 exact ⟨true, decide ((a6_6.getD n121_27 0) ≠ w5_j4), .inl ⟨c129, c133, c137, c142, rfl, rfl⟩, Le.mk (.c (.c (.c (.c (.c (.c (.c (.cons (look_bool rfl (by first | rfl | simp_all)) (.cons (look_bool rfl (by first | rfl | simp_all)) (.nil)))))))))) (.c (.nil))⟩
 refine .gz 137 (.gz 137 (.gz 137 ?_))
 refine .gw 133 (Y.pick rfl rfl rfl) ?_
 refine .pk ?_
 refine .nil (.condF rfl (.skip ?_))
 exact ⟨false, false, .inr (.inl ⟨c129, c133, c137, rfl, rfl⟩), Le.mk (.c (.c (.c (.c (.c (.c (.c (.cons (look_bool rfl (by first | rfl | simp_all)) (.cons (look_bool rfl (by first | rfl | simp_all)) (.nil)))))))))) (.c (.nil))⟩
 refine .gz 129 (.gz 129 ?_)
 refine .pk ?_
 refine .mv ?_
 refine .gw 133 (Y.move rfl rfl) ?_
 refine .gw 133 (Y.remI rfl rfl (by omega)) ?_
 refine .gw 133 (Y.eql rfl rfl) (.gw 133 (Y.move rfl rfl) ?_)
 refine .splitD (d := 137) rfl (fun c137 => ?_) (fun c137 => ?_)
 refine .gw 137 (Y.move rfl rfl) (.gw 137 (Y.move rfl rfl) (.gw 137 (Y.neq rfl rfl) ?_))
 refine .gw 133 (Y.pick rfl rfl rfl) ?_
 refine .pk ?_
 refine .nil ?_
 refine .condD rfl (fun c142 => ?_) (fun c142 => ?_)
 refine .sr ?_
 refine .an ?_
 refine .nil (.ret ?_)
 exact .rb rfl (df (fun h => by simp only [Fits, c117, Int.reduceEq, Bool.not_eq_true, false_and, true_and, and_true, and_false, or_false, false_or, ne_eq] at h; have h1 := h n121_27 (by omega); have h2 := ha n121_27 (by omega); unfold MuxFit at h1; omega))
 refine .skip ?_
 exact ⟨true, decide ((a6_6.getD n121_27 0) ≠ w5_j4), .inr (.inr (.inl ⟨c129, c137, c142, rfl, rfl⟩)), Le.mk (.c (.c (.c (.c (.c (.c (.c (.cons (look_bool rfl (by first | rfl | simp_all)) (.cons (look_bool rfl (by first | rfl | simp_all)) (.nil)))))))))) (.c (.nil))⟩
 refine .gz 137 (.gz 137 (.gz 137 ?_))
 refine .gw 133 (Y.pick rfl rfl rfl) ?_
 refine .pk ?_
 refine .nil (.condF rfl (.skip ?_))
 exact ⟨false, false, .inr (.inr (.inr (⟨c129, c137, rfl, rfl⟩))), Le.mk (.c (.c (.c (.c (.c (.c (.c (.cons (look_bool rfl (by first | rfl | simp_all)) (.cons (look_bool rfl (by first | rfl | simp_all)) (.nil)))))))))) (.c (.nil))⟩
 refine .region ?_
 refine .vl (Y.addI rfl rfl (by omega)) ?_
 refine .mv ?_
 refine .nil ?_
 exact ⟨n121_27 + 1, ⟨by omega, mux_succ hm (by have h2 := ha n121_27 (by omega); unfold MuxFit; omega)⟩, by omega, Le.mk (.c (.c (.c (.cons (look_int rfl (by first | rfl | omega)) (.nil))))) (.c (.nil))⟩
 refine .exit (.sr ?_)
 refine .an ?_
 refine .nil (.ret ?_)
 exact .rb rfl (dt (by simp only [Fits, c117, Int.reduceEq, Bool.not_eq_true, false_and, true_and, and_true, and_false, or_false, false_or, ne_eq]; exact fun k hk => hm k (by omega)))
 refine .sr (.vl (Y.eql rfl rfl) ?_)
 refine .an ?_
 refine .nil ?_
 refine .condD rfl (fun c144 => ?_) (fun c144 => ?_)
 have hk := hsh.k4 c144
 refine .seq (.regionAny rfl (.blind 0 rfl (by kernel_rfl) (Blind.move rfl rfl) (by decide) ?_))
 refine .one 1 rfl (by kernel_rfl) ?_
 refine .vl (Y.indexO (m := 0) sl22 rfl rfl (by first | rfl | omega) (by first | omega | simp [-List.getD_eq_getElem?_getD] <;> omega)) ?_
 refine .nil ⟨rfl, ?_⟩
 refine .one 2 rfl (by kernel_rfl) ?_
 refine .vl (Y.load sh3 rfl (row_getD0 (d := 0) (by omega)) rfl rfl) ?_
 refine .nil ⟨rfl, ?_⟩
 refine .one 3 rfl (by kernel_rfl) (.vl (Y.eql rfl rfl) ?_)
 refine .nil ⟨rfl, ?_⟩
 refine .blind 4 rfl (by kernel_rfl) (Blind.move rfl rfl) (by decide) ?_
 refine .splitD (d := 150) rfl (fun c150 => ?_) (fun c150 => ?_)
 refine .blindRun 5 rfl (by kernel_rfl) rfl (by decide) rfl (Blind.move rfl rfl) (by decide) (.blindRun 8 rfl (by kernel_rfl) rfl (by decide) rfl (Blind.move rfl rfl) (by decide) (.one 6 rfl (by kernel_rfl) ?_))
 refine .gw 150 (Y.indexO (m := 1) sl22 rfl rfl (by first | rfl | omega) (by omega)) ?_
 refine .nil ⟨rfl, ?_⟩
 refine .one 7 rfl (by kernel_rfl) ?_
 refine .gw 150 (Y.load sh3 rfl (row_getD0 (d := 0) (by omega)) rfl rfl) ?_
 refine .nil ⟨rfl, ?_⟩
 refine .one 9 rfl (by kernel_rfl) (.gw 150 (Y.eql rfl rfl) ?_)
 refine .nil ⟨rfl, ?_⟩
 refine .one 10 rfl (by kernel_rfl) ?_
 refine .pk ?_
 refine .nil ⟨rfl, ?_⟩
 refine .blind 11 rfl (by kernel_rfl) (Blind.move rfl rfl) (by decide) ?_
 refine .splitD (d := 157) rfl (fun c157 => ?_) (fun c157 => ?_)
 refine .blindRun 12 rfl (by kernel_rfl) rfl (by decide) rfl (Blind.move rfl rfl) (by decide) (.blindRun 13 rfl (by kernel_rfl) rfl (by decide) rfl (Blind.fieldAddr fl39_4 rfl rfl) (by decide) (.blindRun 16 rfl (by kernel_rfl) rfl (by decide) rfl (Blind.fieldAddr fl39_4 rfl rfl) (by decide) ?_))
 refine .two 14 17 rfl rfl (by kernel_rfl) ?_ ?_
 refine .gw 157 (Y.load sh37 rfl rfl rfl rfl) ?_
 refine .nil ⟨rfl, ?_⟩
 refine .two 15 17 rfl rfl (by kernel_rfl) ?_ ?_
 refine .guardRun (d := 157) rfl (by decide) rfl ?_
 refine .callP ok65 (bfit_spec (w := w5_j4) (x := c.num) ((by omega))) rfl (.keep rfl rfl (.keep rfl rfl .nil)) (by decide) rfl ?_
 refine .nil ⟨rfl, ?_⟩
 refine .quietN (n := 0) [17, 18, 19, 20] [] 0 rfl (by kernel_rfl) (.rn 17 rfl rfl rfl (Y.load sh37 rfl rfl rfl rfl) (.rn 18 rfl rfl rfl (Y.eql rfl rfl) ?_))
 refine .cn 19 rfl (Y.pick rfl rfl rfl) (.cn 20 rfl (Y.assign rfl rfl) (.nil ?_))
 refine .done (by kernel_rfl) (.ret ?_)
 exact .rb rfl (dd (by (simp only [Fits, OpFits, Cmp, ← hJ4, c144, Int.reduceEq, Bool.not_eq_true, false_and, true_and, and_true, and_false, or_false, false_or, ne_eq]) <;> omega))
 refine .gw 157 (Y.load sh37 rfl rfl rfl rfl) ?_
 refine .nil ⟨rfl, ?_⟩
 refine .one 15 rfl (by kernel_rfl) (.guardRun (d := 157) rfl (by decide) rfl ?_)
 refine .callP ok65 (bfit_spec (w := w5_j4) (x := c.num) ((by omega))) rfl (.keep rfl rfl (.keep rfl rfl .nil)) (by decide) rfl ?_
 refine .nil ⟨rfl, ?_⟩
 refine .quietN (n := 0) [18, 19, 20] [] 0 rfl (by kernel_rfl) (.rn 18 rfl rfl rfl (Y.eql rfl rfl) (.cn 19 rfl (Y.pick rfl rfl rfl) ?_))
 refine .cn 20 rfl (Y.assign rfl rfl) (.nil (.done (by kernel_rfl) ?_))
 refine .ret ?_
 exact .rb rfl (dd (by (simp only [Fits, OpFits, Cmp, ← hJ4, c144, Int.reduceEq, Bool.not_eq_true, false_and, true_and, and_true, and_false, or_false, false_or, ne_eq]) <;> omega))
 refine .gw 157 (Y.load sh37 rfl rfl rfl rfl) ?_
 refine .nil ⟨rfl, ?_⟩
 refine .quietN (n := 4) [14] [15, 18, 19, 20] 15 rfl (by kernel_rfl) (.rn 14 rfl rfl rfl (Y.load sh37 rfl rfl rfl rfl) (.nil ?_))
 refine .one 15 rfl (by kernel_rfl) (.guardRun (d := 157) rfl (by decide) rfl ?_)
 refine .callP ok65 (bfit_spec (w := w5_j4) (x := c.num) ((by omega))) rfl (.keep rfl rfl (.keep rfl rfl .nil)) (by decide) rfl ?_
 refine .nil ⟨rfl, ?_⟩
 refine .quietN (n := 0) [18, 19, 20] [] 0 rfl (by kernel_rfl) (.rn 18 rfl rfl rfl (Y.eql rfl rfl) (.cn 19 rfl (Y.pick rfl rfl rfl) ?_))
 refine .cn 20 rfl (Y.assign rfl rfl) (.nil (.done (by kernel_rfl) ?_))
 refine .ret ?_
 exact .rb rfl (dd (by (simp only [Fits, OpFits, Cmp, ← hJ4, c144, Int.reduceEq, Bool.not_eq_true, false_and, true_and, and_true, and_false, or_false, false_or, ne_eq]) <;> omega))
 refine .skipOp 12 rfl (by kernel_rfl) rfl (by decide) (by decide) rfl rfl (.skipOp 13 rfl (by kernel_rfl) rfl (by decide) (by decide) rfl rfl (.skipOp 14 rfl (by kernel_rfl) rfl (by decide) (by decide) rfl rfl ?_))
 refine .skipOp 15 rfl (by kernel_rfl) rfl (by decide) (by decide) rfl rfl (.skipOp 16 rfl (by kernel_rfl) rfl (by decide) (by decide) rfl rfl (.skipOp 17 rfl (by kernel_rfl) rfl (by decide) (by decide) rfl rfl ?_))
 refine .skipOp 18 rfl (by kernel_rfl) rfl (by decide) (by decide) rfl rfl (.quietN (n := 0) [19, 20] [] 0 rfl (by kernel_rfl) (.cn 19 rfl (Y.pick rfl rfl rfl) ?_))
 refine .cn 20 rfl (Y.assign rfl rfl) (.nil (.done (by kernel_rfl) ?_))
 refine .ret ?_
 exact .rb rfl (df (by (simp only [Fits, OpFits, Cmp, ← hJ4, c144, Int.reduceEq, Bool.not_eq_true, false_and, true_and, and_true, and_false, or_false, false_or, ne_eq]) <;> omega))
 refine .skipOp 5 rfl (by kernel_rfl) rfl (by decide) (by decide) rfl rfl (.skipOp 6 rfl (by kernel_rfl) rfl (by decide) (by decide) rfl rfl (.skipOp 7 rfl (by kernel_rfl) rfl (by decide) (by decide) rfl rfl ?_))
 refine .skipOp 8 rfl (by kernel_rfl) rfl (by decide) (by decide) rfl rfl (.skipOp 9 rfl (by kernel_rfl) rfl (by decide) (by decide) rfl rfl (.one 10 rfl (by kernel_rfl) ?_))
 refine .pk ?_
 refine .nil ⟨rfl, ?_⟩
 refine .blind 11 rfl (by kernel_rfl) (Blind.move rfl rfl) (by decide) (.skipOp 12 rfl (by kernel_rfl) rfl (by decide) (by decide) rfl rfl (.skipOp 13 rfl (by kernel_rfl) rfl (by decide) (by decide) rfl rfl ?_))
 refine .skipOp 14 rfl (by kernel_rfl) rfl (by decide) (by decide) rfl rfl (.skipOp 15 rfl (by kernel_rfl) rfl (by decide) (by decide) rfl rfl (.skipOp 16 rfl (by kernel_rfl) rfl (by decide) (by decide) rfl rfl ?_))
 refine .skipOp 17 rfl (by kernel_rfl) rfl (by decide) (by decide) rfl rfl (.skipOp 18 rfl (by kernel_rfl) rfl (by decide) (by decide) rfl rfl (.quietN (n := 0) [19, 20] [] 0 rfl (by kernel_rfl) ?_))
 refine .cn 19 rfl (Y.pick rfl rfl rfl) (.cn 20 rfl (Y.assign rfl rfl) (.nil ?_))
 refine .done (by kernel_rfl) (.ret ?_)
 exact .rb rfl (df (by (simp only [Fits, OpFits, Cmp, ← hJ4, c144, Int.reduceEq, Bool.not_eq_true, false_and, true_and, and_true, and_false, or_false, false_or, ne_eq]) <;> omega))
 refine .sr (.vl (Y.eql rfl rfl) ?_)
 refine .an ?_
 refine .nil ?_
 refine .condD rfl (fun c166 => ?_) (fun c166 => ?_)
 have hk := hsh.k5 c166
 refine .sr ?_
 refine .mv ?_
 refine .vl (Y.indexO (m := 0) sl22 rfl rfl (by first | rfl | omega) (by first | omega | simp [-List.getD_eq_getElem?_getD] <;> omega)) ?_
 refine .vl (Y.load sh3 rfl (row_getD0 (d := 0) (by omega)) rfl rfl) ?_
 refine .mv ?_
 refine .vl (Y.eql rfl rfl) ?_
 refine .mv ?_
 refine .splitD (d := 173) rfl (fun c173 => ?_) (fun c173 => ?_)
 refine .gw 173 (Y.move rfl rfl) ?_
 refine .gw 173 (Y.indexO (m := 1) sl22 rfl rfl (by first | rfl | omega) (by omega)) ?_
 refine .gw 173 (Y.load sh3 rfl (row_getD0 (d := 0) (by omega)) rfl rfl) ?_
 refine .gw 173 (Y.move rfl rfl) (.gw 173 (Y.eql rfl rfl) ?_)
 refine .pk ?_
 refine .an ?_
 refine .nil (.ret ?_)
 exact .rb rfl (dd (by (simp only [Fits, OpFits, Cmp, ← hJ4, c166, Int.reduceEq, Bool.not_eq_true, false_and, true_and, and_true, and_false, or_false, false_or, ne_eq]) <;> omega))
 refine .gz 173 (.gz 173 (.gz 173 ?_))
 refine .gz 173 (.gz 173 ?_)
 refine .pk ?_
 refine .an ?_
 refine .nil (.ret ?_)
 exact .rb rfl (df (by (simp only [Fits, OpFits, Cmp, ← hJ4, c166, Int.reduceEq, Bool.not_eq_true, false_and, true_and, and_true, and_false, or_false, false_or, ne_eq]) <;> omega))
 refine .sr (.vl (Y.eql rfl rfl) ?_)
 refine .an ?_
 refine .nil ?_
 refine .condD rfl (fun c180 => ?_) (fun c180 => ?_)
 have hk := hsh.k6 c180
 refine .sr ?_
 refine .mv ?_
 refine .vl (Y.indexO (m := 0) sl22 rfl rfl (by first | rfl | omega) (by first | omega | simp [-List.getD_eq_getElem?_getD] <;> omega)) ?_
 refine .vl (Y.load sh3 rfl (row_getD0 (d := 0) (by omega)) rfl rfl) ?_
 refine .vl (Y.eql rfl rfl) ?_
 refine .mv ?_
 refine .splitD (d := 186) rfl (fun c186 => ?_) (fun c186 => ?_)
 refine .gw 186 (Y.fieldAddr fl27_4 rfl rfl) (.gw 186 (Y.load sh24 rfl rfl rfl rfl) (.gw 186 (Y.fieldAddr fl39_5 rfl rfl) ?_))
 refine .gw 186 (Y.load sh3 rfl rfl rfl rfl) ?_
 refine .gw 186 (Y.indexF (m := (c.mem).toNat) sl24 rfl rfl (by omega) (row_getD (d := default) (by omega))) ?_
 refine .gw 186 (Y.fieldAddr fl48_1 rfl rfl) (.gw 186 (Y.load sh3 rfl rfl rfl rfl) (.gw 186 (Y.move rfl rfl) ?_))
 refine .gw 186 (Y.eql rfl rfl) ?_
 refine .pk ?_
 refine .an ?_
 refine .nil (.ret ?_)
 exact .rb rfl (dd (by (simp only [Fits, OpFits, Cmp, ← hJ4, c180, Int.reduceEq, Bool.not_eq_true, false_and, true_and, and_true, and_false, or_false, false_or, ne_eq]) <;> omega))
 refine .gz 186 (.gz 186 (.gz 186 ?_))
 refine .gz 186 (.gz 186 (.gz 186 ?_))
 refine .gz 186 (.gz 186 (.gz 186 ?_))
 refine .pk ?_
 refine .an ?_
 refine .nil (.ret ?_)
 exact .rb rfl (df (by (simp only [Fits, OpFits, Cmp, ← hJ4, c180, Int.reduceEq, Bool.not_eq_true, false_and, true_and, and_true, and_false, or_false, false_or, ne_eq]) <;> omega))
 refine .sr (.vl (Y.eql rfl rfl) ?_)
 refine .an ?_
 refine .nil ?_
 refine .condD rfl (fun c197 => ?_) (fun c197 => ?_)
 have hk := hsh.k7 c197
 refine .seq (.regionS rfl (by kernel_rfl) (.val (Y.move rfl rfl) (by decide) ?_))
 refine .val (Y.indexO (m := 0) sl22 rfl rfl (by first | rfl | omega) (by omega)) (by decide) ?_
 refine .val (Y.load sh3 rfl (row_getD0 (d := 0) (by omega)) rfl rfl) (by decide) ?_
 refine .val (Y.eql rfl rfl) (by decide) (.val (Y.move rfl rfl) (by decide) ?_)
 refine .splitD (d := 203) rfl (fun c203 => ?_) (fun c203 => ?_)
 refine .guardRun (d := 203) rfl (by decide) rfl (.val (Y.fieldAddr fl27_4 rfl rfl) (by decide) (.guardRun (d := 203) rfl (by decide) rfl ?_))
 refine .val (Y.load sh24 rfl rfl rfl rfl) (by decide) (.guardRun (d := 203) rfl (by decide) rfl (.val (Y.fieldAddr fl39_5 rfl rfl) (by decide) ?_))
 refine .guardRun (d := 203) rfl (by decide) rfl (.val (Y.load sh3 rfl rfl rfl rfl) (by decide) (.guardRun (d := 203) rfl (by decide) rfl ?_))
 refine .val (Y.indexF (m := (c.mem).toNat) sl24 rfl rfl (by omega) (row_getD (d := default) (by omega))) (by decide) ?_
 refine .guardRun (d := 203) rfl (by decide) rfl (.val (Y.fieldAddr fl48_1 rfl rfl) (by decide) (.guardRun (d := 203) rfl (by decide) rfl ?_))
 refine .val (Y.load sh3 rfl rfl rfl rfl) (by decide) (.guardRun (d := 203) rfl (by decide) rfl (.val (Y.move rfl rfl) (by decide) ?_))
 refine .guardRun (d := 203) rfl (by decide) rfl ?_
 refine .val (Y.indexO (m := 2) sl22 rfl rfl (by first | rfl | omega) (by omega)) (by decide) ?_
 refine .guardRun (d := 203) rfl (by decide) rfl ?_
 refine .val (Y.load sh3 rfl (row_getD0 (d := 0) (by omega)) rfl rfl) (by decide) ?_
 refine .guardRun (d := 203) rfl (by decide) rfl (.val (Y.eql rfl rfl) (by decide) (.val (Y.pick rfl rfl rfl) (by decide) ?_))
 refine .val (Y.assign rfl rfl) (by decide) (.nil (.ret ?_))
 exact .rb rfl (dd (by (simp only [Fits, OpFits, Cmp, ← hJ4, c197, Int.reduceEq, Bool.not_eq_true, false_and, true_and, and_true, and_false, or_false, false_or, ne_eq]) <;> omega))
 refine .guardSkipV (d := 203) rfl (by decide) (by decide) rfl rfl (.guardSkipV (d := 203) rfl (by decide) (by decide) rfl rfl (.guardSkipV (d := 203) rfl (by decide) (by decide) rfl rfl ?_))
 refine .guardSkipV (d := 203) rfl (by decide) (by decide) rfl rfl (.guardSkipV (d := 203) rfl (by decide) (by decide) rfl rfl (.guardSkipV (d := 203) rfl (by decide) (by decide) rfl rfl ?_))
 refine .guardSkipV (d := 203) rfl (by decide) (by decide) rfl rfl (.guardSkipV (d := 203) rfl (by decide) (by decide) rfl rfl (.guardSkipV (d := 203) rfl (by decide) (by decide) rfl rfl ?_))
 refine .guardSkipV (d := 203) rfl (by decide) (by decide) rfl rfl (.guardSkipV (d := 203) rfl (by decide) (by decide) rfl rfl (.val (Y.pick rfl rfl rfl) (by decide) ?_))
 refine .val (Y.assign rfl rfl) (by decide) (.nil (.ret ?_))
 exact .rb rfl (df (by (simp only [Fits, OpFits, Cmp, ← hJ4, c197, Int.reduceEq, Bool.not_eq_true, false_and, true_and, and_true, and_false, or_false, false_or, ne_eq]) <;> omega))
 refine .sr (.vl (Y.eql rfl rfl) ?_)
 refine .an ?_
 refine .nil ?_
 refine .condD rfl (fun c216 => ?_) (fun c216 => ?_)
 have hk := hsh.k8 c216
 refine .sr ?_
 refine .fa fl27_3 ?_
 refine .ld sh22 ?_
 refine .fa fl39_4 ?_
 refine .ld sh37 ?_
 refine .vl (Y.indexF (m := c.num) sl22 rfl rfl (by first | rfl | omega) (row_getD (d := 0) (by omega))) ?_
 refine .ld sh3 ?_
 refine .mv ?_
 refine .vl (Y.eql rfl rfl) ?_
 refine .an ?_
 refine .nil (.ret ?_)
 exact .rb rfl (dd (by (simp only [Fits, OpFits, Cmp, ← hJ4, c216, Int.reduceEq, Bool.not_eq_true, false_and, true_and, and_true, and_false, or_false, false_or, ne_eq]) <;> omega))
 refine .sr (.vl (Y.eql rfl rfl) ?_)
 refine .an ?_
 refine .nil ?_
 refine .condD rfl (fun c226 => ?_) (fun c226 => ?_)
 refine .sr ?_
 refine .mv ?_
 refine .vl (Y.eql rfl rfl) ?_
 refine .an ?_
 refine .nil (.ret ?_)
 exact .rb rfl (dd (by (simp only [Fits, OpFits, Cmp, ← hJ4, c226, Int.reduceEq, Bool.not_eq_true, false_and, true_and, and_true, and_false, or_false, false_or, ne_eq]) <;> omega))
 have k10 : c.kind = 10 := by have := hsh.kind; omega
 have hk := hsh.k10 k10
 refine .skip (.sr ?_)
 refine .fa fl27_5 ?_
 refine .ld sh25 ?_
 refine .fa fl39_5 ?_
 refine .ld sh3 ?_
 refine .vl (Y.indexF (m := (c.mem).toNat) sl25 rfl rfl (by omega) (row_getD (d := default) (by omega))) ?_
 refine .fa fl83_1 ?_
 refine .ld sh3 ?_
 refine .mv ?_
 refine .vl (Y.eql rfl rfl) ?_
 refine .an ?_
 refine .nil (.ret ?_)
 exact .rb rfl (dd (by (simp only [Fits, OpFits, Cmp, ← hJ4, k10, Int.reduceEq, Bool.not_eq_true, false_and, true_and, and_true, and_false, or_false, false_or, ne_eq]) <;> omega))
end Go.Proofs.Ytligpghohcfpnaa
/- The walk through widths. -/
namespace Go.Proofs.Ytligpghohcfpnaa
open Go Go.AW Go.Proofs
theorem widths1_spec {n : Netlist} {c : Cell} (hs : n.Small) (hf : Formed n) (hc : c ∈ n.cells) : ACalls Try.prog 101 [.agg (Cell.row c), .fp (Netlist.row n) 0] [] [] (fun r o => r = .v (.bool (!decide (Fits n c))) ∧ o = []) := by
 refine ACalls.of Try.func101 rfl rfl rfl (n := 8) (by decide) (nbE rfl) (.sr (.box 102 rfl rfl rfl rfl rfl (by decide) ?_))
 refine .an ?_
 refine .nil (.sr (.vl (Y.loadA sh27 rfl rfl (nbE rfl) rfl rfl) ?_))
 refine .vl (Y.loadA sh39 rfl rfl (nbE rfl) rfl rfl) (.callP ok102 (fits_spec (n := n) (c := c) hs (hs.args _ hc) (hs.nums _ hc) (hf.cell hc).2.1 (hf.cell hc).wired) rfl (.keep rfl rfl (.keep rfl rfl .nil)) (by decide) rfl (.vl (Y.not rfl) ?_))
 refine .an ?_
 refine .nil (.ret ?_)
 exact .rb rfl (rfl)
theorem widths_spec {n : Netlist} (hs : n.Small) (hf : Formed n) : ACalls Try.prog 58 [.agg (Netlist.row n)] [] [] (fun r o => r = .v (.bool (decide (Fit n))) ∧ o = []) := by
 refine ACalls.of Try.func58 rfl rfl rfl (n := 63) (by decide) (nbE rfl) ?_
 have hs1 := hf.nactive; have hs2 := hf.ndata; have hs3 := hf.nstreams; have hs4 := hf.freeze; have hs5 := hf.done; unfold In at hs4 hs5; have hs6 := hf.nwidths; have hs7 := hf.ncells
 refine .sr (.box 101 rfl rfl rfl rfl rfl (by decide) ?_)
 refine .an ?_
 refine .nil (.seq (.sr ?_))
 refine .fa fl27_1 ?_
 refine .ld sh22 ?_
 refine .fa fl27_8 ?_
 refine .ld sh3 ?_
 refine .vl (Y.indexF (m := (n.freeze).toNat) sl22 rfl rfl (by omega) (row_getD (d := 0) (by omega))) ?_
 refine .ld sh3 ?_
 refine .vl (Y.neq rfl rfl) ?_
 refine .mv ?_
 refine .splitD (d := 12) rfl (fun c12 => ?_) (fun c12 => ?_)
 refine .gz 12 (.gz 12 (.gz 12 ?_))
 refine .gz 12 (.gz 12 (.gz 12 ?_))
 refine .gz 12 ?_
 refine .pk ?_
 refine .nil (.condT rfl (.sr ?_))
 refine .an ?_
 refine .nil (.ret ?_)
 exact .rb rfl (df (fun h => by have h1 := h.freeze; have h2 := h.done; unfold Netlist.wd at h1 h2; first | contradiction | omega))
 refine .gw 12 (Y.fieldAddr fl27_1 rfl rfl) (.gw 12 (Y.load sh22 rfl rfl rfl rfl) (.gw 12 (Y.fieldAddr fl27_9 rfl rfl) ?_))
 refine .gw 12 (Y.load sh3 rfl rfl rfl rfl) ?_
 refine .gw 12 (Y.indexF (m := (n.done).toNat) sl22 rfl rfl (by omega) (row_getD (d := 0) (by omega))) ?_
 refine .gw 12 (Y.load sh3 rfl rfl rfl rfl) (.gw 12 (Y.neq rfl rfl) ?_)
 refine .pk ?_
 refine .nil ?_
 refine .condD rfl (fun c20 => ?_) (fun c20 => ?_)
 refine .sr ?_
 refine .an ?_
 refine .nil (.ret ?_)
 exact .rb rfl (df (fun h => by have h1 := h.freeze; have h2 := h.done; unfold Netlist.wd at h1 h2; first | contradiction | omega))
 refine .skip (.seq (.sr ?_))
 refine .fa fl27_5 ?_
 refine .ld sh25 ?_
 refine .vl (Y.len (n := n.streams.length) sl25 rfl (congrArg some (List.length_map ..))) ?_
 refine .mv ?_
 refine .nil (.block ?_)
 refine .loop1 (fun (n24_4 : Nat) => ⟨[(1, .ptr 101 0 0 0), (22, .fz 3 (n.streams.map Strm.row)), (23, vi ((n.streams.length : Nat) : Int)), (24, vi (n24_4 : Int))], [(101, .cells (Netlist.row n))]⟩) (fun (n24_4 : Nat) => ((n24_4 : Int) ≤ ((n.streams.length : Nat) : Int)) ∧ (∀ j, j < n24_4 → StrFit n j)) (fun (n24_4 : Nat) => (((n.streams.length : Nat) : Int) - (n24_4 : Int)).toNat) 0 (⟨by omega, fun j hj => by omega⟩) (Le.mk (.c (.c (.c (.cons (look_int rfl (by first | rfl | omega)) (.nil))))) (.c (.nil))) (fun n24_4 hI4 => ?_)
 obtain ⟨hb4, hst⟩ := hI4
 refine .sr (.vl (Y.lss rfl rfl) (.nil ?_))
 refine .seq ?_
 refine .condD rfl (fun c25 => ?_) (fun c25 => ?_)
 refine .skip ?_
 refine .join2 (fun (n42_j8 : Bool) (n55_j8 : Bool) => ⟨[(1, .ptr 101 0 0 0), (22, .fz 3 (n.streams.map Strm.row)), (23, vi ((n.streams.length : Nat) : Int)), (24, vi (n24_4 : Int)), (40, .ptr 104 0 0 2), (41, .v (.bool ((n.streams.getD n24_4 default).out))), (42, .v (.bool n42_j8)), (55, .v (.bool n55_j8))], [(101, .cells (Netlist.row n)), (104, .cells [.v (.string ((n.streams.getD n24_4 default).name)), vi ((n.streams.getD n24_4 default).width), .v (.bool ((n.streams.getD n24_4 default).out))])]⟩) (fun (n42_j8 : Bool) (n55_j8 : Bool) => StrFit n n24_4) ?_ (fun n42_j8 n55_j8 hJ8 => ?_)
 refine .block (.sr ?_)
 refine .mv ?_
 refine .vl (Y.indexF (m := n24_4) sl25 rfl rfl (by first | rfl | omega) (row_getD (d := default) (by omega))) ?_
 refine .vl (Y.loadA sh83 rfl rfl (nbE rfl) rfl rfl) (.alloc 104 ze83 rfl rfl (by decide) ?_)
 refine .an ?_
 refine .storeC si83 rfl rfl rfl rfl rfl rfl (nbE rfl) rfl (.nil (.seq ?_))
 refine .regionS rfl (by kernel_rfl) ?_
 obtain ⟨_, _, ha1, hd1, _⟩ := hf.strs n24_4 (by omega)
 unfold In at ha1 hd1
 refine .val (Y.fieldAddr fl27_1 rfl rfl) (by decide) (.val (Y.load sh22 rfl rfl rfl rfl) (by decide) (.val (Y.fieldAddr fl27_6 rfl rfl) (by decide) ?_))
 refine .val (Y.load sh22 rfl rfl rfl rfl) (by decide) (.val (Y.move rfl rfl) (by decide) ?_)
 refine .val (Y.indexF (m := n24_4) sl22 rfl rfl (by first | rfl | omega) (row_getD (d := 0) (by omega))) (by decide) ?_
 refine .val (Y.load sh3 rfl rfl rfl rfl) (by decide) ?_
 refine .val (Y.indexF (m := (n.active.getD n24_4 0).toNat) sl22 rfl rfl (by omega) (row_getD (d := 0) (by omega))) (by decide) ?_
 refine .val (Y.load sh3 rfl rfl rfl rfl) (by decide) (.val (Y.neq rfl rfl) (by decide) (.val (Y.move rfl rfl) (by decide) ?_))
 refine .splitD (d := 39) rfl (fun c39 => ?_) (fun c39 => ?_)
 refine .guardSkipV (d := 39) rfl (by decide) (by decide) rfl rfl (.guardSkipV (d := 39) rfl (by decide) (by decide) rfl rfl (.guardSkipV (d := 39) rfl (by decide) (by decide) rfl rfl ?_))
 refine .guardSkipV (d := 42) rfl (by decide) (by decide) rfl rfl (.guardSkipV (d := 42) rfl (by decide) (by decide) rfl rfl (.guardSkipV (d := 42) rfl (by decide) (by decide) rfl rfl ?_))
 refine .guardSkipV (d := 42) rfl (by decide) (by decide) rfl rfl (.guardSkipV (d := 42) rfl (by decide) (by decide) rfl rfl (.guardSkipV (d := 42) rfl (by decide) (by decide) rfl rfl ?_))
 refine .guardSkipV (d := 42) rfl (by decide) (by decide) rfl rfl (.guardSkipV (d := 42) rfl (by decide) (by decide) rfl rfl (.guardSkipV (d := 42) rfl (by decide) (by decide) rfl rfl ?_))
 refine .guardSkipV (d := 42) rfl (by decide) (by decide) rfl rfl (.guardSkipV (d := 42) rfl (by decide) (by decide) rfl rfl (.guardSkipV (d := 42) rfl (by decide) (by decide) rfl rfl ?_))
 refine .guardSkipV (d := 39) rfl (by decide) (by decide) rfl rfl (.val (Y.pick rfl rfl rfl) (by decide) (.nil ?_))
 refine .condT rfl (.sr ?_)
 refine .an ?_
 refine .nil (.ret ?_)
 exact .rb rfl (df (fun h => by have h1 := h.strs n24_4 (by omega); unfold StrFit Netlist.wd at h1; grind))
 refine .guardRun (d := 39) rfl (by decide) rfl (.val (Y.fieldAddr fl83_2 rfl rfl) (by decide) (.guardRun (d := 39) rfl (by decide) rfl ?_))
 refine .val (Y.load sh4 rfl rfl rfl rfl) (by decide) (.guardRun (d := 39) rfl (by decide) rfl (.val (Y.move rfl rfl) (by decide) ?_))
 refine .split (d := 42) rfl (fun c42 => ?_) (fun c42 => ?_)
 have hd2 := hd1 (by assumption)
 refine .guardRun (d := 42) rfl (by decide) rfl (.val (Y.fieldAddr fl27_1 rfl rfl) (by decide) (.guardRun (d := 42) rfl (by decide) rfl ?_))
 refine .val (Y.load sh22 rfl rfl rfl rfl) (by decide) (.guardRun (d := 42) rfl (by decide) rfl (.val (Y.fieldAddr fl27_7 rfl rfl) (by decide) ?_))
 refine .guardRun (d := 42) rfl (by decide) rfl (.val (Y.load sh22 rfl rfl rfl rfl) (by decide) (.guardRun (d := 42) rfl (by decide) rfl ?_))
 refine .val (Y.move rfl rfl) (by decide) (.guardRun (d := 42) rfl (by decide) rfl ?_)
 refine .val (Y.indexF (m := n24_4) sl22 rfl rfl (by first | rfl | omega) (row_getD (d := 0) (by omega))) (by decide) ?_
 refine .guardRun (d := 42) rfl (by decide) rfl (.val (Y.load sh3 rfl rfl rfl rfl) (by decide) (.guardRun (d := 42) rfl (by decide) rfl ?_))
 refine .val (Y.indexF (m := (n.data.getD n24_4 0).toNat) sl22 rfl rfl (by omega) (row_getD (d := 0) (by omega))) (by decide) ?_
 refine .guardRun (d := 42) rfl (by decide) rfl (.val (Y.load sh3 rfl rfl rfl rfl) (by decide) (.guardRun (d := 42) rfl (by decide) rfl ?_))
 refine .val (Y.fieldAddr fl83_1 rfl rfl) (by decide) (.guardRun (d := 42) rfl (by decide) rfl (.val (Y.load sh3 rfl rfl rfl rfl) (by decide) ?_))
 refine .guardRun (d := 42) rfl (by decide) rfl (.val (Y.neq rfl rfl) (by decide) (.guardRun (d := 39) rfl (by decide) rfl ?_))
 refine .val (Y.pick rfl rfl rfl) (by decide) (.val (Y.pick rfl rfl rfl) (by decide) (.nil ?_))
 refine .condD rfl (fun c56 => ?_) (fun c56 => ?_)
 refine .sr ?_
 refine .an ?_
 refine .nil (.ret ?_)
 exact .rb rfl (df (fun h => by have h1 := h.strs n24_4 (by omega); unfold StrFit Netlist.wd at h1; grind))
 refine .skip ?_
 exact ⟨true, decide ((n.widths.getD ((n.data.getD n24_4 0).toNat) 0) ≠ ((n.streams.getD n24_4 default).width)), by unfold StrFit Netlist.wd; grind, Le.mk (.c (.c (.c (.c (.c (.c (.cons (look_bool rfl (by first | rfl | simp_all)) (.cons (look_bool rfl (by first | rfl | simp_all)) (.nil))))))))) (.c (.c (.nil)))⟩
 refine .guardSkipV (d := 42) rfl (by decide) (by decide) rfl rfl (.guardSkipV (d := 42) rfl (by decide) (by decide) rfl rfl (.guardSkipV (d := 42) rfl (by decide) (by decide) rfl rfl ?_))
 refine .guardSkipV (d := 42) rfl (by decide) (by decide) rfl rfl (.guardSkipV (d := 42) rfl (by decide) (by decide) rfl rfl (.guardSkipV (d := 42) rfl (by decide) (by decide) rfl rfl ?_))
 refine .guardSkipV (d := 42) rfl (by decide) (by decide) rfl rfl (.guardSkipV (d := 42) rfl (by decide) (by decide) rfl rfl (.guardSkipV (d := 42) rfl (by decide) (by decide) rfl rfl ?_))
 refine .guardSkipV (d := 42) rfl (by decide) (by decide) rfl rfl (.guardSkipV (d := 42) rfl (by decide) (by decide) rfl rfl (.guardSkipV (d := 42) rfl (by decide) (by decide) rfl rfl ?_))
 refine .guardRun (d := 39) rfl (by decide) rfl (.val (Y.pick rfl rfl rfl) (by decide) (.val (Y.pick rfl rfl rfl) (by decide) ?_))
 refine .nil (.condF rfl (.skip ?_))
 exact ⟨false, false, by unfold StrFit Netlist.wd; grind, Le.mk (.c (.c (.c (.c (.c (.c (.cons (look_bool rfl (by first | rfl | simp_all)) (.cons (look_bool rfl (by first | rfl | simp_all)) (.nil))))))))) (.c (.c (.nil)))⟩
 refine .region ?_
 refine .vl (Y.addI rfl rfl (by omega)) ?_
 refine .mv ?_
 refine .nil ?_
 exact ⟨n24_4 + 1, ⟨by omega, below_succ' hst hJ8⟩, by omega, Le.mk (.c (.c (.c (.cons (look_int rfl (by first | rfl | omega)) (.nil))))) (.c (.nil))⟩
 refine .exit (.sr ?_)
 refine .fa fl27_2 ?_
 refine .ld sh23 ?_
 refine .sh (Sh.freezeO 101 rfl rfl) (.vl (Y.makeFunc rfl rfl rfl rfl) ?_)
 refine .callP ok100 (containsFuncCell_spec (l := n.cells) (p := fun z => !decide (Fits n z)) ((by omega)) ok101 (fun z hz => widths1_spec hs hf hz)) rfl (.keep rfl rfl (.keep rfl rfl .nil)) (by decide) rfl ?_
 refine .vl (Y.not rfl) ?_
 refine .an ?_
 refine .nil (.ret ?_)
 exact .rb rfl (db (not_any_fit (by unfold Netlist.wd; omega) (by unfold Netlist.wd; omega) (fun j hj => hst j (by omega))))
end Go.Proofs.Ytligpghohcfpnaa
/- The walk through Order. -/
namespace Go.Proofs.Ytligpghohcfpnaa
open Go Go.AW Go.Proofs
theorem order_spec {n : Netlist} (hs : n.Small) (hwi : n.widths.length + n.ins.length ≤ 17592186044416) : ACalls Try.prog 20 [.agg (Netlist.row n)] [] [] (fun r o => ∃ (l : List Int) (e : Int), OrderRes n l e ∧ r = .tup [.uni 1 (l.map irow), vi e] ∧ o = []) := by
 refine ACalls.of Try.func20 rfl rfl rfl (n := 169) (by decide) (nbE rfl) (.sr (.box 101 rfl rfl rfl rfl rfl (by decide) ?_))
 refine .an ?_
 refine .an ?_
 refine .nil (.seq (.sr ?_))
 refine .vl (Y.loadA sh27 rfl rfl (nbE rfl) rfl rfl) ?_
 refine .callP ok57 (formed_spec (n := n) hs ((by omega))) rfl (.keep rfl rfl .nil) (by decide) rfl ?_
 refine .vl (Y.not rfl) (.nil ?_)
 refine .cond rfl (fun c22 => ?_) (fun c22 => ?_)
 replace c22 : ¬ (Formed n) := by simpa using c22
 refine .sr ?_
 refine .an ?_
 refine .an ?_
 refine .nil (.sh (Sh.nilU (d := 2) 1 rfl) (.ret ?_))
 exact ⟨_, _, rfl, rfl, ([] : List Int), 3, .inl ⟨by assumption, rfl, rfl⟩, rfl, rfl⟩
 replace c22 : Formed n := by simpa using c22
 have hf : Formed n := by assumption
 refine .skip (.seq (.sr ?_))
 refine .vl (Y.loadA sh27 rfl rfl (nbE rfl) rfl rfl) (.callP ok58 (widths_spec (n := n) hs (by assumption)) rfl (.keep rfl rfl .nil) (by decide) rfl (.vl (Y.not rfl) ?_))
 refine .nil ?_
 refine .cond rfl (fun c25 => ?_) (fun c25 => ?_)
 replace c25 : ¬ (Fit n) := by simpa using c25
 refine .sr ?_
 refine .an ?_
 refine .an ?_
 refine .nil (.sh (Sh.nilU (d := 2) 1 rfl) (.ret ?_))
 exact ⟨_, _, rfl, rfl, ([] : List Int), 13, .inr (.inl ⟨by assumption, by assumption, rfl, rfl⟩), rfl, rfl⟩
 replace c25 : Fit n := by simpa using c25
 have hft : Fit n := by assumption
 have hz1 := hf.ncells; have hz2 := hf.nwidths
 refine .skip (.sr ?_)
 refine .an ?_
 refine .sh (Sh.nil (d := 4) 104 1 rfl (by decide)) (.nil (.sr ?_))
 refine .fa fl27_2 ?_
 refine .ld sh23 ?_
 refine .vl (Y.len (n := n.cells.length) sl23 rfl (congrArg some (List.length_map ..))) ?_
 refine .makeSlice (n := n.cells.length) sl22 ze3 rfl rfl rfl rfl (by omega) (by omega) (by decide) ?_
 refine .assignX rfl (by decide) (.sh (Sh.adoptE (d := 5) (n := n.cells.length) 105 ((List.replicate n.cells.length 0).map irow) rfl (by first | rfl | exact rep_map rfl) (len_map (by simp)) (by decide)) (.nil ?_))
 refine .sr ?_
 refine .fa fl27_1 ?_
 refine .ld sh22 ?_
 refine .vl (Y.len (n := n.widths.length) sl22 rfl (congrArg some (List.length_map ..))) ?_
 refine .makeSlice (n := n.widths.length) sl92 ze22 rfl rfl rfl rfl (by omega) (by omega) (by decide) ?_
 refine .sh (Sh.nilRows (d := 33) 1 rfl) (.assignX rfl (by decide) (.sh (Sh.adoptE (d := 6) (n := n.widths.length) 106 ((List.replicate n.widths.length []).map orow) rfl (by first | rfl | exact rep_map rfl) (len_map (by simp)) (by decide)) ?_))
 refine .nil (.sr ?_)
 refine .fa fl27_1 ?_
 refine .ld sh22 ?_
 refine .vl (Y.len (n := n.widths.length) sl22 rfl (congrArg some (List.length_map ..))) ?_
 refine .makeSlice (n := n.widths.length) sl63 ze4 rfl rfl rfl rfl (by omega) (by omega) (by decide) ?_
 refine .assignX rfl (by decide) (.sh (Sh.adoptE (d := 7) (n := n.widths.length) 107 ((List.replicate n.widths.length false).map brow) rfl (by first | rfl | exact rep_map rfl) (len_map (by simp)) (by decide)) (.nil ?_))
 refine .seq (.sr ?_)
 refine .fa fl27_2 ?_
 refine .ld sh23 ?_
 refine .vl (Y.len (n := n.cells.length) sl23 rfl (congrArg some (List.length_map ..))) ?_
 refine .mv ?_
 refine .nil (.block ?_)
 refine .loop2 (fun (n41_10 : Nat) (comb7_10 : List Bool) => ⟨[(1, .ptr 101 0 0 0), (4, .slc 104 1 0 0), (5, .slc 105 1 0 n.cells.length), (6, .slc 106 1 0 n.widths.length), (7, .slc 107 1 0 n.widths.length), (39, .fz 6 (n.cells.map Cell.row)), (40, vi ((n.cells.length : Nat) : Int)), (41, vi (n41_10 : Int))], [(101, .cells (Netlist.row n)), (104, .rows 1 (([] : List Int).map irow)), (105, .rows 1 ((List.replicate n.cells.length 0).map irow)), (106, .rows 1 ((List.replicate n.widths.length []).map orow)), (107, .rows 1 (comb7_10.map brow))]⟩) (fun (n41_10 : Nat) (comb7_10 : List Bool) => (comb7_10.length = n.widths.length) ∧ ((n41_10 : Int) ≤ ((n.cells.length : Nat) : Int)) ∧ (CombInv n n41_10 comb7_10)) (fun (n41_10 : Nat) (comb7_10 : List Bool) => (((n.cells.length : Nat) : Int) - (n41_10 : Int)).toNat) 0 (List.replicate n.widths.length false) (⟨by first | omega | (simp [-List.getD_eq_getElem?_getD]; done) | (simp [-List.getD_eq_getElem?_getD]; omega) | (unfold In at *; omega), by first | omega | (simp [-List.getD_eq_getElem?_getD]; done) | (simp [-List.getD_eq_getElem?_getD]; omega) | (unfold In at *; omega), CombInv.init n⟩) (Le.mk (.c (.c (.c (.c (.c (.c (.c (.cons (look_int rfl (by first | rfl | omega)) (.nil))))))))) (.c (.c (.c (.c (.c (.nil))))))) (fun n41_10 comb7_10 hI10 => ?_)
 obtain ⟨hl107, hb10, hci⟩ := hI10
 refine .sr (.vl (Y.lss rfl rfl) (.nil ?_))
 refine .seq ?_
 refine .condD rfl (fun c42 => ?_) (fun c42 => ?_)
 refine .skip ?_
 refine .join1 (fun (comb7_j14 : List Bool) => ⟨[(1, .ptr 101 0 0 0), (4, .slc 104 1 0 0), (5, .slc 105 1 0 n.cells.length), (6, .slc 106 1 0 n.widths.length), (7, .slc 107 1 0 n.widths.length), (39, .fz 6 (n.cells.map Cell.row)), (40, vi ((n.cells.length : Nat) : Int)), (41, vi (n41_10 : Int))], [(101, .cells (Netlist.row n)), (104, .rows 1 (([] : List Int).map irow)), (105, .rows 1 ((List.replicate n.cells.length 0).map irow)), (106, .rows 1 ((List.replicate n.widths.length []).map orow)), (107, .rows 1 (comb7_j14.map brow))]⟩) (fun (comb7_j14 : List Bool) => (comb7_j14.length = n.widths.length) ∧ (CombInv n (n41_10 + 1) comb7_j14)) ?_ (fun comb7_j14 hJx14 => ?_)
 refine .block (.sr ?_)
 refine .vl (Y.indexF (m := n41_10) sl23 rfl rfl (by first | rfl | omega) (row_getD (d := default) (by omega))) ?_
 refine .vl (Y.loadA sh39 rfl rfl (nbE rfl) rfl rfl) (.alloc 109 ze39 rfl rfl (by decide) (.storeC si39 rfl rfl rfl rfl rfl rfl (nbE rfl) rfl ?_))
 refine .nil (.sr ?_)
 refine .fa fl39_0 ?_
 refine .ld sh3 ?_
 refine .callP ok21 (comb_spec (w := ((n.cells.getD n41_10 default).kind))) rfl (.keep rfl rfl .nil) (by decide) rfl (.nil ?_)
 refine .condD rfl (fun c47 => ?_) (fun c47 => ?_)
 have hw1 := hf.outIn (CombAt.drives (n := n) (i := (n41_10 : Int)) ⟨⟨by omega, by omega⟩, c47⟩)
 rw [cell_nat] at hw1
 have hw2 := hw1; unfold In at hw2
 refine .region ?_
 refine .mv ?_
 refine .fa fl39_2 ?_
 refine .ld sh3 ?_
 refine .vl (Y.indexO (m := ((n.cells.getD n41_10 default).out).toNat) sl63 rfl rfl (by omega) (by omega)) ?_
 refine .storeE ((comb7_10.set (((n.cells.getD n41_10 default).out).toNat) true).map brow) si4 rfl rfl rfl rfl rfl rfl rfl (row_getD0 (d := false) (by omega)) (nbE rfl) (set_map0 rfl) ?_
 refine .nil ?_
 exact ⟨comb7_10.set (((n.cells.getD n41_10 default).out).toNat) true, ⟨by first | omega | (simp [-List.getD_eq_getElem?_getD]; done) | (simp [-List.getD_eq_getElem?_getD]; omega) | (unfold In at *; omega), hci.step (by omega) hl107 c47 hw1⟩, Le.mk (.c (.c (.c (.c (.c (.c (.c (.c (.nil))))))))) (.c (.c (.c (.c (.c (.nil))))))⟩
 refine .skip ?_
 exact ⟨comb7_10, ⟨by omega, hci.skip c47⟩, Le.mk (.c (.c (.c (.c (.c (.c (.c (.c (.nil))))))))) (.c (.c (.c (.c (.c (.nil))))))⟩
 obtain ⟨hlj14_107, hJ14⟩ := hJx14
 refine .region ?_
 refine .vl (Y.addI rfl rfl (by omega)) ?_
 refine .mv ?_
 refine .nil ?_
 exact ⟨n41_10 + 1, comb7_j14, ⟨by omega, by omega, hJ14⟩, by omega, Le.mk (.c (.c (.c (.c (.c (.c (.c (.cons (look_int rfl (by first | rfl | omega)) (.nil))))))))) (.c (.c (.c (.c (.c (.nil))))))⟩
 refine .exit (.seq (.seq ?_))
 have hci2 : CombInv n n.cells.length comb7_10 := by rw [show n.cells.length = n41_10 by omega]; exact hci
 refine .region ?_
 refine .fa fl27_2 ?_
 refine .ld sh23 ?_
 refine .vl (Y.len (n := n.cells.length) sl23 rfl (congrArg some (List.length_map ..))) ?_
 refine .mv ?_
 refine .nil (.block ?_)
 refine .loop2 (fun (n56_16 : Nat) (out4_16 : List Int) => ⟨[(1, .ptr 101 0 0 0), (4, .slc 104 1 0 out4_16.length), (5, .slc 105 1 0 n.cells.length), (6, .slc 106 1 0 n.widths.length), (7, .slc 107 1 0 n.widths.length), (54, .fz 6 (n.cells.map Cell.row)), (55, vi ((n.cells.length : Nat) : Int)), (56, vi (n56_16 : Int))], [(101, .cells (Netlist.row n)), (104, .rows 1 (out4_16.map irow)), (105, .rows 1 ((List.replicate n.cells.length 0).map irow)), (106, .rows 1 ((List.replicate n.widths.length []).map orow)), (107, .rows 1 (comb7_10.map brow))]⟩) (fun (n56_16 : Nat) (out4_16 : List Int) => ((n56_16 : Int) ≤ ((n.cells.length : Nat) : Int)) ∧ (out4_16 = seqL n n56_16)) (fun (n56_16 : Nat) (out4_16 : List Int) => (((n.cells.length : Nat) : Int) - (n56_16 : Int)).toNat) 0 ([] : List Int) (⟨by first | omega | (simp [-List.getD_eq_getElem?_getD]; done) | (simp [-List.getD_eq_getElem?_getD]; omega) | (unfold In at *; omega), rfl⟩) (Le.mk (.c (.cons (look_slc rfl (by first | omega | (simp [-List.getD_eq_getElem?_getD]; done) | (simp [-List.getD_eq_getElem?_getD]; omega) | (unfold In at *; omega))) (.c (.c (.c (.c (.c (.cons (look_int rfl (by first | rfl | omega)) (.nil))))))))) (.c (.c (.c (.c (.c (.nil))))))) (fun n56_16 out4_16 hI16 => ?_)
 obtain ⟨hb16, hsq⟩ := hI16
 refine .sr (.vl (Y.lss rfl rfl) (.nil ?_))
 refine .seq ?_
 refine .condD rfl (fun c57 => ?_) (fun c57 => ?_)
 refine .skip ?_
 refine .join1 (fun (out4_j20 : List Int) => ⟨[(1, .ptr 101 0 0 0), (4, .slc 104 1 0 out4_j20.length), (5, .slc 105 1 0 n.cells.length), (6, .slc 106 1 0 n.widths.length), (7, .slc 107 1 0 n.widths.length), (54, .fz 6 (n.cells.map Cell.row)), (55, vi ((n.cells.length : Nat) : Int)), (56, vi (n56_16 : Int))], [(101, .cells (Netlist.row n)), (104, .rows 1 (out4_j20.map irow)), (105, .rows 1 ((List.replicate n.cells.length 0).map irow)), (106, .rows 1 ((List.replicate n.widths.length []).map orow)), (107, .rows 1 (comb7_10.map brow))]⟩) (fun (out4_j20 : List Int) => out4_j20 = seqL n (n56_16 + 1)) ?_ (fun out4_j20 hJ20 => ?_)
 refine .block (.sr ?_)
 refine .mv ?_
 refine .vl (Y.indexF (m := n56_16) sl23 rfl rfl (by first | rfl | omega) (row_getD (d := default) (by omega))) ?_
 refine .vl (Y.loadA sh39 rfl rfl (nbE rfl) rfl rfl) (.alloc 111 ze39 rfl rfl (by decide) ?_)
 refine .an ?_
 refine .storeC si39 rfl rfl rfl rfl rfl rfl (nbE rfl) rfl (.nil (.sr ?_))
 have hsl := seqL_len n n56_16; rw [← hsq] at hsl
 refine .fa fl39_0 ?_
 refine .ld sh3 ?_
 refine .callP ok21 (comb_spec (w := ((n.cells.getD n56_16 default).kind))) rfl (.keep rfl rfl .nil) (by decide) rfl (.vl (Y.not rfl) (.nil ?_))
 refine .cond rfl (fun c64 => ?_) (fun c64 => ?_)
 replace c64 : ¬ (Comb ((n.cells.getD n56_16 default).kind)) := by simpa using c64
 refine .region ?_
 refine .mv ?_
 refine .mv ?_
 refine .buildSlice (([(n56_16 : Int)] : List Int).map irow) sl22 ze3 rfl rfl rfl rfl rfl (uniform_map (s := 1) (f := irow) (fun _ => rfl)) rfl rfl rfl (by decide) ?_
 refine .appendE ((out4_16 ++ ([(n56_16 : Int)] : List Int)).map irow) (out4_16 ++ ([(n56_16 : Int)] : List Int)).length sl22 ze3 rfl rfl rfl rfl (app_le (by first | omega | (simp [-List.getD_eq_getElem?_getD]; done) | (simp [-List.getD_eq_getElem?_getD]; omega) | (unfold In at *; omega))) (app_map (by first | omega | (simp [-List.getD_eq_getElem?_getD]; done) | (simp [-List.getD_eq_getElem?_getD]; omega) | (unfold In at *; omega))) (app_n (by first | omega | (simp [-List.getD_eq_getElem?_getD]; done) | (simp [-List.getD_eq_getElem?_getD]; omega) | (unfold In at *; omega))) (by first | omega | (simp [-List.getD_eq_getElem?_getD]; done) | (simp [-List.getD_eq_getElem?_getD]; omega) | (unfold In at *; omega)) (by first | omega | (simp [-List.getD_eq_getElem?_getD]; done) | (simp [-List.getD_eq_getElem?_getD]; omega) | (unfold In at *; omega)) (by decide) (by decide) ?_
 refine .an ?_
 refine .nil ?_
 exact ⟨out4_16 ++ ([(n56_16 : Int)] : List Int), by rw [seqL_succ, if_neg c64, hsq], Le.mk (.c (.cons (look_slc rfl (by omega)) (.c (.c (.c (.c (.c (.c (.nil))))))))) (.c (.c (.c (.c (.c (.nil))))))⟩
 replace c64 : Comb ((n.cells.getD n56_16 default).kind) := by simpa using c64
 refine .skip ?_
 exact ⟨out4_16, by rw [seqL_succ, if_pos c64, hsq, List.append_nil], Le.mk (.c (.cons (look_slc rfl (by omega)) (.c (.c (.c (.c (.c (.c (.nil))))))))) (.c (.c (.c (.c (.c (.nil))))))⟩
 refine .region ?_
 refine .vl (Y.addI rfl rfl (by omega)) ?_
 refine .mv ?_
 refine .nil ?_
 exact ⟨n56_16 + 1, out4_j20, ⟨by omega, hJ20⟩, by omega, Le.mk (.c (.cons (look_slc rfl (by omega)) (.c (.c (.c (.c (.c (.cons (look_int rfl (by first | rfl | omega)) (.nil))))))))) (.c (.c (.c (.c (.c (.nil))))))⟩
 refine .exit (.sr ?_)
 refine .an ?_
 refine .sh (Sh.nil (d := 12) 112 1 rfl (by decide)) (.nil (.seq ?_))
 refine .sr ?_
 refine .fa fl27_2 ?_
 refine .ld sh23 ?_
 refine .vl (Y.len (n := n.cells.length) sl23 rfl (congrArg some (List.length_map ..))) ?_
 refine .mv ?_
 refine .nil (.block ?_)
 refine .loop4 (fun (n73_23 : Nat) (remaining5_23 : List Int) (users6_23 : List (List Int)) (ready12_23 : List Int) => ⟨[(1, .ptr 101 0 0 0), (4, .slc 104 1 0 out4_16.length), (5, .slc 105 1 0 n.cells.length), (6, .slc 106 1 0 n.widths.length), (7, .slc 107 1 0 n.widths.length), (12, .slc 112 1 0 ready12_23.length), (71, .fz 6 (n.cells.map Cell.row)), (72, vi ((n.cells.length : Nat) : Int)), (73, vi (n73_23 : Int))], [(101, .cells (Netlist.row n)), (104, .rows 1 (out4_16.map irow)), (105, .rows 1 (remaining5_23.map irow)), (106, .rows 1 (users6_23.map orow)), (107, .rows 1 (comb7_10.map brow)), (112, .rows 1 (ready12_23.map irow))]⟩) (fun (n73_23 : Nat) (remaining5_23 : List Int) (users6_23 : List (List Int)) (ready12_23 : List Int) => (remaining5_23.length = n.cells.length) ∧ (users6_23.length = n.widths.length) ∧ ((n73_23 : Int) ≤ ((n.cells.length : Nat) : Int)) ∧ (BI n n73_23 remaining5_23 users6_23 ready12_23)) (fun (n73_23 : Nat) (remaining5_23 : List Int) (users6_23 : List (List Int)) (ready12_23 : List Int) => (((n.cells.length : Nat) : Int) - (n73_23 : Int)).toNat) 0 (List.replicate n.cells.length 0) (List.replicate n.widths.length []) ([] : List Int) (⟨by first | omega | (simp [-List.getD_eq_getElem?_getD]; done) | (simp [-List.getD_eq_getElem?_getD]; omega) | (unfold In at *; omega), by first | omega | (simp [-List.getD_eq_getElem?_getD]; done) | (simp [-List.getD_eq_getElem?_getD]; omega) | (unfold In at *; omega), by first | omega | (simp [-List.getD_eq_getElem?_getD]; done) | (simp [-List.getD_eq_getElem?_getD]; omega) | (unfold In at *; omega), BI.init n⟩) (Le.mk (.c (.c (.c (.c (.c (.cons (look_slc rfl (by first | omega | (simp [-List.getD_eq_getElem?_getD]; done) | (simp [-List.getD_eq_getElem?_getD]; omega) | (unfold In at *; omega))) (.c (.c (.cons (look_int rfl (by first | rfl | omega)) (.nil)))))))))) (.c (.c (.c (.c (.c (.c (.nil)))))))) (fun n73_23 remaining5_23 users6_23 ready12_23 hI23 => ?_)
 obtain ⟨hl105, hl106, hb23, hbi⟩ := hI23
 refine .sr (.vl (Y.lss rfl rfl) (.nil ?_))
 refine .seq ?_
 refine .condD rfl (fun c74 => ?_) (fun c74 => ?_)
 refine .skip ?_
 refine .join3 (fun (remaining5_j35 : List Int) (users6_j35 : List (List Int)) (ready12_j35 : List Int) => ⟨[(1, .ptr 101 0 0 0), (4, .slc 104 1 0 out4_16.length), (5, .slc 105 1 0 n.cells.length), (6, .slc 106 1 0 n.widths.length), (7, .slc 107 1 0 n.widths.length), (12, .slc 112 1 0 ready12_j35.length), (71, .fz 6 (n.cells.map Cell.row)), (72, vi ((n.cells.length : Nat) : Int)), (73, vi (n73_23 : Int))], [(101, .cells (Netlist.row n)), (104, .rows 1 (out4_16.map irow)), (105, .rows 1 (remaining5_j35.map irow)), (106, .rows 1 (users6_j35.map orow)), (107, .rows 1 (comb7_10.map brow)), (112, .rows 1 (ready12_j35.map irow))]⟩) (fun (remaining5_j35 : List Int) (users6_j35 : List (List Int)) (ready12_j35 : List Int) => (remaining5_j35.length = n.cells.length) ∧ ((users6_j35.length = n.widths.length) ∧ (BI n (n73_23 + 1) remaining5_j35 users6_j35 ready12_j35))) ?_ (fun remaining5_j35 users6_j35 ready12_j35 hJx35 => ?_)
 refine .block (.sr ?_)
 refine .mv ?_
 refine .vl (Y.indexF (m := n73_23) sl23 rfl rfl (by first | rfl | omega) (row_getD (d := default) (by omega))) ?_
 refine .vl (Y.loadA sh39 rfl rfl (nbE rfl) rfl rfl) (.alloc 114 ze39 rfl rfl (by decide) ?_)
 refine .an ?_
 refine .storeC si39 rfl rfl rfl rfl rfl rfl (nbE rfl) rfl (.nil (.seq ?_))
 refine .sr ?_
 have hca := hs.args (n.cells.getD n73_23 default) (getD_mem' (by omega))
 have hrl := hbi.rl
 refine .fa fl39_0 ?_
 refine .ld sh3 ?_
 refine .callP ok21 (comb_spec (w := ((n.cells.getD n73_23 default).kind))) rfl (.keep rfl rfl .nil) (by decide) rfl (.vl (Y.not rfl) (.nil ?_))
 refine .cond rfl (fun c81 => ?_) (fun c81 => ?_)
 replace c81 : ¬ (Comb ((n.cells.getD n73_23 default).kind)) := by simpa using c81
 refine .exit ?_
 exact ⟨remaining5_23, users6_23, ready12_23, ⟨by omega, ⟨by omega, hbi.skip (by omega) c81⟩⟩, Le.mk (.c (.c (.c (.c (.c (.cons (look_slc rfl (by omega)) (.c (.c (.c (.nil)))))))))) (.c (.c (.c (.c (.c (.c (.nil)))))))⟩
 replace c81 : Comb ((n.cells.getD n73_23 default).kind) := by simpa using c81
 refine .skip (.seq (.sr ?_))
 refine .fa fl39_3 ?_
 refine .ld sh22 ?_
 refine .vl (Y.len (n := ((n.cells.getD n73_23 default).args).length) sl22 rfl (congrArg some (List.length_map ..))) ?_
 refine .mv ?_
 refine .nil (.block ?_)
 refine .loop3 (fun (n85_27 : Nat) (remaining5_27 : List Int) (users6_27 : List (List Int)) => ⟨[(1, .ptr 101 0 0 0), (4, .slc 104 1 0 out4_16.length), (5, .slc 105 1 0 n.cells.length), (6, .slc 106 1 0 n.widths.length), (7, .slc 107 1 0 n.widths.length), (12, .slc 112 1 0 ready12_23.length), (13, vi (n73_23 : Int)), (71, .fz 6 (n.cells.map Cell.row)), (72, vi ((n.cells.length : Nat) : Int)), (73, vi (n73_23 : Int)), (83, .fz 1 (((n.cells.getD n73_23 default).args).map irow)), (84, vi ((((n.cells.getD n73_23 default).args).length : Nat) : Int)), (85, vi (n85_27 : Int))], [(101, .cells (Netlist.row n)), (104, .rows 1 (out4_16.map irow)), (105, .rows 1 (remaining5_27.map irow)), (106, .rows 1 (users6_27.map orow)), (107, .rows 1 (comb7_10.map brow)), (112, .rows 1 (ready12_23.map irow))]⟩) (fun (n85_27 : Nat) (remaining5_27 : List Int) (users6_27 : List (List Int)) => (remaining5_27.length = n.cells.length) ∧ (users6_27.length = n.widths.length) ∧ ((n85_27 : Int) ≤ ((((n.cells.getD n73_23 default).args).length : Nat) : Int)) ∧ (BJ n n73_23 n85_27 remaining5_23 users6_23 remaining5_27 users6_27)) (fun (n85_27 : Nat) (remaining5_27 : List Int) (users6_27 : List (List Int)) => (((((n.cells.getD n73_23 default).args).length : Nat) : Int) - (n85_27 : Int)).toNat) 0 remaining5_23 users6_23 (⟨by omega, by omega, by omega, BJ.init hbi (by omega)⟩) (Le.mk (.c (.c (.c (.c (.c (.c (.c (.c (.c (.c (.c (.c (.cons (look_int rfl (by first | rfl | omega)) (.nil)))))))))))))) (.c (.c (.c (.c (.c (.c (.nil)))))))) (fun n85_27 remaining5_27 users6_27 hI27 => ?_)
 obtain ⟨hl105, hl106, hb27, hbj⟩ := hI27
 refine .sr (.vl (Y.lss rfl rfl) (.nil ?_))
 refine .seq ?_
 refine .condD rfl (fun c86 => ?_) (fun c86 => ?_)
 refine .skip ?_
 refine .join2 (fun (remaining5_j32 : List Int) (users6_j32 : List (List Int)) => ⟨[(1, .ptr 101 0 0 0), (4, .slc 104 1 0 out4_16.length), (5, .slc 105 1 0 n.cells.length), (6, .slc 106 1 0 n.widths.length), (7, .slc 107 1 0 n.widths.length), (12, .slc 112 1 0 ready12_23.length), (13, vi (n73_23 : Int)), (71, .fz 6 (n.cells.map Cell.row)), (72, vi ((n.cells.length : Nat) : Int)), (73, vi (n73_23 : Int)), (83, .fz 1 (((n.cells.getD n73_23 default).args).map irow)), (84, vi ((((n.cells.getD n73_23 default).args).length : Nat) : Int)), (85, vi (n85_27 : Int))], [(101, .cells (Netlist.row n)), (104, .rows 1 (out4_16.map irow)), (105, .rows 1 (remaining5_j32.map irow)), (106, .rows 1 (users6_j32.map orow)), (107, .rows 1 (comb7_10.map brow)), (112, .rows 1 (ready12_23.map irow))]⟩) (fun (remaining5_j32 : List Int) (users6_j32 : List (List Int)) => (remaining5_j32.length = n.cells.length) ∧ ((users6_j32.length = n.widths.length) ∧ (BJ n n73_23 (n85_27 + 1) remaining5_23 users6_23 remaining5_j32 users6_j32))) ?_ (fun remaining5_j32 users6_j32 hJx32 => ?_)
 refine .block (.sr ?_)
 refine .vl (Y.indexF (m := n85_27) sl22 rfl rfl (by first | rfl | omega) (row_getD (d := 0) (by omega))) ?_
 refine .ld sh3 ?_
 refine .an ?_
 refine .nil (.sr ?_)
 have hax := hf.argIn (i := (n73_23 : Int)) ⟨by omega, by omega⟩ (getD_mem (i := n85_27) (by rw [cell_nat]; omega))
 rw [cell_nat] at hax
 have hax2 := hax; unfold In at hax2
 have hbo := hbj.own_le
 have hbl := BJ.len hbi hbj hax
 have htt := tot_le hs (n73_23 + 1); rw [tot_succ (by omega)] at htt
 refine .mv ?_
 refine .mv ?_
 refine .vl (Y.indexO (m := (((n.cells.getD n73_23 default).args).getD n85_27 0).toNat) sl63 rfl rfl (by omega) (by omega)) ?_
 refine .vl (Y.load sh4 rfl (row_getD0 (d := false) (by omega)) rfl rfl) ?_
 refine .nil ?_
 refine .cond rfl (fun c92 => ?_) (fun c92 => ?_)
 refine .sr ?_
 refine .mv ?_
 refine .mv ?_
 refine .vl (Y.indexO (m := n73_23) sl22 rfl rfl (by first | rfl | omega) (by omega)) ?_
 refine .vl (Y.load sh3 rfl (row_getD0 (d := 0) (by first | omega | (simp [-List.getD_eq_getElem?_getD]; done) | (simp [-List.getD_eq_getElem?_getD]; omega) | (unfold In at *; omega))) rfl rfl) ?_
 refine .vl (Y.addI rfl rfl (by omega)) ?_
 refine .vl (Y.indexO (m := n73_23) sl22 rfl rfl (by first | rfl | omega) (by omega)) ?_
 refine .storeE ((remaining5_27.set n73_23 ((remaining5_27.getD n73_23 0) + 1)).map irow) si3 rfl rfl rfl rfl rfl rfl rfl (row_getD0 (d := 0) (by omega)) (nbE rfl) (set_map0 rfl) ?_
 refine .nil (.region ?_)
 refine .mv ?_
 refine .mv ?_
 refine .mv ?_
 refine .mv ?_
 refine .vl (Y.indexO (m := (((n.cells.getD n73_23 default).args).getD n85_27 0).toNat) sl92 rfl rfl (by omega) (by omega)) ?_
 refine .loadU ((users6_27.map orow).set (0 + ((((n.cells.getD n73_23 default).args).getD n85_27 0).toNat)) [.no]) sh22 rfl rfl (row_getD0 (d := []) (by omega)) rfl rfl (by decide) ?_
 refine .mv ?_
 refine .buildSlice (([(n73_23 : Int)] : List Int).map irow) sl22 ze3 rfl rfl rfl rfl rfl (uniform_map (s := 1) (f := irow) (fun _ => rfl)) rfl rfl rfl (by decide) ?_
 refine .sh (Sh.adoptE (d := 104) (n := (users6_27.getD ((((n.cells.getD n73_23 default).args).getD n85_27 0).toNat) []).length) 204 ((users6_27.getD ((((n.cells.getD n73_23 default).args).getD n85_27 0).toNat) []).map irow) rfl (by first | rfl | exact rep_map rfl) (len_map rfl) (by decide)) ?_
 refine .appendE (((users6_27.getD ((((n.cells.getD n73_23 default).args).getD n85_27 0).toNat) []) ++ ([(n73_23 : Int)] : List Int)).map irow) ((users6_27.getD ((((n.cells.getD n73_23 default).args).getD n85_27 0).toNat) []) ++ ([(n73_23 : Int)] : List Int)).length sl22 ze3 rfl rfl rfl rfl (app_le (by first | omega | (simp [-List.getD_eq_getElem?_getD]; done) | (simp [-List.getD_eq_getElem?_getD]; omega) | (unfold In at *; omega))) (app_map (by first | omega | (simp [-List.getD_eq_getElem?_getD]; done) | (simp [-List.getD_eq_getElem?_getD]; omega) | (unfold In at *; omega))) (app_n (by first | omega | (simp [-List.getD_eq_getElem?_getD]; done) | (simp [-List.getD_eq_getElem?_getD]; omega) | (unfold In at *; omega))) (by first | omega | (simp [-List.getD_eq_getElem?_getD]; done) | (simp [-List.getD_eq_getElem?_getD]; omega) | (unfold In at *; omega)) (by first | omega | (simp [-List.getD_eq_getElem?_getD]; done) | (simp [-List.getD_eq_getElem?_getD]; omega) | (unfold In at *; omega)) (by decide) (by decide) ?_
 refine .vl (Y.indexO (m := (((n.cells.getD n73_23 default).args).getD n85_27 0).toNat) sl92 rfl rfl (by omega) (by omega)) ?_
 refine .sh (Sh.detach (d := 107) (o := 204) rfl rfl (len_map (by omega)) (by decide)) ?_
 refine .storeUE ((users6_27.set ((((n.cells.getD n73_23 default).args).getD n85_27 0).toNat) ((users6_27.getD ((((n.cells.getD n73_23 default).args).getD n85_27 0).toNat) []) ++ ([(n73_23 : Int)] : List Int))).map orow) si22 rfl rfl rfl (out_get (by omega)) (by decide) (out_back rfl) ?_
 refine .nil ?_
 exact ⟨remaining5_27.set n73_23 ((remaining5_27.getD n73_23 0) + 1), users6_27.set ((((n.cells.getD n73_23 default).args).getD n85_27 0).toNat) ((users6_27.getD ((((n.cells.getD n73_23 default).args).getD n85_27 0).toNat) []) ++ ([(n73_23 : Int)] : List Int)), ⟨by first | omega | (simp [-List.getD_eq_getElem?_getD]; done) | (simp [-List.getD_eq_getElem?_getD]; omega) | (unfold In at *; omega), ⟨by first | omega | (simp [-List.getD_eq_getElem?_getD]; done) | (simp [-List.getD_eq_getElem?_getD]; omega) | (unfold In at *; omega), hbj.step (by omega) hl105 hl106 (by omega) hax ((CombInv.all hci2 hax).1 c92)⟩⟩, Le.mk (.c (.c (.c (.c (.c (.c (.c (.c (.c (.c (.c (.c (.c (.nil)))))))))))))) (.c (.c (.c (.c (.c (.c (.nil)))))))⟩
 refine .skip ?_
 exact ⟨remaining5_27, users6_27, ⟨by omega, ⟨by omega, hbj.skip (by omega) (fun h => by rw [(CombInv.all hci2 hax).2 h] at c92; cases c92)⟩⟩, Le.mk (.c (.c (.c (.c (.c (.c (.c (.c (.c (.c (.c (.c (.c (.nil)))))))))))))) (.c (.c (.c (.c (.c (.c (.nil)))))))⟩
 obtain ⟨hlj32_105, hlj32_106, hJ32⟩ := hJx32
 refine .region ?_
 refine .vl (Y.addI rfl rfl (by omega)) ?_
 refine .mv ?_
 refine .nil ?_
 exact ⟨n85_27 + 1, remaining5_j32, users6_j32, ⟨by omega, by omega, by omega, hJ32⟩, by omega, Le.mk (.c (.c (.c (.c (.c (.c (.c (.c (.c (.c (.c (.c (.cons (look_int rfl (by first | rfl | omega)) (.nil)))))))))))))) (.c (.c (.c (.c (.c (.c (.nil)))))))⟩
 refine .exit (.sr ?_)
 refine .mv ?_
 refine .mv ?_
 refine .vl (Y.indexO (m := n73_23) sl22 rfl rfl (by first | rfl | omega) (by omega)) ?_
 refine .vl (Y.load sh3 rfl (row_getD0 (d := 0) (by first | omega | (simp [-List.getD_eq_getElem?_getD]; done) | (simp [-List.getD_eq_getElem?_getD]; omega) | (unfold In at *; omega))) rfl rfl) ?_
 refine .vl (Y.eql rfl rfl) (.nil ?_)
 refine .condD rfl (fun c114 => ?_) (fun c114 => ?_)
 refine .region ?_
 refine .mv ?_
 refine .mv ?_
 refine .buildSlice (([(n73_23 : Int)] : List Int).map irow) sl22 ze3 rfl rfl rfl rfl rfl (uniform_map (s := 1) (f := irow) (fun _ => rfl)) rfl rfl rfl (by decide) ?_
 refine .appendE ((ready12_23 ++ ([(n73_23 : Int)] : List Int)).map irow) (ready12_23 ++ ([(n73_23 : Int)] : List Int)).length sl22 ze3 rfl rfl rfl rfl (app_le (by first | omega | (simp [-List.getD_eq_getElem?_getD]; done) | (simp [-List.getD_eq_getElem?_getD]; omega) | (unfold In at *; omega))) (app_map (by first | omega | (simp [-List.getD_eq_getElem?_getD]; done) | (simp [-List.getD_eq_getElem?_getD]; omega) | (unfold In at *; omega))) (app_n (by first | omega | (simp [-List.getD_eq_getElem?_getD]; done) | (simp [-List.getD_eq_getElem?_getD]; omega) | (unfold In at *; omega))) (by first | omega | (simp [-List.getD_eq_getElem?_getD]; done) | (simp [-List.getD_eq_getElem?_getD]; omega) | (unfold In at *; omega)) (by first | omega | (simp [-List.getD_eq_getElem?_getD]; done) | (simp [-List.getD_eq_getElem?_getD]; omega) | (unfold In at *; omega)) (by decide) (by decide) ?_
 refine .an ?_
 refine .nil ?_
 exact ⟨remaining5_27, users6_27, ready12_23 ++ ([(n73_23 : Int)] : List Int), ⟨by omega, ⟨by omega, (BJ.fin hbi (by omega) c81 (by rw [show (n.cells.getD n73_23 default).args.length = n85_27 by omega]; exact hbj)).1 c114⟩⟩, Le.mk (.c (.c (.c (.c (.c (.cons (look_slc rfl (by omega)) (.c (.c (.c (.nil)))))))))) (.c (.c (.c (.c (.c (.c (.nil)))))))⟩
 refine .skip ?_
 exact ⟨remaining5_27, users6_27, ready12_23, ⟨by omega, ⟨by omega, (BJ.fin hbi (by omega) c81 (by rw [show (n.cells.getD n73_23 default).args.length = n85_27 by omega]; exact hbj)).2 c114⟩⟩, Le.mk (.c (.c (.c (.c (.c (.cons (look_slc rfl (by omega)) (.c (.c (.c (.nil)))))))))) (.c (.c (.c (.c (.c (.c (.nil)))))))⟩
 obtain ⟨hlj35_105, hlj35_106, hJ35⟩ := hJx35
 refine .region ?_
 refine .vl (Y.addI rfl rfl (by omega)) ?_
 refine .mv ?_
 refine .nil ?_
 exact ⟨n73_23 + 1, remaining5_j35, users6_j35, ready12_j35, ⟨by omega, by omega, by omega, hJ35⟩, by omega, Le.mk (.c (.c (.c (.c (.c (.cons (look_slc rfl (by omega)) (.c (.c (.cons (look_int rfl (by first | rfl | omega)) (.nil)))))))))) (.c (.c (.c (.c (.c (.c (.nil)))))))⟩
 refine .exit (.seq (.block ?_))
 have hbi2 : BI n n.cells.length remaining5_23 users6_23 ready12_23 := by rw [show n.cells.length = n73_23 by omega]; exact hbi
 have hus := hbi2.us
 refine .sh (Sh.detach (d := 6) (o := 106) rfl rfl (len_map (by omega)) (by decide)) ?_
 refine .sh (Sh.freezeNest (d := 6) (l := users6_23) (f := orow) (g := lrow) orow_ffz rfl) ?_
 refine .loop3 (fun (out4_36 : List Int) (remaining5_36 : List Int) (ready12_36 : List Int) => ⟨[(1, .ptr 101 0 0 0), (4, .slc 104 1 0 out4_36.length), (5, .slc 105 1 0 n.cells.length), (6, .fz 1 (users6_23.map lrow)), (12, .slc 112 1 0 ready12_36.length)], [(101, .cells (Netlist.row n)), (104, .rows 1 (out4_36.map irow)), (105, .rows 1 (remaining5_36.map irow)), (112, .rows 1 (ready12_36.map irow))]⟩) (fun (out4_36 : List Int) (remaining5_36 : List Int) (ready12_36 : List Int) => (remaining5_36.length = n.cells.length) ∧ (∃ done, out4_36 = seqL n n.cells.length ++ done ∧ KI n done ready12_36 remaining5_36)) (fun (out4_36 : List Int) (remaining5_36 : List Int) (ready12_36 : List Int) => n.cells.length - out4_36.length) out4_16 remaining5_23 ready12_23 (⟨by omega, ⟨[], by rw [hsq, show n56_16 = n.cells.length by omega, List.append_nil], hbi2.ki⟩⟩) (Le.mk (.c (.cons (look_slc rfl (by omega)) (.c (.c (.cons (look_slc rfl (by omega)) (.nil)))))) (.c (.c (.c (.c (.nil)))))) (fun out4_36 remaining5_36 ready12_36 hI36 => ?_)
 obtain ⟨hl105, hK⟩ := hI36
 refine .seq (.sr ?_)
 refine .mv ?_
 refine .vl (Y.len (n := ready12_36.length) sl22 rfl rfl) (.vl (Y.gtr rfl rfl) (.nil ?_))
 refine .condD rfl (fun c122 => ?_) (fun c122 => ?_)
 obtain ⟨done, hout, hki⟩ := hK
 have hln := hki.len
 rw [← hout] at hln
 have hi0 := hki.cm (ready12_36.getD 0 0) (List.mem_append.2 (.inr (getD_mem (by omega))))
 have hib := hi0.1
 have hio := hf.outIn hi0.drives
 have hio2 := hio; unfold In Netlist.cell at hio2
 have hcu : ∀ x, CombAt n x → (users6_23.getD (((n.cells.getD ((ready12_36.getD 0 0).toNat) default).out).toNat) []).count x = (n.cell x).args.count (n.cell (ready12_36.getD 0 0)).out := fun x hx => hus.cnt _ x hio ⟨_, hi0, rfl⟩ hx
 have hmu : ∀ x ∈ (users6_23.getD (((n.cells.getD ((ready12_36.getD 0 0).toNat) default).out).toNat) []), CombAt n x := fun x hx => hus.mem _ x hio hx
 have hut := hbi2.ul _ hio; unfold Netlist.cell at hut
 have htt := tot_le hs n.cells.length
 refine .skip (.block (.sr ?_))
 refine .mv ?_
 refine .vl (Y.indexO (m := 0) sl22 rfl rfl (by first | rfl | omega) (by omega)) ?_
 refine .vl (Y.load sh3 rfl (row_getD0 (d := 0) (by first | omega | (simp [-List.getD_eq_getElem?_getD]; done) | (simp [-List.getD_eq_getElem?_getD]; omega) | (unfold In at *; omega))) rfl rfl) ?_
 refine .an ?_
 refine .nil (.sr ?_)
 refine .mv ?_
 refine .vl (Y.sliceO (l := 1) (h := ready12_36.length) sl22 rfl (.some rfl) (.none _) (by omega) (by omega)) ?_
 refine .an ?_
 refine .sh (Sh.trimE (d := 12) (o := 112) ((ready12_36.drop 1).map irow) rfl rfl (by first | omega | (simp [-List.getD_eq_getElem?_getD]; done) | (simp [-List.getD_eq_getElem?_getD]; omega) | (unfold In at *; omega)) (trim_drop (by first | omega | (simp [-List.getD_eq_getElem?_getD]; done) | (simp [-List.getD_eq_getElem?_getD]; omega) | (unfold In at *; omega))) (by decide)) ?_
 refine .nil (.sr ?_)
 refine .mv ?_
 refine .mv ?_
 refine .buildSlice (([ready12_36.getD 0 0] : List Int).map irow) sl22 ze3 rfl rfl rfl rfl rfl (uniform_map (s := 1) (f := irow) (fun _ => rfl)) rfl rfl rfl (by decide) ?_
 refine .appendE ((out4_36 ++ ([ready12_36.getD 0 0] : List Int)).map irow) (out4_36 ++ ([ready12_36.getD 0 0] : List Int)).length sl22 ze3 rfl rfl rfl rfl (app_le (by first | omega | (simp [-List.getD_eq_getElem?_getD]; done) | (simp [-List.getD_eq_getElem?_getD]; omega) | (unfold In at *; omega))) (app_map (by first | omega | (simp [-List.getD_eq_getElem?_getD]; done) | (simp [-List.getD_eq_getElem?_getD]; omega) | (unfold In at *; omega))) (app_n (by first | omega | (simp [-List.getD_eq_getElem?_getD]; done) | (simp [-List.getD_eq_getElem?_getD]; omega) | (unfold In at *; omega))) (by first | omega | (simp [-List.getD_eq_getElem?_getD]; done) | (simp [-List.getD_eq_getElem?_getD]; omega) | (unfold In at *; omega)) (by first | omega | (simp [-List.getD_eq_getElem?_getD]; done) | (simp [-List.getD_eq_getElem?_getD]; omega) | (unfold In at *; omega)) (by decide) (by decide) ?_
 refine .an ?_
 refine .nil (.sr ?_)
 refine .mv ?_
 refine .fa fl27_2 ?_
 refine .ld sh23 ?_
 refine .mv ?_
 refine .vl (Y.indexF (m := (ready12_36.getD 0 0).toNat) sl23 rfl rfl (by omega) (row_getD (d := default) (by omega))) ?_
 refine .fa fl39_2 ?_
 refine .ld sh3 ?_
 refine .vl (Y.indexF (m := ((n.cells.getD ((ready12_36.getD 0 0).toNat) default).out).toNat) sl92 rfl rfl (by omega) (row_getD (d := []) (by omega))) ?_
 refine .ld sh22 ?_
 refine .vl (Y.len (n := (users6_23.getD (((n.cells.getD ((ready12_36.getD 0 0).toNat) default).out).toNat) []).length) sl22 rfl (congrArg some (List.length_map ..))) ?_
 refine .mv ?_
 refine .nil (.block ?_)
 refine .loop3 (fun (n142_41 : Nat) (remaining5_41 : List Int) (ready12_41 : List Int) => ⟨[(1, .ptr 101 0 0 0), (4, .slc 104 1 0 ((out4_36 ++ ([ready12_36.getD 0 0] : List Int)).length)), (5, .slc 105 1 0 n.cells.length), (6, .fz 1 (users6_23.map lrow)), (12, .slc 112 1 0 ready12_41.length), (140, .fz 1 ((users6_23.getD (((n.cells.getD ((ready12_36.getD 0 0).toNat) default).out).toNat) []).map irow)), (141, vi (((users6_23.getD (((n.cells.getD ((ready12_36.getD 0 0).toNat) default).out).toNat) []).length : Nat) : Int)), (142, vi (n142_41 : Int))], [(101, .cells (Netlist.row n)), (104, .rows 1 ((out4_36 ++ ([ready12_36.getD 0 0] : List Int)).map irow)), (105, .rows 1 (remaining5_41.map irow)), (112, .rows 1 (ready12_41.map irow))]⟩) (fun (n142_41 : Nat) (remaining5_41 : List Int) (ready12_41 : List Int) => (remaining5_41.length = n.cells.length) ∧ ((n142_41 : Int) ≤ (((users6_23.getD (((n.cells.getD ((ready12_36.getD 0 0).toNat) default).out).toNat) []).length : Nat) : Int)) ∧ (KJ n done (ready12_36.getD 0 0) (users6_23.getD (((n.cells.getD ((ready12_36.getD 0 0).toNat) default).out).toNat) []) n142_41 ready12_41 remaining5_41)) (fun (n142_41 : Nat) (remaining5_41 : List Int) (ready12_41 : List Int) => ((((users6_23.getD (((n.cells.getD ((ready12_36.getD 0 0).toNat) default).out).toNat) []).length : Nat) : Int) - (n142_41 : Int)).toNat) 0 remaining5_36 (ready12_36.drop 1) (⟨by first | omega | (simp [-List.getD_eq_getElem?_getD]; done) | (simp [-List.getD_eq_getElem?_getD]; omega) | (unfold In at *; omega), by first | omega | (simp [-List.getD_eq_getElem?_getD]; done) | (simp [-List.getD_eq_getElem?_getD]; omega) | (unfold In at *; omega), KJ.init hki (by omega)⟩) (Le.mk (.c (.c (.c (.c (.cons (look_slc rfl (by first | omega | (simp [-List.getD_eq_getElem?_getD]; done) | (simp [-List.getD_eq_getElem?_getD]; omega) | (unfold In at *; omega))) (.c (.c (.cons (look_int rfl (by first | rfl | omega)) (.nil))))))))) (.c (.c (.c (.c (.nil)))))) (fun n142_41 remaining5_41 ready12_41 hI41 => ?_)
 obtain ⟨hl105, hb41, hkj⟩ := hI41
 refine .sr (.vl (Y.lss rfl rfl) (.nil ?_))
 refine .seq ?_
 refine .condD rfl (fun c143 => ?_) (fun c143 => ?_)
 refine .skip ?_
 refine .join1 (fun (ready12_j46 : List Int) => ⟨[(1, .ptr 101 0 0 0), (4, .slc 104 1 0 ((out4_36 ++ ([ready12_36.getD 0 0] : List Int)).length)), (5, .slc 105 1 0 n.cells.length), (6, .fz 1 (users6_23.map lrow)), (12, .slc 112 1 0 ready12_j46.length), (140, .fz 1 ((users6_23.getD (((n.cells.getD ((ready12_36.getD 0 0).toNat) default).out).toNat) []).map irow)), (141, vi (((users6_23.getD (((n.cells.getD ((ready12_36.getD 0 0).toNat) default).out).toNat) []).length : Nat) : Int)), (142, vi (n142_41 : Int))], [(101, .cells (Netlist.row n)), (104, .rows 1 ((out4_36 ++ ([ready12_36.getD 0 0] : List Int)).map irow)), (105, .rows 1 ((remaining5_41.set (((users6_23.getD (((n.cells.getD ((ready12_36.getD 0 0).toNat) default).out).toNat) []).getD n142_41 0).toNat) ((remaining5_41.getD (((users6_23.getD (((n.cells.getD ((ready12_36.getD 0 0).toNat) default).out).toNat) []).getD n142_41 0).toNat) 0) - 1)).map irow)), (112, .rows 1 (ready12_j46.map irow))]⟩) (fun (ready12_j46 : List Int) => KJ n done (ready12_36.getD 0 0) (users6_23.getD (((n.cells.getD ((ready12_36.getD 0 0).toNat) default).out).toNat) []) (n142_41 + 1) ready12_j46 (remaining5_41.set ((users6_23.getD (((n.cells.getD ((ready12_36.getD 0 0).toNat) default).out).toNat) []).getD n142_41 0).toNat (remaining5_41.getD ((users6_23.getD (((n.cells.getD ((ready12_36.getD 0 0).toNat) default).out).toNat) []).getD n142_41 0).toNat 0 - 1))) ?_ (fun ready12_j46 hJ46 => ?_)
 refine .block (.sr ?_)
 refine .vl (Y.indexF (m := n142_41) sl22 rfl rfl (by first | rfl | omega) (row_getD (d := 0) (by omega))) ?_
 refine .ld sh3 ?_
 refine .an ?_
 refine .nil (.sr ?_)
 have hkb := hkj.bound hf hs (by omega) hcu hmu
 have hkr := (hmu _ (getD_mem (l := (users6_23.getD (((n.cells.getD ((ready12_36.getD 0 0).toNat) default).out).toNat) [])) (i := n142_41) (by omega))).1
 refine .mv ?_
 refine .mv ?_
 refine .vl (Y.indexO (m := ((users6_23.getD (((n.cells.getD ((ready12_36.getD 0 0).toNat) default).out).toNat) []).getD n142_41 0).toNat) sl22 rfl rfl (by omega) (by omega)) ?_
 refine .vl (Y.load sh3 rfl (row_getD0 (d := 0) (by first | omega | (simp [-List.getD_eq_getElem?_getD]; done) | (simp [-List.getD_eq_getElem?_getD]; omega) | (unfold In at *; omega))) rfl rfl) ?_
 refine .vl (Y.subI rfl rfl (by omega)) ?_
 refine .vl (Y.indexO (m := ((users6_23.getD (((n.cells.getD ((ready12_36.getD 0 0).toNat) default).out).toNat) []).getD n142_41 0).toNat) sl22 rfl rfl (by omega) (by omega)) ?_
 refine .storeE ((remaining5_41.set (((users6_23.getD (((n.cells.getD ((ready12_36.getD 0 0).toNat) default).out).toNat) []).getD n142_41 0).toNat) ((remaining5_41.getD (((users6_23.getD (((n.cells.getD ((ready12_36.getD 0 0).toNat) default).out).toNat) []).getD n142_41 0).toNat) 0) - 1)).map irow) si3 rfl rfl rfl rfl rfl rfl rfl (row_getD0 (d := 0) (by omega)) (nbE rfl) (set_map0 rfl) ?_
 refine .nil (.sr ?_)
 refine .mv ?_
 refine .mv ?_
 refine .vl (Y.indexO (m := ((users6_23.getD (((n.cells.getD ((ready12_36.getD 0 0).toNat) default).out).toNat) []).getD n142_41 0).toNat) sl22 rfl rfl (by omega) (by omega)) ?_
 refine .vl (Y.load sh3 rfl (row_getD0 (d := 0) (by first | omega | (simp [-List.getD_eq_getElem?_getD]; done) | (simp [-List.getD_eq_getElem?_getD]; omega) | (unfold In at *; omega))) rfl rfl) ?_
 refine .vl (Y.eql rfl rfl) (.nil ?_)
 refine .condD rfl (fun c156 => ?_) (fun c156 => ?_)
 rw [getD_set, if_pos ⟨rfl, by omega⟩] at c156
 refine .region ?_
 refine .mv ?_
 refine .mv ?_
 refine .buildSlice (([(users6_23.getD (((n.cells.getD ((ready12_36.getD 0 0).toNat) default).out).toNat) []).getD n142_41 0] : List Int).map irow) sl22 ze3 rfl rfl rfl rfl rfl (uniform_map (s := 1) (f := irow) (fun _ => rfl)) rfl rfl rfl (by decide) ?_
 refine .appendE ((ready12_41 ++ ([(users6_23.getD (((n.cells.getD ((ready12_36.getD 0 0).toNat) default).out).toNat) []).getD n142_41 0] : List Int)).map irow) (ready12_41 ++ ([(users6_23.getD (((n.cells.getD ((ready12_36.getD 0 0).toNat) default).out).toNat) []).getD n142_41 0] : List Int)).length sl22 ze3 rfl rfl rfl rfl (app_le (by first | omega | (simp [-List.getD_eq_getElem?_getD]; done) | (simp [-List.getD_eq_getElem?_getD]; omega) | (unfold In at *; omega))) (app_map (by first | omega | (simp [-List.getD_eq_getElem?_getD]; done) | (simp [-List.getD_eq_getElem?_getD]; omega) | (unfold In at *; omega))) (app_n (by first | omega | (simp [-List.getD_eq_getElem?_getD]; done) | (simp [-List.getD_eq_getElem?_getD]; omega) | (unfold In at *; omega))) (by first | omega | (simp [-List.getD_eq_getElem?_getD]; done) | (simp [-List.getD_eq_getElem?_getD]; omega) | (unfold In at *; omega)) (by first | omega | (simp [-List.getD_eq_getElem?_getD]; done) | (simp [-List.getD_eq_getElem?_getD]; omega) | (unfold In at *; omega)) (by decide) (by decide) ?_
 refine .an ?_
 refine .nil ?_
 exact ⟨ready12_41 ++ ([(users6_23.getD (((n.cells.getD ((ready12_36.getD 0 0).toNat) default).out).toNat) []).getD n142_41 0] : List Int), (hkj.step hf hl105 (by omega) hcu hmu).1 c156, Le.mk (.c (.c (.c (.c (.cons (look_slc rfl (by omega)) (.c (.c (.c (.nil))))))))) (.c (.c (.c (.c (.nil)))))⟩
 rw [getD_set, if_pos ⟨rfl, by omega⟩] at c156
 refine .skip ?_
 exact ⟨ready12_41, (hkj.step hf hl105 (by omega) hcu hmu).2 c156, Le.mk (.c (.c (.c (.c (.cons (look_slc rfl (by omega)) (.c (.c (.c (.nil))))))))) (.c (.c (.c (.c (.nil)))))⟩
 refine .region ?_
 refine .vl (Y.addI rfl rfl (by omega)) ?_
 refine .mv ?_
 refine .nil ?_
 exact ⟨n142_41 + 1, remaining5_41.set (((users6_23.getD (((n.cells.getD ((ready12_36.getD 0 0).toNat) default).out).toNat) []).getD n142_41 0).toNat) ((remaining5_41.getD (((users6_23.getD (((n.cells.getD ((ready12_36.getD 0 0).toNat) default).out).toNat) []).getD n142_41 0).toNat) 0) - 1), ready12_j46, ⟨by first | omega | (simp [-List.getD_eq_getElem?_getD]; done) | (simp [-List.getD_eq_getElem?_getD]; omega) | (unfold In at *; omega), by first | omega | (simp [-List.getD_eq_getElem?_getD]; done) | (simp [-List.getD_eq_getElem?_getD]; omega) | (unfold In at *; omega), hJ46⟩, by omega, Le.mk (.c (.c (.c (.c (.cons (look_slc rfl (by first | omega | (simp [-List.getD_eq_getElem?_getD]; done) | (simp [-List.getD_eq_getElem?_getD]; omega) | (unfold In at *; omega))) (.c (.c (.cons (look_int rfl (by first | rfl | omega)) (.nil))))))))) (.c (.c (.c (.c (.nil)))))⟩
 refine .exit ?_
 exact ⟨out4_36 ++ ([ready12_36.getD 0 0] : List Int), remaining5_41, ready12_41, ⟨by omega, ⟨done ++ [(ready12_36.getD 0 0)], by rw [hout, List.append_assoc], KJ.fin hf hki (getD_mem (by omega)) (by rw [show (users6_23.getD (((n.cells.getD ((ready12_36.getD 0 0).toNat) default).out).toNat) []).length = n142_41 by omega]; exact hkj) hcu⟩⟩, by rw [List.length_append]; simp only [List.length_cons, List.length_nil]; omega, Le.mk (.c (.cons (look_slc rfl (by omega)) (.c (.c (.cons (look_slc rfl (by omega)) (.nil)))))) (.c (.c (.c (.c (.nil)))))⟩
 obtain ⟨done, hout, hki⟩ := hK
 have hr0 : ready12_36 = [] := List.eq_nil_of_length_eq_zero (by omega)
 subst hr0
 refine .exit (.seq (.sr ?_))
 refine .mv ?_
 refine .vl (Y.len (n := out4_36.length) sl22 rfl rfl) ?_
 refine .fa fl27_2 ?_
 refine .ld sh23 ?_
 refine .vl (Y.len (n := n.cells.length) sl23 rfl (congrArg some (List.length_map ..))) (.vl (Y.lss rfl rfl) (.nil ?_))
 refine .condD rfl (fun c167 => ?_) (fun c167 => ?_)
 refine .sr ?_
 refine .an ?_
 refine .an ?_
 refine .nil (.sh (Sh.nilU (d := 2) 1 rfl) (.ret ?_))
 exact ⟨_, _, rfl, rfl, ([] : List Int), 12, .inr (.inr (.inl ⟨hf, hft, hki.cycle (by rw [← hout]; omega), rfl, rfl⟩)), rfl, rfl⟩
 refine .skip (.sr ?_)
 refine .mv ?_
 refine .an ?_
 refine .sh (Sh.detach (d := 2) (o := 104) rfl rfl (len_map (by omega)) (by decide)) ?_
 refine .an ?_
 refine .nil (.ret ?_)
 exact ⟨_, _, rfl, rfl, out4_36, 0, .inr (.inr (.inr ⟨hf, hft, (hki.ok hf (by rw [← hout]; omega)).1, by rw [hout]; exact (hki.ok hf (by rw [← hout]; omega)).2, rfl⟩)), rfl, rfl⟩
end Go.Proofs.Ytligpghohcfpnaa
/- Walks of Arrivals, drivers, Reverse. -/
namespace Go.Proofs.Ytligpghohcfpnaa
open Go Go.AW Go.Proofs



set_option maxRecDepth 4000 in
set_option maxHeartbeats 1000000 in
theorem arrivals_spec {n : Netlist} (hM : VT n) : ACalls Try.prog 46 [.agg (Netlist.row n)] [] [] (fun r o => ∃ l at_ : List Int, Ord n l ∧ Arv n at_ ∧ r = .tup [.uni 1 (at_.map irow), .v (.int .i64 0)] ∧ o = []) := by
 refine ACalls.of Try.func46 rfl rfl rfl (n := 67) (by decide) (Nat.le_of_ble_eq_true rfl) ?_
 have hs := hM.small; have hf := hM.formed; have hnc := hM.ncells; have hnw := hM.nwidths; have hna := hM.nargs; have hnr := hM.nrets; have hns := hM.nstreams; have hac := hf.nactive; have hda := hf.ndata; have hni := hM.nins; have hFt := hM.fit; have hAc := hM.acyclic
 refine AWp.sr (AOps.box 101 rfl rfl rfl rfl rfl (by decide) ?_)
 refine .an ?_
 refine .an ?_
 refine AOps.nil (AWp.seq (AWp.sh (Sh.freezeO 101 rfl rfl) ?_))
 refine AWp.region (.vl (Y.loadA sh27 rfl rfl (Nat.le_of_ble_eq_true rfl) rfl rfl) (AOps.callV ok20 (order_spec (n := n) hs (by omega)) rfl (.keep rfl rfl .nil) (by decide) ?_))
 rintro _ ⟨l15, e15, ho15, rfl, _⟩
 refine ⟨rfl, ?_⟩
 refine AOps.moveX rfl (by decide) (AOps.extractU rfl rfl (by decide) (.vl (Y.extract rfl rfl rfl) ?_))
 refine AOps.assignX rfl (by decide) (AOps.sh (Sh.freezeE (d := 4) (l15.map irow) rfl (by first | rfl | exact rep_map rfl) (Frees.map irow_frees)) ?_)
 refine .an ?_
 refine AOps.nil (AWp.seq (AWp.seq ?_))
 obtain ⟨hO, hO2⟩ := ho15.ok hf hFt hAc; have hol := hO.len
 refine AWp.region ?_
 refine .mv ?_
 refine .vl (Y.neq rfl rfl) (AOps.nil ?_)
 refine AWp.condD rfl (fun c19 => ?_) (fun c19 => ?_)
 exact absurd hO2 c19
 refine AWp.skip (AWp.sr ?_)
 refine .fa fl27_1 ?_
 refine .ld sh22 ?_
 refine .vl (Y.len (n := n.widths.length) sl22 rfl (congrArg some (List.length_map ..))) ?_
 refine AOps.makeSlice (n := n.widths.length) sl22 ze3 rfl rfl rfl rfl (by omega) (by omega) (by decide) ?_
 refine AOps.assignX rfl (by decide) (AOps.sh (Sh.adoptE (d := 6) (n := n.widths.length) 106 ((List.replicate n.widths.length 0).map irow) rfl (by first | rfl | exact rep_map rfl) (len_map (by simp)) (by decide)) (AOps.nil ?_))
 refine AWp.seq (AWp.sr ?_)
 refine .mv ?_
 refine .vl (Y.len (n := l15.length) sl22 rfl (congrArg some (List.length_map ..))) ?_
 refine .mv ?_
 refine AOps.nil (AWp.block ?_)
 refine AWp.loop2 (fun (n27_6 : Nat) (out6_6 : List Int) => ⟨[(1, .fp (Netlist.row n) 0), (6, .slc 106 1 0 n.widths.length), (25, .fz 1 (l15.map irow)), (26, .v (.int .i64 ((l15.length : Nat) : Int))), (27, .v (.int .i64 (n27_6 : Int)))], [(106, .rows 1 (out6_6.map irow))]⟩) (fun (n27_6 : Nat) (out6_6 : List Int) => (out6_6.length = n.widths.length) ∧ ((n27_6 : Int) ≤ ((l15.length : Nat) : Int)) ∧ (ArrK n l15 n27_6 out6_6)) (fun (n27_6 : Nat) (out6_6 : List Int) => (((l15.length : Nat) : Int) - (n27_6 : Int)).toNat) 0 (List.replicate n.widths.length 0) (⟨by first | omega | (simp [-List.getD_eq_getElem?_getD]; done) | (simp [-List.getD_eq_getElem?_getD]; omega), by first | omega | (simp [-List.getD_eq_getElem?_getD]; done) | (simp [-List.getD_eq_getElem?_getD]; omega), ArrK.init⟩) (Le.mk (.c (.c (.c (.c (.cons (look_int rfl (by first | rfl | omega)) (.nil)))))) (.c (.nil))) (fun n27_6 out6_6 hI6 => ?_)
 obtain ⟨hl106, hb6, hA⟩ := hI6
 refine AWp.sr (.vl (Y.lss rfl rfl) (AOps.nil ?_))
 refine AWp.seq ?_
 refine AWp.condD rfl (fun c28 => ?_) (fun c28 => ?_)
 refine AWp.skip ?_
 refine AWp.join1 (fun (out6_j18 : List Int) => ⟨[(1, .fp (Netlist.row n) 0), (6, .slc 106 1 0 n.widths.length), (25, .fz 1 (l15.map irow)), (26, .v (.int .i64 ((l15.length : Nat) : Int))), (27, .v (.int .i64 (n27_6 : Int)))], [(106, .rows 1 (out6_j18.map irow))]⟩) (fun (out6_j18 : List Int) => (out6_j18.length = n.widths.length) ∧ (ArrK n l15 (n27_6 + 1) out6_j18)) ?_ (fun out6_j18 hJx18 => ?_)
 refine AWp.block (AWp.sr ?_)
 refine .vl (Y.indexF (m := n27_6) sl22 rfl rfl (by first | rfl | omega) (row_getD (d := 0) (by omega))) ?_
 refine .ld sh3 ?_
 refine .an ?_
 refine AOps.nil (AWp.seq ?_)
 have h8 := hO.rng (l15.getD n27_6 0) (getD_mem (by omega))
 refine AWp.region ?_
 refine .fa fl27_2 ?_
 refine .ld sh23 ?_
 refine .mv ?_
 refine .vl (Y.indexF (m := (l15.getD n27_6 0).toNat) sl23 rfl rfl (by omega) (row_getD (d := default) (by omega))) ?_
 refine .vl (Y.loadA sh39 rfl rfl (Nat.le_of_ble_eq_true rfl) rfl rfl) (AOps.alloc 109 ze39 rfl rfl (by decide) (AOps.storeC si39 rfl rfl rfl rfl rfl rfl (Nat.le_of_ble_eq_true rfl) rfl ?_))
 refine AOps.nil (AWp.seq (AWp.seq ?_))
 have h9 := hna (n.cells.getD (l15.getD n27_6 0).toNat default) (getD_in (by omega)); have h9c := hf.cells (l15.getD n27_6 0).toNat (by omega); have h9o := out_or hf (j := (l15.getD n27_6 0).toNat) (by omega)
 refine AWp.region ?_
 refine .fa fl39_2 ?_
 refine .ld sh3 ?_
 refine .vl (Y.lss rfl rfl) (AOps.nil ?_)
 refine AWp.condD rfl (fun c38 => ?_) (fun c38 => ?_)
 refine AWp.exit ?_
 exact ⟨out6_6, ⟨by omega, by first | exact hA.set17 hf hO (by omega) (by assumption) hJ17 | exact hA.skip hO (by omega) (out_neg hf (by omega) (by assumption))⟩, Le.mk (.c (.c (.c (.c (.c (.nil)))))) (.c (.nil))⟩
 refine AWp.skip (AWp.sr ?_)
 refine .an ?_
 refine AOps.nil ?_
 refine AWp.join1 (fun (t10_j17 : Int) => ⟨[(1, .fp (Netlist.row n) 0), (6, .slc 106 1 0 n.widths.length), (9, .ptr 109 0 0 0), (10, .v (.int .i64 t10_j17)), (25, .fz 1 (l15.map irow)), (26, .v (.int .i64 ((l15.length : Nat) : Int))), (27, .v (.int .i64 (n27_6 : Int)))], [(106, .rows 1 (out6_6.map irow)), (109, .cells [.v (.int .i64 ((n.cells.getD ((l15.getD n27_6 0).toNat) default).kind)), .v (.int .i64 ((n.cells.getD ((l15.getD n27_6 0).toNat) default).op)), .v (.int .i64 ((n.cells.getD ((l15.getD n27_6 0).toNat) default).out)), .fz 1 (((n.cells.getD ((l15.getD n27_6 0).toNat) default).args).map irow), .v (.int .u64 (((n.cells.getD ((l15.getD n27_6 0).toNat) default).num : Nat) : Int)), .v (.int .i64 ((n.cells.getD ((l15.getD n27_6 0).toNat) default).mem))])]⟩) (fun (t10_j17 : Int) => t10_j17 = (if Comb (n.cells.getD (l15.getD n27_6 0).toNat default).kind then maxA out6_6 (n.cells.getD (l15.getD n27_6 0).toNat default).args else 0)) ?_ (fun t10_j17 hJ17 => ?_)
 refine AWp.sr ?_
 refine .fa fl39_0 ?_
 refine .ld sh3 ?_
 refine AOps.callP ok21 (comb_spec (w := ((n.cells.getD ((l15.getD n27_6 0).toNat) default).kind))) rfl (.keep rfl rfl .nil) (by decide) rfl (AOps.nil ?_)
 refine AWp.condD rfl (fun c41 => ?_) (fun c41 => ?_)
 refine AWp.sr ?_
 refine .fa fl39_3 ?_
 refine .ld sh22 ?_
 refine .vl (Y.len (n := ((n.cells.getD ((l15.getD n27_6 0).toNat) default).args).length) sl22 rfl (congrArg some (List.length_map ..))) ?_
 refine .mv ?_
 refine AOps.nil (AWp.block ?_)
 refine AWp.loop2 (fun (t10_13 : Int) (n45_13 : Nat) => ⟨[(1, .fp (Netlist.row n) 0), (6, .slc 106 1 0 n.widths.length), (9, .ptr 109 0 0 0), (10, .v (.int .i64 t10_13)), (25, .fz 1 (l15.map irow)), (26, .v (.int .i64 ((l15.length : Nat) : Int))), (27, .v (.int .i64 (n27_6 : Int))), (43, .fz 1 (((n.cells.getD ((l15.getD n27_6 0).toNat) default).args).map irow)), (44, .v (.int .i64 ((((n.cells.getD ((l15.getD n27_6 0).toNat) default).args).length : Nat) : Int))), (45, .v (.int .i64 (n45_13 : Int)))], [(106, .rows 1 (out6_6.map irow)), (109, .cells [.v (.int .i64 ((n.cells.getD ((l15.getD n27_6 0).toNat) default).kind)), .v (.int .i64 ((n.cells.getD ((l15.getD n27_6 0).toNat) default).op)), .v (.int .i64 ((n.cells.getD ((l15.getD n27_6 0).toNat) default).out)), .fz 1 (((n.cells.getD ((l15.getD n27_6 0).toNat) default).args).map irow), .v (.int .u64 (((n.cells.getD ((l15.getD n27_6 0).toNat) default).num : Nat) : Int)), .v (.int .i64 ((n.cells.getD ((l15.getD n27_6 0).toNat) default).mem))])]⟩) (fun (t10_13 : Int) (n45_13 : Nat) => ((n45_13 : Int) ≤ ((((n.cells.getD ((l15.getD n27_6 0).toNat) default).args).length : Nat) : Int)) ∧ (t10_13 = maxA out6_6 ((n.cells.getD (l15.getD n27_6 0).toNat default).args.take n45_13))) (fun (t10_13 : Int) (n45_13 : Nat) => (((((n.cells.getD ((l15.getD n27_6 0).toNat) default).args).length : Nat) : Int) - (n45_13 : Int)).toNat) 0 0 (⟨by omega, rfl⟩) (Le.mk (.c (.c (.c (.cons (look_int rfl (by first | rfl | omega)) (.c (.c (.c (.c (.c (.cons (look_int rfl (by first | rfl | omega)) (.nil))))))))))) (.c (.c (.nil)))) (fun t10_13 n45_13 hI13 => ?_)
 obtain ⟨hb13, ht⟩ := hI13
 refine AWp.sr (.vl (Y.lss rfl rfl) (AOps.nil ?_))
 refine AWp.seq ?_
 refine AWp.condD rfl (fun c46 => ?_) (fun c46 => ?_)
 refine AWp.skip (AWp.seq (AWp.block ?_))
 refine AWp.sr ?_
 refine .vl (Y.indexF (m := n45_13) sl22 rfl rfl (by first | rfl | omega) (row_getD (d := 0) (by omega))) ?_
 refine .ld sh3 ?_
 refine .an ?_
 refine AOps.nil ?_
 have h15 := h9c.1 ((n.cells.getD (l15.getD n27_6 0).toNat default).args.getD n45_13 0) (getD_mem (by omega)); unfold In at h15
 refine AWp.region ?_
 refine .mv ?_
 refine .mv ?_
 refine .mv ?_
 refine .vl (Y.indexO (m := (((n.cells.getD ((l15.getD n27_6 0).toNat) default).args).getD n45_13 0).toNat) sl22 rfl rfl (by omega) (by omega)) ?_
 refine .vl (Y.load sh3 rfl (row_getD0 (d := 0) (by omega)) rfl rfl) ?_
 refine .vl (Y.max rfl rfl rfl) ?_
 refine .an ?_
 refine AOps.nil (AWp.region ?_)
 refine .vl (Y.addI rfl rfl (by omega)) ?_
 refine .mv ?_
 refine AOps.nil ?_
 exact ⟨if (out6_6.getD ((((n.cells.getD ((l15.getD n27_6 0).toNat) default).args).getD n45_13 0).toNat) 0) > t10_13 then (out6_6.getD ((((n.cells.getD ((l15.getD n27_6 0).toNat) default).args).getD n45_13 0).toNat) 0) else t10_13, n45_13 + 1, ⟨by omega, maxA_ife ht (by omega)⟩, by omega, Le.mk (.c (.c (.c (.cons (look_int rfl (by first | rfl | omega)) (.c (.c (.c (.c (.c (.cons (look_int rfl (by first | rfl | omega)) (.nil))))))))))) (.c (.c (.nil)))⟩
 refine AWp.exit ?_
 exact ⟨t10_13, by first | (rw [if_pos (by assumption), ht, show n45_13 = (n.cells.getD (l15.getD n27_6 0).toNat default).args.length by omega, List.take_length]) | rw [if_neg (by assumption)], Le.mk (.c (.c (.c (.cons (look_int rfl (by first | rfl | omega)) (.c (.c (.c (.nil)))))))) (.c (.c (.nil)))⟩
 refine AWp.skip ?_
 exact ⟨0, by first | (rw [if_pos (by assumption), ht, show n45_13 = (n.cells.getD (l15.getD n27_6 0).toNat default).args.length by omega, List.take_length]) | rw [if_neg (by assumption)], Le.mk (.c (.c (.c (.cons (look_int rfl (by first | rfl | omega)) (.c (.c (.c (.nil)))))))) (.c (.c (.nil)))⟩
 have h17 := hA.in17 hM hO (by omega) hJ17; have h17d := hM.dly (i := (l15.getD n27_6 0).toNat) (by omega)
 refine AWp.regionHeld [109] [106, 109] rfl (AFirst.blind 0 rfl (by kernel_rfl) (Blind.move rfl rfl) (by decide) (AFirst.blind 1 rfl (by kernel_rfl) (Blind.fieldAddr fl39_2 rfl rfl) (by decide) ?_))
 refine AFirst.load 2 rfl (by kernel_rfl) sh3 rfl rfl rfl rfl rfl (by decide) (AFirst.blind 3 rfl (by kernel_rfl) (Blind.move rfl rfl) (by decide) (AFirst.loadA 4 rfl (by kernel_rfl) sh27 rfl rfl rfl (Nat.le_of_ble_eq_true rfl) rfl rfl (by decide) ?_))
 refine AFirst.loadA 5 rfl (by kernel_rfl) sh39 rfl rfl rfl (Nat.le_of_ble_eq_true rfl) rfl rfl (by decide) (AFirst.goL rfl rfl (namesIn.cells rfl rfl rfl namesIn.nil) (AHeld.one 6 rfl (by kernel_rfl) ?_))
 refine AOps.callP ok41 (tcell_spec (n := n) (c := (n.cells.getD ((l15.getD n27_6 0).toNat) default)) hf.wides (hf.cells _ (by omega)) (hna _ (getD_in (by omega))) (by omega)) rfl (.keep rfl rfl (.keep rfl rfl .nil)) (by decide) rfl ?_
 refine AOps.nil ⟨rfl, ?_⟩
 refine AHeld.one 7 rfl (by kernel_rfl) ?_
 refine .vl (Y.addI rfl rfl (by omega)) ?_
 refine AOps.nil ⟨rfl, ?_⟩
 refine AHeld.one 8 rfl (by kernel_rfl) ?_
 refine .vl (Y.indexO (m := ((n.cells.getD ((l15.getD n27_6 0).toNat) default).out).toNat) sl22 rfl rfl (by omega) (by omega)) ?_
 refine AOps.nil ⟨rfl, ?_⟩
 refine AHeld.one 9 rfl (by kernel_rfl) ?_
 refine AOps.storeE ((out6_6.set (((n.cells.getD ((l15.getD n27_6 0).toNat) default).out).toNat) (t10_j17 + (dly n (n.cells.getD ((l15.getD n27_6 0).toNat) default)))).map irow) si3 rfl rfl rfl rfl rfl rfl rfl (row_getD0 (d := 0) (by omega)) (Nat.le_of_ble_eq_true rfl) (set_map0 rfl) ?_
 refine AOps.nil ⟨rfl, ?_⟩
 refine AHeld.done (by kernel_rfl) ?_
 exact ⟨out6_6.set (((n.cells.getD ((l15.getD n27_6 0).toNat) default).out).toNat) (t10_j17 + (dly n (n.cells.getD ((l15.getD n27_6 0).toNat) default))), ⟨by first | omega | (simp [-List.getD_eq_getElem?_getD]; done) | (simp [-List.getD_eq_getElem?_getD]; omega), by first | exact hA.set17 hf hO (by omega) (by assumption) hJ17 | exact hA.skip hO (by omega) (out_neg hf (by omega) (by assumption))⟩, Le.mk (.c (.c (.c (.c (.c (.nil)))))) (.c (.nil))⟩
 obtain ⟨hlj18_106, hJ18⟩ := hJx18
 refine AWp.region ?_
 refine .vl (Y.addI rfl rfl (by omega)) ?_
 refine .mv ?_
 refine AOps.nil ?_
 exact ⟨n27_6 + 1, out6_j18, ⟨by omega, by omega, hJ18⟩, by omega, Le.mk (.c (.c (.c (.c (.cons (look_int rfl (by first | rfl | omega)) (.nil)))))) (.c (.nil))⟩
 refine AWp.exit (AWp.sr ?_)
 refine .mv ?_
 refine .an ?_
 refine AOps.sh (Sh.detach (d := 2) (o := 106) rfl rfl (len_map (by omega)) (by decide)) ?_
 refine .an ?_
 refine AOps.nil (AWp.ret ?_)
 exact ⟨_, _, rfl, rfl, l15, out6_6, hO, hA.done hO (by omega), rfl, rfl⟩

end Go.Proofs.Ytligpghohcfpnaa
/- Walks of drivers and Reverse. -/
namespace Go.Proofs.Ytligpghohcfpnaa
open Go Go.AW Go.Proofs



set_option maxRecDepth 4000 in
set_option maxHeartbeats 1000000 in
theorem driversC_spec {n : Netlist} (hM : VT n) : ACalls Try.prog 81 [.agg (Netlist.row n)] [] [] (fun r o => ∃ cs : List Cell, DrvC n cs ∧ r = .uni 6 (cs.map Cell.row) ∧ o = []) := by
 refine ACalls.of Try.func81 rfl rfl rfl (n := 27) (by decide) (Nat.le_of_ble_eq_true rfl) ?_
 have hs := hM.small; have hf := hM.formed; have hnc := hM.ncells; have hnw := hM.nwidths; have hna := hM.nargs; have hnr := hM.nrets; have hns := hM.nstreams; have hac := hf.nactive; have hda := hf.ndata
 refine AWp.sr (AOps.box 101 rfl rfl rfl rfl rfl (by decide) ?_)
 refine .an ?_
 refine AOps.nil (AWp.seq (AWp.sh (Sh.freezeO 101 rfl rfl) ?_))
 refine AWp.region ?_
 refine .fa fl27_1 ?_
 refine .ld sh22 ?_
 refine .vl (Y.len (n := n.widths.length) sl22 rfl (congrArg some (List.length_map ..))) ?_
 refine AOps.makeSlice (n := n.widths.length) sl23 ze39 rfl rfl rfl rfl (by omega) (by omega) (by decide) ?_
 refine AOps.sh (Sh.reZ (d := 9) (z' := Cell.row (⟨0, 0, 0, [], 0, 0⟩ : Cell)) rfl rfl rfl (.same (.same (.same (.nilfz (.same (.same .nil))))))) (AOps.assignX rfl (by decide) (AOps.sh (Sh.adoptE (d := 3) (n := (List.replicate n.widths.length (⟨0, 0, 0, [], 0, 0⟩ : Cell)).length) 103 ((List.replicate n.widths.length (⟨0, 0, 0, [], 0, 0⟩ : Cell)).map Cell.row) rfl (by first | rfl | exact rep_map rfl) (len_map rfl) (by decide)) ?_))
 refine AOps.nil (AWp.seq (AWp.sr ?_))
 refine .fa fl27_2 ?_
 refine .ld sh23 ?_
 refine .vl (Y.len (n := n.cells.length) sl23 rfl (congrArg some (List.length_map ..))) ?_
 refine .mv ?_
 refine AOps.nil (AWp.block ?_)
 refine AWp.loop2 (fun (n13_3 : Nat) (out3_3 : List Cell) => ⟨[(3, .slc 103 6 0 ((List.replicate n.widths.length (⟨0, 0, 0, [], 0, 0⟩ : Cell)).length)), (11, .fz 6 (n.cells.map Cell.row)), (12, .v (.int .i64 ((n.cells.length : Nat) : Int))), (13, .v (.int .i64 (n13_3 : Int)))], [(103, .rows 6 (out3_3.map Cell.row))]⟩) (fun (n13_3 : Nat) (out3_3 : List Cell) => (out3_3.length = (List.replicate n.widths.length (⟨0, 0, 0, [], 0, 0⟩ : Cell)).length) ∧ ((n13_3 : Int) ≤ ((n.cells.length : Nat) : Int)) ∧ (DrvCK n n13_3 out3_3)) (fun (n13_3 : Nat) (out3_3 : List Cell) => (((n.cells.length : Nat) : Int) - (n13_3 : Int)).toNat) 0 (List.replicate n.widths.length (⟨0, 0, 0, [], 0, 0⟩ : Cell)) (⟨by omega, by omega, DrvCK.init⟩) (Le.mk (.c (.c (.c (.cons (look_int rfl (by first | rfl | omega)) (.nil))))) (.c (.nil))) (fun n13_3 out3_3 hI3 => ?_)
 obtain ⟨hl103, hb3, hD⟩ := hI3
 refine AWp.sr (.vl (Y.lss rfl rfl) (AOps.nil ?_))
 refine AWp.seq ?_
 refine AWp.condD rfl (fun c14 => ?_) (fun c14 => ?_)
 refine AWp.skip ?_
 refine AWp.join1 (fun (out3_j7 : List Cell) => ⟨[(3, .slc 103 6 0 ((List.replicate n.widths.length (⟨0, 0, 0, [], 0, 0⟩ : Cell)).length)), (11, .fz 6 (n.cells.map Cell.row)), (12, .v (.int .i64 ((n.cells.length : Nat) : Int))), (13, .v (.int .i64 (n13_3 : Int)))], [(103, .rows 6 (out3_j7.map Cell.row))]⟩) (fun (out3_j7 : List Cell) => (out3_j7.length = (List.replicate n.widths.length (⟨0, 0, 0, [], 0, 0⟩ : Cell)).length) ∧ (DrvCK n (n13_3 + 1) out3_j7)) ?_ (fun out3_j7 hJx7 => ?_)
 refine AWp.block (AWp.sr ?_)
 refine .vl (Y.indexF (m := n13_3) sl23 rfl rfl (by first | rfl | omega) (row_getD (d := default) (by omega))) ?_
 refine .vl (Y.loadA sh39 rfl rfl (Nat.le_of_ble_eq_true rfl) rfl rfl) (AOps.alloc 105 ze39 rfl rfl (by decide) (AOps.storeC si39 rfl rfl rfl rfl rfl rfl (Nat.le_of_ble_eq_true rfl) rfl ?_))
 refine AOps.nil (AWp.seq ?_)
 have h5 := out_or hf (j := n13_3) (by omega); have h5l := hD.len
 refine AWp.region ?_
 refine .fa fl39_2 ?_
 refine .ld sh3 ?_
 refine .vl (Y.geq rfl rfl) (AOps.nil ?_)
 refine AWp.condD rfl (fun c19 => ?_) (fun c19 => ?_)
 refine AWp.region ?_
 refine .mv ?_
 refine .fa fl39_2 ?_
 refine .ld sh3 ?_
 refine .vl (Y.loadA sh39 rfl rfl (Nat.le_of_ble_eq_true rfl) rfl rfl) ?_
 refine .vl (Y.indexO (m := ((n.cells.getD n13_3 default).out).toNat) sl23 rfl rfl (by first | omega | simp [-List.getD_eq_getElem?_getD] <;> omega) (by first | omega | simp [-List.getD_eq_getElem?_getD] <;> omega)) ?_
 refine AOps.storeE ((out3_3.set (((n.cells.getD n13_3 default).out).toNat) (n.cells.getD n13_3 default)).map Cell.row) si39 rfl rfl rfl rfl rfl rfl rfl (row_getD0 (d := default) (by first | omega | simp [-List.getD_eq_getElem?_getD] <;> omega)) (Nat.le_of_ble_eq_true rfl) (set_map0 rfl) ?_
 refine AOps.nil ?_
 exact ⟨out3_3.set (((n.cells.getD n13_3 default).out).toNat) (n.cells.getD n13_3 default), ⟨by first | omega | (simp [-List.getD_eq_getElem?_getD]; done) | (simp [-List.getD_eq_getElem?_getD]; omega), by first | exact hD.set hf (by omega) (by assumption) | exact hD.skip hf (by omega) (by assumption)⟩, Le.mk (.c (.c (.c (.c (.nil))))) (.c (.nil))⟩
 refine AWp.skip ?_
 exact ⟨out3_3, ⟨by omega, by first | exact hD.set hf (by omega) (by assumption) | exact hD.skip hf (by omega) (by assumption)⟩, Le.mk (.c (.c (.c (.c (.nil))))) (.c (.nil))⟩
 obtain ⟨hlj7_103, hJ7⟩ := hJx7
 refine AWp.region ?_
 refine .vl (Y.addI rfl rfl (by omega)) ?_
 refine .mv ?_
 refine AOps.nil ?_
 exact ⟨n13_3 + 1, out3_j7, ⟨by omega, by omega, hJ7⟩, by omega, Le.mk (.c (.c (.c (.cons (look_int rfl (by first | rfl | omega)) (.nil))))) (.c (.nil))⟩
 refine AWp.exit (AWp.sr ?_)
 refine .mv ?_
 refine .an ?_
 refine AOps.sh (Sh.detach (d := 2) (o := 103) rfl rfl (len_map (by omega)) (by decide)) ?_
 refine AOps.nil (AWp.ret ?_)
 exact ⟨_, _, rfl, rfl, out3_3, hD.done (by omega), rfl, rfl⟩

set_option maxRecDepth 4000 in
set_option maxHeartbeats 1000000 in
theorem reverse_spec {l : List Int} (hl : l.length ≤ 17592186043904) : ACalls Try.prog 82 [.slc 0 1 0 l.length] [.rows 1 (l.map irow)] [0] (fun r o => r = .tup [] ∧ o = [.rows 1 (l.reverse.map irow)]) := by
 refine ACalls.of Try.func82 rfl rfl rfl (n := 28) (by decide) (Nat.le_of_ble_eq_true rfl) (AWp.sr ?_)
 refine .mv ?_
 refine .vl (Y.len (n := l.length) sl22 rfl rfl) ?_
 refine .vl (Y.subI rfl rfl (by first | omega | simp [-List.getD_eq_getElem?_getD] <;> omega)) ?_
 refine .an ?_
 refine .an ?_
 refine AOps.nil (AWp.block ?_)
 refine AWp.loop3 (fun (i2_1 : Int) (j3_1 : Int) (m_1 : List Int) => ⟨[(0, .slc 0 1 0 l.length), (2, .v (.int .i64 i2_1)), (3, .v (.int .i64 j3_1))], [(0, .rows 1 (m_1.map irow))]⟩) (fun (i2_1 : Int) (j3_1 : Int) (m_1 : List Int) => (m_1.length = l.length) ∧ (Rvs l m_1 i2_1 j3_1)) (fun (i2_1 : Int) (j3_1 : Int) (m_1 : List Int) => (j3_1 - i2_1).toNat) 0 (((l.length : Nat) : Int) - 1) l (⟨by omega, Rvs.init l⟩) (Le.mk (.c (.cons (look_int rfl (by first | rfl | omega)) (.cons (look_int rfl (by first | rfl | omega)) (.nil)))) (.c (.nil))) (fun i2_1 j3_1 m_1 hI1 => ?_)
 obtain ⟨hl0, hR⟩ := hI1
 refine AWp.seq (AWp.sr ?_)
 refine .mv ?_
 refine .mv ?_
 refine .vl (Y.lss rfl rfl) (AOps.nil ?_)
 refine AWp.condD rfl (fun c9 => ?_) (fun c9 => ?_)
 refine AWp.skip (AWp.seq (AWp.block ?_))
 have h3 := hR.sum; have h3b := hR.i0; have h3c := hR.len
 refine AWp.regionAny rfl (AAny.blind 0 rfl (by kernel_rfl) (Blind.move rfl rfl) (by decide) (AAny.blind 1 rfl (by kernel_rfl) (Blind.move rfl rfl) (by decide) ?_))
 refine AAny.blind 2 rfl (by kernel_rfl) (Blind.move rfl rfl) (by decide) (AAny.blind 3 rfl (by kernel_rfl) (Blind.move rfl rfl) (by decide) (AAny.quietN (n := 3) [4, 5, 6, 7, 8, 9, 10, 11, 12] [13, 14, 15] 13 rfl (by kernel_rfl) ?_))
 refine .cn 4 rfl (Y.move rfl rfl) (.cn 5 rfl (Y.move rfl rfl) ?_)
 refine .cn 6 rfl (Y.indexO (m := (j3_1).toNat) sl22 rfl rfl (by omega) (by omega)) ?_
 refine .cn 7 rfl (Y.load sh3 rfl (row_getD0 (d := 0) (by omega)) rfl rfl) ?_
 refine .cn 8 rfl (Y.move rfl rfl) (.cn 9 rfl (Y.move rfl rfl) ?_)
 refine .cn 10 rfl (Y.indexO (m := (i2_1).toNat) sl22 rfl rfl (by omega) (by omega)) ?_
 refine .cn 11 rfl (Y.load sh3 rfl (row_getD0 (d := 0) (by omega)) rfl rfl) ?_
 refine .cn 12 rfl (Y.indexO (m := (i2_1).toNat) sl22 rfl rfl (by omega) (by omega)) ?_
 refine AQ.nil (AAny.one 13 rfl (by kernel_rfl) ?_)
 refine AOps.storeE ((m_1.set ((i2_1).toNat) (m_1.getD ((j3_1).toNat) 0)).map irow) si3 rfl rfl rfl rfl rfl rfl rfl (row_getD0 (d := 0) (by omega)) (Nat.le_of_ble_eq_true rfl) (set_map0 rfl) ?_
 refine AOps.nil ⟨rfl, ?_⟩
 refine AAny.quietN (n := 1) [14] [15] 15 rfl (by kernel_rfl) ?_
 refine .cn 14 rfl (Y.indexO (m := (j3_1).toNat) sl22 rfl rfl (by omega) (by omega)) ?_
 refine AQ.nil (AAny.one 15 rfl (by kernel_rfl) ?_)
 refine AOps.storeE (((m_1.set ((i2_1).toNat) (m_1.getD ((j3_1).toNat) 0)).set ((j3_1).toNat) (m_1.getD ((i2_1).toNat) 0)).map irow) si3 rfl rfl rfl rfl rfl rfl rfl (row_getD0 (d := 0) (by first | omega | simp [-List.getD_eq_getElem?_getD] <;> omega)) (Nat.le_of_ble_eq_true rfl) (set_map0 rfl) ?_
 refine AOps.nil ⟨rfl, ?_⟩
 refine AAny.done (by kernel_rfl) (AWp.region ?_)
 refine .mv ?_
 refine .vl (Y.addI rfl rfl (by omega)) ?_
 refine .mv ?_
 refine .vl (Y.subI rfl rfl (by first | omega | simp [-List.getD_eq_getElem?_getD] <;> omega)) ?_
 refine .an ?_
 refine .an ?_
 refine AOps.nil ?_
 exact ⟨i2_1 + 1, j3_1 - 1, (m_1.set ((i2_1).toNat) (m_1.getD ((j3_1).toNat) 0)).set ((j3_1).toNat) (m_1.getD ((i2_1).toNat) 0), ⟨by first | omega | (simp [-List.getD_eq_getElem?_getD]; done) | (simp [-List.getD_eq_getElem?_getD]; omega), hR.step (by assumption)⟩, by omega, Le.mk (.c (.cons (look_int rfl (by first | rfl | omega)) (.cons (look_int rfl (by first | rfl | omega)) (.nil)))) (.c (.nil))⟩
 refine AWp.exit ?_
 exact ⟨_, _, rfl, rfl, rfl, by rw [hR.done (by omega)]⟩

end Go.Proofs.Ytligpghohcfpnaa
/- Walks of iterators. -/
namespace Go.Proofs.Ytligpghohcfpnaa
open Go Go.AW Go.Proofs



set_option maxRecDepth 4000 in
set_option maxHeartbeats 1000000 in
theorem port_spec {k : Int} : ACalls Try.prog 131 [.v (.int .i64 k)] [] [] (fun r o => r = .v (.bool (decide (Port k))) ∧ o = []) := by
 refine ACalls.of Try.func131 rfl rfl rfl (n := 13) (by decide) (Nat.le_of_ble_eq_true rfl) (AWp.sr ?_)
 refine .an ?_
 refine AOps.nil (AWp.sr ?_)
 refine .mv ?_
 refine .vl (Y.eql rfl rfl) ?_
 refine .mv ?_
 refine AOps.splitD (d := 5) rfl (fun c5 => ?_) (fun c5 => ?_)
 refine .gz 5 (.gz 5 ?_)
 refine .pk ?_
 refine .mv ?_
 refine .gz 9 (.gz 9 ?_)
 refine .pk ?_
 refine .an ?_
 refine AOps.nil (AWp.ret ?_)
 exact .rb rfl (dt (by (simp only [Port]) <;> (first | omega | grind)))
 refine .gw 5 (Y.move rfl rfl) (.gw 5 (Y.eql rfl rfl) ?_)
 refine .pk ?_
 refine .mv ?_
 refine AOps.splitD (d := 9) rfl (fun c9 => ?_) (fun c9 => ?_)
 refine .gz 9 (.gz 9 ?_)
 refine .pk ?_
 refine .an ?_
 refine AOps.nil (AWp.ret ?_)
 exact .rb rfl (dt (by (simp only [Port]) <;> (first | omega | grind)))
 refine .gw 9 (Y.move rfl rfl) (.gw 9 (Y.eql rfl rfl) ?_)
 refine .pk ?_
 refine .an ?_
 refine AOps.nil (AWp.ret ?_)
 exact .rb rfl (dd (by (simp only [Port]) <;> (first | omega | grind)))

set_option maxRecDepth 4000 in
set_option maxHeartbeats 1000000 in
theorem ends_it {n : Netlist} (hM : VT n) : ItCalls Try.prog 130 [.fp (Netlist.row n) 0] (endL n) := by
 refine ItCalls.of Try.func130 rfl rfl (n := 67) rfl (Nat.le_of_ble_eq_true rfl) (fun yc ix hgood => ?_) rfl
 have hs := hM.small; have hf := hM.formed; have hnc := hM.ncells; have hnw := hM.nwidths; have hna := hM.nargs; have hnr := hM.nrets; have hns := hM.nstreams; have hac := hf.nactive; have hda := hf.ndata
 refine AWpI.seq (AWpI.region ?_)
 refine .an ?_
 refine AOps.nil (AWpI.seq (AWpI.seq ?_))
 refine AWpI.region ?_
 refine .fa fl27_2 ?_
 refine .ld sh23 ?_
 refine .vl (Y.len (n := n.cells.length) sl23 rfl (congrArg some (List.length_map ..))) ?_
 refine .mv ?_
 refine AOps.nil (AWpI.block ?_)
 refine AWpI.loop3 (fun (ports3_2 : Bool) (n13_2 : Nat) (ix_2 : List (Int × Int)) => (ix_2, ⟨[(0, yc.v), (1, .fp (Netlist.row n) 0), (3, .v (.bool ports3_2)), (11, .fz 6 (n.cells.map Cell.row)), (12, .v (.int .i64 ((n.cells.length : Nat) : Int))), (13, .v (.int .i64 (n13_2 : Int)))], []⟩)) (fun (ports3_2 : Bool) (n13_2 : Nat) (ix_2 : List (Int × Int)) => ((n13_2 : Int) ≤ ((n.cells.length : Nat) : Int)) ∧ (ix_2 = ix ++ portL n n13_2) ∧ (ports3_2 = hasPort n n13_2)) (fun (ports3_2 : Bool) (n13_2 : Nat) (ix_2 : List (Int × Int)) => (((n.cells.length : Nat) : Int) - (n13_2 : Int)).toNat) false 0 ix (⟨by omega, by simp [portL], rfl⟩) (⟨rfl, Le.mk (.c (.c (.cons (look_bool rfl (by first | rfl | simp_all)) (.c (.c (.cons (look_int rfl (by first | rfl | omega)) (.nil))))))) (.nil)⟩) (fun ports3_2 n13_2 ix_2 hI2 => ?_)
 obtain ⟨hb2, hx, hp⟩ := hI2
 refine AWpI.seq (AWpI.region (.vl (Y.lss rfl rfl) ?_))
 refine AOps.nil (AWpI.seq ?_)
 refine AWpI.condD rfl (fun c14 => ?_) (fun c14 => ?_)
 refine AWpI.skip ?_
 refine AWpI.join2 (fun (ports3_j11 : Bool) (ix_j11 : List (Int × Int)) => (ix_j11, ⟨[(0, yc.v), (1, .fp (Netlist.row n) 0), (3, .v (.bool ports3_j11)), (11, .fz 6 (n.cells.map Cell.row)), (12, .v (.int .i64 ((n.cells.length : Nat) : Int))), (13, .v (.int .i64 (n13_2 : Int)))], []⟩)) (fun (ports3_j11 : Bool) (ix_j11 : List (Int × Int)) => ix_j11 = ix ++ portL n (n13_2 + 1) ∧ ports3_j11 = hasPort n (n13_2 + 1)) ?_ (fun ports3_j11 ix_j11 hJ11 => ?_)
 refine AWpI.block (AWpI.seq (AWpI.region ?_))
 refine .vl (Y.indexF (m := n13_2) sl23 rfl rfl (by first | rfl | omega) (row_getD (d := default) (by omega))) ?_
 refine .vl (Y.loadA sh39 rfl rfl (Nat.le_of_ble_eq_true rfl) rfl rfl) (AOps.alloc 105 ze39 rfl rfl (by decide) (AOps.storeC si39 rfl rfl rfl rfl rfl rfl (Nat.le_of_ble_eq_true rfl) rfl ?_))
 refine AOps.nil (AWpI.seq (AWpI.seq ?_))
 refine AWpI.region ?_
 refine .fa fl39_0 ?_
 refine .ld sh3 ?_
 refine AOps.callP ok131 (port_spec (k := ((n.cells.getD n13_2 default).kind))) rfl (.keep rfl rfl .nil) (by decide) rfl (.vl (Y.not rfl) (AOps.nil ?_))
 refine AWpI.cond rfl (fun c20 => ?_) (fun c20 => ?_)
 replace c20 : ¬ (Port ((n.cells.getD n13_2 default).kind)) := by simpa using c20
 refine AWpI.exit ?_
 exact ⟨ports3_2, ix_2, by first | exact port_no hx hp (by omega) (by assumption) | exact port_yes hx7 (by omega) (by omega) (by assumption), ⟨rfl, Le.mk (.c (.c (.cons (look_bool rfl (by first | rfl | simp_all)) (.c (.c (.c (.nil))))))) (.nil)⟩⟩
 replace c20 : Port ((n.cells.getD n13_2 default).kind) := by simpa using c20
 refine AWpI.skip (AWpI.seq (AWpI.region ?_))
 refine .an ?_
 refine AOps.nil (AWpI.seq ?_)
 have h6 := hna (n.cells.getD n13_2 default) (getD_in (by omega))
 refine AWpI.region ?_
 refine .fa fl39_3 ?_
 refine .ld sh22 ?_
 refine .vl (Y.len (n := ((n.cells.getD n13_2 default).args).length) sl22 rfl (congrArg some (List.length_map ..))) ?_
 refine .mv ?_
 refine AOps.nil (AWpI.block ?_)
 refine AWpI.loop2 (fun (n24_7 : Nat) (ix_7 : List (Int × Int)) => (ix_7, ⟨[(0, yc.v), (1, .fp (Netlist.row n) 0), (3, .v (.bool true)), (11, .fz 6 (n.cells.map Cell.row)), (12, .v (.int .i64 ((n.cells.length : Nat) : Int))), (13, .v (.int .i64 (n13_2 : Int))), (22, .fz 1 (((n.cells.getD n13_2 default).args).map irow)), (23, .v (.int .i64 ((((n.cells.getD n13_2 default).args).length : Nat) : Int))), (24, .v (.int .i64 (n24_7 : Int)))], []⟩)) (fun (n24_7 : Nat) (ix_7 : List (Int × Int)) => ((n24_7 : Int) ≤ ((((n.cells.getD n13_2 default).args).length : Nat) : Int)) ∧ (ix_7 = (ix ++ portL n n13_2) ++ ((n.cells.getD n13_2 default).args.take n24_7).map (fun w => (w, (20 : Int))))) (fun (n24_7 : Nat) (ix_7 : List (Int × Int)) => (((((n.cells.getD n13_2 default).args).length : Nat) : Int) - (n24_7 : Int)).toNat) 0 ix_2 (⟨by omega, by rw [hx]; simp⟩) (⟨rfl, Le.mk (.c (.c (.c (.c (.c (.c (.c (.c (.cons (look_int rfl (by first | rfl | omega)) (.nil)))))))))) (.nil)⟩) (fun n24_7 ix_7 hI7 => ?_)
 obtain ⟨hb7, hx7⟩ := hI7
 refine AWpI.seq (AWpI.region (.vl (Y.lss rfl rfl) ?_))
 refine AOps.nil (AWpI.seq ?_)
 refine AWpI.condD rfl (fun c25 => ?_) (fun c25 => ?_)
 refine AWpI.skip (AWpI.seq (AWpI.block ?_))
 refine AWpI.seq (AWpI.region ?_)
 refine .vl (Y.indexF (m := n24_7) sl22 rfl rfl (by first | rfl | omega) (row_getD (d := 0) (by omega))) ?_
 refine .ld sh3 ?_
 refine .an ?_
 refine AOps.nil (AWpI.seq (AWpI.regionY ?_))
 refine AOpsI.op ?_
 refine .mv ?_
 refine AOps.nil (AOpsI.op ?_)
 refine .mv ?_
 refine AOps.nil (AOpsI.yield rfl rfl (hgood _ (by first | exact end_port (by omega) (by assumption) (by omega) | exact end_frz (by rw [show n.cells.length = n13_2 by omega]; rw [← hp]; assumption) | exact end_oth (by omega) (by assumption))) (by decide) (AOpsI.op ?_))
 refine .vl (Y.not rfl) (AOps.nil (AOpsI.nil ?_))
 refine AWpI.condF rfl (AWpI.skip (AWpI.region ?_))
 refine .vl (Y.addI rfl rfl (by omega)) ?_
 refine .mv ?_
 refine AOps.nil ?_
 exact ⟨n24_7 + 1, ix_7 ++ [(((n.cells.getD n13_2 default).args).getD n24_7 0, 20)], ⟨by omega, by rw [hx7, take_one (d := (0 : Int)) (by omega), List.map_append, List.append_assoc]; rfl⟩, by omega, ⟨rfl, Le.mk (.c (.c (.c (.c (.c (.c (.c (.c (.cons (look_int rfl (by first | rfl | omega)) (.nil)))))))))) (.nil)⟩⟩
 refine AWpI.exit ?_
 exact ⟨true, ix_7, by first | exact port_no hx hp (by omega) (by assumption) | exact port_yes hx7 (by omega) (by omega) (by assumption), ⟨rfl, Le.mk (.c (.c (.cons (look_bool rfl (by first | rfl | simp_all)) (.c (.c (.c (.nil))))))) (.nil)⟩⟩
 refine AWpI.region ?_
 refine .vl (Y.addI rfl rfl (by omega)) ?_
 refine .mv ?_
 refine AOps.nil ?_
 exact ⟨ports3_j11, n13_2 + 1, ix_j11, ⟨by omega, hJ11.1, hJ11.2⟩, by omega, ⟨rfl, Le.mk (.c (.c (.cons (look_bool rfl (by first | rfl | simp_all)) (.c (.c (.cons (look_int rfl (by first | rfl | omega)) (.nil))))))) (.nil)⟩⟩
 refine AWpI.exit ?_
 refine AWpI.join1 (fun (ix_j13 : List (Int × Int)) => (ix_j13, ⟨[(0, yc.v), (1, .fp (Netlist.row n) 0)], []⟩)) (fun (ix_j13 : List (Int × Int)) => ix_j13 = ix ++ (portL n n.cells.length ++ frzE n (hasPort n n.cells.length) 20)) ?_ (fun ix_j13 hJ13 => ?_)
 refine AWpI.seq (AWpI.regionY (AOpsI.op ?_))
 refine .mv ?_
 refine AOps.nil (AOpsI.op ?_)
 refine .mv ?_
 refine AOps.nil ?_
 refine AOpsI.split (d := 35) rfl (fun c35 => ?_) (fun c35 => ?_)
 refine AOpsI.op (.gw 35 (Y.move rfl rfl) (AOps.nil ?_))
 refine AOpsI.op (.gw 35 (Y.fieldAddr fl27_8 rfl rfl) (AOps.nil ?_))
 refine AOpsI.op (.gw 35 (Y.load sh3 rfl rfl rfl rfl) (AOps.nil ?_))
 refine AOpsI.guardRun (d := 35) rfl (by decide) rfl (AOpsI.yield rfl rfl (hgood _ (by first | exact end_port (by omega) (by assumption) (by omega) | exact end_frz (by rw [show n.cells.length = n13_2 by omega]; rw [← hp]; assumption) | exact end_oth (by omega) (by assumption))) (by decide) (AOpsI.op ?_))
 refine .gw 35 (Y.not rfl) (AOps.nil (AOpsI.op ?_))
 refine .pk ?_
 refine AOps.nil (AOpsI.nil (AWpI.condF rfl ?_))
 refine AWpI.skip ?_
 exact ⟨ix_2 ++ [(n.freeze, 20)], by rw [show n.cells.length = n13_2 by omega, ← hp, hx]; first | (rw [show ports3_2 = true by assumption]; simp [frzE]) | (rw [show ports3_2 = false by assumption]; simp [frzE]), ⟨rfl, Le.mk (.c (.c (.nil))) (.nil)⟩⟩
 refine AOpsI.op (.gz 35 (AOps.nil ?_))
 refine AOpsI.op (.gz 35 (AOps.nil ?_))
 refine AOpsI.op (.gz 35 (AOps.nil ?_))
 refine AOpsI.op (.gz 35 (AOps.nil ?_))
 refine AOpsI.op (.gz 35 (AOps.nil ?_))
 refine AOpsI.op ?_
 refine .pk ?_
 refine AOps.nil (AOpsI.nil (AWpI.condF rfl ?_))
 refine AWpI.skip ?_
 exact ⟨ix_2, by rw [show n.cells.length = n13_2 by omega, ← hp, hx]; first | (rw [show ports3_2 = true by assumption]; simp [frzE]) | (rw [show ports3_2 = false by assumption]; simp [frzE]), ⟨rfl, Le.mk (.c (.c (.nil))) (.nil)⟩⟩
 refine AWpI.seq ?_
 have hrl := rest_len hf hnr hns
 refine AWpI.region ?_
 refine .fa fl27_9 ?_
 refine .ld sh3 ?_
 refine AOps.buildSlice (([n.done] : List Int).map irow) sl22 ze3 rfl rfl rfl rfl rfl (uniform_map (s := 1) (f := irow) (fun _ => rfl)) rfl rfl rfl (by decide) ?_
 refine .fa fl27_10 ?_
 refine .ld sh22 ?_
 refine .fa fl27_6 ?_
 refine .ld sh22 ?_
 refine .fa fl27_7 ?_
 refine .ld sh22 ?_
 refine AOps.sh (Sh.freezeE (d := 44) (([n.done] : List Int).map irow) rfl (by first | rfl | exact rep_map rfl) (Frees.map irow_frees)) ?_
 refine AOps.buildSlice (([([n.done] : List Int), n.rets, n.active, n.data] : List (List Int)).map lrow) sl92 ze22 rfl rfl rfl rfl rfl (uniform_map (s := 1) (f := lrow) (fun _ => rfl)) rfl rfl rfl (by decide) ?_
 refine AOps.sh (Sh.freezeE (d := 51) (([([n.done] : List Int), n.rets, n.active, n.data] : List (List Int)).map lrow) rfl (by first | rfl | exact rep_map rfl) (Frees.map lrow_frees)) (AOps.callP ok72 (concat_spec (ls := ([([n.done] : List Int), n.rets, n.active, n.data] : List (List Int))) (by simp) (by simp; omega)) rfl (.keep rfl rfl .nil) (by decide) rfl (.vl (Y.len (n := (([([n.done] : List Int), n.rets, n.active, n.data] : List (List Int)).flatten).length) sl22 rfl (congrArg some (List.length_map ..))) ?_))
 refine .mv ?_
 refine AOps.nil (AWpI.block (AWpI.sh (Sh.freezeE (d := 52) ((([([n.done] : List Int), n.rets, n.active, n.data] : List (List Int)).flatten).map irow) rfl (by first | rfl | exact rep_map rfl) (Frees.map irow_frees)) ?_))
 refine AWpI.loop2 (fun (n54_14 : Nat) (ix_14 : List (Int × Int)) => (ix_14, ⟨[(0, yc.v), (52, .fz 1 ((([([n.done] : List Int), n.rets, n.active, n.data] : List (List Int)).flatten).map irow)), (53, .v (.int .i64 (((([([n.done] : List Int), n.rets, n.active, n.data] : List (List Int)).flatten).length : Nat) : Int))), (54, .v (.int .i64 (n54_14 : Int)))], []⟩)) (fun (n54_14 : Nat) (ix_14 : List (Int × Int)) => ((n54_14 : Int) ≤ (((([([n.done] : List Int), n.rets, n.active, n.data] : List (List Int)).flatten).length : Nat) : Int)) ∧ (ix_14 = (ix ++ (portL n n.cells.length ++ frzE n (hasPort n n.cells.length) 20)) ++ othL (([([n.done] : List Int), n.rets, n.active, n.data] : List (List Int)).flatten) n54_14)) (fun (n54_14 : Nat) (ix_14 : List (Int × Int)) => ((((([([n.done] : List Int), n.rets, n.active, n.data] : List (List Int)).flatten).length : Nat) : Int) - (n54_14 : Int)).toNat) 0 ix_j13 (⟨by omega, by rw [hJ13]; simp [othL]⟩) (⟨rfl, Le.mk (.c (.c (.c (.cons (look_int rfl (by first | rfl | omega)) (.nil))))) (.nil)⟩) (fun n54_14 ix_14 hI14 => ?_)
 obtain ⟨hb14, hx14⟩ := hI14
 refine AWpI.seq (AWpI.region (.vl (Y.lss rfl rfl) ?_))
 refine AOps.nil (AWpI.seq ?_)
 refine AWpI.condD rfl (fun c55 => ?_) (fun c55 => ?_)
 refine AWpI.skip ?_
 refine AWpI.join1 (fun (ix_j17 : List (Int × Int)) => (ix_j17, ⟨[(0, yc.v), (52, .fz 1 ((([([n.done] : List Int), n.rets, n.active, n.data] : List (List Int)).flatten).map irow)), (53, .v (.int .i64 (((([([n.done] : List Int), n.rets, n.active, n.data] : List (List Int)).flatten).length : Nat) : Int))), (54, .v (.int .i64 (n54_14 : Int)))], []⟩)) (fun (ix_j17 : List (Int × Int)) => ix_j17 = (ix ++ (portL n n.cells.length ++ frzE n (hasPort n n.cells.length) 20)) ++ othL (([([n.done] : List Int), n.rets, n.active, n.data] : List (List Int)).flatten) (n54_14 + 1)) ?_ (fun ix_j17 hJ17 => ?_)
 refine AWpI.block (AWpI.seq (AWpI.region ?_))
 refine .vl (Y.indexF (m := n54_14) sl22 rfl rfl (by first | rfl | omega) (row_getD (d := 0) (by omega))) ?_
 refine .ld sh3 ?_
 refine .an ?_
 refine AOps.nil (AWpI.seq (AWpI.regionY ?_))
 refine AOpsI.op ?_
 refine .mv ?_
 refine AOps.nil (AOpsI.op (.vl (Y.geq rfl rfl) ?_))
 refine AOps.nil (AOpsI.op ?_)
 refine .mv ?_
 refine AOps.nil ?_
 refine AOpsI.splitD (d := 60) rfl (fun c60 => ?_) (fun c60 => ?_)
 refine AOpsI.op (.gw 60 (Y.move rfl rfl) (AOps.nil ?_))
 refine AOpsI.op (.gw 60 (Y.move rfl rfl) (AOps.nil ?_))
 refine AOpsI.guardRun (d := 60) rfl (by decide) rfl (AOpsI.yield rfl rfl (hgood _ (by first | exact end_port (by omega) (by assumption) (by omega) | exact end_frz (by rw [show n.cells.length = n13_2 by omega]; rw [← hp]; assumption) | exact end_oth (by omega) (by assumption))) (by decide) (AOpsI.op ?_))
 refine .gw 60 (Y.not rfl) (AOps.nil (AOpsI.op ?_))
 refine .pk ?_
 refine AOps.nil (AOpsI.nil (AWpI.condF rfl ?_))
 refine AWpI.skip ?_
 exact ⟨ix_14 ++ [((([([n.done] : List Int), n.rets, n.active, n.data] : List (List Int)).flatten).getD n54_14 0, 0)], by first | (rw [othL_succ (by omega), if_pos (by assumption), hx14]; simp only [List.append_assoc]) | (rw [othL_succ (by omega), if_neg (by assumption), hx14]; simp), ⟨rfl, Le.mk (.c (.c (.c (.c (.nil))))) (.nil)⟩⟩
 refine AOpsI.op (.gz 60 (AOps.nil ?_))
 refine AOpsI.op (.gz 60 (AOps.nil ?_))
 refine AOpsI.op (.gz 60 (AOps.nil ?_))
 refine AOpsI.op (.gz 60 (AOps.nil ?_))
 refine AOpsI.op ?_
 refine .pk ?_
 refine AOps.nil (AOpsI.nil (AWpI.condF rfl ?_))
 refine AWpI.skip ?_
 exact ⟨ix_14, by first | (rw [othL_succ (by omega), if_pos (by assumption), hx14]; simp only [List.append_assoc]) | (rw [othL_succ (by omega), if_neg (by assumption), hx14]; simp), ⟨rfl, Le.mk (.c (.c (.c (.c (.nil))))) (.nil)⟩⟩
 refine AWpI.region ?_
 refine .vl (Y.addI rfl rfl (by omega)) ?_
 refine .mv ?_
 refine AOps.nil ?_
 exact ⟨n54_14 + 1, ix_j17, ⟨by omega, hJ17⟩, by omega, ⟨rfl, Le.mk (.c (.c (.c (.cons (look_int rfl (by first | rfl | omega)) (.nil))))) (.nil)⟩⟩
 refine AWpI.exit ?_
 exact ⟨.inl rfl, by show ix_14 = _; rw [hx14, show n54_14 = (([([n.done] : List Int), n.rets, n.active, n.data] : List (List Int)).flatten).length by omega]; simp [endL]⟩

set_option maxRecDepth 4000 in
set_option maxHeartbeats 1000000 in
theorem ends_spec {n : Netlist} : ACalls Try.prog 112 [.agg (Netlist.row n)] [] [] (fun r o => r = .clo (.func 130) [] [.fp (Netlist.row n) 0] ∧ o = []) := by
 refine ACalls.of Try.func112 rfl rfl rfl (n := 4) (by decide) (Nat.le_of_ble_eq_true rfl) (AWp.sr (AOps.box 101 rfl rfl rfl rfl rfl (by decide) ?_))
 refine .an ?_
 refine AOps.nil (AWp.sr (AOps.sh (Sh.freezeO 101 rfl rfl) ?_))
 refine .vl (Y.makeFunc rfl rfl rfl rfl) ?_
 refine .an ?_
 refine AOps.nil (AWp.ret ?_)
 exact ⟨_, _, rfl, rfl, rfl, rfl⟩

set_option maxRecDepth 4000 in
set_option maxHeartbeats 1000000 in
theorem all_it {n : Netlist} (hM : VT n) : ItCalls Try.prog 111 [.fp (Netlist.row n) 0] (allL n) := by
 refine ItCalls.of Try.func111 rfl rfl (n := 45) rfl (Nat.le_of_ble_eq_true rfl) (fun yc ix hgood => ?_) rfl
 have hs := hM.small; have hf := hM.formed; have hnc := hM.ncells; have hnw := hM.nwidths; have hna := hM.nargs; have hnr := hM.nrets; have hns := hM.nstreams; have hac := hf.nactive; have hda := hf.ndata
 refine AWpI.seq (AWpI.region ?_)
 refine .an ?_
 refine AOps.nil (AWpI.seq (AWpI.seq ?_))
 refine AWpI.region ?_
 refine .fa fl27_2 ?_
 refine .ld sh23 ?_
 refine .vl (Y.len (n := n.cells.length) sl23 rfl (congrArg some (List.length_map ..))) ?_
 refine .mv ?_
 refine AOps.nil (AWpI.block ?_)
 refine AWpI.loop3 (fun (regs3_2 : Bool) (n9_2 : Nat) (ix_2 : List (Int × Int)) => (ix_2, ⟨[(0, yc.v), (1, .fp (Netlist.row n) 0), (3, .v (.bool regs3_2)), (7, .fz 6 (n.cells.map Cell.row)), (8, .v (.int .i64 ((n.cells.length : Nat) : Int))), (9, .v (.int .i64 (n9_2 : Int)))], []⟩)) (fun (regs3_2 : Bool) (n9_2 : Nat) (ix_2 : List (Int × Int)) => ((n9_2 : Int) ≤ ((n.cells.length : Nat) : Int)) ∧ (ix_2 = ix ++ regL n n9_2) ∧ (regs3_2 = hasReg n n9_2)) (fun (regs3_2 : Bool) (n9_2 : Nat) (ix_2 : List (Int × Int)) => (((n.cells.length : Nat) : Int) - (n9_2 : Int)).toNat) false 0 ix (⟨by omega, by simp [regL], rfl⟩) (⟨rfl, Le.mk (.c (.c (.cons (look_bool rfl (by first | rfl | simp_all)) (.c (.c (.cons (look_int rfl (by first | rfl | omega)) (.nil))))))) (.nil)⟩) (fun regs3_2 n9_2 ix_2 hI2 => ?_)
 obtain ⟨hb2, hx, hp⟩ := hI2
 refine AWpI.seq (AWpI.region (.vl (Y.lss rfl rfl) ?_))
 refine AOps.nil (AWpI.seq ?_)
 refine AWpI.condD rfl (fun c10 => ?_) (fun c10 => ?_)
 refine AWpI.skip ?_
 refine AWpI.join2 (fun (regs3_j7 : Bool) (ix_j7 : List (Int × Int)) => (ix_j7, ⟨[(0, yc.v), (1, .fp (Netlist.row n) 0), (3, .v (.bool regs3_j7)), (7, .fz 6 (n.cells.map Cell.row)), (8, .v (.int .i64 ((n.cells.length : Nat) : Int))), (9, .v (.int .i64 (n9_2 : Int)))], []⟩)) (fun (regs3_j7 : Bool) (ix_j7 : List (Int × Int)) => ix_j7 = ix ++ regL n (n9_2 + 1) ∧ regs3_j7 = hasReg n (n9_2 + 1)) ?_ (fun regs3_j7 ix_j7 hJ7 => ?_)
 refine AWpI.block (AWpI.seq (AWpI.region ?_))
 refine .vl (Y.indexF (m := n9_2) sl23 rfl rfl (by first | rfl | omega) (row_getD (d := default) (by omega))) ?_
 refine .vl (Y.loadA sh39 rfl rfl (Nat.le_of_ble_eq_true rfl) rfl rfl) (AOps.alloc 105 ze39 rfl rfl (by decide) (AOps.storeC si39 rfl rfl rfl rfl rfl rfl (Nat.le_of_ble_eq_true rfl) rfl ?_))
 refine AOps.nil (AWpI.seq (AWpI.seq ?_))
 refine AWpI.region ?_
 refine .fa fl39_0 ?_
 refine .ld sh3 ?_
 refine .vl (Y.neq rfl rfl) (AOps.nil ?_)
 refine AWpI.condD rfl (fun c15 => ?_) (fun c15 => ?_)
 refine AWpI.exit ?_
 exact ⟨regs3_2, ix_2, by first | exact reg_no hx hp (by omega) (by assumption) | exact reg_yes hx (by omega) (by assumption), ⟨rfl, Le.mk (.c (.c (.cons (look_bool rfl (by first | rfl | simp_all)) (.c (.c (.c (.nil))))))) (.nil)⟩⟩
 replace c15 := Classical.not_not.1 c15
 refine AWpI.skip (AWpI.seq (AWpI.region ?_))
 refine .an ?_
 refine AOps.nil (AWpI.seq ?_)
 have h6 := reg_len hf (i := n9_2) (by omega) (by assumption)
 refine AWpI.regionY (AOpsI.op ?_)
 refine .mv ?_
 refine AOps.nil (AOpsI.op ?_)
 refine .fa fl39_3 ?_
 refine AOps.nil (AOpsI.op ?_)
 refine .ld sh22 ?_
 refine AOps.nil (AOpsI.op ?_)
 refine .vl (Y.indexF (m := 0) sl22 rfl rfl (by first | rfl | omega) (row_getD (d := 0) (by omega))) ?_
 refine AOps.nil (AOpsI.op ?_)
 refine .ld sh3 ?_
 refine AOps.nil (AOpsI.yield rfl rfl (hgood _ (by first | exact all_reg1 (by omega) (by assumption) | exact all_reg2 (by omega) (by assumption) | exact all_frz (by rw [show n.cells.length = n9_2 by omega]; rw [← hp]; assumption))) (by decide) (AOpsI.op ?_))
 refine .vl (Y.not rfl) (AOps.nil (AOpsI.op ?_))
 refine .mv ?_
 refine AOps.nil (AOpsI.op (.gw 23 (Y.move rfl rfl) ?_))
 refine AOps.nil (AOpsI.op (.gw 23 (Y.fieldAddr fl39_3 rfl rfl) ?_))
 refine AOps.nil (AOpsI.op (.gw 23 (Y.load sh22 rfl rfl rfl rfl) ?_))
 refine AOps.nil (AOpsI.op ?_)
 refine .gw 23 (Y.indexF (m := 1) sl22 rfl rfl (by first | rfl | omega) (row_getD (d := 0) (by omega))) ?_
 refine AOps.nil (AOpsI.op (.gw 23 (Y.load sh3 rfl rfl rfl rfl) ?_))
 refine AOps.nil (AOpsI.guardRun (d := 23) rfl (by decide) rfl (AOpsI.yield rfl rfl (hgood _ (by first | exact all_reg1 (by omega) (by assumption) | exact all_reg2 (by omega) (by assumption) | exact all_frz (by rw [show n.cells.length = n9_2 by omega]; rw [← hp]; assumption))) (by decide) ?_))
 refine AOpsI.op (.gw 23 (Y.not rfl) (AOps.nil ?_))
 refine AOpsI.op ?_
 refine .pk ?_
 refine AOps.nil (AOpsI.nil (AWpI.condF rfl ?_))
 refine AWpI.skip ?_
 exact ⟨true, (ix_2 ++ [(((n.cells.getD n9_2 default).args).getD 0 0, 100)]) ++ [(((n.cells.getD n9_2 default).args).getD 1 0, 60)], by first | exact reg_no hx hp (by omega) (by assumption) | exact reg_yes hx (by omega) (by assumption), ⟨rfl, Le.mk (.c (.c (.cons (look_bool rfl (by first | rfl | simp_all)) (.c (.c (.c (.nil))))))) (.nil)⟩⟩
 refine AWpI.region ?_
 refine .vl (Y.addI rfl rfl (by omega)) ?_
 refine .mv ?_
 refine AOps.nil ?_
 exact ⟨regs3_j7, n9_2 + 1, ix_j7, ⟨by omega, hJ7.1, hJ7.2⟩, by omega, ⟨rfl, Le.mk (.c (.c (.cons (look_bool rfl (by first | rfl | simp_all)) (.c (.c (.cons (look_int rfl (by first | rfl | omega)) (.nil))))))) (.nil)⟩⟩
 refine AWpI.exit ?_
 refine AWpI.join1 (fun (ix_j9 : List (Int × Int)) => (ix_j9, ⟨[(0, yc.v), (1, .fp (Netlist.row n) 0)], []⟩)) (fun (ix_j9 : List (Int × Int)) => ix_j9 = ix ++ (regL n n.cells.length ++ frzE n (hasReg n n.cells.length) 100)) ?_ (fun ix_j9 hJ9 => ?_)
 refine AWpI.seq (AWpI.regionY (AOpsI.op ?_))
 refine .mv ?_
 refine AOps.nil (AOpsI.op ?_)
 refine .mv ?_
 refine AOps.nil ?_
 refine AOpsI.split (d := 34) rfl (fun c34 => ?_) (fun c34 => ?_)
 refine AOpsI.op (.gw 34 (Y.move rfl rfl) (AOps.nil ?_))
 refine AOpsI.op (.gw 34 (Y.fieldAddr fl27_8 rfl rfl) (AOps.nil ?_))
 refine AOpsI.op (.gw 34 (Y.load sh3 rfl rfl rfl rfl) (AOps.nil ?_))
 refine AOpsI.guardRun (d := 34) rfl (by decide) rfl (AOpsI.yield rfl rfl (hgood _ (by first | exact all_reg1 (by omega) (by assumption) | exact all_reg2 (by omega) (by assumption) | exact all_frz (by rw [show n.cells.length = n9_2 by omega]; rw [← hp]; assumption))) (by decide) (AOpsI.op ?_))
 refine .gw 34 (Y.not rfl) (AOps.nil (AOpsI.op ?_))
 refine .pk ?_
 refine AOps.nil (AOpsI.nil (AWpI.condF rfl ?_))
 refine AWpI.skip ?_
 exact ⟨ix_2 ++ [(n.freeze, 100)], by rw [show n.cells.length = n9_2 by omega, ← hp, hx]; first | (rw [show regs3_2 = true by assumption]; simp [frzE]) | (rw [show regs3_2 = false by assumption]; simp [frzE]), ⟨rfl, Le.mk (.c (.c (.nil))) (.nil)⟩⟩
 refine AOpsI.op (.gz 34 (AOps.nil ?_))
 refine AOpsI.op (.gz 34 (AOps.nil ?_))
 refine AOpsI.op (.gz 34 (AOps.nil ?_))
 refine AOpsI.op (.gz 34 (AOps.nil ?_))
 refine AOpsI.op (.gz 34 (AOps.nil ?_))
 refine AOpsI.op ?_
 refine .pk ?_
 refine AOps.nil (AOpsI.nil (AWpI.condF rfl ?_))
 refine AWpI.skip ?_
 exact ⟨ix_2, by rw [show n.cells.length = n9_2 by omega, ← hp, hx]; first | (rw [show regs3_2 = true by assumption]; simp [frzE]) | (rw [show regs3_2 = false by assumption]; simp [frzE]), ⟨rfl, Le.mk (.c (.c (.nil))) (.nil)⟩⟩
 refine AWpI.regionY (AOpsI.op (.vl (Y.loadA sh27 rfl rfl (Nat.le_of_ble_eq_true rfl) rfl rfl) ?_))
 refine AOps.nil (AOpsI.op (AOps.callP ok112 (ends_spec (n := n)) rfl (.keep rfl rfl .nil) (by decide) rfl ?_))
 refine AOps.nil (AOpsI.op ?_)
 refine .mv ?_
 refine AOps.nil ?_
 refine AOpsI.callIt rfl ok130 (ends_it (n := n) hM) rfl (fun e he => hgood e (end_all he)) (by decide) ?_
 refine AOpsI.nil ?_
 exact ⟨.inl rfl, by show ix_j9 ++ endL n = _; rw [hJ9]; simp [allL]⟩

set_option maxRecDepth 4000 in
set_option maxHeartbeats 1000000 in
theorem all_spec2 {n : Netlist} : ACalls Try.prog 80 [.agg (Netlist.row n)] [] [] (fun r o => r = .clo (.func 111) [] [.fp (Netlist.row n) 0] ∧ o = []) := by
 refine ACalls.of Try.func80 rfl rfl rfl (n := 4) (by decide) (Nat.le_of_ble_eq_true rfl) (AWp.sr (AOps.box 101 rfl rfl rfl rfl rfl (by decide) ?_))
 refine .an ?_
 refine AOps.nil (AWp.sr (AOps.sh (Sh.freezeO 101 rfl rfl) ?_))
 refine .vl (Y.makeFunc rfl rfl rfl rfl) ?_
 refine .an ?_
 refine AOps.nil (AWp.ret ?_)
 exact ⟨_, _, rfl, rfl, rfl, rfl⟩

end Go.Proofs.Ytligpghohcfpnaa
