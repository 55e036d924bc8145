/- The walk through formed. -/
import Derived.Test.YtligpghohcfpnaaNetx0
import Derived.Test.YtligpghohcfpnaaNetx1
set_option linter.unusedSimpArgs false
set_option linter.unusedVariables false
set_option linter.unusedSectionVars false
namespace Go.Proofs.Ytligpghohcfpnaa
open Go Go.AW Go.Proofs



set_option maxHeartbeats 1000000 in
theorem formed1_spec {i : Int} {n : Netlist} : ACalls Try.prog 94 [.v (.int .i64 i), .fp (Netlist.row n) 0] [] [] (fun r o => r = .v (.bool (decide (In i n.widths.length))) ∧ o = []) := by
 refine ACalls.of Try.func94 rfl rfl rfl (n := 13) (by decide) (Nat.le_of_ble_eq_true rfl) ?_
 refine AWp.sr ?_
 refine .vl (Y.assign rfl rfl) ?_
 refine AOps.nil ?_
 refine AWp.sr ?_
 refine .vl (Y.move rfl rfl) ?_
 refine .vl (Y.geq rfl rfl) ?_
 refine .vl (Y.move rfl rfl) ?_
 refine AOps.splitD (d := 6) rfl (fun c6 => ?_) (fun c6 => ?_)
 refine .gv 6 rfl rfl (Y.move rfl rfl) ?_
 refine .gv 6 rfl rfl (Y.fieldAddr fl27_1 rfl rfl) ?_
 refine .gv 6 rfl rfl (Y.load sh22 rfl rfl rfl rfl) ?_
 refine .gv 6 rfl rfl (Y.len (n := n.widths.length) sl22 rfl (congrArg some (List.length_map ..))) ?_
 refine .gv 6 rfl rfl (Y.lss rfl rfl) ?_
 refine .vl (Y.pick rfl rfl rfl) ?_
 refine .vl (Y.assign rfl rfl) ?_
 refine AOps.nil ?_
 refine AWp.ret ?_
 exact ⟨_, _, rfl, rfl, (cg1 (fun (z0 : Bool) => X.v (.bool z0)) (dd (by (simp only [In]) <;> (first | omega | grind)) : (decide (i < ((n.widths.length : Nat) : Int))) = decide (In i n.widths.length)) : X.v (.bool (decide (i < ((n.widths.length : Nat) : Int)))) = X.v (.bool (decide (In i n.widths.length)))), rfl⟩
 refine .gs 6 rfl rfl rfl ?_
 refine .gs 6 rfl rfl rfl ?_
 refine .gs 6 rfl rfl rfl ?_
 refine .gs 6 rfl rfl rfl ?_
 refine .gs 6 rfl rfl rfl ?_
 refine .vl (Y.pick rfl rfl rfl) ?_
 refine .vl (Y.assign rfl rfl) ?_
 refine AOps.nil ?_
 refine AWp.ret ?_
 exact ⟨_, _, rfl, rfl, (cg1 (fun (z0 : Bool) => X.v (.bool z0)) (df (by (simp only [In]) <;> (first | omega | grind)) : false = decide (In i n.widths.length)) : X.v (.bool false) = X.v (.bool (decide (In i n.widths.length)))), rfl⟩

set_option maxHeartbeats 1000000 in
theorem formed2_spec {i : Int} {n : Netlist} : ACalls Try.prog 96 [.v (.int .i64 i), .fp ([.clo (.func 94) [] [.fp (Netlist.row n) 0]]) 0] [] [] (fun r o => r = .v (.bool (!decide (In i n.widths.length))) ∧ o = []) := by
 refine ACalls.of Try.func96 rfl rfl rfl (n := 8) (by decide) (Nat.le_of_ble_eq_true rfl) ?_
 refine AWp.sr ?_
 refine .vl (Y.assign rfl rfl) ?_
 refine AOps.nil ?_
 refine AWp.sr ?_
 refine .vl (Y.load sh45 rfl rfl rfl rfl) ?_
 refine .vl (Y.move rfl rfl) ?_
 refine AOps.callCP rfl ok94 (formed1_spec (i := i)) rfl (.keep rfl rfl (.keep rfl rfl .nil)) (by decide) rfl ?_
 refine .vl (Y.not rfl) ?_
 refine .vl (Y.assign rfl rfl) ?_
 refine AOps.nil ?_
 refine AWp.ret ?_
 exact ⟨_, _, rfl, rfl, (cg1 (fun (z0 : Bool) => X.v (.bool z0)) (rfl : (!decide (In i n.widths.length)) = !decide (In i n.widths.length)) : X.v (.bool (!decide (In i n.widths.length))) = X.v (.bool (!decide (In i n.widths.length)))), rfl⟩

set_option maxHeartbeats 1000000 in
theorem formed3_spec {i : Int} {n : Netlist} : ACalls Try.prog 97 [.v (.int .i64 i), .fp ([.clo (.func 94) [] [.fp (Netlist.row n) 0]]) 0] [] [] (fun r o => r = .v (.bool (!decide (In i n.widths.length))) ∧ o = []) := by
 refine ACalls.of Try.func97 rfl rfl rfl (n := 8) (by decide) (Nat.le_of_ble_eq_true rfl) ?_
 refine AWp.sr ?_
 refine .vl (Y.assign rfl rfl) ?_
 refine AOps.nil ?_
 refine AWp.sr ?_
 refine .vl (Y.load sh45 rfl rfl rfl rfl) ?_
 refine .vl (Y.move rfl rfl) ?_
 refine AOps.callCP rfl ok94 (formed1_spec (i := i)) rfl (.keep rfl rfl (.keep rfl rfl .nil)) (by decide) rfl ?_
 refine .vl (Y.not rfl) ?_
 refine .vl (Y.assign rfl rfl) ?_
 refine AOps.nil ?_
 refine AWp.ret ?_
 exact ⟨_, _, rfl, rfl, (cg1 (fun (z0 : Bool) => X.v (.bool z0)) (rfl : (!decide (In i n.widths.length)) = !decide (In i n.widths.length)) : X.v (.bool (!decide (In i n.widths.length))) = X.v (.bool (!decide (In i n.widths.length)))), rfl⟩

set_option maxRecDepth 4000 in
set_option maxHeartbeats 1000000 in
theorem formed_spec {n : Netlist} (hs : n.Small) (hwi : n.widths.length + n.ins.length ≤ 17592186044416) : ACalls Try.prog 57 [.agg (Netlist.row n)] [] [] (fun r o => r = .v (.bool (decide (Formed n))) ∧ o = []) := by
 refine ACalls.of Try.func57 rfl rfl rfl (n := 234) (by decide) (Nat.le_of_ble_eq_true rfl) ?_
 have hs1 := hs.name; have hs2 := hs.widths; have hs3 := hs.cells; have hs4 := hs.ins; have hs5 := hs.mems; have hs6 := hs.streams; have hs7 := hs.active; have hs8 := hs.data; have hs9 := hs.rets
 have hcat : ([n.widths, n.ins] : List (List Int)).flatten = n.widths ++ n.ins := by simp
 have hcl : (([n.widths, n.ins] : List (List Int)).flatten).length = n.widths.length + n.ins.length := by simp
 refine AWp.sr ?_
 refine AOps.box 101 rfl rfl rfl rfl rfl (by decide) ?_
 refine .vl (Y.assign rfl rfl) ?_
 refine AOps.nil ?_
 refine AWp.seq ?_
 refine AWp.sr ?_
 refine .vl (Y.fieldAddr fl27_0 rfl rfl) ?_
 refine .vl (Y.load sh9 rfl rfl rfl rfl) ?_
 refine AOps.callP ok92 (named_spec (s := n.name) (by first | assumption | omega)) rfl (.keep rfl rfl .nil) (by decide) rfl ?_
 refine .vl (Y.not rfl) ?_
 refine .vl (Y.move rfl rfl) ?_
 refine AOps.split (d := 17) rfl (fun c17 => ?_) (fun c17 => ?_)
 replace c17 : ¬ (Named n.name) := by simpa using c17
 refine .gs 17 rfl rfl rfl ?_
 refine .gs 17 rfl rfl rfl ?_
 refine .gs 17 rfl rfl rfl ?_
 refine .gs 17 rfl rfl rfl ?_
 refine .vl (Y.pick rfl rfl rfl) ?_
 refine .vl (Y.move rfl rfl) ?_
 refine .gs 23 rfl rfl rfl ?_
 refine .gs 23 rfl rfl rfl ?_
 refine .gs 23 rfl rfl rfl ?_
 refine .gs 23 rfl rfl rfl ?_
 refine .vl (Y.pick rfl rfl rfl) ?_
 refine .vl (Y.move rfl rfl) ?_
 refine .gs 29 rfl rfl rfl ?_
 refine .gs 29 rfl rfl rfl ?_
 refine .gs 29 rfl rfl rfl ?_
 refine .gs 29 rfl rfl rfl ?_
 refine .vl (Y.pick rfl rfl rfl) ?_
 refine .vl (Y.move rfl rfl) ?_
 refine .gs 35 rfl rfl rfl ?_
 refine .gs 35 rfl rfl rfl ?_
 refine .gs 35 rfl rfl rfl ?_
 refine .gs 35 rfl rfl rfl ?_
 refine .vl (Y.pick rfl rfl rfl) ?_
 refine .vl (Y.move rfl rfl) ?_
 refine .gs 41 rfl rfl rfl ?_
 refine .gs 41 rfl rfl rfl ?_
 refine .gs 41 rfl rfl rfl ?_
 refine .gs 41 rfl rfl rfl ?_
 refine .gs 41 rfl rfl rfl ?_
 refine .gs 41 rfl rfl rfl ?_
 refine .gs 41 rfl rfl rfl ?_
 refine .vl (Y.pick rfl rfl rfl) ?_
 refine .vl (Y.move rfl rfl) ?_
 refine .gs 50 rfl rfl rfl ?_
 refine .gs 50 rfl rfl rfl ?_
 refine .gs 50 rfl rfl rfl ?_
 refine .gs 50 rfl rfl rfl ?_
 refine .gs 50 rfl rfl rfl ?_
 refine .gs 50 rfl rfl rfl ?_
 refine .gs 50 rfl rfl rfl ?_
 refine .vl (Y.pick rfl rfl rfl) ?_
 refine AOps.nil ?_
 refine AWp.condT rfl ?_
 refine AWp.sr ?_
 refine .vl (Y.assign rfl rfl) ?_
 refine AOps.nil ?_
 refine AWp.ret ?_
 exact ⟨_, _, rfl, rfl, (cg1 (fun (z0 : Bool) => X.v (.bool z0)) (df (fun h => by have h1 := h.name; have h2 := h.ncells; have h3 := h.nwidths; have h4 := h.nmems; have h5 := h.nstreams; have h6 := h.nactive; have h7 := h.ndata; first | omega | contradiction) : false = decide (Formed n)) : X.v (.bool false) = X.v (.bool (decide (Formed n)))), rfl⟩
 replace c17 : Named n.name := by simpa using c17
 refine .gv 17 rfl rfl (Y.fieldAddr fl27_2 rfl rfl) ?_
 refine .gv 17 rfl rfl (Y.load sh23 rfl rfl rfl rfl) ?_
 refine .gv 17 rfl rfl (Y.len (n := n.cells.length) sl23 rfl (congrArg some (List.length_map ..))) ?_
 refine .gv 17 rfl rfl (Y.gtr rfl rfl) ?_
 refine .vl (Y.pick rfl rfl rfl) ?_
 refine .vl (Y.move rfl rfl) ?_
 refine AOps.splitD (d := 23) rfl (fun c23 => ?_) (fun c23 => ?_)
 refine .gs 23 rfl rfl rfl ?_
 refine .gs 23 rfl rfl rfl ?_
 refine .gs 23 rfl rfl rfl ?_
 refine .gs 23 rfl rfl rfl ?_
 refine .vl (Y.pick rfl rfl rfl) ?_
 refine .vl (Y.move rfl rfl) ?_
 refine .gs 29 rfl rfl rfl ?_
 refine .gs 29 rfl rfl rfl ?_
 refine .gs 29 rfl rfl rfl ?_
 refine .gs 29 rfl rfl rfl ?_
 refine .vl (Y.pick rfl rfl rfl) ?_
 refine .vl (Y.move rfl rfl) ?_
 refine .gs 35 rfl rfl rfl ?_
 refine .gs 35 rfl rfl rfl ?_
 refine .gs 35 rfl rfl rfl ?_
 refine .gs 35 rfl rfl rfl ?_
 refine .vl (Y.pick rfl rfl rfl) ?_
 refine .vl (Y.move rfl rfl) ?_
 refine .gs 41 rfl rfl rfl ?_
 refine .gs 41 rfl rfl rfl ?_
 refine .gs 41 rfl rfl rfl ?_
 refine .gs 41 rfl rfl rfl ?_
 refine .gs 41 rfl rfl rfl ?_
 refine .gs 41 rfl rfl rfl ?_
 refine .gs 41 rfl rfl rfl ?_
 refine .vl (Y.pick rfl rfl rfl) ?_
 refine .vl (Y.move rfl rfl) ?_
 refine .gs 50 rfl rfl rfl ?_
 refine .gs 50 rfl rfl rfl ?_
 refine .gs 50 rfl rfl rfl ?_
 refine .gs 50 rfl rfl rfl ?_
 refine .gs 50 rfl rfl rfl ?_
 refine .gs 50 rfl rfl rfl ?_
 refine .gs 50 rfl rfl rfl ?_
 refine .vl (Y.pick rfl rfl rfl) ?_
 refine AOps.nil ?_
 refine AWp.condT rfl ?_
 refine AWp.sr ?_
 refine .vl (Y.assign rfl rfl) ?_
 refine AOps.nil ?_
 refine AWp.ret ?_
 exact ⟨_, _, rfl, rfl, (cg1 (fun (z0 : Bool) => X.v (.bool z0)) (df (fun h => by have h1 := h.name; have h2 := h.ncells; have h3 := h.nwidths; have h4 := h.nmems; have h5 := h.nstreams; have h6 := h.nactive; have h7 := h.ndata; first | omega | contradiction) : false = decide (Formed n)) : X.v (.bool false) = X.v (.bool (decide (Formed n)))), rfl⟩
 refine .gv 23 rfl rfl (Y.fieldAddr fl27_1 rfl rfl) ?_
 refine .gv 23 rfl rfl (Y.load sh22 rfl rfl rfl rfl) ?_
 refine .gv 23 rfl rfl (Y.len (n := n.widths.length) sl22 rfl (congrArg some (List.length_map ..))) ?_
 refine .gv 23 rfl rfl (Y.gtr rfl rfl) ?_
 refine .vl (Y.pick rfl rfl rfl) ?_
 refine .vl (Y.move rfl rfl) ?_
 refine AOps.splitD (d := 29) rfl (fun c29 => ?_) (fun c29 => ?_)
 refine .gs 29 rfl rfl rfl ?_
 refine .gs 29 rfl rfl rfl ?_
 refine .gs 29 rfl rfl rfl ?_
 refine .gs 29 rfl rfl rfl ?_
 refine .vl (Y.pick rfl rfl rfl) ?_
 refine .vl (Y.move rfl rfl) ?_
 refine .gs 35 rfl rfl rfl ?_
 refine .gs 35 rfl rfl rfl ?_
 refine .gs 35 rfl rfl rfl ?_
 refine .gs 35 rfl rfl rfl ?_
 refine .vl (Y.pick rfl rfl rfl) ?_
 refine .vl (Y.move rfl rfl) ?_
 refine .gs 41 rfl rfl rfl ?_
 refine .gs 41 rfl rfl rfl ?_
 refine .gs 41 rfl rfl rfl ?_
 refine .gs 41 rfl rfl rfl ?_
 refine .gs 41 rfl rfl rfl ?_
 refine .gs 41 rfl rfl rfl ?_
 refine .gs 41 rfl rfl rfl ?_
 refine .vl (Y.pick rfl rfl rfl) ?_
 refine .vl (Y.move rfl rfl) ?_
 refine .gs 50 rfl rfl rfl ?_
 refine .gs 50 rfl rfl rfl ?_
 refine .gs 50 rfl rfl rfl ?_
 refine .gs 50 rfl rfl rfl ?_
 refine .gs 50 rfl rfl rfl ?_
 refine .gs 50 rfl rfl rfl ?_
 refine .gs 50 rfl rfl rfl ?_
 refine .vl (Y.pick rfl rfl rfl) ?_
 refine AOps.nil ?_
 refine AWp.condT rfl ?_
 refine AWp.sr ?_
 refine .vl (Y.assign rfl rfl) ?_
 refine AOps.nil ?_
 refine AWp.ret ?_
 exact ⟨_, _, rfl, rfl, (cg1 (fun (z0 : Bool) => X.v (.bool z0)) (df (fun h => by have h1 := h.name; have h2 := h.ncells; have h3 := h.nwidths; have h4 := h.nmems; have h5 := h.nstreams; have h6 := h.nactive; have h7 := h.ndata; first | omega | contradiction) : false = decide (Formed n)) : X.v (.bool false) = X.v (.bool (decide (Formed n)))), rfl⟩
 refine .gv 29 rfl rfl (Y.fieldAddr fl27_4 rfl rfl) ?_
 refine .gv 29 rfl rfl (Y.load sh24 rfl rfl rfl rfl) ?_
 refine .gv 29 rfl rfl (Y.len (n := n.mems.length) sl24 rfl (congrArg some (List.length_map ..))) ?_
 refine .gv 29 rfl rfl (Y.gtr rfl rfl) ?_
 refine .vl (Y.pick rfl rfl rfl) ?_
 refine .vl (Y.move rfl rfl) ?_
 refine AOps.splitD (d := 35) rfl (fun c35 => ?_) (fun c35 => ?_)
 refine .gs 35 rfl rfl rfl ?_
 refine .gs 35 rfl rfl rfl ?_
 refine .gs 35 rfl rfl rfl ?_
 refine .gs 35 rfl rfl rfl ?_
 refine .vl (Y.pick rfl rfl rfl) ?_
 refine .vl (Y.move rfl rfl) ?_
 refine .gs 41 rfl rfl rfl ?_
 refine .gs 41 rfl rfl rfl ?_
 refine .gs 41 rfl rfl rfl ?_
 refine .gs 41 rfl rfl rfl ?_
 refine .gs 41 rfl rfl rfl ?_
 refine .gs 41 rfl rfl rfl ?_
 refine .gs 41 rfl rfl rfl ?_
 refine .vl (Y.pick rfl rfl rfl) ?_
 refine .vl (Y.move rfl rfl) ?_
 refine .gs 50 rfl rfl rfl ?_
 refine .gs 50 rfl rfl rfl ?_
 refine .gs 50 rfl rfl rfl ?_
 refine .gs 50 rfl rfl rfl ?_
 refine .gs 50 rfl rfl rfl ?_
 refine .gs 50 rfl rfl rfl ?_
 refine .gs 50 rfl rfl rfl ?_
 refine .vl (Y.pick rfl rfl rfl) ?_
 refine AOps.nil ?_
 refine AWp.condT rfl ?_
 refine AWp.sr ?_
 refine .vl (Y.assign rfl rfl) ?_
 refine AOps.nil ?_
 refine AWp.ret ?_
 exact ⟨_, _, rfl, rfl, (cg1 (fun (z0 : Bool) => X.v (.bool z0)) (df (fun h => by have h1 := h.name; have h2 := h.ncells; have h3 := h.nwidths; have h4 := h.nmems; have h5 := h.nstreams; have h6 := h.nactive; have h7 := h.ndata; first | omega | contradiction) : false = decide (Formed n)) : X.v (.bool false) = X.v (.bool (decide (Formed n)))), rfl⟩
 refine .gv 35 rfl rfl (Y.fieldAddr fl27_5 rfl rfl) ?_
 refine .gv 35 rfl rfl (Y.load sh25 rfl rfl rfl rfl) ?_
 refine .gv 35 rfl rfl (Y.len (n := n.streams.length) sl25 rfl (congrArg some (List.length_map ..))) ?_
 refine .gv 35 rfl rfl (Y.gtr rfl rfl) ?_
 refine .vl (Y.pick rfl rfl rfl) ?_
 refine .vl (Y.move rfl rfl) ?_
 refine AOps.splitD (d := 41) rfl (fun c41 => ?_) (fun c41 => ?_)
 refine .gs 41 rfl rfl rfl ?_
 refine .gs 41 rfl rfl rfl ?_
 refine .gs 41 rfl rfl rfl ?_
 refine .gs 41 rfl rfl rfl ?_
 refine .gs 41 rfl rfl rfl ?_
 refine .gs 41 rfl rfl rfl ?_
 refine .gs 41 rfl rfl rfl ?_
 refine .vl (Y.pick rfl rfl rfl) ?_
 refine .vl (Y.move rfl rfl) ?_
 refine .gs 50 rfl rfl rfl ?_
 refine .gs 50 rfl rfl rfl ?_
 refine .gs 50 rfl rfl rfl ?_
 refine .gs 50 rfl rfl rfl ?_
 refine .gs 50 rfl rfl rfl ?_
 refine .gs 50 rfl rfl rfl ?_
 refine .gs 50 rfl rfl rfl ?_
 refine .vl (Y.pick rfl rfl rfl) ?_
 refine AOps.nil ?_
 refine AWp.condT rfl ?_
 refine AWp.sr ?_
 refine .vl (Y.assign rfl rfl) ?_
 refine AOps.nil ?_
 refine AWp.ret ?_
 exact ⟨_, _, rfl, rfl, (cg1 (fun (z0 : Bool) => X.v (.bool z0)) (df (fun h => by have h1 := h.name; have h2 := h.ncells; have h3 := h.nwidths; have h4 := h.nmems; have h5 := h.nstreams; have h6 := h.nactive; have h7 := h.ndata; first | omega | contradiction) : false = decide (Formed n)) : X.v (.bool false) = X.v (.bool (decide (Formed n)))), rfl⟩
 refine .gv 41 rfl rfl (Y.fieldAddr fl27_6 rfl rfl) ?_
 refine .gv 41 rfl rfl (Y.load sh22 rfl rfl rfl rfl) ?_
 refine .gv 41 rfl rfl (Y.len (n := n.active.length) sl22 rfl (congrArg some (List.length_map ..))) ?_
 refine .gv 41 rfl rfl (Y.fieldAddr fl27_5 rfl rfl) ?_
 refine .gv 41 rfl rfl (Y.load sh25 rfl rfl rfl rfl) ?_
 refine .gv 41 rfl rfl (Y.len (n := n.streams.length) sl25 rfl (congrArg some (List.length_map ..))) ?_
 refine .gv 41 rfl rfl (Y.neq rfl rfl) ?_
 refine .vl (Y.pick rfl rfl rfl) ?_
 refine .vl (Y.move rfl rfl) ?_
 refine AOps.splitD (d := 50) rfl (fun c50 => ?_) (fun c50 => ?_)
 refine .gs 50 rfl rfl rfl ?_
 refine .gs 50 rfl rfl rfl ?_
 refine .gs 50 rfl rfl rfl ?_
 refine .gs 50 rfl rfl rfl ?_
 refine .gs 50 rfl rfl rfl ?_
 refine .gs 50 rfl rfl rfl ?_
 refine .gs 50 rfl rfl rfl ?_
 refine .vl (Y.pick rfl rfl rfl) ?_
 refine AOps.nil ?_
 refine AWp.condT rfl ?_
 refine AWp.sr ?_
 refine .vl (Y.assign rfl rfl) ?_
 refine AOps.nil ?_
 refine AWp.ret ?_
 exact ⟨_, _, rfl, rfl, (cg1 (fun (z0 : Bool) => X.v (.bool z0)) (df (fun h => by have h1 := h.name; have h2 := h.ncells; have h3 := h.nwidths; have h4 := h.nmems; have h5 := h.nstreams; have h6 := h.nactive; have h7 := h.ndata; first | omega | contradiction) : false = decide (Formed n)) : X.v (.bool false) = X.v (.bool (decide (Formed n)))), rfl⟩
 refine .gv 50 rfl rfl (Y.fieldAddr fl27_7 rfl rfl) ?_
 refine .gv 50 rfl rfl (Y.load sh22 rfl rfl rfl rfl) ?_
 refine .gv 50 rfl rfl (Y.len (n := n.data.length) sl22 rfl (congrArg some (List.length_map ..))) ?_
 refine .gv 50 rfl rfl (Y.fieldAddr fl27_5 rfl rfl) ?_
 refine .gv 50 rfl rfl (Y.load sh25 rfl rfl rfl rfl) ?_
 refine .gv 50 rfl rfl (Y.len (n := n.streams.length) sl25 rfl (congrArg some (List.length_map ..))) ?_
 refine .gv 50 rfl rfl (Y.neq rfl rfl) ?_
 refine .vl (Y.pick rfl rfl rfl) ?_
 refine AOps.nil ?_
 refine AWp.condD rfl (fun c58 => ?_) (fun c58 => ?_)
 refine AWp.sr ?_
 refine .vl (Y.assign rfl rfl) ?_
 refine AOps.nil ?_
 refine AWp.ret ?_
 exact ⟨_, _, rfl, rfl, (cg1 (fun (z0 : Bool) => X.v (.bool z0)) (df (fun h => by have h1 := h.name; have h2 := h.ncells; have h3 := h.nwidths; have h4 := h.nmems; have h5 := h.nstreams; have h6 := h.nactive; have h7 := h.ndata; first | omega | contradiction) : false = decide (Formed n)) : X.v (.bool false) = X.v (.bool (decide (Formed n)))), rfl⟩
 refine AWp.skip ?_
 refine AWp.seq ?_
 refine AWp.sr ?_
 refine .vl (Y.fieldAddr fl27_1 rfl rfl) ?_
 refine .vl (Y.load sh22 rfl rfl rfl rfl) ?_
 refine .vl (Y.fieldAddr fl27_3 rfl rfl) ?_
 refine .vl (Y.load sh22 rfl rfl rfl rfl) ?_
 refine AOps.buildSlice (([n.widths, n.ins] : List (List Int)).map lrow) sl92 ze22 rfl rfl rfl rfl rfl (uniform_map (s := 1) (f := lrow) (fun _ => rfl)) rfl rfl rfl (by decide) ?_
 refine AOps.sh (Sh.freezeE (d := 63) (([n.widths, n.ins] : List (List Int)).map lrow) rfl (by first | rfl | exact rep_map rfl) (Frees.map lrow_frees)) ?_
 refine AOps.callP ok72 (concat_spec (ls := ([n.widths, n.ins] : List (List Int))) (by simp) (by simp; omega)) rfl (.keep rfl rfl .nil) (by decide) rfl ?_
 refine .vl (Y.len (n := (([n.widths, n.ins] : List (List Int)).flatten).length) sl22 rfl (congrArg some (List.length_map ..))) ?_
 refine .vl (Y.move rfl rfl) ?_
 refine AOps.nil ?_
 refine AWp.block ?_
 refine AWp.sh (Sh.freezeE (d := 64) ((([n.widths, n.ins] : List (List Int)).flatten).map irow) rfl (by first | rfl | exact rep_map rfl) (Frees.map irow_frees)) ?_
 refine AWp.loop1 (fun (n66_4 : Nat) => ⟨[(1, .ptr 101 0 0 0), (64, .fz 1 ((([n.widths, n.ins] : List (List Int)).flatten).map irow)), (65, .v (.int .i64 (((([n.widths, n.ins] : List (List Int)).flatten).length : Nat) : Int))), (66, .v (.int .i64 (n66_4 : Int)))], [(101, .cells (Netlist.row n))]⟩) (fun (n66_4 : Nat) => ((n66_4 : Int) ≤ (((([n.widths, n.ins] : List (List Int)).flatten).length : Nat) : Int)) ∧ (∀ j, j < n66_4 → Wide (([n.widths, n.ins] : List (List Int)).flatten.getD j 0))) (fun (n66_4 : Nat) => ((((([n.widths, n.ins] : List (List Int)).flatten).length : Nat) : Int) - (n66_4 : Int)).toNat) 0 (⟨by first | omega | (simp [-List.getD_eq_getElem?_getD]; done) | (simp [-List.getD_eq_getElem?_getD]; omega) | (unfold In at *; omega), fun j hj => by omega⟩) (Le.mk (SubL.cons rfl (SubL.cons rfl (SubL.cons rfl (SubL.cons (look_int rfl (by first | rfl | omega)) (SubL.nil))))) (SubL.cons rfl (SubL.nil))) (fun n66_4 hI4 => ?_)
 obtain ⟨hb4, hw⟩ := hI4
 refine AWp.sr ?_
 refine .vl (Y.lss rfl rfl) ?_
 refine AOps.nil ?_
 refine AWp.seq ?_
 refine AWp.condD rfl (fun c67 => ?_) (fun c67 => ?_)
 refine AWp.skip ?_
 refine AWp.seq ?_
 refine AWp.block ?_
 refine AWp.sr ?_
 refine .vl (Y.indexF (m := n66_4) sl22 rfl rfl (by first | rfl | omega) (row_getD (d := 0) (by first | omega | (simp [-List.getD_eq_getElem?_getD]; done) | (simp [-List.getD_eq_getElem?_getD]; omega) | (unfold In at *; omega)))) ?_
 refine .vl (Y.load sh3 rfl rfl rfl rfl) ?_
 refine .vl (Y.assign rfl rfl) ?_
 refine AOps.nil ?_
 refine AWp.sr ?_
 refine .vl (Y.move rfl rfl) ?_
 refine AOps.callP ok93 (wide_spec (w := ((([n.widths, n.ins] : List (List Int)).flatten).getD n66_4 0))) rfl (.keep rfl rfl .nil) (by decide) rfl ?_
 refine .vl (Y.not rfl) ?_
 refine AOps.nil ?_
 refine AWp.cond rfl (fun c72 => ?_) (fun c72 => ?_)
 replace c72 : ¬ (Wide ((([n.widths, n.ins] : List (List Int)).flatten).getD n66_4 0)) := by simpa using c72
 refine AWp.sr ?_
 refine .vl (Y.assign rfl rfl) ?_
 refine AOps.nil ?_
 refine AWp.ret ?_
 exact ⟨_, _, rfl, rfl, (cg1 (fun (z0 : Bool) => X.v (.bool z0)) (df (fun h => by have h1 := h.wide n66_4 (by rw [List.length_append]; omega); rw [← hcat] at h1; contradiction) : false = decide (Formed n)) : X.v (.bool false) = X.v (.bool (decide (Formed n)))), rfl⟩
 replace c72 : Wide ((([n.widths, n.ins] : List (List Int)).flatten).getD n66_4 0) := by simpa using c72
 refine AWp.skip ?_
 refine AWp.region ?_
 refine .vl (Y.addI rfl rfl (by first | omega | (simp [-List.getD_eq_getElem?_getD]; done) | (simp [-List.getD_eq_getElem?_getD]; omega) | (unfold In at *; omega))) ?_
 refine .vl (Y.move rfl rfl) ?_
 refine AOps.nil ?_
 exact ⟨n66_4 + 1, ⟨by first | omega | (simp [-List.getD_eq_getElem?_getD]; done) | (simp [-List.getD_eq_getElem?_getD]; omega) | (unfold In at *; omega), below_succ' hw (by assumption)⟩, by omega, Le.mk (SubL.cons rfl (SubL.cons rfl (SubL.cons rfl (SubL.cons (look_int rfl (by first | rfl | omega)) (SubL.nil))))) (SubL.cons rfl (SubL.nil))⟩
 refine AWp.exit ?_
 refine AWp.seq ?_
 refine AWp.sr ?_
 refine .vl (Y.fieldAddr fl27_4 rfl rfl) ?_
 refine .vl (Y.load sh24 rfl rfl rfl rfl) ?_
 refine .vl (Y.len (n := n.mems.length) sl24 rfl (congrArg some (List.length_map ..))) ?_
 refine .vl (Y.move rfl rfl) ?_
 refine AOps.nil ?_
 refine AWp.block ?_
 refine AWp.loop1 (fun (n77_10 : Nat) => ⟨[(1, .ptr 101 0 0 0), (75, .fz 5 (n.mems.map Arr.row)), (76, .v (.int .i64 ((n.mems.length : Nat) : Int))), (77, .v (.int .i64 (n77_10 : Int)))], [(101, .cells (Netlist.row n))]⟩) (fun (n77_10 : Nat) => ((n77_10 : Int) ≤ ((n.mems.length : Nat) : Int)) ∧ (∀ j, j < n77_10 → MemOK (n.mems.getD j default))) (fun (n77_10 : Nat) => (((n.mems.length : Nat) : Int) - (n77_10 : Int)).toNat) 0 (⟨by first | omega | (simp [-List.getD_eq_getElem?_getD]; done) | (simp [-List.getD_eq_getElem?_getD]; omega) | (unfold In at *; omega), fun j hj => by omega⟩) (Le.mk (SubL.cons rfl (SubL.cons rfl (SubL.cons rfl (SubL.cons (look_int rfl (by first | rfl | omega)) (SubL.nil))))) (SubL.cons rfl (SubL.nil))) (fun n77_10 hI10 => ?_)
 obtain ⟨hb10, hm⟩ := hI10
 refine AWp.sr ?_
 refine .vl (Y.lss rfl rfl) ?_
 refine AOps.nil ?_
 refine AWp.seq ?_
 refine AWp.condD rfl (fun c78 => ?_) (fun c78 => ?_)
 refine AWp.skip ?_
 refine AWp.seq ?_
 refine AWp.block ?_
 refine AWp.sr ?_
 refine .vl (Y.indexF (m := n77_10) sl24 rfl rfl (by first | rfl | omega) (row_getD (d := default) (by first | omega | (simp [-List.getD_eq_getElem?_getD]; done) | (simp [-List.getD_eq_getElem?_getD]; omega) | (unfold In at *; omega)))) ?_
 refine .vl (Y.loadA sh48 rfl rfl (Nat.le_of_ble_eq_true rfl) rfl rfl) ?_
 refine AOps.alloc 106 ze48 rfl rfl (by decide) ?_
 refine AOps.storeC si48 rfl rfl rfl rfl rfl rfl (Nat.le_of_ble_eq_true rfl) rfl ?_
 refine AOps.nil ?_
 refine AWp.sr ?_
 have hmn := hs.memNames _ (getD_mem' (l := n.mems) (i := n77_10) (d := default) (by omega))
 refine .vl (Y.fieldAddr fl48_0 rfl rfl) ?_
 refine .vl (Y.load sh9 rfl rfl rfl rfl) ?_
 refine AOps.callP ok92 (named_spec (s := ((n.mems.getD n77_10 default).name)) (by first | assumption | omega)) rfl (.keep rfl rfl .nil) (by decide) rfl ?_
 refine .vl (Y.not rfl) ?_
 refine .vl (Y.move rfl rfl) ?_
 refine AOps.split (d := 85) rfl (fun c85 => ?_) (fun c85 => ?_)
 replace c85 : ¬ (Named ((n.mems.getD n77_10 default).name)) := by simpa using c85
 refine .gs 85 rfl rfl rfl ?_
 refine .gs 85 rfl rfl rfl ?_
 refine .gs 85 rfl rfl rfl ?_
 refine .gs 85 rfl rfl rfl ?_
 refine .vl (Y.pick rfl rfl rfl) ?_
 refine .vl (Y.move rfl rfl) ?_
 refine .gs 91 rfl rfl rfl ?_
 refine .gs 91 rfl rfl rfl ?_
 refine .gs 91 rfl rfl rfl ?_
 refine .vl (Y.pick rfl rfl rfl) ?_
 refine .vl (Y.move rfl rfl) ?_
 refine .gs 96 rfl rfl rfl ?_
 refine .gs 96 rfl rfl rfl ?_
 refine .gs 96 rfl rfl rfl ?_
 refine .vl (Y.pick rfl rfl rfl) ?_
 refine .vl (Y.move rfl rfl) ?_
 refine .gs 101 rfl rfl rfl ?_
 refine .gs 101 rfl rfl rfl ?_
 refine .gs 101 rfl rfl rfl ?_
 refine .vl (Y.pick rfl rfl rfl) ?_
 refine .vl (Y.move rfl rfl) ?_
 refine .gs 106 rfl rfl rfl ?_
 refine .gs 106 rfl rfl rfl ?_
 refine .gs 106 rfl rfl rfl ?_
 refine .vl (Y.pick rfl rfl rfl) ?_
 refine AOps.nil ?_
 refine AWp.condT rfl ?_
 refine AWp.sr ?_
 refine .vl (Y.assign rfl rfl) ?_
 refine AOps.nil ?_
 refine AWp.ret ?_
 exact ⟨_, _, rfl, rfl, (cg1 (fun (z0 : Bool) => X.v (.bool z0)) (df (fun h => by have h1 := h.mems n77_10 (by omega); unfold MemOK at h1; obtain ⟨a1, a2, a3, a4, a5, a6⟩ := h1; first | contradiction | omega) : false = decide (Formed n)) : X.v (.bool false) = X.v (.bool (decide (Formed n)))), rfl⟩
 replace c85 : Named ((n.mems.getD n77_10 default).name) := by simpa using c85
 refine .gv 85 rfl rfl (Y.fieldAddr fl48_1 rfl rfl) ?_
 refine .gv 85 rfl rfl (Y.load sh3 rfl rfl rfl rfl) ?_
 refine AOps.guardRun (d := 85) rfl (by decide) rfl ?_
 refine AOps.callP ok93 (wide_spec (w := ((n.mems.getD n77_10 default).width))) rfl (.keep rfl rfl .nil) (by decide) rfl ?_
 refine .gv 85 rfl rfl (Y.not rfl) ?_
 refine .vl (Y.pick rfl rfl rfl) ?_
 refine .vl (Y.move rfl rfl) ?_
 refine AOps.split (d := 91) rfl (fun c91 => ?_) (fun c91 => ?_)
 replace c91 : ¬ (Wide ((n.mems.getD n77_10 default).width)) := by simpa using c91
 refine .gs 91 rfl rfl rfl ?_
 refine .gs 91 rfl rfl rfl ?_
 refine .gs 91 rfl rfl rfl ?_
 refine .vl (Y.pick rfl rfl rfl) ?_
 refine .vl (Y.move rfl rfl) ?_
 refine .gs 96 rfl rfl rfl ?_
 refine .gs 96 rfl rfl rfl ?_
 refine .gs 96 rfl rfl rfl ?_
 refine .vl (Y.pick rfl rfl rfl) ?_
 refine .vl (Y.move rfl rfl) ?_
 refine .gs 101 rfl rfl rfl ?_
 refine .gs 101 rfl rfl rfl ?_
 refine .gs 101 rfl rfl rfl ?_
 refine .vl (Y.pick rfl rfl rfl) ?_
 refine .vl (Y.move rfl rfl) ?_
 refine .gs 106 rfl rfl rfl ?_
 refine .gs 106 rfl rfl rfl ?_
 refine .gs 106 rfl rfl rfl ?_
 refine .vl (Y.pick rfl rfl rfl) ?_
 refine AOps.nil ?_
 refine AWp.condT rfl ?_
 refine AWp.sr ?_
 refine .vl (Y.assign rfl rfl) ?_
 refine AOps.nil ?_
 refine AWp.ret ?_
 exact ⟨_, _, rfl, rfl, (cg1 (fun (z0 : Bool) => X.v (.bool z0)) (df (fun h => by have h1 := h.mems n77_10 (by omega); unfold MemOK at h1; obtain ⟨a1, a2, a3, a4, a5, a6⟩ := h1; first | contradiction | omega) : false = decide (Formed n)) : X.v (.bool false) = X.v (.bool (decide (Formed n)))), rfl⟩
 replace c91 : Wide ((n.mems.getD n77_10 default).width) := by simpa using c91
 refine .gv 91 rfl rfl (Y.fieldAddr fl48_2 rfl rfl) ?_
 refine .gv 91 rfl rfl (Y.load sh3 rfl rfl rfl rfl) ?_
 refine .gv 91 rfl rfl (Y.lss rfl rfl) ?_
 refine .vl (Y.pick rfl rfl rfl) ?_
 refine .vl (Y.move rfl rfl) ?_
 refine AOps.splitD (d := 96) rfl (fun c96 => ?_) (fun c96 => ?_)
 refine .gs 96 rfl rfl rfl ?_
 refine .gs 96 rfl rfl rfl ?_
 refine .gs 96 rfl rfl rfl ?_
 refine .vl (Y.pick rfl rfl rfl) ?_
 refine .vl (Y.move rfl rfl) ?_
 refine .gs 101 rfl rfl rfl ?_
 refine .gs 101 rfl rfl rfl ?_
 refine .gs 101 rfl rfl rfl ?_
 refine .vl (Y.pick rfl rfl rfl) ?_
 refine .vl (Y.move rfl rfl) ?_
 refine .gs 106 rfl rfl rfl ?_
 refine .gs 106 rfl rfl rfl ?_
 refine .gs 106 rfl rfl rfl ?_
 refine .vl (Y.pick rfl rfl rfl) ?_
 refine AOps.nil ?_
 refine AWp.condT rfl ?_
 refine AWp.sr ?_
 refine .vl (Y.assign rfl rfl) ?_
 refine AOps.nil ?_
 refine AWp.ret ?_
 exact ⟨_, _, rfl, rfl, (cg1 (fun (z0 : Bool) => X.v (.bool z0)) (df (fun h => by have h1 := h.mems n77_10 (by omega); unfold MemOK at h1; obtain ⟨a1, a2, a3, a4, a5, a6⟩ := h1; first | contradiction | omega) : false = decide (Formed n)) : X.v (.bool false) = X.v (.bool (decide (Formed n)))), rfl⟩
 refine .gv 96 rfl rfl (Y.fieldAddr fl48_2 rfl rfl) ?_
 refine .gv 96 rfl rfl (Y.load sh3 rfl rfl rfl rfl) ?_
 refine .gv 96 rfl rfl (Y.gtr rfl rfl) ?_
 refine .vl (Y.pick rfl rfl rfl) ?_
 refine .vl (Y.move rfl rfl) ?_
 refine AOps.splitD (d := 101) rfl (fun c101 => ?_) (fun c101 => ?_)
 refine .gs 101 rfl rfl rfl ?_
 refine .gs 101 rfl rfl rfl ?_
 refine .gs 101 rfl rfl rfl ?_
 refine .vl (Y.pick rfl rfl rfl) ?_
 refine .vl (Y.move rfl rfl) ?_
 refine .gs 106 rfl rfl rfl ?_
 refine .gs 106 rfl rfl rfl ?_
 refine .gs 106 rfl rfl rfl ?_
 refine .vl (Y.pick rfl rfl rfl) ?_
 refine AOps.nil ?_
 refine AWp.condT rfl ?_
 refine AWp.sr ?_
 refine .vl (Y.assign rfl rfl) ?_
 refine AOps.nil ?_
 refine AWp.ret ?_
 exact ⟨_, _, rfl, rfl, (cg1 (fun (z0 : Bool) => X.v (.bool z0)) (df (fun h => by have h1 := h.mems n77_10 (by omega); unfold MemOK at h1; obtain ⟨a1, a2, a3, a4, a5, a6⟩ := h1; first | contradiction | omega) : false = decide (Formed n)) : X.v (.bool false) = X.v (.bool (decide (Formed n)))), rfl⟩
 refine .gv 101 rfl rfl (Y.fieldAddr fl48_3 rfl rfl) ?_
 refine .gv 101 rfl rfl (Y.load sh3 rfl rfl rfl rfl) ?_
 refine .gv 101 rfl rfl (Y.neq rfl rfl) ?_
 refine .vl (Y.pick rfl rfl rfl) ?_
 refine .vl (Y.move rfl rfl) ?_
 refine AOps.splitD (d := 106) rfl (fun c106 => ?_) (fun c106 => ?_)
 refine .gs 106 rfl rfl rfl ?_
 refine .gs 106 rfl rfl rfl ?_
 refine .gs 106 rfl rfl rfl ?_
 refine .vl (Y.pick rfl rfl rfl) ?_
 refine AOps.nil ?_
 refine AWp.condT rfl ?_
 refine AWp.sr ?_
 refine .vl (Y.assign rfl rfl) ?_
 refine AOps.nil ?_
 refine AWp.ret ?_
 exact ⟨_, _, rfl, rfl, (cg1 (fun (z0 : Bool) => X.v (.bool z0)) (df (fun h => by have h1 := h.mems n77_10 (by omega); unfold MemOK at h1; obtain ⟨a1, a2, a3, a4, a5, a6⟩ := h1; first | contradiction | omega) : false = decide (Formed n)) : X.v (.bool false) = X.v (.bool (decide (Formed n)))), rfl⟩
 refine .gv 106 rfl rfl (Y.fieldAddr fl48_4 rfl rfl) ?_
 refine .gv 106 rfl rfl (Y.load sh3 rfl rfl rfl rfl) ?_
 refine .gv 106 rfl rfl (Y.neq rfl rfl) ?_
 refine .vl (Y.pick rfl rfl rfl) ?_
 refine AOps.nil ?_
 refine AWp.condD rfl (fun c110 => ?_) (fun c110 => ?_)
 refine AWp.sr ?_
 refine .vl (Y.assign rfl rfl) ?_
 refine AOps.nil ?_
 refine AWp.ret ?_
 exact ⟨_, _, rfl, rfl, (cg1 (fun (z0 : Bool) => X.v (.bool z0)) (df (fun h => by have h1 := h.mems n77_10 (by omega); unfold MemOK at h1; obtain ⟨a1, a2, a3, a4, a5, a6⟩ := h1; first | contradiction | omega) : false = decide (Formed n)) : X.v (.bool false) = X.v (.bool (decide (Formed n)))), rfl⟩
 refine AWp.skip ?_
 refine AWp.region ?_
 refine .vl (Y.addI rfl rfl (by first | omega | (simp [-List.getD_eq_getElem?_getD]; done) | (simp [-List.getD_eq_getElem?_getD]; omega) | (unfold In at *; omega))) ?_
 refine .vl (Y.move rfl rfl) ?_
 refine AOps.nil ?_
 exact ⟨n77_10 + 1, ⟨by first | omega | (simp [-List.getD_eq_getElem?_getD]; done) | (simp [-List.getD_eq_getElem?_getD]; omega) | (unfold In at *; omega), below_succ' hm (by unfold MemOK; refine ⟨?_, ?_, ?_, ?_, ?_, ?_⟩ <;> first | assumption | omega)⟩, by omega, Le.mk (SubL.cons rfl (SubL.cons rfl (SubL.cons rfl (SubL.cons (look_int rfl (by first | rfl | omega)) (SubL.nil))))) (SubL.cons rfl (SubL.nil))⟩
 refine AWp.exit ?_
 refine AWp.sr ?_
 refine AOps.sh (Sh.freezeO 101 rfl rfl) ?_
 refine .vl (Y.makeFunc rfl rfl rfl rfl) ?_
 refine AOps.alloc 107 ze45 rfl rfl (by decide) ?_
 refine AOps.storeC si45 rfl rfl rfl rfl rfl rfl (Nat.le_of_ble_eq_true rfl) rfl ?_
 refine AOps.nil ?_
 refine AWp.seq ?_
 refine AWp.seq ?_
 refine AWp.sh (Sh.freezeO 107 rfl rfl) ?_
 refine AWp.region ?_
 refine .vl (Y.fieldAddr fl27_5 rfl rfl) ?_
 refine .vl (Y.load sh25 rfl rfl rfl rfl) ?_
 refine .vl (Y.len (n := n.streams.length) sl25 rfl (congrArg some (List.length_map ..))) ?_
 refine .vl (Y.move rfl rfl) ?_
 refine AOps.nil ?_
 refine AWp.block ?_
 refine AWp.loop1 (fun (n116_17 : Nat) => ⟨[(1, .fp (Netlist.row n) 0), (7, .fp ([.clo (.func 94) [] [.fp (Netlist.row n) 0]]) 0), (114, .fz 3 (n.streams.map Strm.row)), (115, .v (.int .i64 ((n.streams.length : Nat) : Int))), (116, .v (.int .i64 (n116_17 : Int)))], []⟩) (fun (n116_17 : Nat) => ((n116_17 : Int) ≤ ((n.streams.length : Nat) : Int)) ∧ (∀ j, j < n116_17 → StrOK n j)) (fun (n116_17 : Nat) => (((n.streams.length : Nat) : Int) - (n116_17 : Int)).toNat) 0 (⟨by first | omega | (simp [-List.getD_eq_getElem?_getD]; done) | (simp [-List.getD_eq_getElem?_getD]; omega) | (unfold In at *; omega), fun j hj => by omega⟩) (Le.mk (SubL.cons rfl (SubL.cons rfl (SubL.cons rfl (SubL.cons rfl (SubL.cons (look_int rfl (by first | rfl | omega)) (SubL.nil)))))) (SubL.nil)) (fun n116_17 hI17 => ?_)
 obtain ⟨hb17, hst⟩ := hI17
 refine AWp.sr ?_
 refine .vl (Y.lss rfl rfl) ?_
 refine AOps.nil ?_
 refine AWp.seq ?_
 refine AWp.condD rfl (fun c117 => ?_) (fun c117 => ?_)
 refine AWp.skip ?_
 refine AWp.join4 (fun (n144_j21 : Bool) (n153_j21 : Bool) (n159_j21 : Bool) (n166_j21 : Bool) => ⟨[(1, .fp (Netlist.row n) 0), (7, .fp ([.clo (.func 94) [] [.fp (Netlist.row n) 0]]) 0), (114, .fz 3 (n.streams.map Strm.row)), (115, .v (.int .i64 ((n.streams.length : Nat) : Int))), (116, .v (.int .i64 (n116_17 : Int))), (126, .ptr 109 0 0 1), (127, .v (.int .i64 ((n.streams.getD n116_17 default).width))), (128, .v (.bool (decide (Wide ((n.streams.getD n116_17 default).width))))), (129, .v (.bool (!decide (Wide ((n.streams.getD n116_17 default).width))))), (132, .clo (.func 94) [] [.fp (Netlist.row n) 0]), (133, .fp (Netlist.row n) 6), (134, .fz 1 (n.active.map irow)), (135, .v (.int .i64 (n116_17 : Int))), (136, .fp (irow (n.active.getD n116_17 0)) 0), (137, .v (.int .i64 (n.active.getD n116_17 0))), (138, .v (.bool (decide (In (n.active.getD n116_17 0) n.widths.length)))), (139, .v (.bool (!decide (In (n.active.getD n116_17 0) n.widths.length)))), (142, .ptr 109 0 0 2), (143, .v (.bool ((n.streams.getD n116_17 default).out))), (144, .v (.bool n144_j21)), (153, .v (.bool n153_j21)), (156, .ptr 109 0 0 2), (157, .v (.bool ((n.streams.getD n116_17 default).out))), (158, .v (.bool (!((n.streams.getD n116_17 default).out)))), (159, .v (.bool n159_j21)), (166, .v (.bool n166_j21))], [(109, .cells [.v (.string ((n.streams.getD n116_17 default).name)), .v (.int .i64 ((n.streams.getD n116_17 default).width)), .v (.bool ((n.streams.getD n116_17 default).out))])]⟩) (fun (n144_j21 : Bool) (n153_j21 : Bool) (n159_j21 : Bool) (n166_j21 : Bool) => StrOK n n116_17) ?_ (fun n144_j21 n153_j21 n159_j21 n166_j21 hJ21 => ?_)
 refine AWp.block ?_
 refine AWp.sr ?_
 have hsn := hs.strNames _ (getD_mem' (l := n.streams) (i := n116_17) (d := default) (by omega))
 refine .vl (Y.move rfl rfl) ?_
 refine .vl (Y.indexF (m := n116_17) sl25 rfl rfl (by first | rfl | omega) (row_getD (d := default) (by first | omega | (simp [-List.getD_eq_getElem?_getD]; done) | (simp [-List.getD_eq_getElem?_getD]; omega) | (unfold In at *; omega)))) ?_
 refine .vl (Y.loadA sh83 rfl rfl (Nat.le_of_ble_eq_true rfl) rfl rfl) ?_
 refine AOps.alloc 109 ze83 rfl rfl (by decide) ?_
 refine .vl (Y.assign rfl rfl) ?_
 refine AOps.storeC si83 rfl rfl rfl rfl rfl rfl (Nat.le_of_ble_eq_true rfl) rfl ?_
 refine AOps.nil ?_
 refine AWp.seq ?_
 refine AWp.regionAny rfl ?_
 refine AAny.quietN (n := 45) [0, 1] [2, 3, 4, 5, 6, 7, 8, 9, 10, 11, 12, 13, 14, 15, 16, 17, 18, 19, 20, 21, 22, 23, 24, 25, 26, 27, 28, 29, 30, 31, 32, 33, 34, 35, 36, 37, 38, 39, 40, 41, 42, 43, 44, 45, 46] 2 rfl (by kernel_rfl) ?_
 refine .cn 0 rfl (Y.fieldAddr fl83_0 rfl rfl) ?_
 refine .cn 1 rfl (Y.load sh9 rfl rfl rfl rfl) ?_
 refine AQ.nil ?_
 refine AAny.one 2 rfl (by kernel_rfl) ?_
 refine AOps.callP ok92 (named_spec (s := ((n.streams.getD n116_17 default).name)) (by first | assumption | omega)) rfl (.keep rfl rfl .nil) (by decide) rfl ?_
 refine AOps.nil ⟨rfl, ?_⟩
 refine AAny.quietN (n := 40) [3, 4, 5, 6] [7, 8, 9, 10, 11, 12, 13, 14, 15, 16, 17, 18, 19, 20, 21, 22, 23, 24, 25, 26, 27, 28, 29, 30, 31, 32, 33, 34, 35, 36, 37, 38, 39, 40, 41, 42, 43, 44, 45, 46] 7 rfl (by kernel_rfl) ?_
 refine .cn 3 rfl (Y.not rfl) ?_
 refine .cn 4 rfl (Y.move rfl rfl) ?_
 refine AQ.split (d := 125) rfl (fun c125 => ?_) (fun c125 => ?_)
 replace c125 : ¬ (Named ((n.streams.getD n116_17 default).name)) := by simpa using c125
 refine .sk 5 rfl rfl rfl rfl ?_
 refine .sk 6 rfl rfl rfl rfl ?_
 refine AQ.nil ?_
 refine AAny.skipOp 7 rfl (by kernel_rfl) rfl (by decide) (by decide) rfl rfl ?_
 refine AAny.skipOp 8 rfl (by kernel_rfl) rfl (by decide) (by decide) rfl rfl ?_
 refine AAny.quietN (n := 30) [9, 10, 11, 12, 13, 14, 15, 16] [17, 18, 19, 20, 21, 22, 23, 24, 25, 26, 27, 28, 29, 30, 31, 32, 33, 34, 35, 36, 37, 38, 39, 40, 41, 42, 43, 44, 45, 46] 17 rfl (by kernel_rfl) ?_
 refine .cn 9 rfl (Y.pick rfl rfl rfl) ?_
 refine .cn 10 rfl (Y.move rfl rfl) ?_
 refine .sk 11 rfl rfl rfl rfl ?_
 refine .sk 12 rfl rfl rfl rfl ?_
 refine .sk 13 rfl rfl rfl rfl ?_
 refine .sk 14 rfl rfl rfl rfl ?_
 refine .sk 15 rfl rfl rfl rfl ?_
 refine .sk 16 rfl rfl rfl rfl ?_
 refine AQ.nil ?_
 refine AAny.skipOp 17 rfl (by kernel_rfl) rfl (by decide) (by decide) rfl rfl ?_
 refine AAny.skipOp 18 rfl (by kernel_rfl) rfl (by decide) (by decide) rfl rfl ?_
 refine AAny.quietN (n := 17) [19, 20, 21, 22, 23, 24, 25, 26, 27, 28, 29] [30, 31, 32, 33, 34, 35, 36, 37, 38, 39, 40, 41, 42, 43, 44, 45, 46] 30 rfl (by kernel_rfl) ?_
 refine .cn 19 rfl (Y.pick rfl rfl rfl) ?_
 refine .cn 20 rfl (Y.move rfl rfl) ?_
 refine .sk 21 rfl rfl rfl rfl ?_
 refine .sk 22 rfl rfl rfl rfl ?_
 refine .sk 23 rfl rfl rfl rfl ?_
 refine .sk 24 rfl rfl rfl rfl ?_
 refine .sk 25 rfl rfl rfl rfl ?_
 refine .sk 26 rfl rfl rfl rfl ?_
 refine .sk 27 rfl rfl rfl rfl ?_
 refine .sk 28 rfl rfl rfl rfl ?_
 refine .sk 29 rfl rfl rfl rfl ?_
 refine AQ.nil ?_
 refine AAny.skipOp 30 rfl (by kernel_rfl) rfl (by decide) (by decide) rfl rfl ?_
 refine AAny.skipOp 31 rfl (by kernel_rfl) rfl (by decide) (by decide) rfl rfl ?_
 refine AAny.skipOp 32 rfl (by kernel_rfl) rfl (by decide) (by decide) rfl rfl ?_
 refine AAny.quietN (n := 0) [33, 34, 35, 36, 37, 38, 39, 40, 41, 42, 43, 44, 45, 46] [] 0 rfl (by kernel_rfl) ?_
 refine .cn 33 rfl (Y.pick rfl rfl rfl) ?_
 refine .cn 34 rfl (Y.move rfl rfl) ?_
 refine .sk 35 rfl rfl rfl rfl ?_
 refine .sk 36 rfl rfl rfl rfl ?_
 refine .sk 37 rfl rfl rfl rfl ?_
 refine .sk 38 rfl rfl rfl rfl ?_
 refine .sk 39 rfl rfl rfl rfl ?_
 refine .sk 40 rfl rfl rfl rfl ?_
 refine .sk 41 rfl rfl rfl rfl ?_
 refine .sk 42 rfl rfl rfl rfl ?_
 refine .sk 43 rfl rfl rfl rfl ?_
 refine .sk 44 rfl rfl rfl rfl ?_
 refine .sk 45 rfl rfl rfl rfl ?_
 refine .cn 46 rfl (Y.pick rfl rfl rfl) ?_
 refine AQ.nil ?_
 refine AAny.done (by kernel_rfl) ?_
 refine AWp.condT rfl ?_
 refine AWp.sr ?_
 refine .vl (Y.assign rfl rfl) ?_
 refine AOps.nil ?_
 refine AWp.ret ?_
 exact ⟨_, _, rfl, rfl, (cg1 (fun (z0 : Bool) => X.v (.bool z0)) (df (fun h => by have h1 := h.strs n116_17 (by omega); unfold StrOK at h1; obtain ⟨a1, a2, a3, a4, a5⟩ := h1; first | contradiction | grind) : false = decide (Formed n)) : X.v (.bool false) = X.v (.bool (decide (Formed n)))), rfl⟩
 replace c125 : Named ((n.streams.getD n116_17 default).name) := by simpa using c125
 refine .rn 5 rfl rfl rfl (Y.fieldAddr fl83_1 rfl rfl) ?_
 refine .rn 6 rfl rfl rfl (Y.load sh3 rfl rfl rfl rfl) ?_
 refine AQ.nil ?_
 refine AAny.one 7 rfl (by kernel_rfl) ?_
 refine AOps.guardRun (d := 125) rfl (by decide) rfl ?_
 refine AOps.callP ok93 (wide_spec (w := ((n.streams.getD n116_17 default).width))) rfl (.keep rfl rfl .nil) (by decide) rfl ?_
 refine AOps.nil ⟨rfl, ?_⟩
 refine AAny.quietN (n := 30) [8, 9, 10, 11, 12, 13, 14, 15, 16] [17, 18, 19, 20, 21, 22, 23, 24, 25, 26, 27, 28, 29, 30, 31, 32, 33, 34, 35, 36, 37, 38, 39, 40, 41, 42, 43, 44, 45, 46] 17 rfl (by kernel_rfl) ?_
 refine .rn 8 rfl rfl rfl (Y.not rfl) ?_
 refine .cn 9 rfl (Y.pick rfl rfl rfl) ?_
 refine .cn 10 rfl (Y.move rfl rfl) ?_
 refine AQ.split (d := 131) rfl (fun c131 => ?_) (fun c131 => ?_)
 replace c131 : ¬ (Wide ((n.streams.getD n116_17 default).width)) := by simpa using c131
 refine .sk 11 rfl rfl rfl rfl ?_
 refine .sk 12 rfl rfl rfl rfl ?_
 refine .sk 13 rfl rfl rfl rfl ?_
 refine .sk 14 rfl rfl rfl rfl ?_
 refine .sk 15 rfl rfl rfl rfl ?_
 refine .sk 16 rfl rfl rfl rfl ?_
 refine AQ.nil ?_
 refine AAny.skipOp 17 rfl (by kernel_rfl) rfl (by decide) (by decide) rfl rfl ?_
 refine AAny.skipOp 18 rfl (by kernel_rfl) rfl (by decide) (by decide) rfl rfl ?_
 refine AAny.quietN (n := 17) [19, 20, 21, 22, 23, 24, 25, 26, 27, 28, 29] [30, 31, 32, 33, 34, 35, 36, 37, 38, 39, 40, 41, 42, 43, 44, 45, 46] 30 rfl (by kernel_rfl) ?_
 refine .cn 19 rfl (Y.pick rfl rfl rfl) ?_
 refine .cn 20 rfl (Y.move rfl rfl) ?_
 refine .sk 21 rfl rfl rfl rfl ?_
 refine .sk 22 rfl rfl rfl rfl ?_
 refine .sk 23 rfl rfl rfl rfl ?_
 refine .sk 24 rfl rfl rfl rfl ?_
 refine .sk 25 rfl rfl rfl rfl ?_
 refine .sk 26 rfl rfl rfl rfl ?_
 refine .sk 27 rfl rfl rfl rfl ?_
 refine .sk 28 rfl rfl rfl rfl ?_
 refine .sk 29 rfl rfl rfl rfl ?_
 refine AQ.nil ?_
 refine AAny.skipOp 30 rfl (by kernel_rfl) rfl (by decide) (by decide) rfl rfl ?_
 refine AAny.skipOp 31 rfl (by kernel_rfl) rfl (by decide) (by decide) rfl rfl ?_
 refine AAny.skipOp 32 rfl (by kernel_rfl) rfl (by decide) (by decide) rfl rfl ?_
 refine AAny.quietN (n := 0) [33, 34, 35, 36, 37, 38, 39, 40, 41, 42, 43, 44, 45, 46] [] 0 rfl (by kernel_rfl) ?_
 refine .cn 33 rfl (Y.pick rfl rfl rfl) ?_
 refine .cn 34 rfl (Y.move rfl rfl) ?_
 refine .sk 35 rfl rfl rfl rfl ?_
 refine .sk 36 rfl rfl rfl rfl ?_
 refine .sk 37 rfl rfl rfl rfl ?_
 refine .sk 38 rfl rfl rfl rfl ?_
 refine .sk 39 rfl rfl rfl rfl ?_
 refine .sk 40 rfl rfl rfl rfl ?_
 refine .sk 41 rfl rfl rfl rfl ?_
 refine .sk 42 rfl rfl rfl rfl ?_
 refine .sk 43 rfl rfl rfl rfl ?_
 refine .sk 44 rfl rfl rfl rfl ?_
 refine .sk 45 rfl rfl rfl rfl ?_
 refine .cn 46 rfl (Y.pick rfl rfl rfl) ?_
 refine AQ.nil ?_
 refine AAny.done (by kernel_rfl) ?_
 refine AWp.condT rfl ?_
 refine AWp.sr ?_
 refine .vl (Y.assign rfl rfl) ?_
 refine AOps.nil ?_
 refine AWp.ret ?_
 exact ⟨_, _, rfl, rfl, (cg1 (fun (z0 : Bool) => X.v (.bool z0)) (df (fun h => by have h1 := h.strs n116_17 (by omega); unfold StrOK at h1; obtain ⟨a1, a2, a3, a4, a5⟩ := h1; first | contradiction | grind) : false = decide (Formed n)) : X.v (.bool false) = X.v (.bool (decide (Formed n)))), rfl⟩
 replace c131 : Wide ((n.streams.getD n116_17 default).width) := by simpa using c131
 refine .rn 11 rfl rfl rfl (Y.load sh45 rfl rfl rfl rfl) ?_
 refine .rn 12 rfl rfl rfl (Y.fieldAddr fl27_6 rfl rfl) ?_
 refine .rn 13 rfl rfl rfl (Y.load sh22 rfl rfl rfl rfl) ?_
 refine .rn 14 rfl rfl rfl (Y.move rfl rfl) ?_
 refine .rn 15 rfl rfl rfl (Y.indexF (m := n116_17) sl22 rfl rfl (by first | rfl | omega) (row_getD (d := 0) (by first | omega | (simp [-List.getD_eq_getElem?_getD]; done) | (simp [-List.getD_eq_getElem?_getD]; omega) | (unfold In at *; omega)))) ?_
 refine .rn 16 rfl rfl rfl (Y.load sh3 rfl rfl rfl rfl) ?_
 refine AQ.nil ?_
 refine AAny.one 17 rfl (by kernel_rfl) ?_
 refine AOps.guardRun (d := 131) rfl (by decide) rfl ?_
 refine AOps.callCP rfl ok94 (formed1_spec (i := (n.active.getD n116_17 0))) rfl (.keep rfl rfl (.keep rfl rfl .nil)) (by decide) rfl ?_
 refine AOps.nil ⟨rfl, ?_⟩
 refine AAny.quietN (n := 17) [18, 19, 20, 21, 22, 23, 24, 25, 26, 27, 28, 29] [30, 31, 32, 33, 34, 35, 36, 37, 38, 39, 40, 41, 42, 43, 44, 45, 46] 30 rfl (by kernel_rfl) ?_
 refine .rn 18 rfl rfl rfl (Y.not rfl) ?_
 refine .cn 19 rfl (Y.pick rfl rfl rfl) ?_
 refine .cn 20 rfl (Y.move rfl rfl) ?_
 refine AQ.split (d := 141) rfl (fun c141 => ?_) (fun c141 => ?_)
 replace c141 : ¬ (In (n.active.getD n116_17 0) n.widths.length) := by simpa using c141
 refine .sk 21 rfl rfl rfl rfl ?_
 refine .sk 22 rfl rfl rfl rfl ?_
 refine .sk 23 rfl rfl rfl rfl ?_
 refine .sk 24 rfl rfl rfl rfl ?_
 refine .sk 25 rfl rfl rfl rfl ?_
 refine .sk 26 rfl rfl rfl rfl ?_
 refine .sk 27 rfl rfl rfl rfl ?_
 refine .sk 28 rfl rfl rfl rfl ?_
 refine .sk 29 rfl rfl rfl rfl ?_
 refine AQ.nil ?_
 refine AAny.skipOp 30 rfl (by kernel_rfl) rfl (by decide) (by decide) rfl rfl ?_
 refine AAny.skipOp 31 rfl (by kernel_rfl) rfl (by decide) (by decide) rfl rfl ?_
 refine AAny.skipOp 32 rfl (by kernel_rfl) rfl (by decide) (by decide) rfl rfl ?_
 refine AAny.quietN (n := 0) [33, 34, 35, 36, 37, 38, 39, 40, 41, 42, 43, 44, 45, 46] [] 0 rfl (by kernel_rfl) ?_
 refine .cn 33 rfl (Y.pick rfl rfl rfl) ?_
 refine .cn 34 rfl (Y.move rfl rfl) ?_
 refine .sk 35 rfl rfl rfl rfl ?_
 refine .sk 36 rfl rfl rfl rfl ?_
 refine .sk 37 rfl rfl rfl rfl ?_
 refine .sk 38 rfl rfl rfl rfl ?_
 refine .sk 39 rfl rfl rfl rfl ?_
 refine .sk 40 rfl rfl rfl rfl ?_
 refine .sk 41 rfl rfl rfl rfl ?_
 refine .sk 42 rfl rfl rfl rfl ?_
 refine .sk 43 rfl rfl rfl rfl ?_
 refine .sk 44 rfl rfl rfl rfl ?_
 refine .sk 45 rfl rfl rfl rfl ?_
 refine .cn 46 rfl (Y.pick rfl rfl rfl) ?_
 refine AQ.nil ?_
 refine AAny.done (by kernel_rfl) ?_
 refine AWp.condT rfl ?_
 refine AWp.sr ?_
 refine .vl (Y.assign rfl rfl) ?_
 refine AOps.nil ?_
 refine AWp.ret ?_
 exact ⟨_, _, rfl, rfl, (cg1 (fun (z0 : Bool) => X.v (.bool z0)) (df (fun h => by have h1 := h.strs n116_17 (by omega); unfold StrOK at h1; obtain ⟨a1, a2, a3, a4, a5⟩ := h1; first | contradiction | grind) : false = decide (Formed n)) : X.v (.bool false) = X.v (.bool (decide (Formed n)))), rfl⟩
 replace c141 : In (n.active.getD n116_17 0) n.widths.length := by simpa using c141
 refine .rn 21 rfl rfl rfl (Y.fieldAddr fl83_2 rfl rfl) ?_
 refine .rn 22 rfl rfl rfl (Y.load sh4 rfl rfl rfl rfl) ?_
 refine .rn 23 rfl rfl rfl (Y.move rfl rfl) ?_
 refine AQ.split (d := 144) rfl (fun c144 => ?_) (fun c144 => ?_)
 refine .rn 24 rfl rfl rfl (Y.load sh45 rfl rfl rfl rfl) ?_
 refine .rn 25 rfl rfl rfl (Y.fieldAddr fl27_7 rfl rfl) ?_
 refine .rn 26 rfl rfl rfl (Y.load sh22 rfl rfl rfl rfl) ?_
 refine .rn 27 rfl rfl rfl (Y.move rfl rfl) ?_
 refine .rn 28 rfl rfl rfl (Y.indexF (m := n116_17) sl22 rfl rfl (by first | rfl | omega) (row_getD (d := 0) (by first | omega | (simp [-List.getD_eq_getElem?_getD]; done) | (simp [-List.getD_eq_getElem?_getD]; omega) | (unfold In at *; omega)))) ?_
 refine .rn 29 rfl rfl rfl (Y.load sh3 rfl rfl rfl rfl) ?_
 refine AQ.nil ?_
 refine AAny.one 30 rfl (by kernel_rfl) ?_
 refine AOps.guardRun (d := 144) rfl (by decide) rfl ?_
 refine AOps.callCP rfl ok94 (formed1_spec (i := (n.data.getD n116_17 0))) rfl (.keep rfl rfl (.keep rfl rfl .nil)) (by decide) rfl ?_
 refine AOps.nil ⟨rfl, ?_⟩
 refine AAny.quietN (n := 0) [31, 32, 33, 34, 35, 36, 37, 38, 39, 40, 41, 42, 43, 44, 45, 46] [] 0 rfl (by kernel_rfl) ?_
 refine .rn 31 rfl rfl rfl (Y.not rfl) ?_
 refine .rn 32 rfl rfl rfl (Y.pick rfl rfl rfl) ?_
 refine .cn 33 rfl (Y.pick rfl rfl rfl) ?_
 refine .cn 34 rfl (Y.move rfl rfl) ?_
 refine AQ.split (d := 155) rfl (fun c155 => ?_) (fun c155 => ?_)
 replace c155 : ¬ (In (n.data.getD n116_17 0) n.widths.length) := by simpa using c155
 refine .sk 35 rfl rfl rfl rfl ?_
 refine .sk 36 rfl rfl rfl rfl ?_
 refine .sk 37 rfl rfl rfl rfl ?_
 refine .sk 38 rfl rfl rfl rfl ?_
 refine .sk 39 rfl rfl rfl rfl ?_
 refine .sk 40 rfl rfl rfl rfl ?_
 refine .sk 41 rfl rfl rfl rfl ?_
 refine .sk 42 rfl rfl rfl rfl ?_
 refine .sk 43 rfl rfl rfl rfl ?_
 refine .sk 44 rfl rfl rfl rfl ?_
 refine .sk 45 rfl rfl rfl rfl ?_
 refine .cn 46 rfl (Y.pick rfl rfl rfl) ?_
 refine AQ.nil ?_
 refine AAny.done (by kernel_rfl) ?_
 refine AWp.condT rfl ?_
 refine AWp.sr ?_
 refine .vl (Y.assign rfl rfl) ?_
 refine AOps.nil ?_
 refine AWp.ret ?_
 exact ⟨_, _, rfl, rfl, (cg1 (fun (z0 : Bool) => X.v (.bool z0)) (df (fun h => by have h1 := h.strs n116_17 (by omega); unfold StrOK at h1; obtain ⟨a1, a2, a3, a4, a5⟩ := h1; first | contradiction | grind) : false = decide (Formed n)) : X.v (.bool false) = X.v (.bool (decide (Formed n)))), rfl⟩
 replace c155 : In (n.data.getD n116_17 0) n.widths.length := by simpa using c155
 refine .rn 35 rfl rfl rfl (Y.fieldAddr fl83_2 rfl rfl) ?_
 refine .rn 36 rfl rfl rfl (Y.load sh4 rfl rfl rfl rfl) ?_
 refine .rn 37 rfl rfl rfl (Y.not rfl) ?_
 refine .rn 38 rfl rfl rfl (Y.move rfl rfl) ?_
 refine AQ.split (d := 159) rfl (fun c159 => ?_) (fun c159 => ?_)
 replace c159 : ((n.streams.getD n116_17 default).out) = false := by simpa using c159
 refine .rn 39 rfl rfl rfl (Y.fieldAddr fl27_7 rfl rfl) ?_
 refine .rn 40 rfl rfl rfl (Y.load sh22 rfl rfl rfl rfl) ?_
 refine .rn 41 rfl rfl rfl (Y.move rfl rfl) ?_
 refine .rn 42 rfl rfl rfl (Y.indexF (m := n116_17) sl22 rfl rfl (by first | rfl | omega) (row_getD (d := 0) (by first | omega | (simp [-List.getD_eq_getElem?_getD]; done) | (simp [-List.getD_eq_getElem?_getD]; omega) | (unfold In at *; omega)))) ?_
 refine .rn 43 rfl rfl rfl (Y.load sh3 rfl rfl rfl rfl) ?_
 refine .rn 44 rfl rfl rfl (Y.neq rfl rfl) ?_
 refine .rn 45 rfl rfl rfl (Y.pick rfl rfl rfl) ?_
 refine .cn 46 rfl (Y.pick rfl rfl rfl) ?_
 refine AQ.nil ?_
 refine AAny.done (by kernel_rfl) ?_
 refine AWp.condD rfl (fun c167 => ?_) (fun c167 => ?_)
 refine AWp.sr ?_
 refine .vl (Y.assign rfl rfl) ?_
 refine AOps.nil ?_
 refine AWp.ret ?_
 exact ⟨_, _, rfl, rfl, (cg1 (fun (z0 : Bool) => X.v (.bool z0)) (df (fun h => by have h1 := h.strs n116_17 (by omega); unfold StrOK at h1; obtain ⟨a1, a2, a3, a4, a5⟩ := h1; first | contradiction | grind) : false = decide (Formed n)) : X.v (.bool false) = X.v (.bool (decide (Formed n)))), rfl⟩
 refine AWp.skip ?_
 exact ⟨true, (!decide (In (n.data.getD n116_17 0) n.widths.length)), true, decide ((n.data.getD n116_17 0) ≠ (-1)), by unfold StrOK; grind, Le.mk (SubL.cons rfl (SubL.cons rfl (SubL.cons rfl (SubL.cons rfl (SubL.cons rfl (SubL.cons rfl (SubL.cons rfl (SubL.cons rfl (SubL.cons rfl (SubL.cons rfl (SubL.cons rfl (SubL.cons rfl (SubL.cons rfl (SubL.cons rfl (SubL.cons rfl (SubL.cons rfl (SubL.cons rfl (SubL.cons rfl (SubL.cons rfl (SubL.cons (look_bool rfl (by first | rfl | simp_all)) (SubL.cons (look_bool rfl (by first | rfl | simp_all)) (SubL.cons rfl (SubL.cons rfl (SubL.cons rfl (SubL.cons (look_bool rfl (by first | rfl | simp_all)) (SubL.cons (look_bool rfl (by first | rfl | simp_all)) (SubL.nil))))))))))))))))))))))))))) (SubL.cons rfl (SubL.nil))⟩
 replace c159 : ((n.streams.getD n116_17 default).out) = true := by simpa using c159
 refine .sk 39 rfl rfl rfl rfl ?_
 refine .sk 40 rfl rfl rfl rfl ?_
 refine .sk 41 rfl rfl rfl rfl ?_
 refine .sk 42 rfl rfl rfl rfl ?_
 refine .sk 43 rfl rfl rfl rfl ?_
 refine .sk 44 rfl rfl rfl rfl ?_
 refine .rn 45 rfl rfl rfl (Y.pick rfl rfl rfl) ?_
 refine .cn 46 rfl (Y.pick rfl rfl rfl) ?_
 refine AQ.nil ?_
 refine AAny.done (by kernel_rfl) ?_
 refine AWp.condF rfl ?_
 refine AWp.skip ?_
 exact ⟨true, (!decide (In (n.data.getD n116_17 0) n.widths.length)), false, false, by unfold StrOK; grind, Le.mk (SubL.cons rfl (SubL.cons rfl (SubL.cons rfl (SubL.cons rfl (SubL.cons rfl (SubL.cons rfl (SubL.cons rfl (SubL.cons rfl (SubL.cons rfl (SubL.cons rfl (SubL.cons rfl (SubL.cons rfl (SubL.cons rfl (SubL.cons rfl (SubL.cons rfl (SubL.cons rfl (SubL.cons rfl (SubL.cons rfl (SubL.cons rfl (SubL.cons (look_bool rfl (by first | rfl | simp_all)) (SubL.cons (look_bool rfl (by first | rfl | simp_all)) (SubL.cons rfl (SubL.cons rfl (SubL.cons rfl (SubL.cons (look_bool rfl (by first | rfl | simp_all)) (SubL.cons (look_bool rfl (by first | rfl | simp_all)) (SubL.nil))))))))))))))))))))))))))) (SubL.cons rfl (SubL.nil))⟩
 refine .sk 24 rfl rfl rfl rfl ?_
 refine .sk 25 rfl rfl rfl rfl ?_
 refine .sk 26 rfl rfl rfl rfl ?_
 refine .sk 27 rfl rfl rfl rfl ?_
 refine .sk 28 rfl rfl rfl rfl ?_
 refine .sk 29 rfl rfl rfl rfl ?_
 refine AQ.nil ?_
 refine AAny.skipOp 30 rfl (by kernel_rfl) rfl (by decide) (by decide) rfl rfl ?_
 refine AAny.skipOp 31 rfl (by kernel_rfl) rfl (by decide) (by decide) rfl rfl ?_
 refine AAny.quietN (n := 0) [32, 33, 34, 35, 36, 37, 38, 39, 40, 41, 42, 43, 44, 45, 46] [] 0 rfl (by kernel_rfl) ?_
 refine .rn 32 rfl rfl rfl (Y.pick rfl rfl rfl) ?_
 refine .cn 33 rfl (Y.pick rfl rfl rfl) ?_
 refine .cn 34 rfl (Y.move rfl rfl) ?_
 refine .rn 35 rfl rfl rfl (Y.fieldAddr fl83_2 rfl rfl) ?_
 refine .rn 36 rfl rfl rfl (Y.load sh4 rfl rfl rfl rfl) ?_
 refine .rn 37 rfl rfl rfl (Y.not rfl) ?_
 refine .rn 38 rfl rfl rfl (Y.move rfl rfl) ?_
 refine AQ.split (d := 159) rfl (fun c159 => ?_) (fun c159 => ?_)
 replace c159 : ((n.streams.getD n116_17 default).out) = false := by simpa using c159
 refine .rn 39 rfl rfl rfl (Y.fieldAddr fl27_7 rfl rfl) ?_
 refine .rn 40 rfl rfl rfl (Y.load sh22 rfl rfl rfl rfl) ?_
 refine .rn 41 rfl rfl rfl (Y.move rfl rfl) ?_
 refine .rn 42 rfl rfl rfl (Y.indexF (m := n116_17) sl22 rfl rfl (by first | rfl | omega) (row_getD (d := 0) (by first | omega | (simp [-List.getD_eq_getElem?_getD]; done) | (simp [-List.getD_eq_getElem?_getD]; omega) | (unfold In at *; omega)))) ?_
 refine .rn 43 rfl rfl rfl (Y.load sh3 rfl rfl rfl rfl) ?_
 refine .rn 44 rfl rfl rfl (Y.neq rfl rfl) ?_
 refine .rn 45 rfl rfl rfl (Y.pick rfl rfl rfl) ?_
 refine .cn 46 rfl (Y.pick rfl rfl rfl) ?_
 refine AQ.nil ?_
 refine AAny.done (by kernel_rfl) ?_
 refine AWp.condD rfl (fun c167 => ?_) (fun c167 => ?_)
 refine AWp.sr ?_
 refine .vl (Y.assign rfl rfl) ?_
 refine AOps.nil ?_
 refine AWp.ret ?_
 exact ⟨_, _, rfl, rfl, (cg1 (fun (z0 : Bool) => X.v (.bool z0)) (df (fun h => by have h1 := h.strs n116_17 (by omega); unfold StrOK at h1; obtain ⟨a1, a2, a3, a4, a5⟩ := h1; first | contradiction | grind) : false = decide (Formed n)) : X.v (.bool false) = X.v (.bool (decide (Formed n)))), rfl⟩
 refine AWp.skip ?_
 exact ⟨false, false, true, decide ((n.data.getD n116_17 0) ≠ (-1)), by unfold StrOK; grind, Le.mk (SubL.cons rfl (SubL.cons rfl (SubL.cons rfl (SubL.cons rfl (SubL.cons rfl (SubL.cons rfl (SubL.cons rfl (SubL.cons rfl (SubL.cons rfl (SubL.cons rfl (SubL.cons rfl (SubL.cons rfl (SubL.cons rfl (SubL.cons rfl (SubL.cons rfl (SubL.cons rfl (SubL.cons rfl (SubL.cons rfl (SubL.cons rfl (SubL.cons (look_bool rfl (by first | rfl | simp_all)) (SubL.cons (look_bool rfl (by first | rfl | simp_all)) (SubL.cons rfl (SubL.cons rfl (SubL.cons rfl (SubL.cons (look_bool rfl (by first | rfl | simp_all)) (SubL.cons (look_bool rfl (by first | rfl | simp_all)) (SubL.nil))))))))))))))))))))))))))) (SubL.cons rfl (SubL.nil))⟩
 replace c159 : ((n.streams.getD n116_17 default).out) = true := by simpa using c159
 refine .sk 39 rfl rfl rfl rfl ?_
 refine .sk 40 rfl rfl rfl rfl ?_
 refine .sk 41 rfl rfl rfl rfl ?_
 refine .sk 42 rfl rfl rfl rfl ?_
 refine .sk 43 rfl rfl rfl rfl ?_
 refine .sk 44 rfl rfl rfl rfl ?_
 refine .rn 45 rfl rfl rfl (Y.pick rfl rfl rfl) ?_
 refine .cn 46 rfl (Y.pick rfl rfl rfl) ?_
 refine AQ.nil ?_
 refine AAny.done (by kernel_rfl) ?_
 refine AWp.condF rfl ?_
 refine AWp.skip ?_
 exact ⟨false, false, false, false, by unfold StrOK; grind, Le.mk (SubL.cons rfl (SubL.cons rfl (SubL.cons rfl (SubL.cons rfl (SubL.cons rfl (SubL.cons rfl (SubL.cons rfl (SubL.cons rfl (SubL.cons rfl (SubL.cons rfl (SubL.cons rfl (SubL.cons rfl (SubL.cons rfl (SubL.cons rfl (SubL.cons rfl (SubL.cons rfl (SubL.cons rfl (SubL.cons rfl (SubL.cons rfl (SubL.cons (look_bool rfl (by first | rfl | simp_all)) (SubL.cons (look_bool rfl (by first | rfl | simp_all)) (SubL.cons rfl (SubL.cons rfl (SubL.cons rfl (SubL.cons (look_bool rfl (by first | rfl | simp_all)) (SubL.cons (look_bool rfl (by first | rfl | simp_all)) (SubL.nil))))))))))))))))))))))))))) (SubL.cons rfl (SubL.nil))⟩
 refine AWp.region ?_
 refine .vl (Y.addI rfl rfl (by first | omega | (simp [-List.getD_eq_getElem?_getD]; done) | (simp [-List.getD_eq_getElem?_getD]; omega) | (unfold In at *; omega))) ?_
 refine .vl (Y.move rfl rfl) ?_
 refine AOps.nil ?_
 exact ⟨n116_17 + 1, ⟨by first | omega | (simp [-List.getD_eq_getElem?_getD]; done) | (simp [-List.getD_eq_getElem?_getD]; omega) | (unfold In at *; omega), below_succ' hst hJ21⟩, by omega, Le.mk (SubL.cons rfl (SubL.cons rfl (SubL.cons rfl (SubL.cons rfl (SubL.cons (look_int rfl (by first | rfl | omega)) (SubL.nil)))))) (SubL.nil)⟩
 refine AWp.exit ?_
 refine AWp.seq ?_
 refine AWp.sr ?_
 refine .vl (Y.load sh45 rfl rfl rfl rfl) ?_
 refine .vl (Y.fieldAddr fl27_8 rfl rfl) ?_
 refine .vl (Y.load sh3 rfl rfl rfl rfl) ?_
 refine AOps.callCP rfl ok94 (formed1_spec (i := n.freeze)) rfl (.keep rfl rfl (.keep rfl rfl .nil)) (by decide) rfl ?_
 refine .vl (Y.not rfl) ?_
 refine .vl (Y.move rfl rfl) ?_
 refine AOps.split (d := 174) rfl (fun c174 => ?_) (fun c174 => ?_)
 replace c174 : ¬ (In n.freeze n.widths.length) := by simpa using c174
 refine .gs 174 rfl rfl rfl ?_
 refine .gs 174 rfl rfl rfl ?_
 refine .gs 174 rfl rfl rfl ?_
 refine .gs 174 rfl rfl rfl ?_
 refine .gs 174 rfl rfl rfl ?_
 refine .vl (Y.pick rfl rfl rfl) ?_
 refine .vl (Y.move rfl rfl) ?_
 refine .gs 181 rfl rfl rfl ?_
 refine .gs 181 rfl rfl rfl ?_
 refine .gs 181 rfl rfl rfl ?_
 refine .gs 181 rfl rfl rfl ?_
 refine .vl (Y.pick rfl rfl rfl) ?_
 refine AOps.nil ?_
 refine AWp.condT rfl ?_
 refine AWp.sr ?_
 refine .vl (Y.assign rfl rfl) ?_
 refine AOps.nil ?_
 refine AWp.ret ?_
 exact ⟨_, _, rfl, rfl, (cg1 (fun (z0 : Bool) => X.v (.bool z0)) (df (fun h => by have h1 := h.freeze; have h2 := h.done; contradiction) : false = decide (Formed n)) : X.v (.bool false) = X.v (.bool (decide (Formed n)))), rfl⟩
 replace c174 : In n.freeze n.widths.length := by simpa using c174
 refine .gv 174 rfl rfl (Y.load sh45 rfl rfl rfl rfl) ?_
 refine .gv 174 rfl rfl (Y.fieldAddr fl27_9 rfl rfl) ?_
 refine .gv 174 rfl rfl (Y.load sh3 rfl rfl rfl rfl) ?_
 refine AOps.guardRun (d := 174) rfl (by decide) rfl ?_
 refine AOps.callCP rfl ok94 (formed1_spec (i := n.done)) rfl (.keep rfl rfl (.keep rfl rfl .nil)) (by decide) rfl ?_
 refine .gv 174 rfl rfl (Y.not rfl) ?_
 refine .vl (Y.pick rfl rfl rfl) ?_
 refine .vl (Y.move rfl rfl) ?_
 refine AOps.split (d := 181) rfl (fun c181 => ?_) (fun c181 => ?_)
 replace c181 : ¬ (In n.done n.widths.length) := by simpa using c181
 refine .gs 181 rfl rfl rfl ?_
 refine .gs 181 rfl rfl rfl ?_
 refine .gs 181 rfl rfl rfl ?_
 refine .gs 181 rfl rfl rfl ?_
 refine .vl (Y.pick rfl rfl rfl) ?_
 refine AOps.nil ?_
 refine AWp.condT rfl ?_
 refine AWp.sr ?_
 refine .vl (Y.assign rfl rfl) ?_
 refine AOps.nil ?_
 refine AWp.ret ?_
 exact ⟨_, _, rfl, rfl, (cg1 (fun (z0 : Bool) => X.v (.bool z0)) (df (fun h => by have h1 := h.freeze; have h2 := h.done; contradiction) : false = decide (Formed n)) : X.v (.bool false) = X.v (.bool (decide (Formed n)))), rfl⟩
 replace c181 : In n.done n.widths.length := by simpa using c181
 refine .gv 181 rfl rfl (Y.fieldAddr fl27_10 rfl rfl) ?_
 refine .gv 181 rfl rfl (Y.load sh22 rfl rfl rfl rfl) ?_
 refine .gv 181 rfl rfl (Y.makeFunc rfl rfl rfl rfl) ?_
 refine AOps.guardRun (d := 181) rfl (by decide) rfl ?_
 refine AOps.callP ok95 (containsFuncInt_spec (l := n.rets) (p := fun z => !decide (In z n.widths.length)) ((by first | omega | (simp [-List.getD_eq_getElem?_getD]; done) | (simp [-List.getD_eq_getElem?_getD]; omega) | (unfold In at *; omega))) ok96 (fun z _ => formed2_spec)) rfl (.keep rfl rfl (.keep rfl rfl .nil)) (by decide) rfl ?_
 refine .vl (Y.pick rfl rfl rfl) ?_
 refine AOps.nil ?_
 refine AWp.cond rfl (fun c186 => ?_) (fun c186 => ?_)
 refine AWp.sr ?_
 refine .vl (Y.assign rfl rfl) ?_
 refine AOps.nil ?_
 refine AWp.ret ?_
 exact ⟨_, _, rfl, rfl, (cg1 (fun (z0 : Bool) => X.v (.bool z0)) (df (fun h => absurd h.rets (any_not.1 (by assumption))) : false = decide (Formed n)) : X.v (.bool false) = X.v (.bool (decide (Formed n)))), rfl⟩
 refine AWp.skip ?_
 refine AWp.sr ?_
 refine .vl (Y.fieldAddr fl27_1 rfl rfl) ?_
 refine .vl (Y.load sh22 rfl rfl rfl rfl) ?_
 refine .vl (Y.len (n := n.widths.length) sl22 rfl (congrArg some (List.length_map ..))) ?_
 refine AOps.makeSlice (n := n.widths.length) sl63 ze4 rfl rfl rfl rfl (by first | omega | (simp [-List.getD_eq_getElem?_getD]; done) | (simp [-List.getD_eq_getElem?_getD]; omega) | (unfold In at *; omega)) (by first | omega | (simp [-List.getD_eq_getElem?_getD]; done) | (simp [-List.getD_eq_getElem?_getD]; omega) | (unfold In at *; omega)) (by decide) ?_
 refine AOps.assignX rfl (by decide) ?_
 refine AOps.sh (Sh.adoptE (d := 10) (n := n.widths.length) 110 ((List.replicate n.widths.length false).map brow) rfl (by first | rfl | exact rep_map rfl) (len_map (by simp)) (by decide)) ?_
 refine AOps.nil ?_
 refine AWp.seq ?_
 refine AWp.sr ?_
 refine .vl (Y.fieldAddr fl27_2 rfl rfl) ?_
 refine .vl (Y.load sh23 rfl rfl rfl rfl) ?_
 refine .vl (Y.len (n := n.cells.length) sl23 rfl (congrArg some (List.length_map ..))) ?_
 refine .vl (Y.move rfl rfl) ?_
 refine AOps.nil ?_
 refine AWp.block ?_
 refine AWp.loop2 (fun (n194_26 : Nat) (driven10_26 : List Bool) => ⟨[(1, .fp (Netlist.row n) 0), (7, .fp ([.clo (.func 94) [] [.fp (Netlist.row n) 0]]) 0), (10, .slc 110 1 0 n.widths.length), (192, .fz 6 (n.cells.map Cell.row)), (193, .v (.int .i64 ((n.cells.length : Nat) : Int))), (194, .v (.int .i64 (n194_26 : Int)))], [(110, .rows 1 (driven10_26.map brow))]⟩) (fun (n194_26 : Nat) (driven10_26 : List Bool) => (driven10_26.length = n.widths.length) ∧ ((n194_26 : Int) ≤ ((n.cells.length : Nat) : Int)) ∧ (Drv n n194_26 driven10_26) ∧ (∀ j, j < n194_26 → CellOK n (n.cells.getD j default))) (fun (n194_26 : Nat) (driven10_26 : List Bool) => (((n.cells.length : Nat) : Int) - (n194_26 : Int)).toNat) 0 (List.replicate n.widths.length false) (⟨by first | omega | (simp [-List.getD_eq_getElem?_getD]; done) | (simp [-List.getD_eq_getElem?_getD]; omega) | (unfold In at *; omega), by first | omega | (simp [-List.getD_eq_getElem?_getD]; done) | (simp [-List.getD_eq_getElem?_getD]; omega) | (unfold In at *; omega), Drv.init n, fun j hj => by omega⟩) (Le.mk (SubL.cons rfl (SubL.cons rfl (SubL.cons rfl (SubL.cons rfl (SubL.cons rfl (SubL.cons (look_int rfl (by first | rfl | omega)) (SubL.nil))))))) (SubL.cons rfl (SubL.nil))) (fun n194_26 driven10_26 hI26 => ?_)
 obtain ⟨hl110, hb26, hd, hc⟩ := hI26
 refine AWp.sr ?_
 refine .vl (Y.lss rfl rfl) ?_
 refine AOps.nil ?_
 refine AWp.seq ?_
 refine AWp.condD rfl (fun c195 => ?_) (fun c195 => ?_)
 refine AWp.skip ?_
 refine AWp.join1 (fun (driven10_j36 : List Bool) => ⟨[(1, .fp (Netlist.row n) 0), (7, .fp ([.clo (.func 94) [] [.fp (Netlist.row n) 0]]) 0), (10, .slc 110 1 0 n.widths.length), (192, .fz 6 (n.cells.map Cell.row)), (193, .v (.int .i64 ((n.cells.length : Nat) : Int))), (194, .v (.int .i64 (n194_26 : Int))), (203, .agg [.v (.string n.name), .fz 1 (n.widths.map irow), .fz 6 (n.cells.map Cell.row), .fz 1 (n.ins.map irow), .fz 5 (n.mems.map Arr.row), .fz 3 (n.streams.map Strm.row), .fz 1 (n.active.map irow), .fz 1 (n.data.map irow), .v (.int .i64 n.freeze), .v (.int .i64 n.done), .fz 1 (n.rets.map irow)]), (204, .agg [.v (.int .i64 ((n.cells.getD n194_26 default).kind)), .v (.int .i64 ((n.cells.getD n194_26 default).op)), .v (.int .i64 ((n.cells.getD n194_26 default).out)), .fz 1 (((n.cells.getD n194_26 default).args).map irow), .v (.int .u64 (((n.cells.getD n194_26 default).num : Nat) : Int)), .v (.int .i64 ((n.cells.getD n194_26 default).mem))]), (205, .v (.bool (decide (Shaped n (n.cells.getD n194_26 default))))), (206, .v (.bool (!decide (Shaped n (n.cells.getD n194_26 default)))))], [(110, .rows 1 (driven10_j36.map brow))]⟩) (fun (driven10_j36 : List Bool) => (driven10_j36.length = n.widths.length) ∧ (CellOK n (n.cells.getD n194_26 default) ∧ Drv n (n194_26 + 1) driven10_j36)) ?_ (fun driven10_j36 hJx36 => ?_)
 refine AWp.block ?_
 refine AWp.sr ?_
 refine .vl (Y.indexF (m := n194_26) sl23 rfl rfl (by first | rfl | omega) (row_getD (d := default) (by first | omega | (simp [-List.getD_eq_getElem?_getD]; done) | (simp [-List.getD_eq_getElem?_getD]; omega) | (unfold In at *; omega)))) ?_
 refine .vl (Y.loadA sh39 rfl rfl (Nat.le_of_ble_eq_true rfl) rfl rfl) ?_
 refine AOps.alloc 112 ze39 rfl rfl (by decide) ?_
 refine AOps.storeC si39 rfl rfl rfl rfl rfl rfl (Nat.le_of_ble_eq_true rfl) rfl ?_
 refine AOps.nil ?_
 refine AWp.seq ?_
 refine AWp.sr ?_
 have hca := hs.args (n.cells.getD n194_26 default) (getD_mem' (by omega))
 refine .vl (Y.fieldAddr fl39_3 rfl rfl) ?_
 refine .vl (Y.load sh22 rfl rfl rfl rfl) ?_
 refine .vl (Y.makeFunc rfl rfl rfl rfl) ?_
 refine AOps.callP ok95 (containsFuncInt_spec (l := ((n.cells.getD n194_26 default).args)) (p := fun z => !decide (In z n.widths.length)) ((by first | omega | (simp [-List.getD_eq_getElem?_getD]; done) | (simp [-List.getD_eq_getElem?_getD]; omega) | (unfold In at *; omega))) ok97 (fun z _ => formed3_spec)) rfl (.keep rfl rfl (.keep rfl rfl .nil)) (by decide) rfl ?_
 refine .vl (Y.move rfl rfl) ?_
 refine AOps.split (d := 202) rfl (fun c202 => ?_) (fun c202 => ?_)
 refine .gs 202 rfl rfl rfl ?_
 refine .gs 202 rfl rfl rfl ?_
 refine .gs 202 rfl rfl rfl ?_
 refine .gs 202 rfl rfl rfl ?_
 refine .vl (Y.pick rfl rfl rfl) ?_
 refine AOps.nil ?_
 refine AWp.condT rfl ?_
 refine AWp.sr ?_
 refine .vl (Y.assign rfl rfl) ?_
 refine AOps.nil ?_
 refine AWp.ret ?_
 exact ⟨_, _, rfl, rfl, (cg1 (fun (z0 : Bool) => X.v (.bool z0)) (df (fun h => by have h1 := h.cells n194_26 (by omega); obtain ⟨a1, a2, a3, a4⟩ := h1; first | contradiction | exact absurd a1 (any_not.1 (by assumption)) | (have := a3 (by assumption); contradiction) | (have := a4 (by assumption); contradiction)) : false = decide (Formed n)) : X.v (.bool false) = X.v (.bool (decide (Formed n)))), rfl⟩
 refine .gv 202 rfl rfl (Y.loadA sh27 rfl rfl (Nat.le_of_ble_eq_true rfl) rfl rfl) ?_
 refine .gv 202 rfl rfl (Y.loadA sh39 rfl rfl (Nat.le_of_ble_eq_true rfl) rfl rfl) ?_
 refine AOps.guardRun (d := 202) rfl (by decide) rfl ?_
 refine AOps.callP ok98 (shaped_spec (n := n) (c := (n.cells.getD n194_26 default)) hs (by first | assumption | omega)) rfl (.keep rfl rfl (.keep rfl rfl .nil)) (by decide) rfl ?_
 refine .gv 202 rfl rfl (Y.not rfl) ?_
 refine .vl (Y.pick rfl rfl rfl) ?_
 refine AOps.nil ?_
 refine AWp.cond rfl (fun c207 => ?_) (fun c207 => ?_)
 replace c207 : ¬ (Shaped n (n.cells.getD n194_26 default)) := by simpa using c207
 refine AWp.sr ?_
 refine .vl (Y.assign rfl rfl) ?_
 refine AOps.nil ?_
 refine AWp.ret ?_
 exact ⟨_, _, rfl, rfl, (cg1 (fun (z0 : Bool) => X.v (.bool z0)) (df (fun h => by have h1 := h.cells n194_26 (by omega); obtain ⟨a1, a2, a3, a4⟩ := h1; first | contradiction | exact absurd a1 (any_not.1 (by assumption)) | (have := a3 (by assumption); contradiction) | (have := a4 (by assumption); contradiction)) : false = decide (Formed n)) : X.v (.bool false) = X.v (.bool (decide (Formed n)))), rfl⟩
 replace c207 : Shaped n (n.cells.getD n194_26 default) := by simpa using c207
 refine AWp.skip ?_
 refine AWp.seq ?_
 refine AWp.sr ?_
 refine .vl (Y.fieldAddr fl39_0 rfl rfl) ?_
 refine .vl (Y.load sh3 rfl rfl rfl rfl) ?_
 refine .vl (Y.eql rfl rfl) ?_
 refine AOps.nil ?_
 refine AWp.condD rfl (fun c210 => ?_) (fun c210 => ?_)
 refine AWp.seq ?_
 refine AWp.sr ?_
 refine .vl (Y.fieldAddr fl39_2 rfl rfl) ?_
 refine .vl (Y.load sh3 rfl rfl rfl rfl) ?_
 refine .vl (Y.neq rfl rfl) ?_
 refine AOps.nil ?_
 refine AWp.condD rfl (fun c213 => ?_) (fun c213 => ?_)
 refine AWp.sr ?_
 refine .vl (Y.assign rfl rfl) ?_
 refine AOps.nil ?_
 refine AWp.ret ?_
 exact ⟨_, _, rfl, rfl, (cg1 (fun (z0 : Bool) => X.v (.bool z0)) (df (fun h => by have h1 := h.cells n194_26 (by omega); obtain ⟨a1, a2, a3, a4⟩ := h1; first | contradiction | exact absurd a1 (any_not.1 (by assumption)) | (have := a3 (by assumption); contradiction) | (have := a4 (by assumption); contradiction)) : false = decide (Formed n)) : X.v (.bool false) = X.v (.bool (decide (Formed n)))), rfl⟩
 refine AWp.skip ?_
 refine AWp.exit ?_
 exact ⟨driven10_26, ⟨by first | omega | (simp [-List.getD_eq_getElem?_getD]; done) | (simp [-List.getD_eq_getElem?_getD]; omega) | (unfold In at *; omega), ⟨⟨any_not_false (by assumption), by assumption, fun _ => by omega, fun h => absurd (by assumption) h⟩, hd.skip (by omega) (by assumption)⟩⟩, Le.mk (SubL.cons rfl (SubL.cons rfl (SubL.cons rfl (SubL.cons rfl (SubL.cons rfl (SubL.cons rfl (SubL.cons rfl (SubL.cons rfl (SubL.cons rfl (SubL.cons rfl (SubL.nil))))))))))) (SubL.cons rfl (SubL.nil))⟩
 refine AWp.skip ?_
 refine AWp.seq ?_
 refine AWp.sr ?_
 refine .vl (Y.load sh45 rfl rfl rfl rfl) ?_
 refine .vl (Y.fieldAddr fl39_2 rfl rfl) ?_
 refine .vl (Y.load sh3 rfl rfl rfl rfl) ?_
 refine AOps.callCP rfl ok94 (formed1_spec (i := ((n.cells.getD n194_26 default).out))) rfl (.keep rfl rfl (.keep rfl rfl .nil)) (by decide) rfl ?_
 refine .vl (Y.not rfl) ?_
 refine .vl (Y.move rfl rfl) ?_
 refine AOps.split (d := 219) rfl (fun c219 => ?_) (fun c219 => ?_)
 replace c219 : ¬ (In ((n.cells.getD n194_26 default).out) n.widths.length) := by simpa using c219
 refine .gs 219 rfl rfl rfl ?_
 refine .gs 219 rfl rfl rfl ?_
 refine .gs 219 rfl rfl rfl ?_
 refine .gs 219 rfl rfl rfl ?_
 refine .gs 219 rfl rfl rfl ?_
 refine .vl (Y.pick rfl rfl rfl) ?_
 refine AOps.nil ?_
 refine AWp.condT rfl ?_
 refine AWp.sr ?_
 refine .vl (Y.assign rfl rfl) ?_
 refine AOps.nil ?_
 refine AWp.ret ?_
 exact ⟨_, _, rfl, rfl, (cg1 (fun (z0 : Bool) => X.v (.bool z0)) (df (fun h => by have h1 := h.cells n194_26 (by omega); obtain ⟨a1, a2, a3, a4⟩ := h1; first | contradiction | exact absurd a1 (any_not.1 (by assumption)) | (have := a3 (by assumption); contradiction) | (have := a4 (by assumption); contradiction)) : false = decide (Formed n)) : X.v (.bool false) = X.v (.bool (decide (Formed n)))), rfl⟩
 replace c219 : In ((n.cells.getD n194_26 default).out) n.widths.length := by simpa using c219
 refine .gv 219 rfl rfl (Y.move rfl rfl) ?_
 refine .gv 219 rfl rfl (Y.fieldAddr fl39_2 rfl rfl) ?_
 refine .gv 219 rfl rfl (Y.load sh3 rfl rfl rfl rfl) ?_
 refine .gv 219 rfl rfl (Y.indexO (m := ((n.cells.getD n194_26 default).out).toNat) sl63 rfl rfl (by first | omega | (simp [-List.getD_eq_getElem?_getD]; done) | (simp [-List.getD_eq_getElem?_getD]; omega) | (unfold In at *; omega)) (by first | omega | (simp [-List.getD_eq_getElem?_getD]; done) | (simp [-List.getD_eq_getElem?_getD]; omega) | (unfold In at *; omega))) ?_
 refine .gv 219 rfl rfl (Y.load sh4 rfl (row_getD0 (d := false) (by first | omega | (simp [-List.getD_eq_getElem?_getD]; done) | (simp [-List.getD_eq_getElem?_getD]; omega) | (unfold In at *; omega))) rfl rfl) ?_
 refine .vl (Y.pick rfl rfl rfl) ?_
 refine AOps.nil ?_
 refine AWp.cond rfl (fun c225 => ?_) (fun c225 => ?_)
 refine AWp.sr ?_
 refine .vl (Y.assign rfl rfl) ?_
 refine AOps.nil ?_
 refine AWp.ret ?_
 exact ⟨_, _, rfl, rfl, (cg1 (fun (z0 : Bool) => X.v (.bool z0)) (df (fun h => Drv.dup hd (by omega) (by assumption) (by assumption) (by assumption) h) : false = decide (Formed n)) : X.v (.bool false) = X.v (.bool (decide (Formed n)))), rfl⟩
 refine AWp.skip ?_
 refine AWp.region ?_
 refine .vl (Y.move rfl rfl) ?_
 refine .vl (Y.fieldAddr fl39_2 rfl rfl) ?_
 refine .vl (Y.load sh3 rfl rfl rfl rfl) ?_
 refine .vl (Y.indexO (m := ((n.cells.getD n194_26 default).out).toNat) sl63 rfl rfl (by first | omega | (simp [-List.getD_eq_getElem?_getD]; done) | (simp [-List.getD_eq_getElem?_getD]; omega) | (unfold In at *; omega)) (by first | omega | (simp [-List.getD_eq_getElem?_getD]; done) | (simp [-List.getD_eq_getElem?_getD]; omega) | (unfold In at *; omega))) ?_
 refine AOps.storeE ((driven10_26.set (((n.cells.getD n194_26 default).out).toNat) true).map brow) si4 rfl rfl rfl rfl rfl rfl rfl (row_getD0 (d := false) (by first | omega | (simp [-List.getD_eq_getElem?_getD]; done) | (simp [-List.getD_eq_getElem?_getD]; omega) | (unfold In at *; omega))) (Nat.le_of_ble_eq_true rfl) (set_map0 rfl) ?_
 refine AOps.nil ?_
 exact ⟨driven10_26.set (((n.cells.getD n194_26 default).out).toNat) true, ⟨by first | omega | (simp [-List.getD_eq_getElem?_getD]; done) | (simp [-List.getD_eq_getElem?_getD]; omega) | (unfold In at *; omega), ⟨⟨any_not_false (by assumption), by assumption, fun h => absurd h (by assumption), fun _ => by assumption⟩, hd.step (by omega) (by assumption) (by assumption) hl110 (by assumption)⟩⟩, Le.mk (SubL.cons rfl (SubL.cons rfl (SubL.cons rfl (SubL.cons rfl (SubL.cons rfl (SubL.cons rfl (SubL.cons rfl (SubL.cons rfl (SubL.cons rfl (SubL.cons rfl (SubL.nil))))))))))) (SubL.cons rfl (SubL.nil))⟩
 obtain ⟨hlj36_110, hJ36⟩ := hJx36
 refine AWp.region ?_
 refine .vl (Y.addI rfl rfl (by first | omega | (simp [-List.getD_eq_getElem?_getD]; done) | (simp [-List.getD_eq_getElem?_getD]; omega) | (unfold In at *; omega))) ?_
 refine .vl (Y.move rfl rfl) ?_
 refine AOps.nil ?_
 exact ⟨n194_26 + 1, driven10_j36, ⟨by first | omega | (simp [-List.getD_eq_getElem?_getD]; done) | (simp [-List.getD_eq_getElem?_getD]; omega) | (unfold In at *; omega), by first | omega | (simp [-List.getD_eq_getElem?_getD]; done) | (simp [-List.getD_eq_getElem?_getD]; omega) | (unfold In at *; omega), hJ36.2, below_succ' hc hJ36.1⟩, by omega, Le.mk (SubL.cons rfl (SubL.cons rfl (SubL.cons rfl (SubL.cons rfl (SubL.cons rfl (SubL.cons (look_int rfl (by first | rfl | omega)) (SubL.nil))))))) (SubL.cons rfl (SubL.nil))⟩
 refine AWp.exit ?_
 refine AWp.sr ?_
 refine .vl (Y.move rfl rfl) ?_
 refine AOps.callLP [110] ok99 (containsBool_spec (l := driven10_26) (b := false) ((by first | omega | (simp [-List.getD_eq_getElem?_getD]; done) | (simp [-List.getD_eq_getElem?_getD]; omega) | (unfold In at *; omega)))) rfl (.lend rfl rfl (lend_le (by first | omega | (simp [-List.getD_eq_getElem?_getD]; done) | (simp [-List.getD_eq_getElem?_getD]; omega) | (unfold In at *; omega))) (lend_eq (by first | omega | (simp [-List.getD_eq_getElem?_getD]; done) | (simp [-List.getD_eq_getElem?_getD]; omega) | (unfold In at *; omega))) (.keep rfl rfl .nil)) (lend1 rfl (owns_map brow_frees)) (by decide) rfl trivial ?_
 refine .vl (Y.not rfl) ?_
 refine .vl (Y.assign rfl rfl) ?_
 refine AOps.nil ?_
 refine AWp.ret ?_
 exact ⟨_, _, rfl, rfl, (cg1 (fun (z0 : Bool) => X.v (.bool z0)) (db ((Drv.all (d := driven10_26) (by rw [show n.cells.length = n194_26 by omega]; exact hd) hl110).trans ⟨fun h => ⟨by assumption, by omega, by omega, by omega, by omega, by omega, by omega, fun j hj => by have := hw j (by rw [List.length_append] at hj; omega); rw [hcat] at this; exact this, fun j hj => hm j (by omega), fun j hj => hst j (by omega), by assumption, by assumption, any_not_false (by assumption), fun j hj => hc j (by omega), h⟩, fun h => h.driven⟩) : (!(driven10_26.any (fun x => false == x))) = decide (Formed n)) : X.v (.bool (!(driven10_26.any (fun x => false == x)))) = X.v (.bool (decide (Formed n)))), rfl⟩

end Go.Proofs.Ytligpghohcfpnaa
/- The walk through fits. -/
namespace Go.Proofs.Ytligpghohcfpnaa
open Go Go.AW Go.Proofs



set_option maxRecDepth 4000 in
set_option maxHeartbeats 1000000 in
theorem fits_spec {n : Netlist} {c : Cell} (hs : n.Small) (hc : c.args.length ≤ 17592186043904) (hn : c.num < 18446744073709551616) (hsh : Shaped n c) (hw : Wired n c) : ACalls Try.prog 102 [.agg (Netlist.row n), .agg (Cell.row c)] [] [] (fun r o => r = .v (.bool (decide (Fits n c))) ∧ o = []) := by
 refine ACalls.of Try.func102 rfl rfl rfl (n := 239) (by decide) (Nat.le_of_ble_eq_true rfl) ?_
 have hs4 := hs.ins; have hs5 := hs.mems; have hs6 := hs.streams; have ho := hw.out; have hs1 := hs.widths
 refine AWp.sr ?_
 refine AOps.box 102 rfl rfl rfl rfl rfl (by decide) ?_
 refine AOps.box 103 rfl rfl rfl rfl rfl (by decide) ?_
 refine .vl (Y.assign rfl rfl) ?_
 refine AOps.nil ?_
 refine AWp.sr ?_
 refine .vl (Y.assign rfl rfl) ?_
 refine AOps.nil ?_
 refine AWp.join1 (fun (w5_j4 : Int) => ⟨[(2, .ptr 102 0 0 0), (3, .ptr 103 0 0 0), (5, .v (.int .i64 w5_j4))], [(102, .cells (Netlist.row n)), (103, .cells (Cell.row c))]⟩) (fun (w5_j4 : Int) => w5_j4 = n.ow c) ?_ (fun w5_j4 hJ4 => ?_)
 refine AWp.sr ?_
 refine .vl (Y.fieldAddr fl39_2 rfl rfl) ?_
 refine .vl (Y.load sh3 rfl rfl rfl rfl) ?_
 refine .vl (Y.geq rfl rfl) ?_
 refine AOps.nil ?_
 refine AWp.condD rfl (fun c13 => ?_) (fun c13 => ?_)
 refine AWp.region ?_
 refine .vl (Y.fieldAddr fl27_1 rfl rfl) ?_
 refine .vl (Y.load sh22 rfl rfl rfl rfl) ?_
 refine .vl (Y.fieldAddr fl39_2 rfl rfl) ?_
 refine .vl (Y.load sh3 rfl rfl rfl rfl) ?_
 refine .vl (Y.indexF (m := (c.out).toNat) sl22 rfl rfl (by first | omega | simp [-List.getD_eq_getElem?_getD] <;> omega) (row_getD (d := 0) (by first | omega | simp [-List.getD_eq_getElem?_getD] <;> omega))) ?_
 refine .vl (Y.load sh3 rfl rfl rfl rfl) ?_
 refine .vl (Y.assign rfl rfl) ?_
 refine AOps.nil ?_
 exact ⟨n.widths.getD ((c.out).toNat) 0, by unfold Netlist.ow Netlist.wd; rw [if_pos c13], Le.mk (SubL.cons rfl (SubL.cons rfl (SubL.cons (look_int rfl (by first | rfl | omega)) (SubL.nil)))) (SubL.cons rfl (SubL.cons rfl (SubL.nil)))⟩
 refine AWp.skip ?_
 exact ⟨0, by unfold Netlist.ow; rw [if_neg c13], Le.mk (SubL.cons rfl (SubL.cons rfl (SubL.cons (look_int rfl (by first | rfl | omega)) (SubL.nil)))) (SubL.cons rfl (SubL.cons rfl (SubL.nil)))⟩
 refine AWp.sr ?_
 refine .vl (Y.fieldAddr fl39_3 rfl rfl) ?_
 refine .vl (Y.load sh22 rfl rfl rfl rfl) ?_
 refine .vl (Y.len (n := c.args.length) sl22 rfl (congrArg some (List.length_map ..))) ?_
 refine AOps.makeSlice (n := c.args.length) sl22 ze3 rfl rfl rfl rfl (by first | omega | simp [-List.getD_eq_getElem?_getD] <;> omega) (by first | omega | simp [-List.getD_eq_getElem?_getD] <;> omega) (by decide) ?_
 refine AOps.assignX rfl (by decide) ?_
 refine AOps.sh (Sh.adoptE (d := 6) (n := c.args.length) 106 ((List.replicate c.args.length 0).map irow) rfl (by first | rfl | exact rep_map rfl) (len_map (by simp)) (by decide)) ?_
 refine AOps.nil ?_
 refine AWp.seq ?_
 refine AWp.sr ?_
 refine .vl (Y.fieldAddr fl39_3 rfl rfl) ?_
 refine .vl (Y.load sh22 rfl rfl rfl rfl) ?_
 refine .vl (Y.len (n := c.args.length) sl22 rfl (congrArg some (List.length_map ..))) ?_
 refine .vl (Y.move rfl rfl) ?_
 refine AOps.nil ?_
 refine AWp.block ?_
 refine AWp.loop2 (fun (n27_6 : Nat) (a6_6 : List Int) => ⟨[(2, .ptr 102 0 0 0), (3, .ptr 103 0 0 0), (5, .v (.int .i64 w5_j4)), (6, .slc 106 1 0 c.args.length), (25, .fz 1 (c.args.map irow)), (26, .v (.int .i64 ((c.args.length : Nat) : Int))), (27, .v (.int .i64 (n27_6 : Int)))], [(102, .cells (Netlist.row n)), (103, .cells (Cell.row c)), (106, .rows 1 (a6_6.map irow))]⟩) (fun (n27_6 : Nat) (a6_6 : List Int) => (a6_6.length = c.args.length) ∧ ((n27_6 : Int) ≤ ((c.args.length : Nat) : Int)) ∧ (∀ j, j < n27_6 → a6_6.getD j 0 = n.av c j)) (fun (n27_6 : Nat) (a6_6 : List Int) => (((c.args.length : Nat) : Int) - (n27_6 : Int)).toNat) 0 (List.replicate c.args.length 0) (⟨by first | omega | (simp [-List.getD_eq_getElem?_getD]; done) | (simp [-List.getD_eq_getElem?_getD]; omega), by first | omega | (simp [-List.getD_eq_getElem?_getD]; done) | (simp [-List.getD_eq_getElem?_getD]; omega), fun j hj => by omega⟩) (Le.mk (SubL.cons rfl (SubL.cons rfl (SubL.cons rfl (SubL.cons rfl (SubL.cons rfl (SubL.cons rfl (SubL.cons (look_int rfl (by first | rfl | omega)) (SubL.nil)))))))) (SubL.cons rfl (SubL.cons rfl (SubL.cons rfl (SubL.nil))))) (fun n27_6 a6_6 hI6 => ?_)
 obtain ⟨hl106, hb6, ha⟩ := hI6
 refine AWp.sr ?_
 refine .vl (Y.lss rfl rfl) ?_
 refine AOps.nil ?_
 refine AWp.seq ?_
 refine AWp.condD rfl (fun c28 => ?_) (fun c28 => ?_)
 refine AWp.skip ?_
 refine AWp.seq ?_
 refine AWp.block ?_
 refine AWp.sr ?_
 refine .vl (Y.move rfl rfl) ?_
 refine .vl (Y.indexF (m := n27_6) sl22 rfl rfl (by first | rfl | omega) (row_getD (d := 0) (by first | omega | simp [-List.getD_eq_getElem?_getD] <;> omega))) ?_
 refine .vl (Y.load sh3 rfl rfl rfl rfl) ?_
 refine .vl (Y.assign rfl rfl) ?_
 refine .vl (Y.assign rfl rfl) ?_
 refine AOps.nil ?_
 refine AWp.region ?_
 have hwa := hw.arg (k := n27_6) (by omega)
 refine .vl (Y.move rfl rfl) ?_
 refine .vl (Y.move rfl rfl) ?_
 refine .vl (Y.fieldAddr fl27_1 rfl rfl) ?_
 refine .vl (Y.load sh22 rfl rfl rfl rfl) ?_
 refine .vl (Y.move rfl rfl) ?_
 refine .vl (Y.indexF (m := (c.args.getD n27_6 0).toNat) sl22 rfl rfl (by first | omega | simp [-List.getD_eq_getElem?_getD] <;> omega) (row_getD (d := 0) (by first | omega | simp [-List.getD_eq_getElem?_getD] <;> omega))) ?_
 refine .vl (Y.load sh3 rfl rfl rfl rfl) ?_
 refine .vl (Y.indexO (m := n27_6) sl22 rfl rfl (by first | rfl | omega) (by first | omega | simp [-List.getD_eq_getElem?_getD] <;> omega)) ?_
 refine AOps.storeE ((a6_6.set n27_6 (n.widths.getD ((c.args.getD n27_6 0).toNat) 0)).map irow) si3 rfl rfl rfl rfl rfl rfl rfl (row_getD0 (d := 0) (by first | omega | simp [-List.getD_eq_getElem?_getD] <;> omega)) (Nat.le_of_ble_eq_true rfl) (set_map0 rfl) ?_
 refine AOps.nil ?_
 refine AWp.region ?_
 refine .vl (Y.addI rfl rfl (by first | omega | simp [-List.getD_eq_getElem?_getD] <;> omega)) ?_
 refine .vl (Y.move rfl rfl) ?_
 refine AOps.nil ?_
 exact ⟨n27_6 + 1, a6_6.set n27_6 (n.widths.getD ((c.args.getD n27_6 0).toNat) 0), ⟨by first | omega | (simp [-List.getD_eq_getElem?_getD]; done) | (simp [-List.getD_eq_getElem?_getD]; omega), by first | omega | (simp [-List.getD_eq_getElem?_getD]; done) | (simp [-List.getD_eq_getElem?_getD]; omega), fill_succ ha rfl (by omega)⟩, by omega, Le.mk (SubL.cons rfl (SubL.cons rfl (SubL.cons rfl (SubL.cons rfl (SubL.cons rfl (SubL.cons rfl (SubL.cons (look_int rfl (by first | rfl | omega)) (SubL.nil)))))))) (SubL.cons rfl (SubL.cons rfl (SubL.cons rfl (SubL.nil))))⟩
 refine AWp.exit ?_
 refine AWp.seq ?_
 refine AWp.seq ?_
 have ha0 : 0 < c.args.length → a6_6.getD 0 0 = n.av c 0 := fun h => ha 0 (by omega)
 have ha1 : 1 < c.args.length → a6_6.getD 1 0 = n.av c 1 := fun h => ha 1 (by omega)
 have ha2 : 2 < c.args.length → a6_6.getD 2 0 = n.av c 2 := fun h => ha 2 (by omega)
 refine AWp.region ?_
 refine .vl (Y.fieldAddr fl39_0 rfl rfl) ?_
 refine .vl (Y.load sh3 rfl rfl rfl rfl) ?_
 refine AOps.nil ?_
 refine AWp.block ?_
 refine AWp.sr ?_
 refine .vl (Y.eql rfl rfl) ?_
 refine .vl (Y.assign rfl rfl) ?_
 refine AOps.nil ?_
 refine AWp.condD rfl (fun c43 => ?_) (fun c43 => ?_)
 refine AWp.seq ?_
 refine AWp.regionAny rfl ?_
 refine AAny.blind 0 rfl (by kernel_rfl) (Blind.move rfl rfl) (by decide) ?_
 refine AAny.blind 1 rfl (by kernel_rfl) (Blind.fieldAddr fl39_4 rfl rfl) (by decide) ?_
 refine AAny.blind 4 rfl (by kernel_rfl) (Blind.fieldAddr fl39_4 rfl rfl) (by decide) ?_
 refine AAny.two 2 5 rfl rfl (by kernel_rfl) ?_ ?_
 refine .vl (Y.load sh37 rfl rfl rfl rfl) ?_
 refine AOps.nil ⟨rfl, ?_⟩
 refine AAny.two 3 5 rfl rfl (by kernel_rfl) ?_ ?_
 refine AOps.callP ok65 (bfit_spec (w := w5_j4) (x := c.num) ((by first | omega | simp [-List.getD_eq_getElem?_getD] <;> omega))) rfl (.keep rfl rfl (.keep rfl rfl .nil)) (by decide) rfl ?_
 refine AOps.nil ⟨rfl, ?_⟩
 refine AAny.quietN (n := 0) [5, 6, 7] [] 0 rfl (by kernel_rfl) ?_
 refine .cn 5 rfl (Y.load sh37 rfl rfl rfl rfl) ?_
 refine .cn 6 rfl (Y.eql rfl rfl) ?_
 refine .cn 7 rfl (Y.assign rfl rfl) ?_
 refine AQ.nil ?_
 refine AAny.done (by kernel_rfl) ?_
 refine AWp.ret ?_
 exact ⟨_, _, rfl, rfl, (cg1 (fun (z0 : Bool) => X.v (.bool z0)) (dd (by (simp only [Fits, OpFits, Cmp, ← hJ4, c43, Int.reduceEq, Bool.not_eq_true, false_and, true_and, and_true, and_false, or_false, false_or, ne_eq]) <;> omega) : (decide (((fitN w5_j4 c.num : Nat) : Int) = ((c.num : Nat) : Int))) = decide (Fits n c)) : X.v (.bool (decide (((fitN w5_j4 c.num : Nat) : Int) = ((c.num : Nat) : Int)))) = X.v (.bool (decide (Fits n c)))), rfl⟩
 refine .vl (Y.load sh37 rfl rfl rfl rfl) ?_
 refine AOps.nil ⟨rfl, ?_⟩
 refine AAny.one 3 rfl (by kernel_rfl) ?_
 refine AOps.callP ok65 (bfit_spec (w := w5_j4) (x := c.num) ((by first | omega | simp [-List.getD_eq_getElem?_getD] <;> omega))) rfl (.keep rfl rfl (.keep rfl rfl .nil)) (by decide) rfl ?_
 refine AOps.nil ⟨rfl, ?_⟩
 refine AAny.quietN (n := 0) [6, 7] [] 0 rfl (by kernel_rfl) ?_
 refine .cn 6 rfl (Y.eql rfl rfl) ?_
 refine .cn 7 rfl (Y.assign rfl rfl) ?_
 refine AQ.nil ?_
 refine AAny.done (by kernel_rfl) ?_
 refine AWp.ret ?_
 exact ⟨_, _, rfl, rfl, (cg1 (fun (z0 : Bool) => X.v (.bool z0)) (dd (by (simp only [Fits, OpFits, Cmp, ← hJ4, c43, Int.reduceEq, Bool.not_eq_true, false_and, true_and, and_true, and_false, or_false, false_or, ne_eq]) <;> omega) : (decide (((fitN w5_j4 c.num : Nat) : Int) = ((c.num : Nat) : Int))) = decide (Fits n c)) : X.v (.bool (decide (((fitN w5_j4 c.num : Nat) : Int) = ((c.num : Nat) : Int)))) = X.v (.bool (decide (Fits n c)))), rfl⟩
 refine .vl (Y.load sh37 rfl rfl rfl rfl) ?_
 refine AOps.nil ⟨rfl, ?_⟩
 refine AAny.quietN (n := 3) [2] [3, 6, 7] 3 rfl (by kernel_rfl) ?_
 refine .cn 2 rfl (Y.load sh37 rfl rfl rfl rfl) ?_
 refine AQ.nil ?_
 refine AAny.one 3 rfl (by kernel_rfl) ?_
 refine AOps.callP ok65 (bfit_spec (w := w5_j4) (x := c.num) ((by first | omega | simp [-List.getD_eq_getElem?_getD] <;> omega))) rfl (.keep rfl rfl (.keep rfl rfl .nil)) (by decide) rfl ?_
 refine AOps.nil ⟨rfl, ?_⟩
 refine AAny.quietN (n := 0) [6, 7] [] 0 rfl (by kernel_rfl) ?_
 refine .cn 6 rfl (Y.eql rfl rfl) ?_
 refine .cn 7 rfl (Y.assign rfl rfl) ?_
 refine AQ.nil ?_
 refine AAny.done (by kernel_rfl) ?_
 refine AWp.ret ?_
 exact ⟨_, _, rfl, rfl, (cg1 (fun (z0 : Bool) => X.v (.bool z0)) (dd (by (simp only [Fits, OpFits, Cmp, ← hJ4, c43, Int.reduceEq, Bool.not_eq_true, false_and, true_and, and_true, and_false, or_false, false_or, ne_eq]) <;> omega) : (decide (((fitN w5_j4 c.num : Nat) : Int) = ((c.num : Nat) : Int))) = decide (Fits n c)) : X.v (.bool (decide (((fitN w5_j4 c.num : Nat) : Int) = ((c.num : Nat) : Int)))) = X.v (.bool (decide (Fits n c)))), rfl⟩
 refine AWp.sr ?_
 refine .vl (Y.eql rfl rfl) ?_
 refine .vl (Y.assign rfl rfl) ?_
 refine AOps.nil ?_
 refine AWp.condD rfl (fun c52 => ?_) (fun c52 => ?_)
 have hk := hsh.k2 c52
 refine AWp.seq ?_
 refine AWp.sr ?_
 refine .vl (Y.fieldAddr fl39_1 rfl rfl) ?_
 refine .vl (Y.load sh3 rfl rfl rfl rfl) ?_
 refine AOps.nil ?_
 refine AWp.block ?_
 refine AWp.sr ?_
 refine .vl (Y.eql rfl rfl) ?_
 refine .vl (Y.assign rfl rfl) ?_
 refine AOps.nil ?_
 refine AWp.condD rfl (fun c56 => ?_) (fun c56 => ?_)
 refine AWp.sr ?_
 refine .vl (Y.move rfl rfl) ?_
 refine .vl (Y.indexO (m := 0) sl22 rfl rfl (by first | rfl | omega) (by first | omega | simp [-List.getD_eq_getElem?_getD] <;> omega)) ?_
 refine .vl (Y.load sh3 rfl (row_getD0 (d := 0) (by first | omega | simp [-List.getD_eq_getElem?_getD] <;> omega)) rfl rfl) ?_
 refine .vl (Y.eql rfl rfl) ?_
 refine .vl (Y.move rfl rfl) ?_
 refine AOps.splitD (d := 62) rfl (fun c62 => ?_) (fun c62 => ?_)
 refine .gv 62 rfl rfl (Y.move rfl rfl) ?_
 refine .gv 62 rfl rfl (Y.indexO (m := 1) sl22 rfl rfl (by first | rfl | omega) (by first | omega | simp [-List.getD_eq_getElem?_getD] <;> omega)) ?_
 refine .gv 62 rfl rfl (Y.load sh3 rfl (row_getD0 (d := 0) (by first | omega | simp [-List.getD_eq_getElem?_getD] <;> omega)) rfl rfl) ?_
 refine .gv 62 rfl rfl (Y.move rfl rfl) ?_
 refine .gv 62 rfl rfl (Y.eql rfl rfl) ?_
 refine .vl (Y.pick rfl rfl rfl) ?_
 refine .vl (Y.move rfl rfl) ?_
 refine AOps.splitD (d := 69) rfl (fun c69 => ?_) (fun c69 => ?_)
 refine .gv 69 rfl rfl (Y.move rfl rfl) ?_
 refine .gv 69 rfl rfl (Y.indexO (m := 2) sl22 rfl rfl (by first | rfl | omega) (by first | omega | simp [-List.getD_eq_getElem?_getD] <;> omega)) ?_
 refine .gv 69 rfl rfl (Y.load sh3 rfl (row_getD0 (d := 0) (by first | omega | simp [-List.getD_eq_getElem?_getD] <;> omega)) rfl rfl) ?_
 refine .gv 69 rfl rfl (Y.move rfl rfl) ?_
 refine .gv 69 rfl rfl (Y.eql rfl rfl) ?_
 refine .vl (Y.pick rfl rfl rfl) ?_
 refine .vl (Y.assign rfl rfl) ?_
 refine AOps.nil ?_
 refine AWp.ret ?_
 exact ⟨_, _, rfl, rfl, (cg1 (fun (z0 : Bool) => X.v (.bool z0)) (dd (by (simp only [Fits, OpFits, Cmp, ← hJ4, c52, Int.reduceEq, Bool.not_eq_true, false_and, true_and, and_true, and_false, or_false, false_or, ne_eq]) <;> omega) : (decide ((a6_6.getD 2 0) = w5_j4)) = decide (Fits n c)) : X.v (.bool (decide ((a6_6.getD 2 0) = w5_j4))) = X.v (.bool (decide (Fits n c)))), rfl⟩
 refine .gs 69 rfl rfl rfl ?_
 refine .gs 69 rfl rfl rfl ?_
 refine .gs 69 rfl rfl rfl ?_
 refine .gs 69 rfl rfl rfl ?_
 refine .gs 69 rfl rfl rfl ?_
 refine .vl (Y.pick rfl rfl rfl) ?_
 refine .vl (Y.assign rfl rfl) ?_
 refine AOps.nil ?_
 refine AWp.ret ?_
 exact ⟨_, _, rfl, rfl, (cg1 (fun (z0 : Bool) => X.v (.bool z0)) (df (by (simp only [Fits, OpFits, Cmp, ← hJ4, c52, Int.reduceEq, Bool.not_eq_true, false_and, true_and, and_true, and_false, or_false, false_or, ne_eq]) <;> omega) : false = decide (Fits n c)) : X.v (.bool false) = X.v (.bool (decide (Fits n c)))), rfl⟩
 refine .gs 62 rfl rfl rfl ?_
 refine .gs 62 rfl rfl rfl ?_
 refine .gs 62 rfl rfl rfl ?_
 refine .gs 62 rfl rfl rfl ?_
 refine .gs 62 rfl rfl rfl ?_
 refine .vl (Y.pick rfl rfl rfl) ?_
 refine .vl (Y.move rfl rfl) ?_
 refine .gs 69 rfl rfl rfl ?_
 refine .gs 69 rfl rfl rfl ?_
 refine .gs 69 rfl rfl rfl ?_
 refine .gs 69 rfl rfl rfl ?_
 refine .gs 69 rfl rfl rfl ?_
 refine .vl (Y.pick rfl rfl rfl) ?_
 refine .vl (Y.assign rfl rfl) ?_
 refine AOps.nil ?_
 refine AWp.ret ?_
 exact ⟨_, _, rfl, rfl, (cg1 (fun (z0 : Bool) => X.v (.bool z0)) (df (by (simp only [Fits, OpFits, Cmp, ← hJ4, c52, Int.reduceEq, Bool.not_eq_true, false_and, true_and, and_true, and_false, or_false, false_or, ne_eq]) <;> omega) : false = decide (Fits n c)) : X.v (.bool false) = X.v (.bool (decide (Fits n c)))), rfl⟩
 refine AWp.seq ?_
 refine AWp.sr ?_
 refine .vl (Y.eql rfl rfl) ?_
 refine .vl (Y.assign rfl rfl) ?_
 refine AOps.nil ?_
 refine AWp.condKD rfl (fun c76 => ?_) (fun c76 => ?_)
 refine AWp.skip ?_
 refine AWp.condT rfl ?_
 refine AWp.sr ?_
 refine .vl (Y.move rfl rfl) ?_
 refine .vl (Y.indexO (m := 0) sl22 rfl rfl (by first | rfl | omega) (by first | omega | simp [-List.getD_eq_getElem?_getD] <;> omega)) ?_
 refine .vl (Y.load sh3 rfl (row_getD0 (d := 0) (by first | omega | simp [-List.getD_eq_getElem?_getD] <;> omega)) rfl rfl) ?_
 refine .vl (Y.move rfl rfl) ?_
 refine .vl (Y.leq rfl rfl) ?_
 refine .vl (Y.assign rfl rfl) ?_
 refine AOps.nil ?_
 refine AWp.ret ?_
 exact ⟨_, _, rfl, rfl, (cg1 (fun (z0 : Bool) => X.v (.bool z0)) (dd (by (simp only [Fits, OpFits, Cmp, ← hJ4, c52, Int.reduceEq, Bool.not_eq_true, false_and, true_and, and_true, and_false, or_false, false_or, ne_eq]) <;> omega) : (decide ((a6_6.getD 0 0) ≤ w5_j4)) = decide (Fits n c)) : X.v (.bool (decide ((a6_6.getD 0 0) ≤ w5_j4))) = X.v (.bool (decide (Fits n c)))), rfl⟩
 refine AWp.region ?_
 refine .vl (Y.eql rfl rfl) ?_
 refine .vl (Y.assign rfl rfl) ?_
 refine AOps.nil ?_
 refine AWp.condKD rfl (fun c76 => ?_) (fun c76 => ?_)
 refine AWp.sr ?_
 refine .vl (Y.move rfl rfl) ?_
 refine .vl (Y.indexO (m := 0) sl22 rfl rfl (by first | rfl | omega) (by first | omega | simp [-List.getD_eq_getElem?_getD] <;> omega)) ?_
 refine .vl (Y.load sh3 rfl (row_getD0 (d := 0) (by first | omega | simp [-List.getD_eq_getElem?_getD] <;> omega)) rfl rfl) ?_
 refine .vl (Y.move rfl rfl) ?_
 refine .vl (Y.leq rfl rfl) ?_
 refine .vl (Y.assign rfl rfl) ?_
 refine AOps.nil ?_
 refine AWp.ret ?_
 exact ⟨_, _, rfl, rfl, (cg1 (fun (z0 : Bool) => X.v (.bool z0)) (dd (by (simp only [Fits, OpFits, Cmp, ← hJ4, c52, Int.reduceEq, Bool.not_eq_true, false_and, true_and, and_true, and_false, or_false, false_or, ne_eq]) <;> omega) : (decide ((a6_6.getD 0 0) ≤ w5_j4)) = decide (Fits n c)) : X.v (.bool (decide ((a6_6.getD 0 0) ≤ w5_j4))) = X.v (.bool (decide (Fits n c)))), rfl⟩
 refine AWp.sr ?_
 refine .vl (Y.eql rfl rfl) ?_
 refine .vl (Y.assign rfl rfl) ?_
 refine AOps.nil ?_
 refine AWp.condD rfl (fun c84 => ?_) (fun c84 => ?_)
 refine AWp.sr ?_
 refine .vl (Y.move rfl rfl) ?_
 refine .vl (Y.indexO (m := 0) sl22 rfl rfl (by first | rfl | omega) (by first | omega | simp [-List.getD_eq_getElem?_getD] <;> omega)) ?_
 refine .vl (Y.load sh3 rfl (row_getD0 (d := 0) (by first | omega | simp [-List.getD_eq_getElem?_getD] <;> omega)) rfl rfl) ?_
 refine .vl (Y.move rfl rfl) ?_
 refine .vl (Y.geq rfl rfl) ?_
 refine .vl (Y.assign rfl rfl) ?_
 refine AOps.nil ?_
 refine AWp.ret ?_
 exact ⟨_, _, rfl, rfl, (cg1 (fun (z0 : Bool) => X.v (.bool z0)) (dd (by (simp only [Fits, OpFits, Cmp, ← hJ4, c52, Int.reduceEq, Bool.not_eq_true, false_and, true_and, and_true, and_false, or_false, false_or, ne_eq]) <;> omega) : (decide (w5_j4 ≤ (a6_6.getD 0 0))) = decide (Fits n c)) : X.v (.bool (decide (w5_j4 ≤ (a6_6.getD 0 0)))) = X.v (.bool (decide (Fits n c)))), rfl⟩
 refine AWp.skip ?_
 refine AWp.seq ?_
 refine AWp.sr ?_
 refine .vl (Y.fieldAddr fl39_1 rfl rfl) ?_
 refine .vl (Y.load sh3 rfl rfl rfl rfl) ?_
 refine AOps.callP ok74 (isCompare_spec (w := c.op)) rfl (.keep rfl rfl .nil) (by decide) rfl ?_
 refine AOps.nil ?_
 refine AWp.condD rfl (fun c93 => ?_) (fun c93 => ?_)
 unfold Cmp at c93
 refine AWp.seq ?_
 refine AWp.regionS rfl (by kernel_rfl) ?_
 refine AHead.val (Y.move rfl rfl) (by decide) ?_
 refine AHead.val (Y.eql rfl rfl) (by decide) ?_
 refine AHead.val (Y.move rfl rfl) (by decide) ?_
 refine AHead.splitD (d := 96) rfl (fun c96 => ?_) (fun c96 => ?_)
 refine AHead.guardRun (d := 96) rfl (by decide) rfl ?_
 refine AHead.val (Y.move rfl rfl) (by decide) ?_
 refine AHead.guardRun (d := 96) rfl (by decide) rfl ?_
 refine AHead.val (Y.indexO (m := 0) sl22 rfl rfl (by first | rfl | omega) (by first | omega | simp [-List.getD_eq_getElem?_getD] <;> omega)) (by decide) ?_
 refine AHead.guardRun (d := 96) rfl (by decide) rfl ?_
 refine AHead.val (Y.load sh3 rfl (row_getD0 (d := 0) (by first | omega | simp [-List.getD_eq_getElem?_getD] <;> omega)) rfl rfl) (by decide) ?_
 refine AHead.guardRun (d := 96) rfl (by decide) rfl ?_
 refine AHead.val (Y.move rfl rfl) (by decide) ?_
 refine AHead.guardRun (d := 96) rfl (by decide) rfl ?_
 refine AHead.val (Y.indexO (m := 1) sl22 rfl rfl (by first | rfl | omega) (by first | omega | simp [-List.getD_eq_getElem?_getD] <;> omega)) (by decide) ?_
 refine AHead.guardRun (d := 96) rfl (by decide) rfl ?_
 refine AHead.val (Y.load sh3 rfl (row_getD0 (d := 0) (by first | omega | simp [-List.getD_eq_getElem?_getD] <;> omega)) rfl rfl) (by decide) ?_
 refine AHead.guardRun (d := 96) rfl (by decide) rfl ?_
 refine AHead.val (Y.eql rfl rfl) (by decide) ?_
 refine AHead.val (Y.pick rfl rfl rfl) (by decide) ?_
 refine AHead.val (Y.assign rfl rfl) (by decide) ?_
 refine AHead.nil ?_
 refine AWp.ret ?_
 exact ⟨_, _, rfl, rfl, (cg1 (fun (z0 : Bool) => X.v (.bool z0)) (dd (by (simp only [Fits, OpFits, Cmp, ← hJ4, c52, Int.reduceEq, Bool.not_eq_true, false_and, true_and, and_true, and_false, or_false, false_or, ne_eq]) <;> omega) : (decide ((a6_6.getD 0 0) = (a6_6.getD 1 0))) = decide (Fits n c)) : X.v (.bool (decide ((a6_6.getD 0 0) = (a6_6.getD 1 0)))) = X.v (.bool (decide (Fits n c)))), rfl⟩
 refine AHead.guardSkipV (d := 96) rfl (by decide) (by decide) rfl rfl ?_
 refine AHead.guardSkipV (d := 96) rfl (by decide) (by decide) rfl rfl ?_
 refine AHead.guardSkipV (d := 96) rfl (by decide) (by decide) rfl rfl ?_
 refine AHead.guardSkipV (d := 96) rfl (by decide) (by decide) rfl rfl ?_
 refine AHead.guardSkipV (d := 96) rfl (by decide) (by decide) rfl rfl ?_
 refine AHead.guardSkipV (d := 96) rfl (by decide) (by decide) rfl rfl ?_
 refine AHead.guardSkipV (d := 96) rfl (by decide) (by decide) rfl rfl ?_
 refine AHead.val (Y.pick rfl rfl rfl) (by decide) ?_
 refine AHead.val (Y.assign rfl rfl) (by decide) ?_
 refine AHead.nil ?_
 refine AWp.ret ?_
 exact ⟨_, _, rfl, rfl, (cg1 (fun (z0 : Bool) => X.v (.bool z0)) (df (by (simp only [Fits, OpFits, Cmp, ← hJ4, c52, Int.reduceEq, Bool.not_eq_true, false_and, true_and, and_true, and_false, or_false, false_or, ne_eq]) <;> omega) : false = decide (Fits n c)) : X.v (.bool false) = X.v (.bool (decide (Fits n c)))), rfl⟩
 unfold Cmp at c93
 refine AWp.skip ?_
 refine AWp.sr ?_
 refine .vl (Y.move rfl rfl) ?_
 refine .vl (Y.indexO (m := 0) sl22 rfl rfl (by first | rfl | omega) (by first | omega | simp [-List.getD_eq_getElem?_getD] <;> omega)) ?_
 refine .vl (Y.load sh3 rfl (row_getD0 (d := 0) (by first | omega | simp [-List.getD_eq_getElem?_getD] <;> omega)) rfl rfl) ?_
 refine .vl (Y.move rfl rfl) ?_
 refine .vl (Y.eql rfl rfl) ?_
 refine .vl (Y.move rfl rfl) ?_
 refine AOps.splitD (d := 110) rfl (fun c110 => ?_) (fun c110 => ?_)
 refine .gv 110 rfl rfl (Y.move rfl rfl) ?_
 refine .gv 110 rfl rfl (Y.indexO (m := 1) sl22 rfl rfl (by first | rfl | omega) (by first | omega | simp [-List.getD_eq_getElem?_getD] <;> omega)) ?_
 refine .gv 110 rfl rfl (Y.load sh3 rfl (row_getD0 (d := 0) (by first | omega | simp [-List.getD_eq_getElem?_getD] <;> omega)) rfl rfl) ?_
 refine .gv 110 rfl rfl (Y.move rfl rfl) ?_
 refine .gv 110 rfl rfl (Y.eql rfl rfl) ?_
 refine .vl (Y.pick rfl rfl rfl) ?_
 refine .vl (Y.assign rfl rfl) ?_
 refine AOps.nil ?_
 refine AWp.ret ?_
 exact ⟨_, _, rfl, rfl, (cg1 (fun (z0 : Bool) => X.v (.bool z0)) (dd (by (simp only [Fits, OpFits, Cmp, ← hJ4, c52, Int.reduceEq, Bool.not_eq_true, false_and, true_and, and_true, and_false, or_false, false_or, ne_eq]) <;> omega) : (decide ((a6_6.getD 1 0) = w5_j4)) = decide (Fits n c)) : X.v (.bool (decide ((a6_6.getD 1 0) = w5_j4))) = X.v (.bool (decide (Fits n c)))), rfl⟩
 refine .gs 110 rfl rfl rfl ?_
 refine .gs 110 rfl rfl rfl ?_
 refine .gs 110 rfl rfl rfl ?_
 refine .gs 110 rfl rfl rfl ?_
 refine .gs 110 rfl rfl rfl ?_
 refine .vl (Y.pick rfl rfl rfl) ?_
 refine .vl (Y.assign rfl rfl) ?_
 refine AOps.nil ?_
 refine AWp.ret ?_
 exact ⟨_, _, rfl, rfl, (cg1 (fun (z0 : Bool) => X.v (.bool z0)) (df (by (simp only [Fits, OpFits, Cmp, ← hJ4, c52, Int.reduceEq, Bool.not_eq_true, false_and, true_and, and_true, and_false, or_false, false_or, ne_eq]) <;> omega) : false = decide (Fits n c)) : X.v (.bool false) = X.v (.bool (decide (Fits n c)))), rfl⟩
 refine AWp.sr ?_
 refine .vl (Y.eql rfl rfl) ?_
 refine .vl (Y.assign rfl rfl) ?_
 refine AOps.nil ?_
 refine AWp.condD rfl (fun c117 => ?_) (fun c117 => ?_)
 have hk := hsh.k3 c117
 refine AWp.seq ?_
 refine AWp.sr ?_
 refine .vl (Y.move rfl rfl) ?_
 refine .vl (Y.len (n := c.args.length) sl22 rfl rfl) ?_
 refine .vl (Y.move rfl rfl) ?_
 refine AOps.nil ?_
 refine AWp.block ?_
 refine AWp.loop1 (fun (n121_27 : Nat) => ⟨[(5, .v (.int .i64 w5_j4)), (119, .slc 106 1 0 c.args.length), (120, .v (.int .i64 ((c.args.length : Nat) : Int))), (121, .v (.int .i64 (n121_27 : Int)))], [(106, .rows 1 (a6_6.map irow))]⟩) (fun (n121_27 : Nat) => ((n121_27 : Int) ≤ ((c.args.length : Nat) : Int)) ∧ (∀ k, k < n121_27 → MuxFit n c k)) (fun (n121_27 : Nat) => (((c.args.length : Nat) : Int) - (n121_27 : Int)).toNat) 0 (⟨by first | omega | (simp [-List.getD_eq_getElem?_getD]; done) | (simp [-List.getD_eq_getElem?_getD]; omega), fun k hk => by omega⟩) (Le.mk (SubL.cons rfl (SubL.cons rfl (SubL.cons rfl (SubL.cons (look_int rfl (by first | rfl | omega)) (SubL.nil))))) (SubL.cons rfl (SubL.nil))) (fun n121_27 hI27 => ?_)
 obtain ⟨hb27, hm⟩ := hI27
 refine AWp.sr ?_
 refine .vl (Y.lss rfl rfl) ?_
 refine AOps.nil ?_
 refine AWp.seq ?_
 refine AWp.condD rfl (fun c122 => ?_) (fun c122 => ?_)
 refine AWp.skip ?_
 refine AWp.join2 (fun (n137_j31 : Bool) (n141_j31 : Bool) => ⟨[(5, .v (.int .i64 w5_j4)), (119, .slc 106 1 0 c.args.length), (120, .v (.int .i64 ((c.args.length : Nat) : Int))), (121, .v (.int .i64 (n121_27 : Int))), (134, .v (.int .i64 (n121_27 : Int))), (135, .v (.int .i64 ((n121_27 : Int) % 2))), (136, .v (.bool (decide (((n121_27 : Int) % 2) = 1)))), (137, .v (.bool n137_j31)), (141, .v (.bool n141_j31))], [(106, .rows 1 (a6_6.map irow))]⟩) (fun (n137_j31 : Bool) (n141_j31 : Bool) => ((((n121_27 : Int) % 2) = 0) ∧ (¬ ((a6_6.getD n121_27 0) ≠ 1)) ∧ (((n121_27 : Int) % 2) = 1) ∧ (¬ ((a6_6.getD n121_27 0) ≠ w5_j4)) ∧ (n137_j31 = true) ∧ (n141_j31 = (decide ((a6_6.getD n121_27 0) ≠ w5_j4)))) ∨ ((((n121_27 : Int) % 2) = 0) ∧ (¬ ((a6_6.getD n121_27 0) ≠ 1)) ∧ (¬ (((n121_27 : Int) % 2) = 1)) ∧ (n137_j31 = false) ∧ (n141_j31 = false)) ∨ ((¬ (((n121_27 : Int) % 2) = 0)) ∧ (((n121_27 : Int) % 2) = 1) ∧ (¬ ((a6_6.getD n121_27 0) ≠ w5_j4)) ∧ (n137_j31 = true) ∧ (n141_j31 = (decide ((a6_6.getD n121_27 0) ≠ w5_j4)))) ∨ ((¬ (((n121_27 : Int) % 2) = 0)) ∧ (¬ (((n121_27 : Int) % 2) = 1)) ∧ (n137_j31 = false) ∧ (n141_j31 = false))) ?_ (fun n137_j31 n141_j31 hJ31 => ?_)
 refine AWp.block ?_
 refine AWp.sr ?_
 refine .vl (Y.move rfl rfl) ?_
 refine .vl (Y.indexO (m := n121_27) sl22 rfl rfl (by first | rfl | omega) (by first | omega | simp [-List.getD_eq_getElem?_getD] <;> omega)) ?_
 refine .vl (Y.load sh3 rfl (row_getD0 (d := 0) (by first | omega | simp [-List.getD_eq_getElem?_getD] <;> omega)) rfl rfl) ?_
 refine .vl (Y.assign rfl rfl) ?_
 refine .vl (Y.assign rfl rfl) ?_
 refine AOps.nil ?_
 refine AWp.sr ?_
 refine .vl (Y.move rfl rfl) ?_
 refine .vl (Y.remI rfl rfl (by first | omega | simp [-List.getD_eq_getElem?_getD] <;> omega)) ?_
 refine .vl (Y.eql rfl rfl) ?_
 refine .vl (Y.move rfl rfl) ?_
 refine AOps.splitD (d := 129) rfl (fun c129 => ?_) (fun c129 => ?_)
 refine .gv 129 rfl rfl (Y.move rfl rfl) ?_
 refine .gv 129 rfl rfl (Y.neq rfl rfl) ?_
 refine .vl (Y.pick rfl rfl rfl) ?_
 refine .vl (Y.move rfl rfl) ?_
 refine AOps.splitD (d := 133) rfl (fun c133 => ?_) (fun c133 => ?_)
 refine .gs 133 rfl rfl rfl ?_
 refine .gs 133 rfl rfl rfl ?_
 refine .gs 133 rfl rfl rfl ?_
 refine .gs 133 rfl rfl rfl ?_
 refine .gs 137 rfl rfl rfl ?_
 refine .gs 137 rfl rfl rfl ?_
 refine .gs 137 rfl rfl rfl ?_
 refine .gs 133 rfl rfl rfl ?_
 refine .vl (Y.pick rfl rfl rfl) ?_
 refine AOps.nil ?_
 refine AWp.condT rfl ?_
 refine AWp.sr ?_
 refine .vl (Y.assign rfl rfl) ?_
 refine AOps.nil ?_
 refine AWp.ret ?_
 exact ⟨_, _, rfl, rfl, (cg1 (fun (z0 : Bool) => X.v (.bool z0)) (df (fun h => by simp only [Fits, c117, Int.reduceEq, Bool.not_eq_true, false_and, true_and, and_true, and_false, or_false, false_or, ne_eq] at h; have h1 := h n121_27 (by omega); have h2 := ha n121_27 (by omega); unfold MuxFit at h1; omega) : false = decide (Fits n c)) : X.v (.bool false) = X.v (.bool (decide (Fits n c)))), rfl⟩
 refine .gv 133 rfl rfl (Y.move rfl rfl) ?_
 refine .gv 133 rfl rfl (Y.remI rfl rfl (by first | omega | simp [-List.getD_eq_getElem?_getD] <;> omega)) ?_
 refine .gv 133 rfl rfl (Y.eql rfl rfl) ?_
 refine .gv 133 rfl rfl (Y.move rfl rfl) ?_
 refine AOps.splitD (d := 137) rfl (fun c137 => ?_) (fun c137 => ?_)
 refine .gv 137 rfl rfl (Y.move rfl rfl) ?_
 refine .gv 137 rfl rfl (Y.move rfl rfl) ?_
 refine .gv 137 rfl rfl (Y.neq rfl rfl) ?_
 refine .gv 133 rfl rfl (Y.pick rfl rfl rfl) ?_
 refine .vl (Y.pick rfl rfl rfl) ?_
 refine AOps.nil ?_
 refine AWp.condD rfl (fun c142 => ?_) (fun c142 => ?_)
 refine AWp.sr ?_
 refine .vl (Y.assign rfl rfl) ?_
 refine AOps.nil ?_
 refine AWp.ret ?_
 exact ⟨_, _, rfl, rfl, (cg1 (fun (z0 : Bool) => X.v (.bool z0)) (df (fun h => by simp only [Fits, c117, Int.reduceEq, Bool.not_eq_true, false_and, true_and, and_true, and_false, or_false, false_or, ne_eq] at h; have h1 := h n121_27 (by omega); have h2 := ha n121_27 (by omega); unfold MuxFit at h1; omega) : false = decide (Fits n c)) : X.v (.bool false) = X.v (.bool (decide (Fits n c)))), rfl⟩
 refine AWp.skip ?_
 exact ⟨true, decide ((a6_6.getD n121_27 0) ≠ w5_j4), .inl ⟨c129, c133, c137, c142, rfl, rfl⟩, Le.mk (SubL.cons rfl (SubL.cons rfl (SubL.cons rfl (SubL.cons rfl (SubL.cons rfl (SubL.cons rfl (SubL.cons rfl (SubL.cons (look_bool rfl (by first | rfl | simp_all)) (SubL.cons (look_bool rfl (by first | rfl | simp_all)) (SubL.nil)))))))))) (SubL.cons rfl (SubL.nil))⟩
 refine .gs 137 rfl rfl rfl ?_
 refine .gs 137 rfl rfl rfl ?_
 refine .gs 137 rfl rfl rfl ?_
 refine .gv 133 rfl rfl (Y.pick rfl rfl rfl) ?_
 refine .vl (Y.pick rfl rfl rfl) ?_
 refine AOps.nil ?_
 refine AWp.condF rfl ?_
 refine AWp.skip ?_
 exact ⟨false, false, .inr (.inl ⟨c129, c133, c137, rfl, rfl⟩), Le.mk (SubL.cons rfl (SubL.cons rfl (SubL.cons rfl (SubL.cons rfl (SubL.cons rfl (SubL.cons rfl (SubL.cons rfl (SubL.cons (look_bool rfl (by first | rfl | simp_all)) (SubL.cons (look_bool rfl (by first | rfl | simp_all)) (SubL.nil)))))))))) (SubL.cons rfl (SubL.nil))⟩
 refine .gs 129 rfl rfl rfl ?_
 refine .gs 129 rfl rfl rfl ?_
 refine .vl (Y.pick rfl rfl rfl) ?_
 refine .vl (Y.move rfl rfl) ?_
 refine .gv 133 rfl rfl (Y.move rfl rfl) ?_
 refine .gv 133 rfl rfl (Y.remI rfl rfl (by first | omega | simp [-List.getD_eq_getElem?_getD] <;> omega)) ?_
 refine .gv 133 rfl rfl (Y.eql rfl rfl) ?_
 refine .gv 133 rfl rfl (Y.move rfl rfl) ?_
 refine AOps.splitD (d := 137) rfl (fun c137 => ?_) (fun c137 => ?_)
 refine .gv 137 rfl rfl (Y.move rfl rfl) ?_
 refine .gv 137 rfl rfl (Y.move rfl rfl) ?_
 refine .gv 137 rfl rfl (Y.neq rfl rfl) ?_
 refine .gv 133 rfl rfl (Y.pick rfl rfl rfl) ?_
 refine .vl (Y.pick rfl rfl rfl) ?_
 refine AOps.nil ?_
 refine AWp.condD rfl (fun c142 => ?_) (fun c142 => ?_)
 refine AWp.sr ?_
 refine .vl (Y.assign rfl rfl) ?_
 refine AOps.nil ?_
 refine AWp.ret ?_
 exact ⟨_, _, rfl, rfl, (cg1 (fun (z0 : Bool) => X.v (.bool z0)) (df (fun h => by simp only [Fits, c117, Int.reduceEq, Bool.not_eq_true, false_and, true_and, and_true, and_false, or_false, false_or, ne_eq] at h; have h1 := h n121_27 (by omega); have h2 := ha n121_27 (by omega); unfold MuxFit at h1; omega) : false = decide (Fits n c)) : X.v (.bool false) = X.v (.bool (decide (Fits n c)))), rfl⟩
 refine AWp.skip ?_
 exact ⟨true, decide ((a6_6.getD n121_27 0) ≠ w5_j4), .inr (.inr (.inl ⟨c129, c137, c142, rfl, rfl⟩)), Le.mk (SubL.cons rfl (SubL.cons rfl (SubL.cons rfl (SubL.cons rfl (SubL.cons rfl (SubL.cons rfl (SubL.cons rfl (SubL.cons (look_bool rfl (by first | rfl | simp_all)) (SubL.cons (look_bool rfl (by first | rfl | simp_all)) (SubL.nil)))))))))) (SubL.cons rfl (SubL.nil))⟩
 refine .gs 137 rfl rfl rfl ?_
 refine .gs 137 rfl rfl rfl ?_
 refine .gs 137 rfl rfl rfl ?_
 refine .gv 133 rfl rfl (Y.pick rfl rfl rfl) ?_
 refine .vl (Y.pick rfl rfl rfl) ?_
 refine AOps.nil ?_
 refine AWp.condF rfl ?_
 refine AWp.skip ?_
 exact ⟨false, false, .inr (.inr (.inr (⟨c129, c137, rfl, rfl⟩))), Le.mk (SubL.cons rfl (SubL.cons rfl (SubL.cons rfl (SubL.cons rfl (SubL.cons rfl (SubL.cons rfl (SubL.cons rfl (SubL.cons (look_bool rfl (by first | rfl | simp_all)) (SubL.cons (look_bool rfl (by first | rfl | simp_all)) (SubL.nil)))))))))) (SubL.cons rfl (SubL.nil))⟩
 refine AWp.region ?_
 refine .vl (Y.addI rfl rfl (by first | omega | simp [-List.getD_eq_getElem?_getD] <;> omega)) ?_
 refine .vl (Y.move rfl rfl) ?_
 refine AOps.nil ?_
 exact ⟨n121_27 + 1, ⟨by first | omega | (simp [-List.getD_eq_getElem?_getD]; done) | (simp [-List.getD_eq_getElem?_getD]; omega), mux_succ hm (by have h2 := ha n121_27 (by omega); unfold MuxFit; omega)⟩, by omega, Le.mk (SubL.cons rfl (SubL.cons rfl (SubL.cons rfl (SubL.cons (look_int rfl (by first | rfl | omega)) (SubL.nil))))) (SubL.cons rfl (SubL.nil))⟩
 refine AWp.exit ?_
 refine AWp.sr ?_
 refine .vl (Y.assign rfl rfl) ?_
 refine AOps.nil ?_
 refine AWp.ret ?_
 exact ⟨_, _, rfl, rfl, (cg1 (fun (z0 : Bool) => X.v (.bool z0)) (dt (by simp only [Fits, c117, Int.reduceEq, Bool.not_eq_true, false_and, true_and, and_true, and_false, or_false, false_or, ne_eq]; exact fun k hk => hm k (by omega)) : true = decide (Fits n c)) : X.v (.bool true) = X.v (.bool (decide (Fits n c)))), rfl⟩
 refine AWp.sr ?_
 refine .vl (Y.eql rfl rfl) ?_
 refine .vl (Y.assign rfl rfl) ?_
 refine AOps.nil ?_
 refine AWp.condD rfl (fun c144 => ?_) (fun c144 => ?_)
 have hk := hsh.k4 c144
 refine AWp.seq ?_
 refine AWp.regionAny rfl ?_
 refine AAny.blind 0 rfl (by kernel_rfl) (Blind.move rfl rfl) (by decide) ?_
 refine AAny.one 1 rfl (by kernel_rfl) ?_
 refine .vl (Y.indexO (m := 0) sl22 rfl rfl (by first | rfl | omega) (by first | omega | simp [-List.getD_eq_getElem?_getD] <;> omega)) ?_
 refine AOps.nil ⟨rfl, ?_⟩
 refine AAny.one 2 rfl (by kernel_rfl) ?_
 refine .vl (Y.load sh3 rfl (row_getD0 (d := 0) (by first | omega | simp [-List.getD_eq_getElem?_getD] <;> omega)) rfl rfl) ?_
 refine AOps.nil ⟨rfl, ?_⟩
 refine AAny.one 3 rfl (by kernel_rfl) ?_
 refine .vl (Y.eql rfl rfl) ?_
 refine AOps.nil ⟨rfl, ?_⟩
 refine AAny.blind 4 rfl (by kernel_rfl) (Blind.move rfl rfl) (by decide) ?_
 refine AAny.splitD (d := 150) rfl (fun c150 => ?_) (fun c150 => ?_)
 refine AAny.blindRun 5 rfl (by kernel_rfl) rfl (by decide) rfl (Blind.move rfl rfl) (by decide) ?_
 refine AAny.blindRun 8 rfl (by kernel_rfl) rfl (by decide) rfl (Blind.move rfl rfl) (by decide) ?_
 refine AAny.one 6 rfl (by kernel_rfl) ?_
 refine .gv 150 rfl rfl (Y.indexO (m := 1) sl22 rfl rfl (by first | rfl | omega) (by first | omega | simp [-List.getD_eq_getElem?_getD] <;> omega)) ?_
 refine AOps.nil ⟨rfl, ?_⟩
 refine AAny.one 7 rfl (by kernel_rfl) ?_
 refine .gv 150 rfl rfl (Y.load sh3 rfl (row_getD0 (d := 0) (by first | omega | simp [-List.getD_eq_getElem?_getD] <;> omega)) rfl rfl) ?_
 refine AOps.nil ⟨rfl, ?_⟩
 refine AAny.one 9 rfl (by kernel_rfl) ?_
 refine .gv 150 rfl rfl (Y.eql rfl rfl) ?_
 refine AOps.nil ⟨rfl, ?_⟩
 refine AAny.one 10 rfl (by kernel_rfl) ?_
 refine .vl (Y.pick rfl rfl rfl) ?_
 refine AOps.nil ⟨rfl, ?_⟩
 refine AAny.blind 11 rfl (by kernel_rfl) (Blind.move rfl rfl) (by decide) ?_
 refine AAny.splitD (d := 157) rfl (fun c157 => ?_) (fun c157 => ?_)
 refine AAny.blindRun 12 rfl (by kernel_rfl) rfl (by decide) rfl (Blind.move rfl rfl) (by decide) ?_
 refine AAny.blindRun 13 rfl (by kernel_rfl) rfl (by decide) rfl (Blind.fieldAddr fl39_4 rfl rfl) (by decide) ?_
 refine AAny.blindRun 16 rfl (by kernel_rfl) rfl (by decide) rfl (Blind.fieldAddr fl39_4 rfl rfl) (by decide) ?_
 refine AAny.two 14 17 rfl rfl (by kernel_rfl) ?_ ?_
 refine .gv 157 rfl rfl (Y.load sh37 rfl rfl rfl rfl) ?_
 refine AOps.nil ⟨rfl, ?_⟩
 refine AAny.two 15 17 rfl rfl (by kernel_rfl) ?_ ?_
 refine AOps.guardRun (d := 157) rfl (by decide) rfl ?_
 refine AOps.callP ok65 (bfit_spec (w := w5_j4) (x := c.num) ((by first | omega | simp [-List.getD_eq_getElem?_getD] <;> omega))) rfl (.keep rfl rfl (.keep rfl rfl .nil)) (by decide) rfl ?_
 refine AOps.nil ⟨rfl, ?_⟩
 refine AAny.quietN (n := 0) [17, 18, 19, 20] [] 0 rfl (by kernel_rfl) ?_
 refine .rn 17 rfl rfl rfl (Y.load sh37 rfl rfl rfl rfl) ?_
 refine .rn 18 rfl rfl rfl (Y.eql rfl rfl) ?_
 refine .cn 19 rfl (Y.pick rfl rfl rfl) ?_
 refine .cn 20 rfl (Y.assign rfl rfl) ?_
 refine AQ.nil ?_
 refine AAny.done (by kernel_rfl) ?_
 refine AWp.ret ?_
 exact ⟨_, _, rfl, rfl, (cg1 (fun (z0 : Bool) => X.v (.bool z0)) (dd (by (simp only [Fits, OpFits, Cmp, ← hJ4, c144, Int.reduceEq, Bool.not_eq_true, false_and, true_and, and_true, and_false, or_false, false_or, ne_eq]) <;> omega) : (decide (((fitN w5_j4 c.num : Nat) : Int) = ((c.num : Nat) : Int))) = decide (Fits n c)) : X.v (.bool (decide (((fitN w5_j4 c.num : Nat) : Int) = ((c.num : Nat) : Int)))) = X.v (.bool (decide (Fits n c)))), rfl⟩
 refine .gv 157 rfl rfl (Y.load sh37 rfl rfl rfl rfl) ?_
 refine AOps.nil ⟨rfl, ?_⟩
 refine AAny.one 15 rfl (by kernel_rfl) ?_
 refine AOps.guardRun (d := 157) rfl (by decide) rfl ?_
 refine AOps.callP ok65 (bfit_spec (w := w5_j4) (x := c.num) ((by first | omega | simp [-List.getD_eq_getElem?_getD] <;> omega))) rfl (.keep rfl rfl (.keep rfl rfl .nil)) (by decide) rfl ?_
 refine AOps.nil ⟨rfl, ?_⟩
 refine AAny.quietN (n := 0) [18, 19, 20] [] 0 rfl (by kernel_rfl) ?_
 refine .rn 18 rfl rfl rfl (Y.eql rfl rfl) ?_
 refine .cn 19 rfl (Y.pick rfl rfl rfl) ?_
 refine .cn 20 rfl (Y.assign rfl rfl) ?_
 refine AQ.nil ?_
 refine AAny.done (by kernel_rfl) ?_
 refine AWp.ret ?_
 exact ⟨_, _, rfl, rfl, (cg1 (fun (z0 : Bool) => X.v (.bool z0)) (dd (by (simp only [Fits, OpFits, Cmp, ← hJ4, c144, Int.reduceEq, Bool.not_eq_true, false_and, true_and, and_true, and_false, or_false, false_or, ne_eq]) <;> omega) : (decide (((fitN w5_j4 c.num : Nat) : Int) = ((c.num : Nat) : Int))) = decide (Fits n c)) : X.v (.bool (decide (((fitN w5_j4 c.num : Nat) : Int) = ((c.num : Nat) : Int)))) = X.v (.bool (decide (Fits n c)))), rfl⟩
 refine .gv 157 rfl rfl (Y.load sh37 rfl rfl rfl rfl) ?_
 refine AOps.nil ⟨rfl, ?_⟩
 refine AAny.quietN (n := 4) [14] [15, 18, 19, 20] 15 rfl (by kernel_rfl) ?_
 refine .rn 14 rfl rfl rfl (Y.load sh37 rfl rfl rfl rfl) ?_
 refine AQ.nil ?_
 refine AAny.one 15 rfl (by kernel_rfl) ?_
 refine AOps.guardRun (d := 157) rfl (by decide) rfl ?_
 refine AOps.callP ok65 (bfit_spec (w := w5_j4) (x := c.num) ((by first | omega | simp [-List.getD_eq_getElem?_getD] <;> omega))) rfl (.keep rfl rfl (.keep rfl rfl .nil)) (by decide) rfl ?_
 refine AOps.nil ⟨rfl, ?_⟩
 refine AAny.quietN (n := 0) [18, 19, 20] [] 0 rfl (by kernel_rfl) ?_
 refine .rn 18 rfl rfl rfl (Y.eql rfl rfl) ?_
 refine .cn 19 rfl (Y.pick rfl rfl rfl) ?_
 refine .cn 20 rfl (Y.assign rfl rfl) ?_
 refine AQ.nil ?_
 refine AAny.done (by kernel_rfl) ?_
 refine AWp.ret ?_
 exact ⟨_, _, rfl, rfl, (cg1 (fun (z0 : Bool) => X.v (.bool z0)) (dd (by (simp only [Fits, OpFits, Cmp, ← hJ4, c144, Int.reduceEq, Bool.not_eq_true, false_and, true_and, and_true, and_false, or_false, false_or, ne_eq]) <;> omega) : (decide (((fitN w5_j4 c.num : Nat) : Int) = ((c.num : Nat) : Int))) = decide (Fits n c)) : X.v (.bool (decide (((fitN w5_j4 c.num : Nat) : Int) = ((c.num : Nat) : Int)))) = X.v (.bool (decide (Fits n c)))), rfl⟩
 refine AAny.skipOp 12 rfl (by kernel_rfl) rfl (by decide) (by decide) rfl rfl ?_
 refine AAny.skipOp 13 rfl (by kernel_rfl) rfl (by decide) (by decide) rfl rfl ?_
 refine AAny.skipOp 14 rfl (by kernel_rfl) rfl (by decide) (by decide) rfl rfl ?_
 refine AAny.skipOp 15 rfl (by kernel_rfl) rfl (by decide) (by decide) rfl rfl ?_
 refine AAny.skipOp 16 rfl (by kernel_rfl) rfl (by decide) (by decide) rfl rfl ?_
 refine AAny.skipOp 17 rfl (by kernel_rfl) rfl (by decide) (by decide) rfl rfl ?_
 refine AAny.skipOp 18 rfl (by kernel_rfl) rfl (by decide) (by decide) rfl rfl ?_
 refine AAny.quietN (n := 0) [19, 20] [] 0 rfl (by kernel_rfl) ?_
 refine .cn 19 rfl (Y.pick rfl rfl rfl) ?_
 refine .cn 20 rfl (Y.assign rfl rfl) ?_
 refine AQ.nil ?_
 refine AAny.done (by kernel_rfl) ?_
 refine AWp.ret ?_
 exact ⟨_, _, rfl, rfl, (cg1 (fun (z0 : Bool) => X.v (.bool z0)) (df (by (simp only [Fits, OpFits, Cmp, ← hJ4, c144, Int.reduceEq, Bool.not_eq_true, false_and, true_and, and_true, and_false, or_false, false_or, ne_eq]) <;> omega) : false = decide (Fits n c)) : X.v (.bool false) = X.v (.bool (decide (Fits n c)))), rfl⟩
 refine AAny.skipOp 5 rfl (by kernel_rfl) rfl (by decide) (by decide) rfl rfl ?_
 refine AAny.skipOp 6 rfl (by kernel_rfl) rfl (by decide) (by decide) rfl rfl ?_
 refine AAny.skipOp 7 rfl (by kernel_rfl) rfl (by decide) (by decide) rfl rfl ?_
 refine AAny.skipOp 8 rfl (by kernel_rfl) rfl (by decide) (by decide) rfl rfl ?_
 refine AAny.skipOp 9 rfl (by kernel_rfl) rfl (by decide) (by decide) rfl rfl ?_
 refine AAny.one 10 rfl (by kernel_rfl) ?_
 refine .vl (Y.pick rfl rfl rfl) ?_
 refine AOps.nil ⟨rfl, ?_⟩
 refine AAny.blind 11 rfl (by kernel_rfl) (Blind.move rfl rfl) (by decide) ?_
 refine AAny.skipOp 12 rfl (by kernel_rfl) rfl (by decide) (by decide) rfl rfl ?_
 refine AAny.skipOp 13 rfl (by kernel_rfl) rfl (by decide) (by decide) rfl rfl ?_
 refine AAny.skipOp 14 rfl (by kernel_rfl) rfl (by decide) (by decide) rfl rfl ?_
 refine AAny.skipOp 15 rfl (by kernel_rfl) rfl (by decide) (by decide) rfl rfl ?_
 refine AAny.skipOp 16 rfl (by kernel_rfl) rfl (by decide) (by decide) rfl rfl ?_
 refine AAny.skipOp 17 rfl (by kernel_rfl) rfl (by decide) (by decide) rfl rfl ?_
 refine AAny.skipOp 18 rfl (by kernel_rfl) rfl (by decide) (by decide) rfl rfl ?_
 refine AAny.quietN (n := 0) [19, 20] [] 0 rfl (by kernel_rfl) ?_
 refine .cn 19 rfl (Y.pick rfl rfl rfl) ?_
 refine .cn 20 rfl (Y.assign rfl rfl) ?_
 refine AQ.nil ?_
 refine AAny.done (by kernel_rfl) ?_
 refine AWp.ret ?_
 exact ⟨_, _, rfl, rfl, (cg1 (fun (z0 : Bool) => X.v (.bool z0)) (df (by (simp only [Fits, OpFits, Cmp, ← hJ4, c144, Int.reduceEq, Bool.not_eq_true, false_and, true_and, and_true, and_false, or_false, false_or, ne_eq]) <;> omega) : false = decide (Fits n c)) : X.v (.bool false) = X.v (.bool (decide (Fits n c)))), rfl⟩
 refine AWp.sr ?_
 refine .vl (Y.eql rfl rfl) ?_
 refine .vl (Y.assign rfl rfl) ?_
 refine AOps.nil ?_
 refine AWp.condD rfl (fun c166 => ?_) (fun c166 => ?_)
 have hk := hsh.k5 c166
 refine AWp.sr ?_
 refine .vl (Y.move rfl rfl) ?_
 refine .vl (Y.indexO (m := 0) sl22 rfl rfl (by first | rfl | omega) (by first | omega | simp [-List.getD_eq_getElem?_getD] <;> omega)) ?_
 refine .vl (Y.load sh3 rfl (row_getD0 (d := 0) (by first | omega | simp [-List.getD_eq_getElem?_getD] <;> omega)) rfl rfl) ?_
 refine .vl (Y.move rfl rfl) ?_
 refine .vl (Y.eql rfl rfl) ?_
 refine .vl (Y.move rfl rfl) ?_
 refine AOps.splitD (d := 173) rfl (fun c173 => ?_) (fun c173 => ?_)
 refine .gv 173 rfl rfl (Y.move rfl rfl) ?_
 refine .gv 173 rfl rfl (Y.indexO (m := 1) sl22 rfl rfl (by first | rfl | omega) (by first | omega | simp [-List.getD_eq_getElem?_getD] <;> omega)) ?_
 refine .gv 173 rfl rfl (Y.load sh3 rfl (row_getD0 (d := 0) (by first | omega | simp [-List.getD_eq_getElem?_getD] <;> omega)) rfl rfl) ?_
 refine .gv 173 rfl rfl (Y.move rfl rfl) ?_
 refine .gv 173 rfl rfl (Y.eql rfl rfl) ?_
 refine .vl (Y.pick rfl rfl rfl) ?_
 refine .vl (Y.assign rfl rfl) ?_
 refine AOps.nil ?_
 refine AWp.ret ?_
 exact ⟨_, _, rfl, rfl, (cg1 (fun (z0 : Bool) => X.v (.bool z0)) (dd (by (simp only [Fits, OpFits, Cmp, ← hJ4, c166, Int.reduceEq, Bool.not_eq_true, false_and, true_and, and_true, and_false, or_false, false_or, ne_eq]) <;> omega) : (decide ((a6_6.getD 1 0) = w5_j4)) = decide (Fits n c)) : X.v (.bool (decide ((a6_6.getD 1 0) = w5_j4))) = X.v (.bool (decide (Fits n c)))), rfl⟩
 refine .gs 173 rfl rfl rfl ?_
 refine .gs 173 rfl rfl rfl ?_
 refine .gs 173 rfl rfl rfl ?_
 refine .gs 173 rfl rfl rfl ?_
 refine .gs 173 rfl rfl rfl ?_
 refine .vl (Y.pick rfl rfl rfl) ?_
 refine .vl (Y.assign rfl rfl) ?_
 refine AOps.nil ?_
 refine AWp.ret ?_
 exact ⟨_, _, rfl, rfl, (cg1 (fun (z0 : Bool) => X.v (.bool z0)) (df (by (simp only [Fits, OpFits, Cmp, ← hJ4, c166, Int.reduceEq, Bool.not_eq_true, false_and, true_and, and_true, and_false, or_false, false_or, ne_eq]) <;> omega) : false = decide (Fits n c)) : X.v (.bool false) = X.v (.bool (decide (Fits n c)))), rfl⟩
 refine AWp.sr ?_
 refine .vl (Y.eql rfl rfl) ?_
 refine .vl (Y.assign rfl rfl) ?_
 refine AOps.nil ?_
 refine AWp.condD rfl (fun c180 => ?_) (fun c180 => ?_)
 have hk := hsh.k6 c180
 refine AWp.sr ?_
 refine .vl (Y.move rfl rfl) ?_
 refine .vl (Y.indexO (m := 0) sl22 rfl rfl (by first | rfl | omega) (by first | omega | simp [-List.getD_eq_getElem?_getD] <;> omega)) ?_
 refine .vl (Y.load sh3 rfl (row_getD0 (d := 0) (by first | omega | simp [-List.getD_eq_getElem?_getD] <;> omega)) rfl rfl) ?_
 refine .vl (Y.eql rfl rfl) ?_
 refine .vl (Y.move rfl rfl) ?_
 refine AOps.splitD (d := 186) rfl (fun c186 => ?_) (fun c186 => ?_)
 refine .gv 186 rfl rfl (Y.fieldAddr fl27_4 rfl rfl) ?_
 refine .gv 186 rfl rfl (Y.load sh24 rfl rfl rfl rfl) ?_
 refine .gv 186 rfl rfl (Y.fieldAddr fl39_5 rfl rfl) ?_
 refine .gv 186 rfl rfl (Y.load sh3 rfl rfl rfl rfl) ?_
 refine .gv 186 rfl rfl (Y.indexF (m := (c.mem).toNat) sl24 rfl rfl (by first | omega | simp [-List.getD_eq_getElem?_getD] <;> omega) (row_getD (d := default) (by first | omega | simp [-List.getD_eq_getElem?_getD] <;> omega))) ?_
 refine .gv 186 rfl rfl (Y.fieldAddr fl48_1 rfl rfl) ?_
 refine .gv 186 rfl rfl (Y.load sh3 rfl rfl rfl rfl) ?_
 refine .gv 186 rfl rfl (Y.move rfl rfl) ?_
 refine .gv 186 rfl rfl (Y.eql rfl rfl) ?_
 refine .vl (Y.pick rfl rfl rfl) ?_
 refine .vl (Y.assign rfl rfl) ?_
 refine AOps.nil ?_
 refine AWp.ret ?_
 exact ⟨_, _, rfl, rfl, (cg1 (fun (z0 : Bool) => X.v (.bool z0)) (dd (by (simp only [Fits, OpFits, Cmp, ← hJ4, c180, Int.reduceEq, Bool.not_eq_true, false_and, true_and, and_true, and_false, or_false, false_or, ne_eq]) <;> omega) : (decide (((n.mems.getD ((c.mem).toNat) default).width) = w5_j4)) = decide (Fits n c)) : X.v (.bool (decide (((n.mems.getD ((c.mem).toNat) default).width) = w5_j4))) = X.v (.bool (decide (Fits n c)))), rfl⟩
 refine .gs 186 rfl rfl rfl ?_
 refine .gs 186 rfl rfl rfl ?_
 refine .gs 186 rfl rfl rfl ?_
 refine .gs 186 rfl rfl rfl ?_
 refine .gs 186 rfl rfl rfl ?_
 refine .gs 186 rfl rfl rfl ?_
 refine .gs 186 rfl rfl rfl ?_
 refine .gs 186 rfl rfl rfl ?_
 refine .gs 186 rfl rfl rfl ?_
 refine .vl (Y.pick rfl rfl rfl) ?_
 refine .vl (Y.assign rfl rfl) ?_
 refine AOps.nil ?_
 refine AWp.ret ?_
 exact ⟨_, _, rfl, rfl, (cg1 (fun (z0 : Bool) => X.v (.bool z0)) (df (by (simp only [Fits, OpFits, Cmp, ← hJ4, c180, Int.reduceEq, Bool.not_eq_true, false_and, true_and, and_true, and_false, or_false, false_or, ne_eq]) <;> omega) : false = decide (Fits n c)) : X.v (.bool false) = X.v (.bool (decide (Fits n c)))), rfl⟩
 refine AWp.sr ?_
 refine .vl (Y.eql rfl rfl) ?_
 refine .vl (Y.assign rfl rfl) ?_
 refine AOps.nil ?_
 refine AWp.condD rfl (fun c197 => ?_) (fun c197 => ?_)
 have hk := hsh.k7 c197
 refine AWp.seq ?_
 refine AWp.regionS rfl (by kernel_rfl) ?_
 refine AHead.val (Y.move rfl rfl) (by decide) ?_
 refine AHead.val (Y.indexO (m := 0) sl22 rfl rfl (by first | rfl | omega) (by first | omega | simp [-List.getD_eq_getElem?_getD] <;> omega)) (by decide) ?_
 refine AHead.val (Y.load sh3 rfl (row_getD0 (d := 0) (by first | omega | simp [-List.getD_eq_getElem?_getD] <;> omega)) rfl rfl) (by decide) ?_
 refine AHead.val (Y.eql rfl rfl) (by decide) ?_
 refine AHead.val (Y.move rfl rfl) (by decide) ?_
 refine AHead.splitD (d := 203) rfl (fun c203 => ?_) (fun c203 => ?_)
 refine AHead.guardRun (d := 203) rfl (by decide) rfl ?_
 refine AHead.val (Y.fieldAddr fl27_4 rfl rfl) (by decide) ?_
 refine AHead.guardRun (d := 203) rfl (by decide) rfl ?_
 refine AHead.val (Y.load sh24 rfl rfl rfl rfl) (by decide) ?_
 refine AHead.guardRun (d := 203) rfl (by decide) rfl ?_
 refine AHead.val (Y.fieldAddr fl39_5 rfl rfl) (by decide) ?_
 refine AHead.guardRun (d := 203) rfl (by decide) rfl ?_
 refine AHead.val (Y.load sh3 rfl rfl rfl rfl) (by decide) ?_
 refine AHead.guardRun (d := 203) rfl (by decide) rfl ?_
 refine AHead.val (Y.indexF (m := (c.mem).toNat) sl24 rfl rfl (by first | omega | simp [-List.getD_eq_getElem?_getD] <;> omega) (row_getD (d := default) (by first | omega | simp [-List.getD_eq_getElem?_getD] <;> omega))) (by decide) ?_
 refine AHead.guardRun (d := 203) rfl (by decide) rfl ?_
 refine AHead.val (Y.fieldAddr fl48_1 rfl rfl) (by decide) ?_
 refine AHead.guardRun (d := 203) rfl (by decide) rfl ?_
 refine AHead.val (Y.load sh3 rfl rfl rfl rfl) (by decide) ?_
 refine AHead.guardRun (d := 203) rfl (by decide) rfl ?_
 refine AHead.val (Y.move rfl rfl) (by decide) ?_
 refine AHead.guardRun (d := 203) rfl (by decide) rfl ?_
 refine AHead.val (Y.indexO (m := 2) sl22 rfl rfl (by first | rfl | omega) (by first | omega | simp [-List.getD_eq_getElem?_getD] <;> omega)) (by decide) ?_
 refine AHead.guardRun (d := 203) rfl (by decide) rfl ?_
 refine AHead.val (Y.load sh3 rfl (row_getD0 (d := 0) (by first | omega | simp [-List.getD_eq_getElem?_getD] <;> omega)) rfl rfl) (by decide) ?_
 refine AHead.guardRun (d := 203) rfl (by decide) rfl ?_
 refine AHead.val (Y.eql rfl rfl) (by decide) ?_
 refine AHead.val (Y.pick rfl rfl rfl) (by decide) ?_
 refine AHead.val (Y.assign rfl rfl) (by decide) ?_
 refine AHead.nil ?_
 refine AWp.ret ?_
 exact ⟨_, _, rfl, rfl, (cg1 (fun (z0 : Bool) => X.v (.bool z0)) (dd (by (simp only [Fits, OpFits, Cmp, ← hJ4, c197, Int.reduceEq, Bool.not_eq_true, false_and, true_and, and_true, and_false, or_false, false_or, ne_eq]) <;> omega) : (decide (((n.mems.getD ((c.mem).toNat) default).width) = (a6_6.getD 2 0))) = decide (Fits n c)) : X.v (.bool (decide (((n.mems.getD ((c.mem).toNat) default).width) = (a6_6.getD 2 0)))) = X.v (.bool (decide (Fits n c)))), rfl⟩
 refine AHead.guardSkipV (d := 203) rfl (by decide) (by decide) rfl rfl ?_
 refine AHead.guardSkipV (d := 203) rfl (by decide) (by decide) rfl rfl ?_
 refine AHead.guardSkipV (d := 203) rfl (by decide) (by decide) rfl rfl ?_
 refine AHead.guardSkipV (d := 203) rfl (by decide) (by decide) rfl rfl ?_
 refine AHead.guardSkipV (d := 203) rfl (by decide) (by decide) rfl rfl ?_
 refine AHead.guardSkipV (d := 203) rfl (by decide) (by decide) rfl rfl ?_
 refine AHead.guardSkipV (d := 203) rfl (by decide) (by decide) rfl rfl ?_
 refine AHead.guardSkipV (d := 203) rfl (by decide) (by decide) rfl rfl ?_
 refine AHead.guardSkipV (d := 203) rfl (by decide) (by decide) rfl rfl ?_
 refine AHead.guardSkipV (d := 203) rfl (by decide) (by decide) rfl rfl ?_
 refine AHead.guardSkipV (d := 203) rfl (by decide) (by decide) rfl rfl ?_
 refine AHead.val (Y.pick rfl rfl rfl) (by decide) ?_
 refine AHead.val (Y.assign rfl rfl) (by decide) ?_
 refine AHead.nil ?_
 refine AWp.ret ?_
 exact ⟨_, _, rfl, rfl, (cg1 (fun (z0 : Bool) => X.v (.bool z0)) (df (by (simp only [Fits, OpFits, Cmp, ← hJ4, c197, Int.reduceEq, Bool.not_eq_true, false_and, true_and, and_true, and_false, or_false, false_or, ne_eq]) <;> omega) : false = decide (Fits n c)) : X.v (.bool false) = X.v (.bool (decide (Fits n c)))), rfl⟩
 refine AWp.sr ?_
 refine .vl (Y.eql rfl rfl) ?_
 refine .vl (Y.assign rfl rfl) ?_
 refine AOps.nil ?_
 refine AWp.condD rfl (fun c216 => ?_) (fun c216 => ?_)
 have hk := hsh.k8 c216
 refine AWp.sr ?_
 refine .vl (Y.fieldAddr fl27_3 rfl rfl) ?_
 refine .vl (Y.load sh22 rfl rfl rfl rfl) ?_
 refine .vl (Y.fieldAddr fl39_4 rfl rfl) ?_
 refine .vl (Y.load sh37 rfl rfl rfl rfl) ?_
 refine .vl (Y.indexF (m := c.num) sl22 rfl rfl (by first | rfl | omega) (row_getD (d := 0) (by first | omega | simp [-List.getD_eq_getElem?_getD] <;> omega))) ?_
 refine .vl (Y.load sh3 rfl rfl rfl rfl) ?_
 refine .vl (Y.move rfl rfl) ?_
 refine .vl (Y.eql rfl rfl) ?_
 refine .vl (Y.assign rfl rfl) ?_
 refine AOps.nil ?_
 refine AWp.ret ?_
 exact ⟨_, _, rfl, rfl, (cg1 (fun (z0 : Bool) => X.v (.bool z0)) (dd (by (simp only [Fits, OpFits, Cmp, ← hJ4, c216, Int.reduceEq, Bool.not_eq_true, false_and, true_and, and_true, and_false, or_false, false_or, ne_eq]) <;> omega) : (decide ((n.ins.getD c.num 0) = w5_j4)) = decide (Fits n c)) : X.v (.bool (decide ((n.ins.getD c.num 0) = w5_j4))) = X.v (.bool (decide (Fits n c)))), rfl⟩
 refine AWp.sr ?_
 refine .vl (Y.eql rfl rfl) ?_
 refine .vl (Y.assign rfl rfl) ?_
 refine AOps.nil ?_
 refine AWp.condD rfl (fun c226 => ?_) (fun c226 => ?_)
 refine AWp.sr ?_
 refine .vl (Y.move rfl rfl) ?_
 refine .vl (Y.eql rfl rfl) ?_
 refine .vl (Y.assign rfl rfl) ?_
 refine AOps.nil ?_
 refine AWp.ret ?_
 exact ⟨_, _, rfl, rfl, (cg1 (fun (z0 : Bool) => X.v (.bool z0)) (dd (by (simp only [Fits, OpFits, Cmp, ← hJ4, c226, Int.reduceEq, Bool.not_eq_true, false_and, true_and, and_true, and_false, or_false, false_or, ne_eq]) <;> omega) : (decide (w5_j4 = 1)) = decide (Fits n c)) : X.v (.bool (decide (w5_j4 = 1))) = X.v (.bool (decide (Fits n c)))), rfl⟩
 have k10 : c.kind = 10 := by have := hsh.kind; omega
 have hk := hsh.k10 k10
 refine AWp.skip ?_
 refine AWp.sr ?_
 refine .vl (Y.fieldAddr fl27_5 rfl rfl) ?_
 refine .vl (Y.load sh25 rfl rfl rfl rfl) ?_
 refine .vl (Y.fieldAddr fl39_5 rfl rfl) ?_
 refine .vl (Y.load sh3 rfl rfl rfl rfl) ?_
 refine .vl (Y.indexF (m := (c.mem).toNat) sl25 rfl rfl (by first | omega | simp [-List.getD_eq_getElem?_getD] <;> omega) (row_getD (d := default) (by first | omega | simp [-List.getD_eq_getElem?_getD] <;> omega))) ?_
 refine .vl (Y.fieldAddr fl83_1 rfl rfl) ?_
 refine .vl (Y.load sh3 rfl rfl rfl rfl) ?_
 refine .vl (Y.move rfl rfl) ?_
 refine .vl (Y.eql rfl rfl) ?_
 refine .vl (Y.assign rfl rfl) ?_
 refine AOps.nil ?_
 refine AWp.ret ?_
 exact ⟨_, _, rfl, rfl, (cg1 (fun (z0 : Bool) => X.v (.bool z0)) (dd (by (simp only [Fits, OpFits, Cmp, ← hJ4, k10, Int.reduceEq, Bool.not_eq_true, false_and, true_and, and_true, and_false, or_false, false_or, ne_eq]) <;> omega) : (decide (((n.streams.getD ((c.mem).toNat) default).width) = w5_j4)) = decide (Fits n c)) : X.v (.bool (decide (((n.streams.getD ((c.mem).toNat) default).width) = w5_j4))) = X.v (.bool (decide (Fits n c)))), rfl⟩

end Go.Proofs.Ytligpghohcfpnaa
/- The walk through widths. -/
namespace Go.Proofs.Ytligpghohcfpnaa
open Go Go.AW Go.Proofs



set_option maxHeartbeats 1000000 in
theorem widths1_spec {n : Netlist} {c : Cell} (hs : n.Small) (hf : Formed n) (hc : c ∈ n.cells) : ACalls Try.prog 101 [.agg (Cell.row c), .fp (Netlist.row n) 0] [] [] (fun r o => r = .v (.bool (!decide (Fits n c))) ∧ o = []) := by
 refine ACalls.of Try.func101 rfl rfl rfl (n := 8) (by decide) (Nat.le_of_ble_eq_true rfl) ?_
 refine AWp.sr ?_
 refine AOps.box 102 rfl rfl rfl rfl rfl (by decide) ?_
 refine .vl (Y.assign rfl rfl) ?_
 refine AOps.nil ?_
 refine AWp.sr ?_
 refine .vl (Y.loadA sh27 rfl rfl (Nat.le_of_ble_eq_true rfl) rfl rfl) ?_
 refine .vl (Y.loadA sh39 rfl rfl (Nat.le_of_ble_eq_true rfl) rfl rfl) ?_
 refine AOps.callP ok102 (fits_spec (n := n) (c := c) hs (hs.args _ hc) (hs.nums _ hc) (hf.cell hc).2.1 (hf.cell hc).wired) rfl (.keep rfl rfl (.keep rfl rfl .nil)) (by decide) rfl ?_
 refine .vl (Y.not rfl) ?_
 refine .vl (Y.assign rfl rfl) ?_
 refine AOps.nil ?_
 refine AWp.ret ?_
 exact ⟨_, _, rfl, rfl, (cg1 (fun (z0 : Bool) => X.v (.bool z0)) (rfl : (!decide (Fits n c)) = !decide (Fits n c)) : X.v (.bool (!decide (Fits n c))) = X.v (.bool (!decide (Fits n c)))), rfl⟩

set_option maxRecDepth 4000 in
set_option maxHeartbeats 1000000 in
theorem widths_spec {n : Netlist} (hs : n.Small) (hf : Formed n) : ACalls Try.prog 58 [.agg (Netlist.row n)] [] [] (fun r o => r = .v (.bool (decide (Fit n))) ∧ o = []) := by
 refine ACalls.of Try.func58 rfl rfl rfl (n := 63) (by decide) (Nat.le_of_ble_eq_true rfl) ?_
 have hs1 := hf.nactive; have hs2 := hf.ndata; have hs3 := hf.nstreams; have hs4 := hf.freeze; have hs5 := hf.done; unfold In at hs4 hs5; have hs6 := hf.nwidths; have hs7 := hf.ncells
 refine AWp.sr ?_
 refine AOps.box 101 rfl rfl rfl rfl rfl (by decide) ?_
 refine .vl (Y.assign rfl rfl) ?_
 refine AOps.nil ?_
 refine AWp.seq ?_
 refine AWp.sr ?_
 refine .vl (Y.fieldAddr fl27_1 rfl rfl) ?_
 refine .vl (Y.load sh22 rfl rfl rfl rfl) ?_
 refine .vl (Y.fieldAddr fl27_8 rfl rfl) ?_
 refine .vl (Y.load sh3 rfl rfl rfl rfl) ?_
 refine .vl (Y.indexF (m := (n.freeze).toNat) sl22 rfl rfl (by first | omega | simp [-List.getD_eq_getElem?_getD] <;> omega) (row_getD (d := 0) (by first | omega | simp [-List.getD_eq_getElem?_getD] <;> omega))) ?_
 refine .vl (Y.load sh3 rfl rfl rfl rfl) ?_
 refine .vl (Y.neq rfl rfl) ?_
 refine .vl (Y.move rfl rfl) ?_
 refine AOps.splitD (d := 12) rfl (fun c12 => ?_) (fun c12 => ?_)
 refine .gs 12 rfl rfl rfl ?_
 refine .gs 12 rfl rfl rfl ?_
 refine .gs 12 rfl rfl rfl ?_
 refine .gs 12 rfl rfl rfl ?_
 refine .gs 12 rfl rfl rfl ?_
 refine .gs 12 rfl rfl rfl ?_
 refine .gs 12 rfl rfl rfl ?_
 refine .vl (Y.pick rfl rfl rfl) ?_
 refine AOps.nil ?_
 refine AWp.condT rfl ?_
 refine AWp.sr ?_
 refine .vl (Y.assign rfl rfl) ?_
 refine AOps.nil ?_
 refine AWp.ret ?_
 exact ⟨_, _, rfl, rfl, (cg1 (fun (z0 : Bool) => X.v (.bool z0)) (df (fun h => by have h1 := h.freeze; have h2 := h.done; unfold Netlist.wd at h1 h2; first | contradiction | omega) : false = decide (Fit n)) : X.v (.bool false) = X.v (.bool (decide (Fit n)))), rfl⟩
 refine .gv 12 rfl rfl (Y.fieldAddr fl27_1 rfl rfl) ?_
 refine .gv 12 rfl rfl (Y.load sh22 rfl rfl rfl rfl) ?_
 refine .gv 12 rfl rfl (Y.fieldAddr fl27_9 rfl rfl) ?_
 refine .gv 12 rfl rfl (Y.load sh3 rfl rfl rfl rfl) ?_
 refine .gv 12 rfl rfl (Y.indexF (m := (n.done).toNat) sl22 rfl rfl (by first | omega | simp [-List.getD_eq_getElem?_getD] <;> omega) (row_getD (d := 0) (by first | omega | simp [-List.getD_eq_getElem?_getD] <;> omega))) ?_
 refine .gv 12 rfl rfl (Y.load sh3 rfl rfl rfl rfl) ?_
 refine .gv 12 rfl rfl (Y.neq rfl rfl) ?_
 refine .vl (Y.pick rfl rfl rfl) ?_
 refine AOps.nil ?_
 refine AWp.condD rfl (fun c20 => ?_) (fun c20 => ?_)
 refine AWp.sr ?_
 refine .vl (Y.assign rfl rfl) ?_
 refine AOps.nil ?_
 refine AWp.ret ?_
 exact ⟨_, _, rfl, rfl, (cg1 (fun (z0 : Bool) => X.v (.bool z0)) (df (fun h => by have h1 := h.freeze; have h2 := h.done; unfold Netlist.wd at h1 h2; first | contradiction | omega) : false = decide (Fit n)) : X.v (.bool false) = X.v (.bool (decide (Fit n)))), rfl⟩
 refine AWp.skip ?_
 refine AWp.seq ?_
 refine AWp.sr ?_
 refine .vl (Y.fieldAddr fl27_5 rfl rfl) ?_
 refine .vl (Y.load sh25 rfl rfl rfl rfl) ?_
 refine .vl (Y.len (n := n.streams.length) sl25 rfl (congrArg some (List.length_map ..))) ?_
 refine .vl (Y.move rfl rfl) ?_
 refine AOps.nil ?_
 refine AWp.block ?_
 refine AWp.loop1 (fun (n24_4 : Nat) => ⟨[(1, .ptr 101 0 0 0), (22, .fz 3 (n.streams.map Strm.row)), (23, .v (.int .i64 ((n.streams.length : Nat) : Int))), (24, .v (.int .i64 (n24_4 : Int)))], [(101, .cells (Netlist.row n))]⟩) (fun (n24_4 : Nat) => ((n24_4 : Int) ≤ ((n.streams.length : Nat) : Int)) ∧ (∀ j, j < n24_4 → StrFit n j)) (fun (n24_4 : Nat) => (((n.streams.length : Nat) : Int) - (n24_4 : Int)).toNat) 0 (⟨by first | omega | (simp [-List.getD_eq_getElem?_getD]; done) | (simp [-List.getD_eq_getElem?_getD]; omega), fun j hj => by omega⟩) (Le.mk (SubL.cons rfl (SubL.cons rfl (SubL.cons rfl (SubL.cons (look_int rfl (by first | rfl | omega)) (SubL.nil))))) (SubL.cons rfl (SubL.nil))) (fun n24_4 hI4 => ?_)
 obtain ⟨hb4, hst⟩ := hI4
 refine AWp.sr ?_
 refine .vl (Y.lss rfl rfl) ?_
 refine AOps.nil ?_
 refine AWp.seq ?_
 refine AWp.condD rfl (fun c25 => ?_) (fun c25 => ?_)
 refine AWp.skip ?_
 refine AWp.join2 (fun (n42_j8 : Bool) (n55_j8 : Bool) => ⟨[(1, .ptr 101 0 0 0), (22, .fz 3 (n.streams.map Strm.row)), (23, .v (.int .i64 ((n.streams.length : Nat) : Int))), (24, .v (.int .i64 (n24_4 : Int))), (40, .ptr 104 0 0 2), (41, .v (.bool ((n.streams.getD n24_4 default).out))), (42, .v (.bool n42_j8)), (55, .v (.bool n55_j8))], [(101, .cells (Netlist.row n)), (104, .cells [.v (.string ((n.streams.getD n24_4 default).name)), .v (.int .i64 ((n.streams.getD n24_4 default).width)), .v (.bool ((n.streams.getD n24_4 default).out))])]⟩) (fun (n42_j8 : Bool) (n55_j8 : Bool) => StrFit n n24_4) ?_ (fun n42_j8 n55_j8 hJ8 => ?_)
 refine AWp.block ?_
 refine AWp.sr ?_
 refine .vl (Y.move rfl rfl) ?_
 refine .vl (Y.indexF (m := n24_4) sl25 rfl rfl (by first | rfl | omega) (row_getD (d := default) (by first | omega | simp [-List.getD_eq_getElem?_getD] <;> omega))) ?_
 refine .vl (Y.loadA sh83 rfl rfl (Nat.le_of_ble_eq_true rfl) rfl rfl) ?_
 refine AOps.alloc 104 ze83 rfl rfl (by decide) ?_
 refine .vl (Y.assign rfl rfl) ?_
 refine AOps.storeC si83 rfl rfl rfl rfl rfl rfl (Nat.le_of_ble_eq_true rfl) rfl ?_
 refine AOps.nil ?_
 refine AWp.seq ?_
 refine AWp.regionS rfl (by kernel_rfl) ?_
 obtain ⟨_, _, ha1, hd1, _⟩ := hf.strs n24_4 (by omega)
 unfold In at ha1 hd1
 refine AHead.val (Y.fieldAddr fl27_1 rfl rfl) (by decide) ?_
 refine AHead.val (Y.load sh22 rfl rfl rfl rfl) (by decide) ?_
 refine AHead.val (Y.fieldAddr fl27_6 rfl rfl) (by decide) ?_
 refine AHead.val (Y.load sh22 rfl rfl rfl rfl) (by decide) ?_
 refine AHead.val (Y.move rfl rfl) (by decide) ?_
 refine AHead.val (Y.indexF (m := n24_4) sl22 rfl rfl (by first | rfl | omega) (row_getD (d := 0) (by first | omega | simp [-List.getD_eq_getElem?_getD] <;> omega))) (by decide) ?_
 refine AHead.val (Y.load sh3 rfl rfl rfl rfl) (by decide) ?_
 refine AHead.val (Y.indexF (m := (n.active.getD n24_4 0).toNat) sl22 rfl rfl (by first | omega | simp [-List.getD_eq_getElem?_getD] <;> omega) (row_getD (d := 0) (by first | omega | simp [-List.getD_eq_getElem?_getD] <;> omega))) (by decide) ?_
 refine AHead.val (Y.load sh3 rfl rfl rfl rfl) (by decide) ?_
 refine AHead.val (Y.neq rfl rfl) (by decide) ?_
 refine AHead.val (Y.move rfl rfl) (by decide) ?_
 refine AHead.splitD (d := 39) rfl (fun c39 => ?_) (fun c39 => ?_)
 refine AHead.guardSkipV (d := 39) rfl (by decide) (by decide) rfl rfl ?_
 refine AHead.guardSkipV (d := 39) rfl (by decide) (by decide) rfl rfl ?_
 refine AHead.guardSkipV (d := 39) rfl (by decide) (by decide) rfl rfl ?_
 refine AHead.guardSkipV (d := 42) rfl (by decide) (by decide) rfl rfl ?_
 refine AHead.guardSkipV (d := 42) rfl (by decide) (by decide) rfl rfl ?_
 refine AHead.guardSkipV (d := 42) rfl (by decide) (by decide) rfl rfl ?_
 refine AHead.guardSkipV (d := 42) rfl (by decide) (by decide) rfl rfl ?_
 refine AHead.guardSkipV (d := 42) rfl (by decide) (by decide) rfl rfl ?_
 refine AHead.guardSkipV (d := 42) rfl (by decide) (by decide) rfl rfl ?_
 refine AHead.guardSkipV (d := 42) rfl (by decide) (by decide) rfl rfl ?_
 refine AHead.guardSkipV (d := 42) rfl (by decide) (by decide) rfl rfl ?_
 refine AHead.guardSkipV (d := 42) rfl (by decide) (by decide) rfl rfl ?_
 refine AHead.guardSkipV (d := 42) rfl (by decide) (by decide) rfl rfl ?_
 refine AHead.guardSkipV (d := 42) rfl (by decide) (by decide) rfl rfl ?_
 refine AHead.guardSkipV (d := 42) rfl (by decide) (by decide) rfl rfl ?_
 refine AHead.guardSkipV (d := 39) rfl (by decide) (by decide) rfl rfl ?_
 refine AHead.val (Y.pick rfl rfl rfl) (by decide) ?_
 refine AHead.nil ?_
 refine AWp.condT rfl ?_
 refine AWp.sr ?_
 refine .vl (Y.assign rfl rfl) ?_
 refine AOps.nil ?_
 refine AWp.ret ?_
 exact ⟨_, _, rfl, rfl, (cg1 (fun (z0 : Bool) => X.v (.bool z0)) (df (fun h => by have h1 := h.strs n24_4 (by omega); unfold StrFit Netlist.wd at h1; grind) : false = decide (Fit n)) : X.v (.bool false) = X.v (.bool (decide (Fit n)))), rfl⟩
 refine AHead.guardRun (d := 39) rfl (by decide) rfl ?_
 refine AHead.val (Y.fieldAddr fl83_2 rfl rfl) (by decide) ?_
 refine AHead.guardRun (d := 39) rfl (by decide) rfl ?_
 refine AHead.val (Y.load sh4 rfl rfl rfl rfl) (by decide) ?_
 refine AHead.guardRun (d := 39) rfl (by decide) rfl ?_
 refine AHead.val (Y.move rfl rfl) (by decide) ?_
 refine AHead.split (d := 42) rfl (fun c42 => ?_) (fun c42 => ?_)
 have hd2 := hd1 (by assumption)
 refine AHead.guardRun (d := 42) rfl (by decide) rfl ?_
 refine AHead.val (Y.fieldAddr fl27_1 rfl rfl) (by decide) ?_
 refine AHead.guardRun (d := 42) rfl (by decide) rfl ?_
 refine AHead.val (Y.load sh22 rfl rfl rfl rfl) (by decide) ?_
 refine AHead.guardRun (d := 42) rfl (by decide) rfl ?_
 refine AHead.val (Y.fieldAddr fl27_7 rfl rfl) (by decide) ?_
 refine AHead.guardRun (d := 42) rfl (by decide) rfl ?_
 refine AHead.val (Y.load sh22 rfl rfl rfl rfl) (by decide) ?_
 refine AHead.guardRun (d := 42) rfl (by decide) rfl ?_
 refine AHead.val (Y.move rfl rfl) (by decide) ?_
 refine AHead.guardRun (d := 42) rfl (by decide) rfl ?_
 refine AHead.val (Y.indexF (m := n24_4) sl22 rfl rfl (by first | rfl | omega) (row_getD (d := 0) (by first | omega | simp [-List.getD_eq_getElem?_getD] <;> omega))) (by decide) ?_
 refine AHead.guardRun (d := 42) rfl (by decide) rfl ?_
 refine AHead.val (Y.load sh3 rfl rfl rfl rfl) (by decide) ?_
 refine AHead.guardRun (d := 42) rfl (by decide) rfl ?_
 refine AHead.val (Y.indexF (m := (n.data.getD n24_4 0).toNat) sl22 rfl rfl (by first | omega | simp [-List.getD_eq_getElem?_getD] <;> omega) (row_getD (d := 0) (by first | omega | simp [-List.getD_eq_getElem?_getD] <;> omega))) (by decide) ?_
 refine AHead.guardRun (d := 42) rfl (by decide) rfl ?_
 refine AHead.val (Y.load sh3 rfl rfl rfl rfl) (by decide) ?_
 refine AHead.guardRun (d := 42) rfl (by decide) rfl ?_
 refine AHead.val (Y.fieldAddr fl83_1 rfl rfl) (by decide) ?_
 refine AHead.guardRun (d := 42) rfl (by decide) rfl ?_
 refine AHead.val (Y.load sh3 rfl rfl rfl rfl) (by decide) ?_
 refine AHead.guardRun (d := 42) rfl (by decide) rfl ?_
 refine AHead.val (Y.neq rfl rfl) (by decide) ?_
 refine AHead.guardRun (d := 39) rfl (by decide) rfl ?_
 refine AHead.val (Y.pick rfl rfl rfl) (by decide) ?_
 refine AHead.val (Y.pick rfl rfl rfl) (by decide) ?_
 refine AHead.nil ?_
 refine AWp.condD rfl (fun c56 => ?_) (fun c56 => ?_)
 refine AWp.sr ?_
 refine .vl (Y.assign rfl rfl) ?_
 refine AOps.nil ?_
 refine AWp.ret ?_
 exact ⟨_, _, rfl, rfl, (cg1 (fun (z0 : Bool) => X.v (.bool z0)) (df (fun h => by have h1 := h.strs n24_4 (by omega); unfold StrFit Netlist.wd at h1; grind) : false = decide (Fit n)) : X.v (.bool false) = X.v (.bool (decide (Fit n)))), rfl⟩
 refine AWp.skip ?_
 exact ⟨true, decide ((n.widths.getD ((n.data.getD n24_4 0).toNat) 0) ≠ ((n.streams.getD n24_4 default).width)), by unfold StrFit Netlist.wd; grind, Le.mk (SubL.cons rfl (SubL.cons rfl (SubL.cons rfl (SubL.cons rfl (SubL.cons rfl (SubL.cons rfl (SubL.cons (look_bool rfl (by first | rfl | simp_all)) (SubL.cons (look_bool rfl (by first | rfl | simp_all)) (SubL.nil))))))))) (SubL.cons rfl (SubL.cons rfl (SubL.nil)))⟩
 refine AHead.guardSkipV (d := 42) rfl (by decide) (by decide) rfl rfl ?_
 refine AHead.guardSkipV (d := 42) rfl (by decide) (by decide) rfl rfl ?_
 refine AHead.guardSkipV (d := 42) rfl (by decide) (by decide) rfl rfl ?_
 refine AHead.guardSkipV (d := 42) rfl (by decide) (by decide) rfl rfl ?_
 refine AHead.guardSkipV (d := 42) rfl (by decide) (by decide) rfl rfl ?_
 refine AHead.guardSkipV (d := 42) rfl (by decide) (by decide) rfl rfl ?_
 refine AHead.guardSkipV (d := 42) rfl (by decide) (by decide) rfl rfl ?_
 refine AHead.guardSkipV (d := 42) rfl (by decide) (by decide) rfl rfl ?_
 refine AHead.guardSkipV (d := 42) rfl (by decide) (by decide) rfl rfl ?_
 refine AHead.guardSkipV (d := 42) rfl (by decide) (by decide) rfl rfl ?_
 refine AHead.guardSkipV (d := 42) rfl (by decide) (by decide) rfl rfl ?_
 refine AHead.guardSkipV (d := 42) rfl (by decide) (by decide) rfl rfl ?_
 refine AHead.guardRun (d := 39) rfl (by decide) rfl ?_
 refine AHead.val (Y.pick rfl rfl rfl) (by decide) ?_
 refine AHead.val (Y.pick rfl rfl rfl) (by decide) ?_
 refine AHead.nil ?_
 refine AWp.condF rfl ?_
 refine AWp.skip ?_
 exact ⟨false, false, by unfold StrFit Netlist.wd; grind, Le.mk (SubL.cons rfl (SubL.cons rfl (SubL.cons rfl (SubL.cons rfl (SubL.cons rfl (SubL.cons rfl (SubL.cons (look_bool rfl (by first | rfl | simp_all)) (SubL.cons (look_bool rfl (by first | rfl | simp_all)) (SubL.nil))))))))) (SubL.cons rfl (SubL.cons rfl (SubL.nil)))⟩
 refine AWp.region ?_
 refine .vl (Y.addI rfl rfl (by first | omega | simp [-List.getD_eq_getElem?_getD] <;> omega)) ?_
 refine .vl (Y.move rfl rfl) ?_
 refine AOps.nil ?_
 exact ⟨n24_4 + 1, ⟨by first | omega | (simp [-List.getD_eq_getElem?_getD]; done) | (simp [-List.getD_eq_getElem?_getD]; omega), below_succ' hst hJ8⟩, by omega, Le.mk (SubL.cons rfl (SubL.cons rfl (SubL.cons rfl (SubL.cons (look_int rfl (by first | rfl | omega)) (SubL.nil))))) (SubL.cons rfl (SubL.nil))⟩
 refine AWp.exit ?_
 refine AWp.sr ?_
 refine .vl (Y.fieldAddr fl27_2 rfl rfl) ?_
 refine .vl (Y.load sh23 rfl rfl rfl rfl) ?_
 refine AOps.sh (Sh.freezeO 101 rfl rfl) ?_
 refine .vl (Y.makeFunc rfl rfl rfl rfl) ?_
 refine AOps.callP ok100 (containsFuncCell_spec (l := n.cells) (p := fun z => !decide (Fits n z)) ((by first | omega | simp [-List.getD_eq_getElem?_getD] <;> omega)) ok101 (fun z hz => widths1_spec hs hf hz)) rfl (.keep rfl rfl (.keep rfl rfl .nil)) (by decide) rfl ?_
 refine .vl (Y.not rfl) ?_
 refine .vl (Y.assign rfl rfl) ?_
 refine AOps.nil ?_
 refine AWp.ret ?_
 exact ⟨_, _, rfl, rfl, (cg1 (fun (z0 : Bool) => X.v (.bool z0)) (db (not_any_fit (by unfold Netlist.wd; omega) (by unfold Netlist.wd; omega) (fun j hj => hst j (by omega))) : (!(n.cells.any (fun z => !decide (Fits n z)))) = decide (Fit n)) : X.v (.bool (!(n.cells.any (fun z => !decide (Fits n z))))) = X.v (.bool (decide (Fit n)))), rfl⟩

end Go.Proofs.Ytligpghohcfpnaa
