/- Walks through the specification of well-formed netlists. -/
import Derived.Test.YtjnpbojdjipboaaNetx0
import Derived.Test.YtjnpbojdjipboaaNetx4
import Derived.Test.YtjnpbojdjipboaaNetx1
set_option linter.unusedSimpArgs false
set_option linter.unusedVariables false
set_option linter.unusedSectionVars false
namespace Go.Proofs.Ytjnpbojdjipboaa
open Go Go.AW Go.Proofs



set_option maxHeartbeats 1000000 in
theorem refWidths_spec {l : List Int} (hl : l.length ≤ 17592186043904) : ACalls Try.prog 116 [.fz 1 (l.map irow)] [] [] (fun r o => r = .v (.bool (decide (∀ j, j < l.length → Wide (l.getD j 0)))) ∧ o = []) := by
 refine ACalls.of Try.func116 rfl rfl rfl (n := 16) (by decide) (Nat.le_of_ble_eq_true rfl) ?_
 refine AWp.sr ?_
 refine .vl (Y.assign rfl rfl) ?_
 refine AOps.nil ?_
 refine AWp.seq ?_
 refine AWp.sr ?_
 refine .vl (Y.assign rfl rfl) ?_
 refine AOps.nil ?_
 refine AWp.block ?_
 refine AWp.loop1 (fun (i3_2 : Nat) => ⟨[(0, .fz 1 (l.map irow)), (3, .v (.int .i64 (i3_2 : Int)))], []⟩) (fun (i3_2 : Nat) => ((i3_2 : Int) ≤ ((l.length : Nat) : Int)) ∧ (∀ j, j < i3_2 → Wide (l.getD j 0))) (fun (i3_2 : Nat) => (((l.length : Nat) : Int) - (i3_2 : Int)).toNat) 0 (⟨by first | omega | (simp [-List.getD_eq_getElem?_getD]; done) | (simp [-List.getD_eq_getElem?_getD]; omega), fun j hj => by omega⟩) (Le.mk (SubL.cons rfl (SubL.cons (look_int rfl (by first | rfl | omega)) (SubL.nil))) (SubL.nil)) (fun i3_2 hI2 => ?_)
 obtain ⟨hb2, hw⟩ := hI2
 refine AWp.seq ?_
 refine AWp.sr ?_
 refine .vl (Y.move rfl rfl) ?_
 refine .vl (Y.move rfl rfl) ?_
 refine .vl (Y.len (n := l.length) sl22 rfl (congrArg some (List.length_map ..))) ?_
 refine .vl (Y.lss rfl rfl) ?_
 refine AOps.nil ?_
 refine AWp.condD rfl (fun c7 => ?_) (fun c7 => ?_)
 refine AWp.skip ?_
 refine AWp.seq ?_
 refine AWp.block ?_
 refine AWp.sr ?_
 refine .vl (Y.move rfl rfl) ?_
 refine .vl (Y.move rfl rfl) ?_
 refine .vl (Y.indexF (m := i3_2) sl22 rfl rfl (by first | rfl | omega) (row_getD (d := 0) (by first | omega | simp [-List.getD_eq_getElem?_getD] <;> omega))) ?_
 refine .vl (Y.load sh3 rfl rfl rfl rfl) ?_
 refine AOps.callP ok117 (right_spec (w := (l.getD i3_2 0))) rfl (.keep rfl rfl .nil) (by decide) rfl ?_
 refine .vl (Y.not rfl) ?_
 refine AOps.nil ?_
 refine AWp.cond rfl (fun c15 => ?_) (fun c15 => ?_)
 replace c15 : ¬ (Wide (l.getD i3_2 0)) := by simpa using c15
 refine AWp.sr ?_
 refine .vl (Y.assign rfl rfl) ?_
 refine AOps.nil ?_
 refine AWp.ret ?_
 exact ⟨_, _, rfl, rfl, (cg1 (fun (z0 : Bool) => X.v (.bool z0)) (df (fun h => by have := h i3_2 (by omega); contradiction) : false = decide (∀ j, j < l.length → Wide (l.getD j 0))) : X.v (.bool false) = X.v (.bool (decide (∀ j, j < l.length → Wide (l.getD j 0))))), rfl⟩
 replace c15 : Wide (l.getD i3_2 0) := by simpa using c15
 refine AWp.skip ?_
 refine AWp.region ?_
 refine .vl (Y.move rfl rfl) ?_
 refine .vl (Y.addI rfl rfl (by first | omega | simp [-List.getD_eq_getElem?_getD] <;> omega)) ?_
 refine .vl (Y.assign rfl rfl) ?_
 refine AOps.nil ?_
 exact ⟨i3_2 + 1, ⟨by first | omega | (simp [-List.getD_eq_getElem?_getD]; done) | (simp [-List.getD_eq_getElem?_getD]; omega), below_succ' hw (by assumption)⟩, by omega, Le.mk (SubL.cons rfl (SubL.cons (look_int rfl (by first | rfl | omega)) (SubL.nil))) (SubL.nil)⟩
 refine AWp.exit ?_
 refine AWp.sr ?_
 refine .vl (Y.assign rfl rfl) ?_
 refine AOps.nil ?_
 refine AWp.ret ?_
 exact ⟨_, _, rfl, rfl, (cg1 (fun (z0 : Bool) => X.v (.bool z0)) (dt (fun j hj => hw j (by omega)) : true = decide (∀ j, j < l.length → Wide (l.getD j 0))) : X.v (.bool true) = X.v (.bool (decide (∀ j, j < l.length → Wide (l.getD j 0))))), rfl⟩

set_option maxRecDepth 4000 in
set_option maxHeartbeats 1000000 in
theorem parts_spec {n : Netlist} (hs : n.Small) : ACalls Try.prog 87 [.agg (Netlist.row n)] [] [] (fun r o => r = .v (.bool (decide (Parts n))) ∧ o = []) := by
 refine ACalls.of Try.func87 rfl rfl rfl (n := 170) (by decide) (Nat.le_of_ble_eq_true rfl) ?_
 have hs1 := hs.name; have hs2 := hs.widths; have hs3 := hs.cells; have hs4 := hs.ins; have hs5 := hs.mems; have hs6 := hs.streams; have hs7 := hs.active; have hs8 := hs.data; have hs9 := hs.rets
 refine AWp.sr ?_
 refine AOps.box 101 rfl rfl rfl rfl rfl (by decide) ?_
 refine .vl (Y.assign rfl rfl) ?_
 refine AOps.nil ?_
 refine AWp.seq ?_
 refine AWp.sr ?_
 refine .vl (Y.fieldAddr fl27_0 rfl rfl) ?_
 refine .vl (Y.load sh9 rfl rfl rfl rfl) ?_
 refine AOps.callP ok115 (refNamed_spec (s := n.name) (by first | assumption | omega)) rfl (.keep rfl rfl .nil) (by decide) rfl ?_
 refine .vl (Y.not rfl) ?_
 refine .vl (Y.move rfl rfl) ?_
 refine AOps.split (d := 11) rfl (fun c11 => ?_) (fun c11 => ?_)
 replace c11 : ¬ (Named n.name) := by simpa using c11
 refine .gs 11 rfl rfl rfl ?_
 refine .gs 11 rfl rfl rfl ?_
 refine .gs 11 rfl rfl rfl ?_
 refine .gs 11 rfl rfl rfl ?_
 refine .vl (Y.pick rfl rfl rfl) ?_
 refine .vl (Y.move rfl rfl) ?_
 refine .gs 17 rfl rfl rfl ?_
 refine .gs 17 rfl rfl rfl ?_
 refine .gs 17 rfl rfl rfl ?_
 refine .gs 17 rfl rfl rfl ?_
 refine .vl (Y.pick rfl rfl rfl) ?_
 refine .vl (Y.move rfl rfl) ?_
 refine .gs 23 rfl rfl rfl ?_
 refine .gs 23 rfl rfl rfl ?_
 refine .gs 23 rfl rfl rfl ?_
 refine .gs 23 rfl rfl rfl ?_
 refine .vl (Y.pick rfl rfl rfl) ?_
 refine .vl (Y.move rfl rfl) ?_
 refine .gs 29 rfl rfl rfl ?_
 refine .gs 29 rfl rfl rfl ?_
 refine .gs 29 rfl rfl rfl ?_
 refine .gs 29 rfl rfl rfl ?_
 refine .vl (Y.pick rfl rfl rfl) ?_
 refine .vl (Y.move rfl rfl) ?_
 refine .gs 35 rfl rfl rfl ?_
 refine .gs 35 rfl rfl rfl ?_
 refine .gs 35 rfl rfl rfl ?_
 refine .gs 35 rfl rfl rfl ?_
 refine .vl (Y.pick rfl rfl rfl) ?_
 refine .vl (Y.move rfl rfl) ?_
 refine .gs 41 rfl rfl rfl ?_
 refine .gs 41 rfl rfl rfl ?_
 refine .gs 41 rfl rfl rfl ?_
 refine .gs 41 rfl rfl rfl ?_
 refine .vl (Y.pick rfl rfl rfl) ?_
 refine .vl (Y.move rfl rfl) ?_
 refine .gs 47 rfl rfl rfl ?_
 refine .gs 47 rfl rfl rfl ?_
 refine .gs 47 rfl rfl rfl ?_
 refine .gs 47 rfl rfl rfl ?_
 refine .gs 47 rfl rfl rfl ?_
 refine .gs 47 rfl rfl rfl ?_
 refine .gs 47 rfl rfl rfl ?_
 refine .vl (Y.pick rfl rfl rfl) ?_
 refine .vl (Y.move rfl rfl) ?_
 refine .gs 56 rfl rfl rfl ?_
 refine .gs 56 rfl rfl rfl ?_
 refine .gs 56 rfl rfl rfl ?_
 refine .gs 56 rfl rfl rfl ?_
 refine .gs 56 rfl rfl rfl ?_
 refine .gs 56 rfl rfl rfl ?_
 refine .gs 56 rfl rfl rfl ?_
 refine .vl (Y.pick rfl rfl rfl) ?_
 refine AOps.nil ?_
 refine AWp.condT rfl ?_
 refine AWp.sr ?_
 refine .vl (Y.assign rfl rfl) ?_
 refine AOps.nil ?_
 refine AWp.ret ?_
 exact ⟨_, _, rfl, rfl, (cg1 (fun (z0 : Bool) => X.v (.bool z0)) (df (fun h => by have h1 := h.name; have h2 := h.ncells; have h3 := h.nwidths; have h4 := h.nmems; have h5 := h.nstreams; have h6 := h.nactive; have h7 := h.ndata; have h8 := h.widths; have h9 := h.ins; first | contradiction | omega) : false = decide (Parts n)) : X.v (.bool false) = X.v (.bool (decide (Parts n)))), rfl⟩
 replace c11 : Named n.name := by simpa using c11
 refine .gv 11 rfl rfl (Y.fieldAddr fl27_2 rfl rfl) ?_
 refine .gv 11 rfl rfl (Y.load sh23 rfl rfl rfl rfl) ?_
 refine .gv 11 rfl rfl (Y.len (n := n.cells.length) sl23 rfl (congrArg some (List.length_map ..))) ?_
 refine .gv 11 rfl rfl (Y.gtr rfl rfl) ?_
 refine .vl (Y.pick rfl rfl rfl) ?_
 refine .vl (Y.move rfl rfl) ?_
 refine AOps.splitD (d := 17) rfl (fun c17 => ?_) (fun c17 => ?_)
 refine .gs 17 rfl rfl rfl ?_
 refine .gs 17 rfl rfl rfl ?_
 refine .gs 17 rfl rfl rfl ?_
 refine .gs 17 rfl rfl rfl ?_
 refine .vl (Y.pick rfl rfl rfl) ?_
 refine .vl (Y.move rfl rfl) ?_
 refine .gs 23 rfl rfl rfl ?_
 refine .gs 23 rfl rfl rfl ?_
 refine .gs 23 rfl rfl rfl ?_
 refine .gs 23 rfl rfl rfl ?_
 refine .vl (Y.pick rfl rfl rfl) ?_
 refine .vl (Y.move rfl rfl) ?_
 refine .gs 29 rfl rfl rfl ?_
 refine .gs 29 rfl rfl rfl ?_
 refine .gs 29 rfl rfl rfl ?_
 refine .gs 29 rfl rfl rfl ?_
 refine .vl (Y.pick rfl rfl rfl) ?_
 refine .vl (Y.move rfl rfl) ?_
 refine .gs 35 rfl rfl rfl ?_
 refine .gs 35 rfl rfl rfl ?_
 refine .gs 35 rfl rfl rfl ?_
 refine .gs 35 rfl rfl rfl ?_
 refine .vl (Y.pick rfl rfl rfl) ?_
 refine .vl (Y.move rfl rfl) ?_
 refine .gs 41 rfl rfl rfl ?_
 refine .gs 41 rfl rfl rfl ?_
 refine .gs 41 rfl rfl rfl ?_
 refine .gs 41 rfl rfl rfl ?_
 refine .vl (Y.pick rfl rfl rfl) ?_
 refine .vl (Y.move rfl rfl) ?_
 refine .gs 47 rfl rfl rfl ?_
 refine .gs 47 rfl rfl rfl ?_
 refine .gs 47 rfl rfl rfl ?_
 refine .gs 47 rfl rfl rfl ?_
 refine .gs 47 rfl rfl rfl ?_
 refine .gs 47 rfl rfl rfl ?_
 refine .gs 47 rfl rfl rfl ?_
 refine .vl (Y.pick rfl rfl rfl) ?_
 refine .vl (Y.move rfl rfl) ?_
 refine .gs 56 rfl rfl rfl ?_
 refine .gs 56 rfl rfl rfl ?_
 refine .gs 56 rfl rfl rfl ?_
 refine .gs 56 rfl rfl rfl ?_
 refine .gs 56 rfl rfl rfl ?_
 refine .gs 56 rfl rfl rfl ?_
 refine .gs 56 rfl rfl rfl ?_
 refine .vl (Y.pick rfl rfl rfl) ?_
 refine AOps.nil ?_
 refine AWp.condT rfl ?_
 refine AWp.sr ?_
 refine .vl (Y.assign rfl rfl) ?_
 refine AOps.nil ?_
 refine AWp.ret ?_
 exact ⟨_, _, rfl, rfl, (cg1 (fun (z0 : Bool) => X.v (.bool z0)) (df (fun h => by have h1 := h.name; have h2 := h.ncells; have h3 := h.nwidths; have h4 := h.nmems; have h5 := h.nstreams; have h6 := h.nactive; have h7 := h.ndata; have h8 := h.widths; have h9 := h.ins; first | contradiction | omega) : false = decide (Parts n)) : X.v (.bool false) = X.v (.bool (decide (Parts n)))), rfl⟩
 refine .gv 17 rfl rfl (Y.fieldAddr fl27_1 rfl rfl) ?_
 refine .gv 17 rfl rfl (Y.load sh22 rfl rfl rfl rfl) ?_
 refine .gv 17 rfl rfl (Y.len (n := n.widths.length) sl22 rfl (congrArg some (List.length_map ..))) ?_
 refine .gv 17 rfl rfl (Y.gtr rfl rfl) ?_
 refine .vl (Y.pick rfl rfl rfl) ?_
 refine .vl (Y.move rfl rfl) ?_
 refine AOps.splitD (d := 23) rfl (fun c23 => ?_) (fun c23 => ?_)
 refine .gs 23 rfl rfl rfl ?_
 refine .gs 23 rfl rfl rfl ?_
 refine .gs 23 rfl rfl rfl ?_
 refine .gs 23 rfl rfl rfl ?_
 refine .vl (Y.pick rfl rfl rfl) ?_
 refine .vl (Y.move rfl rfl) ?_
 refine .gs 29 rfl rfl rfl ?_
 refine .gs 29 rfl rfl rfl ?_
 refine .gs 29 rfl rfl rfl ?_
 refine .gs 29 rfl rfl rfl ?_
 refine .vl (Y.pick rfl rfl rfl) ?_
 refine .vl (Y.move rfl rfl) ?_
 refine .gs 35 rfl rfl rfl ?_
 refine .gs 35 rfl rfl rfl ?_
 refine .gs 35 rfl rfl rfl ?_
 refine .gs 35 rfl rfl rfl ?_
 refine .vl (Y.pick rfl rfl rfl) ?_
 refine .vl (Y.move rfl rfl) ?_
 refine .gs 41 rfl rfl rfl ?_
 refine .gs 41 rfl rfl rfl ?_
 refine .gs 41 rfl rfl rfl ?_
 refine .gs 41 rfl rfl rfl ?_
 refine .vl (Y.pick rfl rfl rfl) ?_
 refine .vl (Y.move rfl rfl) ?_
 refine .gs 47 rfl rfl rfl ?_
 refine .gs 47 rfl rfl rfl ?_
 refine .gs 47 rfl rfl rfl ?_
 refine .gs 47 rfl rfl rfl ?_
 refine .gs 47 rfl rfl rfl ?_
 refine .gs 47 rfl rfl rfl ?_
 refine .gs 47 rfl rfl rfl ?_
 refine .vl (Y.pick rfl rfl rfl) ?_
 refine .vl (Y.move rfl rfl) ?_
 refine .gs 56 rfl rfl rfl ?_
 refine .gs 56 rfl rfl rfl ?_
 refine .gs 56 rfl rfl rfl ?_
 refine .gs 56 rfl rfl rfl ?_
 refine .gs 56 rfl rfl rfl ?_
 refine .gs 56 rfl rfl rfl ?_
 refine .gs 56 rfl rfl rfl ?_
 refine .vl (Y.pick rfl rfl rfl) ?_
 refine AOps.nil ?_
 refine AWp.condT rfl ?_
 refine AWp.sr ?_
 refine .vl (Y.assign rfl rfl) ?_
 refine AOps.nil ?_
 refine AWp.ret ?_
 exact ⟨_, _, rfl, rfl, (cg1 (fun (z0 : Bool) => X.v (.bool z0)) (df (fun h => by have h1 := h.name; have h2 := h.ncells; have h3 := h.nwidths; have h4 := h.nmems; have h5 := h.nstreams; have h6 := h.nactive; have h7 := h.ndata; have h8 := h.widths; have h9 := h.ins; first | contradiction | omega) : false = decide (Parts n)) : X.v (.bool false) = X.v (.bool (decide (Parts n)))), rfl⟩
 refine .gv 23 rfl rfl (Y.fieldAddr fl27_1 rfl rfl) ?_
 refine .gv 23 rfl rfl (Y.load sh22 rfl rfl rfl rfl) ?_
 refine AOps.guardRun (d := 23) rfl (by decide) rfl ?_
 refine AOps.callP ok116 (refWidths_spec (l := n.widths) ((by first | omega | simp [-List.getD_eq_getElem?_getD] <;> omega))) rfl (.keep rfl rfl .nil) (by decide) rfl ?_
 refine .gv 23 rfl rfl (Y.not rfl) ?_
 refine .vl (Y.pick rfl rfl rfl) ?_
 refine .vl (Y.move rfl rfl) ?_
 refine AOps.split (d := 29) rfl (fun c29 => ?_) (fun c29 => ?_)
 replace c29 : ¬ (∀ j, j < n.widths.length → Wide (n.widths.getD j 0)) := by simpa using c29
 refine .gs 29 rfl rfl rfl ?_
 refine .gs 29 rfl rfl rfl ?_
 refine .gs 29 rfl rfl rfl ?_
 refine .gs 29 rfl rfl rfl ?_
 refine .vl (Y.pick rfl rfl rfl) ?_
 refine .vl (Y.move rfl rfl) ?_
 refine .gs 35 rfl rfl rfl ?_
 refine .gs 35 rfl rfl rfl ?_
 refine .gs 35 rfl rfl rfl ?_
 refine .gs 35 rfl rfl rfl ?_
 refine .vl (Y.pick rfl rfl rfl) ?_
 refine .vl (Y.move rfl rfl) ?_
 refine .gs 41 rfl rfl rfl ?_
 refine .gs 41 rfl rfl rfl ?_
 refine .gs 41 rfl rfl rfl ?_
 refine .gs 41 rfl rfl rfl ?_
 refine .vl (Y.pick rfl rfl rfl) ?_
 refine .vl (Y.move rfl rfl) ?_
 refine .gs 47 rfl rfl rfl ?_
 refine .gs 47 rfl rfl rfl ?_
 refine .gs 47 rfl rfl rfl ?_
 refine .gs 47 rfl rfl rfl ?_
 refine .gs 47 rfl rfl rfl ?_
 refine .gs 47 rfl rfl rfl ?_
 refine .gs 47 rfl rfl rfl ?_
 refine .vl (Y.pick rfl rfl rfl) ?_
 refine .vl (Y.move rfl rfl) ?_
 refine .gs 56 rfl rfl rfl ?_
 refine .gs 56 rfl rfl rfl ?_
 refine .gs 56 rfl rfl rfl ?_
 refine .gs 56 rfl rfl rfl ?_
 refine .gs 56 rfl rfl rfl ?_
 refine .gs 56 rfl rfl rfl ?_
 refine .gs 56 rfl rfl rfl ?_
 refine .vl (Y.pick rfl rfl rfl) ?_
 refine AOps.nil ?_
 refine AWp.condT rfl ?_
 refine AWp.sr ?_
 refine .vl (Y.assign rfl rfl) ?_
 refine AOps.nil ?_
 refine AWp.ret ?_
 exact ⟨_, _, rfl, rfl, (cg1 (fun (z0 : Bool) => X.v (.bool z0)) (df (fun h => by have h1 := h.name; have h2 := h.ncells; have h3 := h.nwidths; have h4 := h.nmems; have h5 := h.nstreams; have h6 := h.nactive; have h7 := h.ndata; have h8 := h.widths; have h9 := h.ins; first | contradiction | omega) : false = decide (Parts n)) : X.v (.bool false) = X.v (.bool (decide (Parts n)))), rfl⟩
 replace c29 : ∀ j, j < n.widths.length → Wide (n.widths.getD j 0) := by simpa using c29
 refine .gv 29 rfl rfl (Y.fieldAddr fl27_3 rfl rfl) ?_
 refine .gv 29 rfl rfl (Y.load sh22 rfl rfl rfl rfl) ?_
 refine AOps.guardRun (d := 29) rfl (by decide) rfl ?_
 refine AOps.callP ok116 (refWidths_spec (l := n.ins) ((by first | omega | simp [-List.getD_eq_getElem?_getD] <;> omega))) rfl (.keep rfl rfl .nil) (by decide) rfl ?_
 refine .gv 29 rfl rfl (Y.not rfl) ?_
 refine .vl (Y.pick rfl rfl rfl) ?_
 refine .vl (Y.move rfl rfl) ?_
 refine AOps.split (d := 35) rfl (fun c35 => ?_) (fun c35 => ?_)
 replace c35 : ¬ (∀ j, j < n.ins.length → Wide (n.ins.getD j 0)) := by simpa using c35
 refine .gs 35 rfl rfl rfl ?_
 refine .gs 35 rfl rfl rfl ?_
 refine .gs 35 rfl rfl rfl ?_
 refine .gs 35 rfl rfl rfl ?_
 refine .vl (Y.pick rfl rfl rfl) ?_
 refine .vl (Y.move rfl rfl) ?_
 refine .gs 41 rfl rfl rfl ?_
 refine .gs 41 rfl rfl rfl ?_
 refine .gs 41 rfl rfl rfl ?_
 refine .gs 41 rfl rfl rfl ?_
 refine .vl (Y.pick rfl rfl rfl) ?_
 refine .vl (Y.move rfl rfl) ?_
 refine .gs 47 rfl rfl rfl ?_
 refine .gs 47 rfl rfl rfl ?_
 refine .gs 47 rfl rfl rfl ?_
 refine .gs 47 rfl rfl rfl ?_
 refine .gs 47 rfl rfl rfl ?_
 refine .gs 47 rfl rfl rfl ?_
 refine .gs 47 rfl rfl rfl ?_
 refine .vl (Y.pick rfl rfl rfl) ?_
 refine .vl (Y.move rfl rfl) ?_
 refine .gs 56 rfl rfl rfl ?_
 refine .gs 56 rfl rfl rfl ?_
 refine .gs 56 rfl rfl rfl ?_
 refine .gs 56 rfl rfl rfl ?_
 refine .gs 56 rfl rfl rfl ?_
 refine .gs 56 rfl rfl rfl ?_
 refine .gs 56 rfl rfl rfl ?_
 refine .vl (Y.pick rfl rfl rfl) ?_
 refine AOps.nil ?_
 refine AWp.condT rfl ?_
 refine AWp.sr ?_
 refine .vl (Y.assign rfl rfl) ?_
 refine AOps.nil ?_
 refine AWp.ret ?_
 exact ⟨_, _, rfl, rfl, (cg1 (fun (z0 : Bool) => X.v (.bool z0)) (df (fun h => by have h1 := h.name; have h2 := h.ncells; have h3 := h.nwidths; have h4 := h.nmems; have h5 := h.nstreams; have h6 := h.nactive; have h7 := h.ndata; have h8 := h.widths; have h9 := h.ins; first | contradiction | omega) : false = decide (Parts n)) : X.v (.bool false) = X.v (.bool (decide (Parts n)))), rfl⟩
 replace c35 : ∀ j, j < n.ins.length → Wide (n.ins.getD j 0) := by simpa using c35
 refine .gv 35 rfl rfl (Y.fieldAddr fl27_4 rfl rfl) ?_
 refine .gv 35 rfl rfl (Y.load sh24 rfl rfl rfl rfl) ?_
 refine .gv 35 rfl rfl (Y.len (n := n.mems.length) sl24 rfl (congrArg some (List.length_map ..))) ?_
 refine .gv 35 rfl rfl (Y.gtr rfl rfl) ?_
 refine .vl (Y.pick rfl rfl rfl) ?_
 refine .vl (Y.move rfl rfl) ?_
 refine AOps.splitD (d := 41) rfl (fun c41 => ?_) (fun c41 => ?_)
 refine .gs 41 rfl rfl rfl ?_
 refine .gs 41 rfl rfl rfl ?_
 refine .gs 41 rfl rfl rfl ?_
 refine .gs 41 rfl rfl rfl ?_
 refine .vl (Y.pick rfl rfl rfl) ?_
 refine .vl (Y.move rfl rfl) ?_
 refine .gs 47 rfl rfl rfl ?_
 refine .gs 47 rfl rfl rfl ?_
 refine .gs 47 rfl rfl rfl ?_
 refine .gs 47 rfl rfl rfl ?_
 refine .gs 47 rfl rfl rfl ?_
 refine .gs 47 rfl rfl rfl ?_
 refine .gs 47 rfl rfl rfl ?_
 refine .vl (Y.pick rfl rfl rfl) ?_
 refine .vl (Y.move rfl rfl) ?_
 refine .gs 56 rfl rfl rfl ?_
 refine .gs 56 rfl rfl rfl ?_
 refine .gs 56 rfl rfl rfl ?_
 refine .gs 56 rfl rfl rfl ?_
 refine .gs 56 rfl rfl rfl ?_
 refine .gs 56 rfl rfl rfl ?_
 refine .gs 56 rfl rfl rfl ?_
 refine .vl (Y.pick rfl rfl rfl) ?_
 refine AOps.nil ?_
 refine AWp.condT rfl ?_
 refine AWp.sr ?_
 refine .vl (Y.assign rfl rfl) ?_
 refine AOps.nil ?_
 refine AWp.ret ?_
 exact ⟨_, _, rfl, rfl, (cg1 (fun (z0 : Bool) => X.v (.bool z0)) (df (fun h => by have h1 := h.name; have h2 := h.ncells; have h3 := h.nwidths; have h4 := h.nmems; have h5 := h.nstreams; have h6 := h.nactive; have h7 := h.ndata; have h8 := h.widths; have h9 := h.ins; first | contradiction | omega) : false = decide (Parts n)) : X.v (.bool false) = X.v (.bool (decide (Parts n)))), rfl⟩
 refine .gv 41 rfl rfl (Y.fieldAddr fl27_5 rfl rfl) ?_
 refine .gv 41 rfl rfl (Y.load sh25 rfl rfl rfl rfl) ?_
 refine .gv 41 rfl rfl (Y.len (n := n.streams.length) sl25 rfl (congrArg some (List.length_map ..))) ?_
 refine .gv 41 rfl rfl (Y.gtr rfl rfl) ?_
 refine .vl (Y.pick rfl rfl rfl) ?_
 refine .vl (Y.move rfl rfl) ?_
 refine AOps.splitD (d := 47) rfl (fun c47 => ?_) (fun c47 => ?_)
 refine .gs 47 rfl rfl rfl ?_
 refine .gs 47 rfl rfl rfl ?_
 refine .gs 47 rfl rfl rfl ?_
 refine .gs 47 rfl rfl rfl ?_
 refine .gs 47 rfl rfl rfl ?_
 refine .gs 47 rfl rfl rfl ?_
 refine .gs 47 rfl rfl rfl ?_
 refine .vl (Y.pick rfl rfl rfl) ?_
 refine .vl (Y.move rfl rfl) ?_
 refine .gs 56 rfl rfl rfl ?_
 refine .gs 56 rfl rfl rfl ?_
 refine .gs 56 rfl rfl rfl ?_
 refine .gs 56 rfl rfl rfl ?_
 refine .gs 56 rfl rfl rfl ?_
 refine .gs 56 rfl rfl rfl ?_
 refine .gs 56 rfl rfl rfl ?_
 refine .vl (Y.pick rfl rfl rfl) ?_
 refine AOps.nil ?_
 refine AWp.condT rfl ?_
 refine AWp.sr ?_
 refine .vl (Y.assign rfl rfl) ?_
 refine AOps.nil ?_
 refine AWp.ret ?_
 exact ⟨_, _, rfl, rfl, (cg1 (fun (z0 : Bool) => X.v (.bool z0)) (df (fun h => by have h1 := h.name; have h2 := h.ncells; have h3 := h.nwidths; have h4 := h.nmems; have h5 := h.nstreams; have h6 := h.nactive; have h7 := h.ndata; have h8 := h.widths; have h9 := h.ins; first | contradiction | omega) : false = decide (Parts n)) : X.v (.bool false) = X.v (.bool (decide (Parts n)))), rfl⟩
 refine .gv 47 rfl rfl (Y.fieldAddr fl27_6 rfl rfl) ?_
 refine .gv 47 rfl rfl (Y.load sh22 rfl rfl rfl rfl) ?_
 refine .gv 47 rfl rfl (Y.len (n := n.active.length) sl22 rfl (congrArg some (List.length_map ..))) ?_
 refine .gv 47 rfl rfl (Y.fieldAddr fl27_5 rfl rfl) ?_
 refine .gv 47 rfl rfl (Y.load sh25 rfl rfl rfl rfl) ?_
 refine .gv 47 rfl rfl (Y.len (n := n.streams.length) sl25 rfl (congrArg some (List.length_map ..))) ?_
 refine .gv 47 rfl rfl (Y.neq rfl rfl) ?_
 refine .vl (Y.pick rfl rfl rfl) ?_
 refine .vl (Y.move rfl rfl) ?_
 refine AOps.splitD (d := 56) rfl (fun c56 => ?_) (fun c56 => ?_)
 refine .gs 56 rfl rfl rfl ?_
 refine .gs 56 rfl rfl rfl ?_
 refine .gs 56 rfl rfl rfl ?_
 refine .gs 56 rfl rfl rfl ?_
 refine .gs 56 rfl rfl rfl ?_
 refine .gs 56 rfl rfl rfl ?_
 refine .gs 56 rfl rfl rfl ?_
 refine .vl (Y.pick rfl rfl rfl) ?_
 refine AOps.nil ?_
 refine AWp.condT rfl ?_
 refine AWp.sr ?_
 refine .vl (Y.assign rfl rfl) ?_
 refine AOps.nil ?_
 refine AWp.ret ?_
 exact ⟨_, _, rfl, rfl, (cg1 (fun (z0 : Bool) => X.v (.bool z0)) (df (fun h => by have h1 := h.name; have h2 := h.ncells; have h3 := h.nwidths; have h4 := h.nmems; have h5 := h.nstreams; have h6 := h.nactive; have h7 := h.ndata; have h8 := h.widths; have h9 := h.ins; first | contradiction | omega) : false = decide (Parts n)) : X.v (.bool false) = X.v (.bool (decide (Parts n)))), rfl⟩
 refine .gv 56 rfl rfl (Y.fieldAddr fl27_7 rfl rfl) ?_
 refine .gv 56 rfl rfl (Y.load sh22 rfl rfl rfl rfl) ?_
 refine .gv 56 rfl rfl (Y.len (n := n.data.length) sl22 rfl (congrArg some (List.length_map ..))) ?_
 refine .gv 56 rfl rfl (Y.fieldAddr fl27_5 rfl rfl) ?_
 refine .gv 56 rfl rfl (Y.load sh25 rfl rfl rfl rfl) ?_
 refine .gv 56 rfl rfl (Y.len (n := n.streams.length) sl25 rfl (congrArg some (List.length_map ..))) ?_
 refine .gv 56 rfl rfl (Y.neq rfl rfl) ?_
 refine .vl (Y.pick rfl rfl rfl) ?_
 refine AOps.nil ?_
 refine AWp.condD rfl (fun c64 => ?_) (fun c64 => ?_)
 refine AWp.sr ?_
 refine .vl (Y.assign rfl rfl) ?_
 refine AOps.nil ?_
 refine AWp.ret ?_
 exact ⟨_, _, rfl, rfl, (cg1 (fun (z0 : Bool) => X.v (.bool z0)) (df (fun h => by have h1 := h.name; have h2 := h.ncells; have h3 := h.nwidths; have h4 := h.nmems; have h5 := h.nstreams; have h6 := h.nactive; have h7 := h.ndata; have h8 := h.widths; have h9 := h.ins; first | contradiction | omega) : false = decide (Parts n)) : X.v (.bool false) = X.v (.bool (decide (Parts n)))), rfl⟩
 refine AWp.skip ?_
 refine AWp.seq ?_
 refine AWp.sr ?_
 refine .vl (Y.assign rfl rfl) ?_
 refine AOps.nil ?_
 refine AWp.block ?_
 refine AWp.loop1 (fun (i3_4 : Nat) => ⟨[(1, .ptr 101 0 0 0), (3, .v (.int .i64 (i3_4 : Int)))], [(101, .cells (Netlist.row n))]⟩) (fun (i3_4 : Nat) => ((i3_4 : Int) ≤ ((n.mems.length : Nat) : Int)) ∧ (∀ j, j < i3_4 → MemOK (n.mems.getD j default))) (fun (i3_4 : Nat) => (((n.mems.length : Nat) : Int) - (i3_4 : Int)).toNat) 0 (⟨by first | omega | (simp [-List.getD_eq_getElem?_getD]; done) | (simp [-List.getD_eq_getElem?_getD]; omega), fun j hj => by omega⟩) (Le.mk (SubL.cons rfl (SubL.cons (look_int rfl (by first | rfl | omega)) (SubL.nil))) (SubL.cons rfl (SubL.nil))) (fun i3_4 hI4 => ?_)
 obtain ⟨hb4, hm⟩ := hI4
 refine AWp.seq ?_
 refine AWp.sr ?_
 refine .vl (Y.move rfl rfl) ?_
 refine .vl (Y.fieldAddr fl27_4 rfl rfl) ?_
 refine .vl (Y.load sh24 rfl rfl rfl rfl) ?_
 refine .vl (Y.len (n := n.mems.length) sl24 rfl (congrArg some (List.length_map ..))) ?_
 refine .vl (Y.lss rfl rfl) ?_
 refine AOps.nil ?_
 refine AWp.condD rfl (fun c69 => ?_) (fun c69 => ?_)
 refine AWp.skip ?_
 refine AWp.seq ?_
 refine AWp.block ?_
 refine AWp.sr ?_
 refine .vl (Y.fieldAddr fl27_4 rfl rfl) ?_
 refine .vl (Y.load sh24 rfl rfl rfl rfl) ?_
 refine .vl (Y.move rfl rfl) ?_
 refine .vl (Y.indexF (m := i3_4) sl24 rfl rfl (by first | rfl | omega) (row_getD (d := default) (by first | omega | simp [-List.getD_eq_getElem?_getD] <;> omega))) ?_
 refine .vl (Y.loadA sh48 rfl rfl (Nat.le_of_ble_eq_true rfl) rfl rfl) ?_
 refine AOps.alloc 104 ze48 rfl rfl (by decide) ?_
 refine AOps.storeC si48 rfl rfl rfl rfl rfl rfl (Nat.le_of_ble_eq_true rfl) rfl ?_
 refine AOps.nil ?_
 refine AWp.sr ?_
 have hmn := hs.memNames _ (getD_mem' (l := n.mems) (i := i3_4) (d := default) (by omega))
 refine .vl (Y.fieldAddr fl48_0 rfl rfl) ?_
 refine .vl (Y.load sh9 rfl rfl rfl rfl) ?_
 refine AOps.callP ok115 (refNamed_spec (s := ((n.mems.getD i3_4 default).name)) (by first | assumption | omega)) rfl (.keep rfl rfl .nil) (by decide) rfl ?_
 refine .vl (Y.not rfl) ?_
 refine .vl (Y.move rfl rfl) ?_
 refine AOps.split (d := 81) rfl (fun c81 => ?_) (fun c81 => ?_)
 replace c81 : ¬ (Named ((n.mems.getD i3_4 default).name)) := by simpa using c81
 refine .gs 81 rfl rfl rfl ?_
 refine .gs 81 rfl rfl rfl ?_
 refine .gs 81 rfl rfl rfl ?_
 refine .gs 81 rfl rfl rfl ?_
 refine .vl (Y.pick rfl rfl rfl) ?_
 refine .vl (Y.move rfl rfl) ?_
 refine .gs 87 rfl rfl rfl ?_
 refine .gs 87 rfl rfl rfl ?_
 refine .gs 87 rfl rfl rfl ?_
 refine .vl (Y.pick rfl rfl rfl) ?_
 refine .vl (Y.move rfl rfl) ?_
 refine .gs 92 rfl rfl rfl ?_
 refine .gs 92 rfl rfl rfl ?_
 refine .gs 92 rfl rfl rfl ?_
 refine .vl (Y.pick rfl rfl rfl) ?_
 refine .vl (Y.move rfl rfl) ?_
 refine .gs 97 rfl rfl rfl ?_
 refine .gs 97 rfl rfl rfl ?_
 refine .gs 97 rfl rfl rfl ?_
 refine .vl (Y.pick rfl rfl rfl) ?_
 refine .vl (Y.move rfl rfl) ?_
 refine .gs 102 rfl rfl rfl ?_
 refine .gs 102 rfl rfl rfl ?_
 refine .gs 102 rfl rfl rfl ?_
 refine .vl (Y.pick rfl rfl rfl) ?_
 refine AOps.nil ?_
 refine AWp.condT rfl ?_
 refine AWp.sr ?_
 refine .vl (Y.assign rfl rfl) ?_
 refine AOps.nil ?_
 refine AWp.ret ?_
 exact ⟨_, _, rfl, rfl, (cg1 (fun (z0 : Bool) => X.v (.bool z0)) (df (fun h => by have h1 := h.mems i3_4 (by omega); unfold MemOK at h1; obtain ⟨a1, a2, a3, a4, a5, a6⟩ := h1; first | contradiction | omega) : false = decide (Parts n)) : X.v (.bool false) = X.v (.bool (decide (Parts n)))), rfl⟩
 replace c81 : Named ((n.mems.getD i3_4 default).name) := by simpa using c81
 refine .gv 81 rfl rfl (Y.fieldAddr fl48_1 rfl rfl) ?_
 refine .gv 81 rfl rfl (Y.load sh3 rfl rfl rfl rfl) ?_
 refine AOps.guardRun (d := 81) rfl (by decide) rfl ?_
 refine AOps.callP ok117 (right_spec (w := ((n.mems.getD i3_4 default).width))) rfl (.keep rfl rfl .nil) (by decide) rfl ?_
 refine .gv 81 rfl rfl (Y.not rfl) ?_
 refine .vl (Y.pick rfl rfl rfl) ?_
 refine .vl (Y.move rfl rfl) ?_
 refine AOps.split (d := 87) rfl (fun c87 => ?_) (fun c87 => ?_)
 replace c87 : ¬ (Wide ((n.mems.getD i3_4 default).width)) := by simpa using c87
 refine .gs 87 rfl rfl rfl ?_
 refine .gs 87 rfl rfl rfl ?_
 refine .gs 87 rfl rfl rfl ?_
 refine .vl (Y.pick rfl rfl rfl) ?_
 refine .vl (Y.move rfl rfl) ?_
 refine .gs 92 rfl rfl rfl ?_
 refine .gs 92 rfl rfl rfl ?_
 refine .gs 92 rfl rfl rfl ?_
 refine .vl (Y.pick rfl rfl rfl) ?_
 refine .vl (Y.move rfl rfl) ?_
 refine .gs 97 rfl rfl rfl ?_
 refine .gs 97 rfl rfl rfl ?_
 refine .gs 97 rfl rfl rfl ?_
 refine .vl (Y.pick rfl rfl rfl) ?_
 refine .vl (Y.move rfl rfl) ?_
 refine .gs 102 rfl rfl rfl ?_
 refine .gs 102 rfl rfl rfl ?_
 refine .gs 102 rfl rfl rfl ?_
 refine .vl (Y.pick rfl rfl rfl) ?_
 refine AOps.nil ?_
 refine AWp.condT rfl ?_
 refine AWp.sr ?_
 refine .vl (Y.assign rfl rfl) ?_
 refine AOps.nil ?_
 refine AWp.ret ?_
 exact ⟨_, _, rfl, rfl, (cg1 (fun (z0 : Bool) => X.v (.bool z0)) (df (fun h => by have h1 := h.mems i3_4 (by omega); unfold MemOK at h1; obtain ⟨a1, a2, a3, a4, a5, a6⟩ := h1; first | contradiction | omega) : false = decide (Parts n)) : X.v (.bool false) = X.v (.bool (decide (Parts n)))), rfl⟩
 replace c87 : Wide ((n.mems.getD i3_4 default).width) := by simpa using c87
 refine .gv 87 rfl rfl (Y.fieldAddr fl48_2 rfl rfl) ?_
 refine .gv 87 rfl rfl (Y.load sh3 rfl rfl rfl rfl) ?_
 refine .gv 87 rfl rfl (Y.lss rfl rfl) ?_
 refine .vl (Y.pick rfl rfl rfl) ?_
 refine .vl (Y.move rfl rfl) ?_
 refine AOps.splitD (d := 92) rfl (fun c92 => ?_) (fun c92 => ?_)
 refine .gs 92 rfl rfl rfl ?_
 refine .gs 92 rfl rfl rfl ?_
 refine .gs 92 rfl rfl rfl ?_
 refine .vl (Y.pick rfl rfl rfl) ?_
 refine .vl (Y.move rfl rfl) ?_
 refine .gs 97 rfl rfl rfl ?_
 refine .gs 97 rfl rfl rfl ?_
 refine .gs 97 rfl rfl rfl ?_
 refine .vl (Y.pick rfl rfl rfl) ?_
 refine .vl (Y.move rfl rfl) ?_
 refine .gs 102 rfl rfl rfl ?_
 refine .gs 102 rfl rfl rfl ?_
 refine .gs 102 rfl rfl rfl ?_
 refine .vl (Y.pick rfl rfl rfl) ?_
 refine AOps.nil ?_
 refine AWp.condT rfl ?_
 refine AWp.sr ?_
 refine .vl (Y.assign rfl rfl) ?_
 refine AOps.nil ?_
 refine AWp.ret ?_
 exact ⟨_, _, rfl, rfl, (cg1 (fun (z0 : Bool) => X.v (.bool z0)) (df (fun h => by have h1 := h.mems i3_4 (by omega); unfold MemOK at h1; obtain ⟨a1, a2, a3, a4, a5, a6⟩ := h1; first | contradiction | omega) : false = decide (Parts n)) : X.v (.bool false) = X.v (.bool (decide (Parts n)))), rfl⟩
 refine .gv 92 rfl rfl (Y.fieldAddr fl48_2 rfl rfl) ?_
 refine .gv 92 rfl rfl (Y.load sh3 rfl rfl rfl rfl) ?_
 refine .gv 92 rfl rfl (Y.gtr rfl rfl) ?_
 refine .vl (Y.pick rfl rfl rfl) ?_
 refine .vl (Y.move rfl rfl) ?_
 refine AOps.splitD (d := 97) rfl (fun c97 => ?_) (fun c97 => ?_)
 refine .gs 97 rfl rfl rfl ?_
 refine .gs 97 rfl rfl rfl ?_
 refine .gs 97 rfl rfl rfl ?_
 refine .vl (Y.pick rfl rfl rfl) ?_
 refine .vl (Y.move rfl rfl) ?_
 refine .gs 102 rfl rfl rfl ?_
 refine .gs 102 rfl rfl rfl ?_
 refine .gs 102 rfl rfl rfl ?_
 refine .vl (Y.pick rfl rfl rfl) ?_
 refine AOps.nil ?_
 refine AWp.condT rfl ?_
 refine AWp.sr ?_
 refine .vl (Y.assign rfl rfl) ?_
 refine AOps.nil ?_
 refine AWp.ret ?_
 exact ⟨_, _, rfl, rfl, (cg1 (fun (z0 : Bool) => X.v (.bool z0)) (df (fun h => by have h1 := h.mems i3_4 (by omega); unfold MemOK at h1; obtain ⟨a1, a2, a3, a4, a5, a6⟩ := h1; first | contradiction | omega) : false = decide (Parts n)) : X.v (.bool false) = X.v (.bool (decide (Parts n)))), rfl⟩
 refine .gv 97 rfl rfl (Y.fieldAddr fl48_3 rfl rfl) ?_
 refine .gv 97 rfl rfl (Y.load sh3 rfl rfl rfl rfl) ?_
 refine .gv 97 rfl rfl (Y.neq rfl rfl) ?_
 refine .vl (Y.pick rfl rfl rfl) ?_
 refine .vl (Y.move rfl rfl) ?_
 refine AOps.splitD (d := 102) rfl (fun c102 => ?_) (fun c102 => ?_)
 refine .gs 102 rfl rfl rfl ?_
 refine .gs 102 rfl rfl rfl ?_
 refine .gs 102 rfl rfl rfl ?_
 refine .vl (Y.pick rfl rfl rfl) ?_
 refine AOps.nil ?_
 refine AWp.condT rfl ?_
 refine AWp.sr ?_
 refine .vl (Y.assign rfl rfl) ?_
 refine AOps.nil ?_
 refine AWp.ret ?_
 exact ⟨_, _, rfl, rfl, (cg1 (fun (z0 : Bool) => X.v (.bool z0)) (df (fun h => by have h1 := h.mems i3_4 (by omega); unfold MemOK at h1; obtain ⟨a1, a2, a3, a4, a5, a6⟩ := h1; first | contradiction | omega) : false = decide (Parts n)) : X.v (.bool false) = X.v (.bool (decide (Parts n)))), rfl⟩
 refine .gv 102 rfl rfl (Y.fieldAddr fl48_4 rfl rfl) ?_
 refine .gv 102 rfl rfl (Y.load sh3 rfl rfl rfl rfl) ?_
 refine .gv 102 rfl rfl (Y.neq rfl rfl) ?_
 refine .vl (Y.pick rfl rfl rfl) ?_
 refine AOps.nil ?_
 refine AWp.condD rfl (fun c106 => ?_) (fun c106 => ?_)
 refine AWp.sr ?_
 refine .vl (Y.assign rfl rfl) ?_
 refine AOps.nil ?_
 refine AWp.ret ?_
 exact ⟨_, _, rfl, rfl, (cg1 (fun (z0 : Bool) => X.v (.bool z0)) (df (fun h => by have h1 := h.mems i3_4 (by omega); unfold MemOK at h1; obtain ⟨a1, a2, a3, a4, a5, a6⟩ := h1; first | contradiction | omega) : false = decide (Parts n)) : X.v (.bool false) = X.v (.bool (decide (Parts n)))), rfl⟩
 refine AWp.skip ?_
 refine AWp.region ?_
 refine .vl (Y.move rfl rfl) ?_
 refine .vl (Y.addI rfl rfl (by first | omega | simp [-List.getD_eq_getElem?_getD] <;> omega)) ?_
 refine .vl (Y.assign rfl rfl) ?_
 refine AOps.nil ?_
 exact ⟨i3_4 + 1, ⟨by first | omega | (simp [-List.getD_eq_getElem?_getD]; done) | (simp [-List.getD_eq_getElem?_getD]; omega), below_succ' hm (by unfold MemOK; refine ⟨?_, ?_, ?_, ?_, ?_, ?_⟩ <;> first | assumption | omega)⟩, by omega, Le.mk (SubL.cons rfl (SubL.cons (look_int rfl (by first | rfl | omega)) (SubL.nil))) (SubL.cons rfl (SubL.nil))⟩
 refine AWp.exit ?_
 refine AWp.seq ?_
 refine AWp.sr ?_
 refine .vl (Y.assign rfl rfl) ?_
 refine AOps.nil ?_
 refine AWp.block ?_
 refine AWp.loop1 (fun (i5_10 : Nat) => ⟨[(1, .ptr 101 0 0 0), (5, .v (.int .i64 (i5_10 : Int)))], [(101, .cells (Netlist.row n))]⟩) (fun (i5_10 : Nat) => ((i5_10 : Int) ≤ ((n.streams.length : Nat) : Int)) ∧ (∀ j, j < i5_10 → StrOK n j)) (fun (i5_10 : Nat) => (((n.streams.length : Nat) : Int) - (i5_10 : Int)).toNat) 0 (⟨by first | omega | (simp [-List.getD_eq_getElem?_getD]; done) | (simp [-List.getD_eq_getElem?_getD]; omega), fun j hj => by omega⟩) (Le.mk (SubL.cons rfl (SubL.cons (look_int rfl (by first | rfl | omega)) (SubL.nil))) (SubL.cons rfl (SubL.nil))) (fun i5_10 hI10 => ?_)
 obtain ⟨hb10, hst⟩ := hI10
 refine AWp.seq ?_
 refine AWp.sr ?_
 refine .vl (Y.move rfl rfl) ?_
 refine .vl (Y.fieldAddr fl27_5 rfl rfl) ?_
 refine .vl (Y.load sh25 rfl rfl rfl rfl) ?_
 refine .vl (Y.len (n := n.streams.length) sl25 rfl (congrArg some (List.length_map ..))) ?_
 refine .vl (Y.lss rfl rfl) ?_
 refine AOps.nil ?_
 refine AWp.condD rfl (fun c111 => ?_) (fun c111 => ?_)
 refine AWp.skip ?_
 refine AWp.join4 (fun (n144_j11 : Bool) (n155_j11 : Bool) (n161_j11 : Bool) (n168_j11 : Bool) => ⟨[(1, .ptr 101 0 0 0), (5, .v (.int .i64 (i5_10 : Int))), (124, .ptr 106 0 0 1), (125, .v (.int .i64 ((n.streams.getD i5_10 default).width))), (126, .v (.bool (decide (Wide ((n.streams.getD i5_10 default).width))))), (127, .v (.bool (!decide (Wide ((n.streams.getD i5_10 default).width))))), (130, .ptr 101 0 0 6), (131, .fz 1 (n.active.map irow)), (132, .v (.int .i64 (i5_10 : Int))), (133, .fp (irow (n.active.getD i5_10 0)) 0), (134, .v (.int .i64 (n.active.getD i5_10 0))), (135, .ptr 101 0 0 1), (136, .fz 1 (n.widths.map irow)), (137, .v (.int .i64 ((n.widths.length : Nat) : Int))), (138, .v (.bool (decide (In (n.active.getD i5_10 0) ((n.widths.length : Nat) : Int))))), (139, .v (.bool (!decide (In (n.active.getD i5_10 0) ((n.widths.length : Nat) : Int))))), (142, .ptr 106 0 0 2), (143, .v (.bool ((n.streams.getD i5_10 default).out))), (144, .v (.bool n144_j11)), (155, .v (.bool n155_j11)), (158, .ptr 106 0 0 2), (159, .v (.bool ((n.streams.getD i5_10 default).out))), (160, .v (.bool (!((n.streams.getD i5_10 default).out)))), (161, .v (.bool n161_j11)), (168, .v (.bool n168_j11))], [(101, .cells (Netlist.row n)), (106, .cells [.v (.string ((n.streams.getD i5_10 default).name)), .v (.int .i64 ((n.streams.getD i5_10 default).width)), .v (.bool ((n.streams.getD i5_10 default).out))])]⟩) (fun (n144_j11 : Bool) (n155_j11 : Bool) (n161_j11 : Bool) (n168_j11 : Bool) => StrOK n i5_10) ?_ (fun n144_j11 n155_j11 n161_j11 n168_j11 hJ11 => ?_)
 refine AWp.block ?_
 refine AWp.sr ?_
 refine .vl (Y.fieldAddr fl27_5 rfl rfl) ?_
 refine .vl (Y.load sh25 rfl rfl rfl rfl) ?_
 refine .vl (Y.move rfl rfl) ?_
 refine .vl (Y.indexF (m := i5_10) sl25 rfl rfl (by first | rfl | omega) (row_getD (d := default) (by first | omega | simp [-List.getD_eq_getElem?_getD] <;> omega))) ?_
 refine .vl (Y.loadA sh83 rfl rfl (Nat.le_of_ble_eq_true rfl) rfl rfl) ?_
 refine AOps.alloc 106 ze83 rfl rfl (by decide) ?_
 refine AOps.storeC si83 rfl rfl rfl rfl rfl rfl (Nat.le_of_ble_eq_true rfl) rfl ?_
 refine AOps.nil ?_
 refine AWp.seq ?_
 have hsn := hs.strNames _ (getD_mem' (l := n.streams) (i := i5_10) (d := default) (by omega))
 refine AWp.regionAny rfl ?_
 refine AAny.quietN (n := 49) [0, 1] [2, 3, 4, 5, 6, 7, 8, 9, 10, 11, 12, 13, 14, 15, 16, 17, 18, 19, 20, 21, 22, 23, 24, 25, 26, 27, 28, 29, 30, 31, 32, 33, 34, 35, 36, 37, 38, 39, 40, 41, 42, 43, 44, 45, 46, 47, 48, 49, 50] 2 rfl (by kernel_rfl) ?_
 refine .cn 0 rfl (Y.fieldAddr fl83_0 rfl rfl) ?_
 refine .cn 1 rfl (Y.load sh9 rfl rfl rfl rfl) ?_
 refine AQ.nil ?_
 refine AAny.one 2 rfl (by kernel_rfl) ?_
 refine AOps.callP ok115 (refNamed_spec (s := ((n.streams.getD i5_10 default).name)) (by first | assumption | omega)) rfl (.keep rfl rfl .nil) (by decide) rfl ?_
 refine AOps.nil ⟨rfl, ?_⟩
 refine AAny.quietN (n := 44) [3, 4, 5, 6] [7, 8, 9, 10, 11, 12, 13, 14, 15, 16, 17, 18, 19, 20, 21, 22, 23, 24, 25, 26, 27, 28, 29, 30, 31, 32, 33, 34, 35, 36, 37, 38, 39, 40, 41, 42, 43, 44, 45, 46, 47, 48, 49, 50] 7 rfl (by kernel_rfl) ?_
 refine .cn 3 rfl (Y.not rfl) ?_
 refine .cn 4 rfl (Y.move rfl rfl) ?_
 refine AQ.split (d := 123) rfl (fun c123 => ?_) (fun c123 => ?_)
 replace c123 : ¬ (Named ((n.streams.getD i5_10 default).name)) := by simpa using c123
 refine .sk 5 rfl rfl rfl rfl ?_
 refine .sk 6 rfl rfl rfl rfl ?_
 refine AQ.nil ?_
 refine AAny.skipOp 7 rfl (by kernel_rfl) rfl (by decide) (by decide) rfl rfl ?_
 refine AAny.skipOp 8 rfl (by kernel_rfl) rfl (by decide) (by decide) rfl rfl ?_
 refine AAny.quietN (n := 32) [9, 10, 11, 12, 13, 14, 15, 16, 17, 18] [19, 20, 21, 22, 23, 24, 25, 26, 27, 28, 29, 30, 31, 32, 33, 34, 35, 36, 37, 38, 39, 40, 41, 42, 43, 44, 45, 46, 47, 48, 49, 50] 19 rfl (by kernel_rfl) ?_
 refine .cn 9 rfl (Y.pick rfl rfl rfl) ?_
 refine .cn 10 rfl (Y.move rfl rfl) ?_
 refine .sk 11 rfl rfl rfl rfl ?_
 refine .sk 12 rfl rfl rfl rfl ?_
 refine .sk 13 rfl rfl rfl rfl ?_
 refine .sk 14 rfl rfl rfl rfl ?_
 refine .sk 15 rfl rfl rfl rfl ?_
 refine .sk 16 rfl rfl rfl rfl ?_
 refine .sk 17 rfl rfl rfl rfl ?_
 refine .sk 18 rfl rfl rfl rfl ?_
 refine AQ.nil ?_
 refine AAny.skipOp 19 rfl (by kernel_rfl) rfl (by decide) (by decide) rfl rfl ?_
 refine AAny.skipOp 20 rfl (by kernel_rfl) rfl (by decide) (by decide) rfl rfl ?_
 refine AAny.quietN (n := 17) [21, 22, 23, 24, 25, 26, 27, 28, 29, 30, 31, 32, 33] [34, 35, 36, 37, 38, 39, 40, 41, 42, 43, 44, 45, 46, 47, 48, 49, 50] 34 rfl (by kernel_rfl) ?_
 refine .cn 21 rfl (Y.pick rfl rfl rfl) ?_
 refine .cn 22 rfl (Y.move rfl rfl) ?_
 refine .sk 23 rfl rfl rfl rfl ?_
 refine .sk 24 rfl rfl rfl rfl ?_
 refine .sk 25 rfl rfl rfl rfl ?_
 refine .sk 26 rfl rfl rfl rfl ?_
 refine .sk 27 rfl rfl rfl rfl ?_
 refine .sk 28 rfl rfl rfl rfl ?_
 refine .sk 29 rfl rfl rfl rfl ?_
 refine .sk 30 rfl rfl rfl rfl ?_
 refine .sk 31 rfl rfl rfl rfl ?_
 refine .sk 32 rfl rfl rfl rfl ?_
 refine .sk 33 rfl rfl rfl rfl ?_
 refine AQ.nil ?_
 refine AAny.skipOp 34 rfl (by kernel_rfl) rfl (by decide) (by decide) rfl rfl ?_
 refine AAny.skipOp 35 rfl (by kernel_rfl) rfl (by decide) (by decide) rfl rfl ?_
 refine AAny.skipOp 36 rfl (by kernel_rfl) rfl (by decide) (by decide) rfl rfl ?_
 refine AAny.quietN (n := 0) [37, 38, 39, 40, 41, 42, 43, 44, 45, 46, 47, 48, 49, 50] [] 0 rfl (by kernel_rfl) ?_
 refine .cn 37 rfl (Y.pick rfl rfl rfl) ?_
 refine .cn 38 rfl (Y.move rfl rfl) ?_
 refine .sk 39 rfl rfl rfl rfl ?_
 refine .sk 40 rfl rfl rfl rfl ?_
 refine .sk 41 rfl rfl rfl rfl ?_
 refine .sk 42 rfl rfl rfl rfl ?_
 refine .sk 43 rfl rfl rfl rfl ?_
 refine .sk 44 rfl rfl rfl rfl ?_
 refine .sk 45 rfl rfl rfl rfl ?_
 refine .sk 46 rfl rfl rfl rfl ?_
 refine .sk 47 rfl rfl rfl rfl ?_
 refine .sk 48 rfl rfl rfl rfl ?_
 refine .sk 49 rfl rfl rfl rfl ?_
 refine .cn 50 rfl (Y.pick rfl rfl rfl) ?_
 refine AQ.nil ?_
 refine AAny.done (by kernel_rfl) ?_
 refine AWp.condT rfl ?_
 refine AWp.sr ?_
 refine .vl (Y.assign rfl rfl) ?_
 refine AOps.nil ?_
 refine AWp.ret ?_
 exact ⟨_, _, rfl, rfl, (cg1 (fun (z0 : Bool) => X.v (.bool z0)) (df (fun h => by have h1 := h.strs i5_10 (by omega); unfold StrOK at h1; obtain ⟨a1, a2, a3, a4, a5⟩ := h1; first | contradiction | grind) : false = decide (Parts n)) : X.v (.bool false) = X.v (.bool (decide (Parts n)))), rfl⟩
 replace c123 : Named ((n.streams.getD i5_10 default).name) := by simpa using c123
 refine .rn 5 rfl rfl rfl (Y.fieldAddr fl83_1 rfl rfl) ?_
 refine .rn 6 rfl rfl rfl (Y.load sh3 rfl rfl rfl rfl) ?_
 refine AQ.nil ?_
 refine AAny.one 7 rfl (by kernel_rfl) ?_
 refine AOps.guardRun (d := 123) rfl (by decide) rfl ?_
 refine AOps.callP ok117 (right_spec (w := ((n.streams.getD i5_10 default).width))) rfl (.keep rfl rfl .nil) (by decide) rfl ?_
 refine AOps.nil ⟨rfl, ?_⟩
 refine AAny.quietN (n := 32) [8, 9, 10, 11, 12, 13, 14, 15, 16, 17, 18] [19, 20, 21, 22, 23, 24, 25, 26, 27, 28, 29, 30, 31, 32, 33, 34, 35, 36, 37, 38, 39, 40, 41, 42, 43, 44, 45, 46, 47, 48, 49, 50] 19 rfl (by kernel_rfl) ?_
 refine .rn 8 rfl rfl rfl (Y.not rfl) ?_
 refine .cn 9 rfl (Y.pick rfl rfl rfl) ?_
 refine .cn 10 rfl (Y.move rfl rfl) ?_
 refine AQ.split (d := 129) rfl (fun c129 => ?_) (fun c129 => ?_)
 replace c129 : ¬ (Wide ((n.streams.getD i5_10 default).width)) := by simpa using c129
 refine .sk 11 rfl rfl rfl rfl ?_
 refine .sk 12 rfl rfl rfl rfl ?_
 refine .sk 13 rfl rfl rfl rfl ?_
 refine .sk 14 rfl rfl rfl rfl ?_
 refine .sk 15 rfl rfl rfl rfl ?_
 refine .sk 16 rfl rfl rfl rfl ?_
 refine .sk 17 rfl rfl rfl rfl ?_
 refine .sk 18 rfl rfl rfl rfl ?_
 refine AQ.nil ?_
 refine AAny.skipOp 19 rfl (by kernel_rfl) rfl (by decide) (by decide) rfl rfl ?_
 refine AAny.skipOp 20 rfl (by kernel_rfl) rfl (by decide) (by decide) rfl rfl ?_
 refine AAny.quietN (n := 17) [21, 22, 23, 24, 25, 26, 27, 28, 29, 30, 31, 32, 33] [34, 35, 36, 37, 38, 39, 40, 41, 42, 43, 44, 45, 46, 47, 48, 49, 50] 34 rfl (by kernel_rfl) ?_
 refine .cn 21 rfl (Y.pick rfl rfl rfl) ?_
 refine .cn 22 rfl (Y.move rfl rfl) ?_
 refine .sk 23 rfl rfl rfl rfl ?_
 refine .sk 24 rfl rfl rfl rfl ?_
 refine .sk 25 rfl rfl rfl rfl ?_
 refine .sk 26 rfl rfl rfl rfl ?_
 refine .sk 27 rfl rfl rfl rfl ?_
 refine .sk 28 rfl rfl rfl rfl ?_
 refine .sk 29 rfl rfl rfl rfl ?_
 refine .sk 30 rfl rfl rfl rfl ?_
 refine .sk 31 rfl rfl rfl rfl ?_
 refine .sk 32 rfl rfl rfl rfl ?_
 refine .sk 33 rfl rfl rfl rfl ?_
 refine AQ.nil ?_
 refine AAny.skipOp 34 rfl (by kernel_rfl) rfl (by decide) (by decide) rfl rfl ?_
 refine AAny.skipOp 35 rfl (by kernel_rfl) rfl (by decide) (by decide) rfl rfl ?_
 refine AAny.skipOp 36 rfl (by kernel_rfl) rfl (by decide) (by decide) rfl rfl ?_
 refine AAny.quietN (n := 0) [37, 38, 39, 40, 41, 42, 43, 44, 45, 46, 47, 48, 49, 50] [] 0 rfl (by kernel_rfl) ?_
 refine .cn 37 rfl (Y.pick rfl rfl rfl) ?_
 refine .cn 38 rfl (Y.move rfl rfl) ?_
 refine .sk 39 rfl rfl rfl rfl ?_
 refine .sk 40 rfl rfl rfl rfl ?_
 refine .sk 41 rfl rfl rfl rfl ?_
 refine .sk 42 rfl rfl rfl rfl ?_
 refine .sk 43 rfl rfl rfl rfl ?_
 refine .sk 44 rfl rfl rfl rfl ?_
 refine .sk 45 rfl rfl rfl rfl ?_
 refine .sk 46 rfl rfl rfl rfl ?_
 refine .sk 47 rfl rfl rfl rfl ?_
 refine .sk 48 rfl rfl rfl rfl ?_
 refine .sk 49 rfl rfl rfl rfl ?_
 refine .cn 50 rfl (Y.pick rfl rfl rfl) ?_
 refine AQ.nil ?_
 refine AAny.done (by kernel_rfl) ?_
 refine AWp.condT rfl ?_
 refine AWp.sr ?_
 refine .vl (Y.assign rfl rfl) ?_
 refine AOps.nil ?_
 refine AWp.ret ?_
 exact ⟨_, _, rfl, rfl, (cg1 (fun (z0 : Bool) => X.v (.bool z0)) (df (fun h => by have h1 := h.strs i5_10 (by omega); unfold StrOK at h1; obtain ⟨a1, a2, a3, a4, a5⟩ := h1; first | contradiction | grind) : false = decide (Parts n)) : X.v (.bool false) = X.v (.bool (decide (Parts n)))), rfl⟩
 replace c129 : Wide ((n.streams.getD i5_10 default).width) := by simpa using c129
 refine .rn 11 rfl rfl rfl (Y.fieldAddr fl27_6 rfl rfl) ?_
 refine .rn 12 rfl rfl rfl (Y.load sh22 rfl rfl rfl rfl) ?_
 refine .rn 13 rfl rfl rfl (Y.move rfl rfl) ?_
 refine .rn 14 rfl rfl rfl (Y.indexF (m := i5_10) sl22 rfl rfl (by first | rfl | omega) (row_getD (d := 0) (by first | omega | simp [-List.getD_eq_getElem?_getD] <;> omega))) ?_
 refine .rn 15 rfl rfl rfl (Y.load sh3 rfl rfl rfl rfl) ?_
 refine .rn 16 rfl rfl rfl (Y.fieldAddr fl27_1 rfl rfl) ?_
 refine .rn 17 rfl rfl rfl (Y.load sh22 rfl rfl rfl rfl) ?_
 refine .rn 18 rfl rfl rfl (Y.len (n := n.widths.length) sl22 rfl (congrArg some (List.length_map ..))) ?_
 refine AQ.nil ?_
 refine AAny.one 19 rfl (by kernel_rfl) ?_
 refine AOps.guardRun (d := 129) rfl (by decide) rfl ?_
 refine AOps.callP ok59 (within_spec (i := (n.active.getD i5_10 0)) (n := ((n.widths.length : Nat) : Int))) rfl (.keep rfl rfl (.keep rfl rfl .nil)) (by decide) rfl ?_
 refine AOps.nil ⟨rfl, ?_⟩
 refine AAny.quietN (n := 17) [20, 21, 22, 23, 24, 25, 26, 27, 28, 29, 30, 31, 32, 33] [34, 35, 36, 37, 38, 39, 40, 41, 42, 43, 44, 45, 46, 47, 48, 49, 50] 34 rfl (by kernel_rfl) ?_
 refine .rn 20 rfl rfl rfl (Y.not rfl) ?_
 refine .cn 21 rfl (Y.pick rfl rfl rfl) ?_
 refine .cn 22 rfl (Y.move rfl rfl) ?_
 refine AQ.split (d := 141) rfl (fun c141 => ?_) (fun c141 => ?_)
 replace c141 : ¬ (In (n.active.getD i5_10 0) ((n.widths.length : Nat) : Int)) := by simpa using c141
 refine .sk 23 rfl rfl rfl rfl ?_
 refine .sk 24 rfl rfl rfl rfl ?_
 refine .sk 25 rfl rfl rfl rfl ?_
 refine .sk 26 rfl rfl rfl rfl ?_
 refine .sk 27 rfl rfl rfl rfl ?_
 refine .sk 28 rfl rfl rfl rfl ?_
 refine .sk 29 rfl rfl rfl rfl ?_
 refine .sk 30 rfl rfl rfl rfl ?_
 refine .sk 31 rfl rfl rfl rfl ?_
 refine .sk 32 rfl rfl rfl rfl ?_
 refine .sk 33 rfl rfl rfl rfl ?_
 refine AQ.nil ?_
 refine AAny.skipOp 34 rfl (by kernel_rfl) rfl (by decide) (by decide) rfl rfl ?_
 refine AAny.skipOp 35 rfl (by kernel_rfl) rfl (by decide) (by decide) rfl rfl ?_
 refine AAny.skipOp 36 rfl (by kernel_rfl) rfl (by decide) (by decide) rfl rfl ?_
 refine AAny.quietN (n := 0) [37, 38, 39, 40, 41, 42, 43, 44, 45, 46, 47, 48, 49, 50] [] 0 rfl (by kernel_rfl) ?_
 refine .cn 37 rfl (Y.pick rfl rfl rfl) ?_
 refine .cn 38 rfl (Y.move rfl rfl) ?_
 refine .sk 39 rfl rfl rfl rfl ?_
 refine .sk 40 rfl rfl rfl rfl ?_
 refine .sk 41 rfl rfl rfl rfl ?_
 refine .sk 42 rfl rfl rfl rfl ?_
 refine .sk 43 rfl rfl rfl rfl ?_
 refine .sk 44 rfl rfl rfl rfl ?_
 refine .sk 45 rfl rfl rfl rfl ?_
 refine .sk 46 rfl rfl rfl rfl ?_
 refine .sk 47 rfl rfl rfl rfl ?_
 refine .sk 48 rfl rfl rfl rfl ?_
 refine .sk 49 rfl rfl rfl rfl ?_
 refine .cn 50 rfl (Y.pick rfl rfl rfl) ?_
 refine AQ.nil ?_
 refine AAny.done (by kernel_rfl) ?_
 refine AWp.condT rfl ?_
 refine AWp.sr ?_
 refine .vl (Y.assign rfl rfl) ?_
 refine AOps.nil ?_
 refine AWp.ret ?_
 exact ⟨_, _, rfl, rfl, (cg1 (fun (z0 : Bool) => X.v (.bool z0)) (df (fun h => by have h1 := h.strs i5_10 (by omega); unfold StrOK at h1; obtain ⟨a1, a2, a3, a4, a5⟩ := h1; first | contradiction | grind) : false = decide (Parts n)) : X.v (.bool false) = X.v (.bool (decide (Parts n)))), rfl⟩
 replace c141 : In (n.active.getD i5_10 0) ((n.widths.length : Nat) : Int) := by simpa using c141
 refine .rn 23 rfl rfl rfl (Y.fieldAddr fl83_2 rfl rfl) ?_
 refine .rn 24 rfl rfl rfl (Y.load sh4 rfl rfl rfl rfl) ?_
 refine .rn 25 rfl rfl rfl (Y.move rfl rfl) ?_
 refine AQ.split (d := 144) rfl (fun c144 => ?_) (fun c144 => ?_)
 refine .rn 26 rfl rfl rfl (Y.fieldAddr fl27_7 rfl rfl) ?_
 refine .rn 27 rfl rfl rfl (Y.load sh22 rfl rfl rfl rfl) ?_
 refine .rn 28 rfl rfl rfl (Y.move rfl rfl) ?_
 refine .rn 29 rfl rfl rfl (Y.indexF (m := i5_10) sl22 rfl rfl (by first | rfl | omega) (row_getD (d := 0) (by first | omega | simp [-List.getD_eq_getElem?_getD] <;> omega))) ?_
 refine .rn 30 rfl rfl rfl (Y.load sh3 rfl rfl rfl rfl) ?_
 refine .rn 31 rfl rfl rfl (Y.fieldAddr fl27_1 rfl rfl) ?_
 refine .rn 32 rfl rfl rfl (Y.load sh22 rfl rfl rfl rfl) ?_
 refine .rn 33 rfl rfl rfl (Y.len (n := n.widths.length) sl22 rfl (congrArg some (List.length_map ..))) ?_
 refine AQ.nil ?_
 refine AAny.one 34 rfl (by kernel_rfl) ?_
 refine AOps.guardRun (d := 144) rfl (by decide) rfl ?_
 refine AOps.callP ok59 (within_spec (i := (n.data.getD i5_10 0)) (n := ((n.widths.length : Nat) : Int))) rfl (.keep rfl rfl (.keep rfl rfl .nil)) (by decide) rfl ?_
 refine AOps.nil ⟨rfl, ?_⟩
 refine AAny.quietN (n := 0) [35, 36, 37, 38, 39, 40, 41, 42, 43, 44, 45, 46, 47, 48, 49, 50] [] 0 rfl (by kernel_rfl) ?_
 refine .rn 35 rfl rfl rfl (Y.not rfl) ?_
 refine .rn 36 rfl rfl rfl (Y.pick rfl rfl rfl) ?_
 refine .cn 37 rfl (Y.pick rfl rfl rfl) ?_
 refine .cn 38 rfl (Y.move rfl rfl) ?_
 refine AQ.split (d := 157) rfl (fun c157 => ?_) (fun c157 => ?_)
 replace c157 : ¬ (In (n.data.getD i5_10 0) ((n.widths.length : Nat) : Int)) := by simpa using c157
 refine .sk 39 rfl rfl rfl rfl ?_
 refine .sk 40 rfl rfl rfl rfl ?_
 refine .sk 41 rfl rfl rfl rfl ?_
 refine .sk 42 rfl rfl rfl rfl ?_
 refine .sk 43 rfl rfl rfl rfl ?_
 refine .sk 44 rfl rfl rfl rfl ?_
 refine .sk 45 rfl rfl rfl rfl ?_
 refine .sk 46 rfl rfl rfl rfl ?_
 refine .sk 47 rfl rfl rfl rfl ?_
 refine .sk 48 rfl rfl rfl rfl ?_
 refine .sk 49 rfl rfl rfl rfl ?_
 refine .cn 50 rfl (Y.pick rfl rfl rfl) ?_
 refine AQ.nil ?_
 refine AAny.done (by kernel_rfl) ?_
 refine AWp.condT rfl ?_
 refine AWp.sr ?_
 refine .vl (Y.assign rfl rfl) ?_
 refine AOps.nil ?_
 refine AWp.ret ?_
 exact ⟨_, _, rfl, rfl, (cg1 (fun (z0 : Bool) => X.v (.bool z0)) (df (fun h => by have h1 := h.strs i5_10 (by omega); unfold StrOK at h1; obtain ⟨a1, a2, a3, a4, a5⟩ := h1; first | contradiction | grind) : false = decide (Parts n)) : X.v (.bool false) = X.v (.bool (decide (Parts n)))), rfl⟩
 replace c157 : In (n.data.getD i5_10 0) ((n.widths.length : Nat) : Int) := by simpa using c157
 refine .rn 39 rfl rfl rfl (Y.fieldAddr fl83_2 rfl rfl) ?_
 refine .rn 40 rfl rfl rfl (Y.load sh4 rfl rfl rfl rfl) ?_
 refine .rn 41 rfl rfl rfl (Y.not rfl) ?_
 refine .rn 42 rfl rfl rfl (Y.move rfl rfl) ?_
 refine AQ.split (d := 161) rfl (fun c161 => ?_) (fun c161 => ?_)
 replace c161 : ((n.streams.getD i5_10 default).out) = false := by simpa using c161
 refine .rn 43 rfl rfl rfl (Y.fieldAddr fl27_7 rfl rfl) ?_
 refine .rn 44 rfl rfl rfl (Y.load sh22 rfl rfl rfl rfl) ?_
 refine .rn 45 rfl rfl rfl (Y.move rfl rfl) ?_
 refine .rn 46 rfl rfl rfl (Y.indexF (m := i5_10) sl22 rfl rfl (by first | rfl | omega) (row_getD (d := 0) (by first | omega | simp [-List.getD_eq_getElem?_getD] <;> omega))) ?_
 refine .rn 47 rfl rfl rfl (Y.load sh3 rfl rfl rfl rfl) ?_
 refine .rn 48 rfl rfl rfl (Y.neq rfl rfl) ?_
 refine .rn 49 rfl rfl rfl (Y.pick rfl rfl rfl) ?_
 refine .cn 50 rfl (Y.pick rfl rfl rfl) ?_
 refine AQ.nil ?_
 refine AAny.done (by kernel_rfl) ?_
 refine AWp.condD rfl (fun c169 => ?_) (fun c169 => ?_)
 refine AWp.sr ?_
 refine .vl (Y.assign rfl rfl) ?_
 refine AOps.nil ?_
 refine AWp.ret ?_
 exact ⟨_, _, rfl, rfl, (cg1 (fun (z0 : Bool) => X.v (.bool z0)) (df (fun h => by have h1 := h.strs i5_10 (by omega); unfold StrOK at h1; obtain ⟨a1, a2, a3, a4, a5⟩ := h1; first | contradiction | grind) : false = decide (Parts n)) : X.v (.bool false) = X.v (.bool (decide (Parts n)))), rfl⟩
 refine AWp.skip ?_
 exact ⟨true, (!decide (In (n.data.getD i5_10 0) ((n.widths.length : Nat) : Int))), true, decide ((n.data.getD i5_10 0) ≠ (-1)), by unfold StrOK; grind, Le.mk (SubL.cons rfl (SubL.cons rfl (SubL.cons rfl (SubL.cons rfl (SubL.cons rfl (SubL.cons rfl (SubL.cons rfl (SubL.cons rfl (SubL.cons rfl (SubL.cons rfl (SubL.cons rfl (SubL.cons rfl (SubL.cons rfl (SubL.cons rfl (SubL.cons rfl (SubL.cons rfl (SubL.cons rfl (SubL.cons rfl (SubL.cons (look_bool rfl (by first | rfl | simp_all)) (SubL.cons (look_bool rfl (by first | rfl | simp_all)) (SubL.cons rfl (SubL.cons rfl (SubL.cons rfl (SubL.cons (look_bool rfl (by first | rfl | simp_all)) (SubL.cons (look_bool rfl (by first | rfl | simp_all)) (SubL.nil)))))))))))))))))))))))))) (SubL.cons rfl (SubL.cons rfl (SubL.nil)))⟩
 replace c161 : ((n.streams.getD i5_10 default).out) = true := by simpa using c161
 refine .sk 43 rfl rfl rfl rfl ?_
 refine .sk 44 rfl rfl rfl rfl ?_
 refine .sk 45 rfl rfl rfl rfl ?_
 refine .sk 46 rfl rfl rfl rfl ?_
 refine .sk 47 rfl rfl rfl rfl ?_
 refine .sk 48 rfl rfl rfl rfl ?_
 refine .rn 49 rfl rfl rfl (Y.pick rfl rfl rfl) ?_
 refine .cn 50 rfl (Y.pick rfl rfl rfl) ?_
 refine AQ.nil ?_
 refine AAny.done (by kernel_rfl) ?_
 refine AWp.condF rfl ?_
 refine AWp.skip ?_
 exact ⟨true, (!decide (In (n.data.getD i5_10 0) ((n.widths.length : Nat) : Int))), false, false, by unfold StrOK; grind, Le.mk (SubL.cons rfl (SubL.cons rfl (SubL.cons rfl (SubL.cons rfl (SubL.cons rfl (SubL.cons rfl (SubL.cons rfl (SubL.cons rfl (SubL.cons rfl (SubL.cons rfl (SubL.cons rfl (SubL.cons rfl (SubL.cons rfl (SubL.cons rfl (SubL.cons rfl (SubL.cons rfl (SubL.cons rfl (SubL.cons rfl (SubL.cons (look_bool rfl (by first | rfl | simp_all)) (SubL.cons (look_bool rfl (by first | rfl | simp_all)) (SubL.cons rfl (SubL.cons rfl (SubL.cons rfl (SubL.cons (look_bool rfl (by first | rfl | simp_all)) (SubL.cons (look_bool rfl (by first | rfl | simp_all)) (SubL.nil)))))))))))))))))))))))))) (SubL.cons rfl (SubL.cons rfl (SubL.nil)))⟩
 refine .sk 26 rfl rfl rfl rfl ?_
 refine .sk 27 rfl rfl rfl rfl ?_
 refine .sk 28 rfl rfl rfl rfl ?_
 refine .sk 29 rfl rfl rfl rfl ?_
 refine .sk 30 rfl rfl rfl rfl ?_
 refine .sk 31 rfl rfl rfl rfl ?_
 refine .sk 32 rfl rfl rfl rfl ?_
 refine .sk 33 rfl rfl rfl rfl ?_
 refine AQ.nil ?_
 refine AAny.skipOp 34 rfl (by kernel_rfl) rfl (by decide) (by decide) rfl rfl ?_
 refine AAny.skipOp 35 rfl (by kernel_rfl) rfl (by decide) (by decide) rfl rfl ?_
 refine AAny.quietN (n := 0) [36, 37, 38, 39, 40, 41, 42, 43, 44, 45, 46, 47, 48, 49, 50] [] 0 rfl (by kernel_rfl) ?_
 refine .rn 36 rfl rfl rfl (Y.pick rfl rfl rfl) ?_
 refine .cn 37 rfl (Y.pick rfl rfl rfl) ?_
 refine .cn 38 rfl (Y.move rfl rfl) ?_
 refine .rn 39 rfl rfl rfl (Y.fieldAddr fl83_2 rfl rfl) ?_
 refine .rn 40 rfl rfl rfl (Y.load sh4 rfl rfl rfl rfl) ?_
 refine .rn 41 rfl rfl rfl (Y.not rfl) ?_
 refine .rn 42 rfl rfl rfl (Y.move rfl rfl) ?_
 refine AQ.split (d := 161) rfl (fun c161 => ?_) (fun c161 => ?_)
 replace c161 : ((n.streams.getD i5_10 default).out) = false := by simpa using c161
 refine .rn 43 rfl rfl rfl (Y.fieldAddr fl27_7 rfl rfl) ?_
 refine .rn 44 rfl rfl rfl (Y.load sh22 rfl rfl rfl rfl) ?_
 refine .rn 45 rfl rfl rfl (Y.move rfl rfl) ?_
 refine .rn 46 rfl rfl rfl (Y.indexF (m := i5_10) sl22 rfl rfl (by first | rfl | omega) (row_getD (d := 0) (by first | omega | simp [-List.getD_eq_getElem?_getD] <;> omega))) ?_
 refine .rn 47 rfl rfl rfl (Y.load sh3 rfl rfl rfl rfl) ?_
 refine .rn 48 rfl rfl rfl (Y.neq rfl rfl) ?_
 refine .rn 49 rfl rfl rfl (Y.pick rfl rfl rfl) ?_
 refine .cn 50 rfl (Y.pick rfl rfl rfl) ?_
 refine AQ.nil ?_
 refine AAny.done (by kernel_rfl) ?_
 refine AWp.condD rfl (fun c169 => ?_) (fun c169 => ?_)
 refine AWp.sr ?_
 refine .vl (Y.assign rfl rfl) ?_
 refine AOps.nil ?_
 refine AWp.ret ?_
 exact ⟨_, _, rfl, rfl, (cg1 (fun (z0 : Bool) => X.v (.bool z0)) (df (fun h => by have h1 := h.strs i5_10 (by omega); unfold StrOK at h1; obtain ⟨a1, a2, a3, a4, a5⟩ := h1; first | contradiction | grind) : false = decide (Parts n)) : X.v (.bool false) = X.v (.bool (decide (Parts n)))), rfl⟩
 refine AWp.skip ?_
 exact ⟨false, false, true, decide ((n.data.getD i5_10 0) ≠ (-1)), by unfold StrOK; grind, Le.mk (SubL.cons rfl (SubL.cons rfl (SubL.cons rfl (SubL.cons rfl (SubL.cons rfl (SubL.cons rfl (SubL.cons rfl (SubL.cons rfl (SubL.cons rfl (SubL.cons rfl (SubL.cons rfl (SubL.cons rfl (SubL.cons rfl (SubL.cons rfl (SubL.cons rfl (SubL.cons rfl (SubL.cons rfl (SubL.cons rfl (SubL.cons (look_bool rfl (by first | rfl | simp_all)) (SubL.cons (look_bool rfl (by first | rfl | simp_all)) (SubL.cons rfl (SubL.cons rfl (SubL.cons rfl (SubL.cons (look_bool rfl (by first | rfl | simp_all)) (SubL.cons (look_bool rfl (by first | rfl | simp_all)) (SubL.nil)))))))))))))))))))))))))) (SubL.cons rfl (SubL.cons rfl (SubL.nil)))⟩
 replace c161 : ((n.streams.getD i5_10 default).out) = true := by simpa using c161
 refine .sk 43 rfl rfl rfl rfl ?_
 refine .sk 44 rfl rfl rfl rfl ?_
 refine .sk 45 rfl rfl rfl rfl ?_
 refine .sk 46 rfl rfl rfl rfl ?_
 refine .sk 47 rfl rfl rfl rfl ?_
 refine .sk 48 rfl rfl rfl rfl ?_
 refine .rn 49 rfl rfl rfl (Y.pick rfl rfl rfl) ?_
 refine .cn 50 rfl (Y.pick rfl rfl rfl) ?_
 refine AQ.nil ?_
 refine AAny.done (by kernel_rfl) ?_
 refine AWp.condF rfl ?_
 refine AWp.skip ?_
 exact ⟨false, false, false, false, by unfold StrOK; grind, Le.mk (SubL.cons rfl (SubL.cons rfl (SubL.cons rfl (SubL.cons rfl (SubL.cons rfl (SubL.cons rfl (SubL.cons rfl (SubL.cons rfl (SubL.cons rfl (SubL.cons rfl (SubL.cons rfl (SubL.cons rfl (SubL.cons rfl (SubL.cons rfl (SubL.cons rfl (SubL.cons rfl (SubL.cons rfl (SubL.cons rfl (SubL.cons (look_bool rfl (by first | rfl | simp_all)) (SubL.cons (look_bool rfl (by first | rfl | simp_all)) (SubL.cons rfl (SubL.cons rfl (SubL.cons rfl (SubL.cons (look_bool rfl (by first | rfl | simp_all)) (SubL.cons (look_bool rfl (by first | rfl | simp_all)) (SubL.nil)))))))))))))))))))))))))) (SubL.cons rfl (SubL.cons rfl (SubL.nil)))⟩
 refine AWp.region ?_
 refine .vl (Y.move rfl rfl) ?_
 refine .vl (Y.addI rfl rfl (by first | omega | simp [-List.getD_eq_getElem?_getD] <;> omega)) ?_
 refine .vl (Y.assign rfl rfl) ?_
 refine AOps.nil ?_
 exact ⟨i5_10 + 1, ⟨by first | omega | (simp [-List.getD_eq_getElem?_getD]; done) | (simp [-List.getD_eq_getElem?_getD]; omega), below_succ' hst hJ11⟩, by omega, Le.mk (SubL.cons rfl (SubL.cons (look_int rfl (by first | rfl | omega)) (SubL.nil))) (SubL.cons rfl (SubL.nil))⟩
 refine AWp.exit ?_
 refine AWp.sr ?_
 refine .vl (Y.assign rfl rfl) ?_
 refine AOps.nil ?_
 refine AWp.ret ?_
 exact ⟨_, _, rfl, rfl, (cg1 (fun (z0 : Bool) => X.v (.bool z0)) (dt ⟨by assumption, by omega, by omega, by assumption, by assumption, by omega, by omega, by omega, by omega, fun j hj => hm j (by omega), fun j hj => hst j (by omega)⟩ : true = decide (Parts n)) : X.v (.bool true) = X.v (.bool (decide (Parts n)))), rfl⟩

set_option maxRecDepth 4000 in
set_option maxHeartbeats 1000000 in
theorem refFormed_spec {n : Netlist} (hs : n.Small) : ACalls Try.prog 50 [.agg (Netlist.row n)] [] [] (fun r o => r = .v (.bool (decide (Formed n))) ∧ o = []) := by
 refine ACalls.of Try.func50 rfl rfl rfl (n := 115) (by decide) (Nat.le_of_ble_eq_true rfl) ?_
 have hs2 := hs.widths; have hs3 := hs.cells; have hs9 := hs.rets
 refine AWp.sr ?_
 refine AOps.box 101 rfl rfl rfl rfl rfl (by decide) ?_
 refine .vl (Y.assign rfl rfl) ?_
 refine AOps.nil ?_
 refine AWp.seq ?_
 refine AWp.sr ?_
 refine .vl (Y.loadA sh27 rfl rfl (Nat.le_of_ble_eq_true rfl) rfl rfl) ?_
 refine AOps.callP ok87 (parts_spec (n := n) hs) rfl (.keep rfl rfl .nil) (by decide) rfl ?_
 refine .vl (Y.not rfl) ?_
 refine .vl (Y.move rfl rfl) ?_
 refine AOps.split (d := 12) rfl (fun c12 => ?_) (fun c12 => ?_)
 replace c12 : ¬ (Parts n) := by simpa using c12
 refine .gs 12 rfl rfl rfl ?_
 refine .gs 12 rfl rfl rfl ?_
 refine .gs 12 rfl rfl rfl ?_
 refine .gs 12 rfl rfl rfl ?_
 refine .gs 12 rfl rfl rfl ?_
 refine .gs 12 rfl rfl rfl ?_
 refine .gs 12 rfl rfl rfl ?_
 refine .vl (Y.pick rfl rfl rfl) ?_
 refine .vl (Y.move rfl rfl) ?_
 refine .gs 21 rfl rfl rfl ?_
 refine .gs 21 rfl rfl rfl ?_
 refine .gs 21 rfl rfl rfl ?_
 refine .gs 21 rfl rfl rfl ?_
 refine .gs 21 rfl rfl rfl ?_
 refine .gs 21 rfl rfl rfl ?_
 refine .gs 21 rfl rfl rfl ?_
 refine .vl (Y.pick rfl rfl rfl) ?_
 refine AOps.nil ?_
 refine AWp.condT rfl ?_
 refine AWp.sr ?_
 refine .vl (Y.assign rfl rfl) ?_
 refine AOps.nil ?_
 refine AWp.ret ?_
 exact ⟨_, _, rfl, rfl, (cg1 (fun (z0 : Bool) => X.v (.bool z0)) (df (fun h => by have h1 := h.parts; have h2 := h.freeze; have h3 := h.done; contradiction) : false = decide (Formed n)) : X.v (.bool false) = X.v (.bool (decide (Formed n)))), rfl⟩
 replace c12 : Parts n := by simpa using c12
 refine .gv 12 rfl rfl (Y.fieldAddr fl27_8 rfl rfl) ?_
 refine .gv 12 rfl rfl (Y.load sh3 rfl rfl rfl rfl) ?_
 refine .gv 12 rfl rfl (Y.fieldAddr fl27_1 rfl rfl) ?_
 refine .gv 12 rfl rfl (Y.load sh22 rfl rfl rfl rfl) ?_
 refine .gv 12 rfl rfl (Y.len (n := n.widths.length) sl22 rfl (congrArg some (List.length_map ..))) ?_
 refine AOps.guardRun (d := 12) rfl (by decide) rfl ?_
 refine AOps.callP ok59 (within_spec (i := n.freeze) (n := ((n.widths.length : Nat) : Int))) rfl (.keep rfl rfl (.keep rfl rfl .nil)) (by decide) rfl ?_
 refine .gv 12 rfl rfl (Y.not rfl) ?_
 refine .vl (Y.pick rfl rfl rfl) ?_
 refine .vl (Y.move rfl rfl) ?_
 refine AOps.split (d := 21) rfl (fun c21 => ?_) (fun c21 => ?_)
 replace c21 : ¬ (In n.freeze ((n.widths.length : Nat) : Int)) := by simpa using c21
 refine .gs 21 rfl rfl rfl ?_
 refine .gs 21 rfl rfl rfl ?_
 refine .gs 21 rfl rfl rfl ?_
 refine .gs 21 rfl rfl rfl ?_
 refine .gs 21 rfl rfl rfl ?_
 refine .gs 21 rfl rfl rfl ?_
 refine .gs 21 rfl rfl rfl ?_
 refine .vl (Y.pick rfl rfl rfl) ?_
 refine AOps.nil ?_
 refine AWp.condT rfl ?_
 refine AWp.sr ?_
 refine .vl (Y.assign rfl rfl) ?_
 refine AOps.nil ?_
 refine AWp.ret ?_
 exact ⟨_, _, rfl, rfl, (cg1 (fun (z0 : Bool) => X.v (.bool z0)) (df (fun h => by have h1 := h.parts; have h2 := h.freeze; have h3 := h.done; contradiction) : false = decide (Formed n)) : X.v (.bool false) = X.v (.bool (decide (Formed n)))), rfl⟩
 replace c21 : In n.freeze ((n.widths.length : Nat) : Int) := by simpa using c21
 refine .gv 21 rfl rfl (Y.fieldAddr fl27_9 rfl rfl) ?_
 refine .gv 21 rfl rfl (Y.load sh3 rfl rfl rfl rfl) ?_
 refine .gv 21 rfl rfl (Y.fieldAddr fl27_1 rfl rfl) ?_
 refine .gv 21 rfl rfl (Y.load sh22 rfl rfl rfl rfl) ?_
 refine .gv 21 rfl rfl (Y.len (n := n.widths.length) sl22 rfl (congrArg some (List.length_map ..))) ?_
 refine AOps.guardRun (d := 21) rfl (by decide) rfl ?_
 refine AOps.callP ok59 (within_spec (i := n.done) (n := ((n.widths.length : Nat) : Int))) rfl (.keep rfl rfl (.keep rfl rfl .nil)) (by decide) rfl ?_
 refine .gv 21 rfl rfl (Y.not rfl) ?_
 refine .vl (Y.pick rfl rfl rfl) ?_
 refine AOps.nil ?_
 refine AWp.cond rfl (fun c29 => ?_) (fun c29 => ?_)
 replace c29 : ¬ (In n.done ((n.widths.length : Nat) : Int)) := by simpa using c29
 refine AWp.sr ?_
 refine .vl (Y.assign rfl rfl) ?_
 refine AOps.nil ?_
 refine AWp.ret ?_
 exact ⟨_, _, rfl, rfl, (cg1 (fun (z0 : Bool) => X.v (.bool z0)) (df (fun h => by have h1 := h.parts; have h2 := h.freeze; have h3 := h.done; contradiction) : false = decide (Formed n)) : X.v (.bool false) = X.v (.bool (decide (Formed n)))), rfl⟩
 replace c29 : In n.done ((n.widths.length : Nat) : Int) := by simpa using c29
 refine AWp.skip ?_
 refine AWp.seq ?_
 refine AWp.sr ?_
 refine .vl (Y.assign rfl rfl) ?_
 refine AOps.nil ?_
 refine AWp.block ?_
 refine AWp.loop1 (fun (i3_4 : Nat) => ⟨[(1, .ptr 101 0 0 0), (3, .v (.int .i64 (i3_4 : Int)))], [(101, .cells (Netlist.row n))]⟩) (fun (i3_4 : Nat) => ((i3_4 : Int) ≤ ((n.rets.length : Nat) : Int)) ∧ (∀ j, j < i3_4 → In (n.rets.getD j 0) n.widths.length)) (fun (i3_4 : Nat) => (((n.rets.length : Nat) : Int) - (i3_4 : Int)).toNat) 0 (⟨by first | omega | (simp [-List.getD_eq_getElem?_getD]; done) | (simp [-List.getD_eq_getElem?_getD]; omega) | (unfold In at *; omega), fun j hj => by omega⟩) (Le.mk (SubL.cons rfl (SubL.cons (look_int rfl (by first | rfl | omega)) (SubL.nil))) (SubL.cons rfl (SubL.nil))) (fun i3_4 hI4 => ?_)
 obtain ⟨hb4, hr⟩ := hI4
 refine AWp.seq ?_
 refine AWp.sr ?_
 refine .vl (Y.move rfl rfl) ?_
 refine .vl (Y.fieldAddr fl27_10 rfl rfl) ?_
 refine .vl (Y.load sh22 rfl rfl rfl rfl) ?_
 refine .vl (Y.len (n := n.rets.length) sl22 rfl (congrArg some (List.length_map ..))) ?_
 refine .vl (Y.lss rfl rfl) ?_
 refine AOps.nil ?_
 refine AWp.condD rfl (fun c34 => ?_) (fun c34 => ?_)
 refine AWp.skip ?_
 refine AWp.seq ?_
 refine AWp.block ?_
 refine AWp.seq ?_
 refine AWp.regionT 8 rfl (by kernel_rfl) ?_
 refine AHead.val (Y.fieldAddr fl27_10 rfl rfl) (by decide) ?_
 refine AHead.val (Y.load sh22 rfl rfl rfl rfl) (by decide) ?_
 refine AHead.val (Y.move rfl rfl) (by decide) ?_
 refine AHead.val (Y.indexF (m := i3_4) sl22 rfl rfl (by first | rfl | omega) (row_getD (d := 0) (by first | omega | (simp [-List.getD_eq_getElem?_getD]; done) | (simp [-List.getD_eq_getElem?_getD]; omega) | (unfold In at *; omega)))) (by decide) ?_
 refine AHead.val (Y.load sh3 rfl rfl rfl rfl) (by decide) ?_
 refine AHead.val (Y.fieldAddr fl27_1 rfl rfl) (by decide) ?_
 refine AHead.val (Y.load sh22 rfl rfl rfl rfl) (by decide) ?_
 refine AHead.val (Y.len (n := n.widths.length) sl22 rfl (congrArg some (List.length_map ..))) (by decide) ?_
 refine AHead.nil ?_
 refine AOps.callP ok59 (within_spec (i := (n.rets.getD i3_4 0)) (n := ((n.widths.length : Nat) : Int))) rfl (.keep rfl rfl (.keep rfl rfl .nil)) (by decide) rfl ?_
 refine .vl (Y.not rfl) ?_
 refine AOps.nil ?_
 refine AWp.cond rfl (fun c46 => ?_) (fun c46 => ?_)
 replace c46 : ¬ (In (n.rets.getD i3_4 0) ((n.widths.length : Nat) : Int)) := by simpa using c46
 refine AWp.sr ?_
 refine .vl (Y.assign rfl rfl) ?_
 refine AOps.nil ?_
 refine AWp.ret ?_
 exact ⟨_, _, rfl, rfl, (cg1 (fun (z0 : Bool) => X.v (.bool z0)) (df (fun h => absurd (h.rets _ (getD_mem (i := i3_4) (by omega))) (by assumption)) : false = decide (Formed n)) : X.v (.bool false) = X.v (.bool (decide (Formed n)))), rfl⟩
 replace c46 : In (n.rets.getD i3_4 0) ((n.widths.length : Nat) : Int) := by simpa using c46
 refine AWp.skip ?_
 refine AWp.region ?_
 refine .vl (Y.move rfl rfl) ?_
 refine .vl (Y.addI rfl rfl (by first | omega | (simp [-List.getD_eq_getElem?_getD]; done) | (simp [-List.getD_eq_getElem?_getD]; omega) | (unfold In at *; omega))) ?_
 refine .vl (Y.assign rfl rfl) ?_
 refine AOps.nil ?_
 exact ⟨i3_4 + 1, ⟨by first | omega | (simp [-List.getD_eq_getElem?_getD]; done) | (simp [-List.getD_eq_getElem?_getD]; omega) | (unfold In at *; omega), below_succ' hr (by assumption)⟩, by omega, Le.mk (SubL.cons rfl (SubL.cons (look_int rfl (by first | rfl | omega)) (SubL.nil))) (SubL.cons rfl (SubL.nil))⟩
 refine AWp.exit ?_
 refine AWp.sr ?_
 refine .vl (Y.fieldAddr fl27_1 rfl rfl) ?_
 refine .vl (Y.load sh22 rfl rfl rfl rfl) ?_
 refine .vl (Y.len (n := n.widths.length) sl22 rfl (congrArg some (List.length_map ..))) ?_
 refine AOps.makeSlice (n := n.widths.length) sl22 ze3 rfl rfl rfl rfl (by first | omega | (simp [-List.getD_eq_getElem?_getD]; done) | (simp [-List.getD_eq_getElem?_getD]; omega) | (unfold In at *; omega)) (by first | omega | (simp [-List.getD_eq_getElem?_getD]; done) | (simp [-List.getD_eq_getElem?_getD]; omega) | (unfold In at *; omega)) (by decide) ?_
 refine AOps.assignX rfl (by decide) ?_
 refine AOps.sh (Sh.adoptE (d := 4) (n := n.widths.length) 104 ((List.replicate n.widths.length 0).map irow) rfl (by first | rfl | exact rep_map rfl) (len_map (by simp)) (by decide)) ?_
 refine AOps.nil ?_
 refine AWp.seq ?_
 refine AWp.sr ?_
 refine .vl (Y.assign rfl rfl) ?_
 refine AOps.nil ?_
 refine AWp.block ?_
 refine AWp.loop2 (fun (i5_10 : Nat) (driven4_10 : List Int) => ⟨[(1, .ptr 101 0 0 0), (4, .slc 104 1 0 n.widths.length), (5, .v (.int .i64 (i5_10 : Int)))], [(101, .cells (Netlist.row n)), (104, .rows 1 (driven4_10.map irow))]⟩) (fun (i5_10 : Nat) (driven4_10 : List Int) => (driven4_10.length = n.widths.length) ∧ ((i5_10 : Int) ≤ ((n.cells.length : Nat) : Int)) ∧ (Drn n i5_10 driven4_10) ∧ (∀ j, j < i5_10 → CellOK n (n.cells.getD j default))) (fun (i5_10 : Nat) (driven4_10 : List Int) => (((n.cells.length : Nat) : Int) - (i5_10 : Int)).toNat) 0 (List.replicate n.widths.length 0) (⟨by first | omega | (simp [-List.getD_eq_getElem?_getD]; done) | (simp [-List.getD_eq_getElem?_getD]; omega) | (unfold In at *; omega), by first | omega | (simp [-List.getD_eq_getElem?_getD]; done) | (simp [-List.getD_eq_getElem?_getD]; omega) | (unfold In at *; omega), Drn.init n, fun j hj => by omega⟩) (Le.mk (SubL.cons rfl (SubL.cons rfl (SubL.cons (look_int rfl (by first | rfl | omega)) (SubL.nil)))) (SubL.cons rfl (SubL.cons rfl (SubL.nil)))) (fun i5_10 driven4_10 hI10 => ?_)
 obtain ⟨hl104, hb10, hd, hc⟩ := hI10
 refine AWp.seq ?_
 refine AWp.sr ?_
 refine .vl (Y.move rfl rfl) ?_
 refine .vl (Y.fieldAddr fl27_2 rfl rfl) ?_
 refine .vl (Y.load sh23 rfl rfl rfl rfl) ?_
 refine .vl (Y.len (n := n.cells.length) sl23 rfl (congrArg some (List.length_map ..))) ?_
 refine .vl (Y.lss rfl rfl) ?_
 refine AOps.nil ?_
 refine AWp.condD rfl (fun c55 => ?_) (fun c55 => ?_)
 refine AWp.skip ?_
 refine AWp.join1 (fun (driven4_j11 : List Int) => ⟨[(1, .ptr 101 0 0 0), (4, .slc 104 1 0 n.widths.length), (5, .v (.int .i64 (i5_10 : Int)))], [(101, .cells (Netlist.row n)), (104, .rows 1 (driven4_j11.map irow))]⟩) (fun (driven4_j11 : List Int) => (driven4_j11.length = n.widths.length) ∧ (CellOK n (n.cells.getD i5_10 default) ∧ Drn n (i5_10 + 1) driven4_j11)) ?_ (fun driven4_j11 hJx11 => ?_)
 refine AWp.block ?_
 refine AWp.sr ?_
 refine .vl (Y.fieldAddr fl27_2 rfl rfl) ?_
 refine .vl (Y.load sh23 rfl rfl rfl rfl) ?_
 refine .vl (Y.move rfl rfl) ?_
 refine .vl (Y.indexF (m := i5_10) sl23 rfl rfl (by first | rfl | omega) (row_getD (d := default) (by first | omega | (simp [-List.getD_eq_getElem?_getD]; done) | (simp [-List.getD_eq_getElem?_getD]; omega) | (unfold In at *; omega)))) ?_
 refine .vl (Y.loadA sh39 rfl rfl (Nat.le_of_ble_eq_true rfl) rfl rfl) ?_
 refine AOps.alloc 106 ze39 rfl rfl (by decide) ?_
 refine AOps.storeC si39 rfl rfl rfl rfl rfl rfl (Nat.le_of_ble_eq_true rfl) rfl ?_
 refine AOps.nil ?_
 refine AWp.seq ?_
 refine AWp.sr ?_
 have hca := hs.args (n.cells.getD i5_10 default) (getD_mem' (by omega))
 refine .vl (Y.loadA sh27 rfl rfl (Nat.le_of_ble_eq_true rfl) rfl rfl) ?_
 refine .vl (Y.loadA sh39 rfl rfl (Nat.le_of_ble_eq_true rfl) rfl rfl) ?_
 refine AOps.callP ok88 (cell_spec (n := n) (c := (n.cells.getD i5_10 default)) hs (by first | assumption | omega)) rfl (.keep rfl rfl (.keep rfl rfl .nil)) (by decide) rfl ?_
 refine .vl (Y.not rfl) ?_
 refine AOps.nil ?_
 refine AWp.cond rfl (fun c66 => ?_) (fun c66 => ?_)
 replace c66 : ¬ (Shaped n (n.cells.getD i5_10 default)) := by simpa using c66
 refine AWp.sr ?_
 refine .vl (Y.assign rfl rfl) ?_
 refine AOps.nil ?_
 refine AWp.ret ?_
 exact ⟨_, _, rfl, rfl, (cg1 (fun (z0 : Bool) => X.v (.bool z0)) (df (fun h => by have h1 := h.cells i5_10 (by omega); obtain ⟨a1, a2, a3, a4⟩ := h1; first | contradiction | (have := a3 (by assumption); contradiction) | (have := a4 (by assumption); contradiction)) : false = decide (Formed n)) : X.v (.bool false) = X.v (.bool (decide (Formed n)))), rfl⟩
 replace c66 : Shaped n (n.cells.getD i5_10 default) := by simpa using c66
 refine AWp.skip ?_
 refine AWp.seq ?_
 refine AWp.sr ?_
 refine .vl (Y.assign rfl rfl) ?_
 refine AOps.nil ?_
 refine AWp.block ?_
 refine AWp.loop1 (fun (k7_16 : Nat) => ⟨[(1, .ptr 101 0 0 0), (4, .slc 104 1 0 n.widths.length), (5, .v (.int .i64 (i5_10 : Int))), (6, .ptr 106 0 0 0), (7, .v (.int .i64 (k7_16 : Int)))], [(101, .cells (Netlist.row n)), (104, .rows 1 (driven4_10.map irow)), (106, .cells [.v (.int .i64 ((n.cells.getD i5_10 default).kind)), .v (.int .i64 ((n.cells.getD i5_10 default).op)), .v (.int .i64 ((n.cells.getD i5_10 default).out)), .fz 1 (((n.cells.getD i5_10 default).args).map irow), .v (.int .u64 (((n.cells.getD i5_10 default).num : Nat) : Int)), .v (.int .i64 ((n.cells.getD i5_10 default).mem))])]⟩) (fun (k7_16 : Nat) => ((k7_16 : Int) ≤ ((((n.cells.getD i5_10 default).args).length : Nat) : Int)) ∧ (∀ j, j < k7_16 → In ((n.cells.getD i5_10 default).args.getD j 0) n.widths.length)) (fun (k7_16 : Nat) => (((((n.cells.getD i5_10 default).args).length : Nat) : Int) - (k7_16 : Int)).toNat) 0 (⟨by first | omega | (simp [-List.getD_eq_getElem?_getD]; done) | (simp [-List.getD_eq_getElem?_getD]; omega) | (unfold In at *; omega), fun j hj => by omega⟩) (Le.mk (SubL.cons rfl (SubL.cons rfl (SubL.cons rfl (SubL.cons rfl (SubL.cons (look_int rfl (by first | rfl | omega)) (SubL.nil)))))) (SubL.cons rfl (SubL.cons rfl (SubL.cons rfl (SubL.nil))))) (fun k7_16 hI16 => ?_)
 obtain ⟨hb16, ha⟩ := hI16
 refine AWp.seq ?_
 refine AWp.sr ?_
 refine .vl (Y.move rfl rfl) ?_
 refine .vl (Y.fieldAddr fl39_3 rfl rfl) ?_
 refine .vl (Y.load sh22 rfl rfl rfl rfl) ?_
 refine .vl (Y.len (n := ((n.cells.getD i5_10 default).args).length) sl22 rfl (congrArg some (List.length_map ..))) ?_
 refine .vl (Y.lss rfl rfl) ?_
 refine AOps.nil ?_
 refine AWp.condD rfl (fun c71 => ?_) (fun c71 => ?_)
 refine AWp.skip ?_
 refine AWp.seq ?_
 refine AWp.block ?_
 refine AWp.seq ?_
 refine AWp.regionT 8 rfl (by kernel_rfl) ?_
 refine AHead.val (Y.fieldAddr fl39_3 rfl rfl) (by decide) ?_
 refine AHead.val (Y.load sh22 rfl rfl rfl rfl) (by decide) ?_
 refine AHead.val (Y.move rfl rfl) (by decide) ?_
 refine AHead.val (Y.indexF (m := k7_16) sl22 rfl rfl (by first | rfl | omega) (row_getD (d := 0) (by first | omega | (simp [-List.getD_eq_getElem?_getD]; done) | (simp [-List.getD_eq_getElem?_getD]; omega) | (unfold In at *; omega)))) (by decide) ?_
 refine AHead.val (Y.load sh3 rfl rfl rfl rfl) (by decide) ?_
 refine AHead.val (Y.fieldAddr fl27_1 rfl rfl) (by decide) ?_
 refine AHead.val (Y.load sh22 rfl rfl rfl rfl) (by decide) ?_
 refine AHead.val (Y.len (n := n.widths.length) sl22 rfl (congrArg some (List.length_map ..))) (by decide) ?_
 refine AHead.nil ?_
 refine AOps.callP ok59 (within_spec (i := (((n.cells.getD i5_10 default).args).getD k7_16 0)) (n := ((n.widths.length : Nat) : Int))) rfl (.keep rfl rfl (.keep rfl rfl .nil)) (by decide) rfl ?_
 refine .vl (Y.not rfl) ?_
 refine AOps.nil ?_
 refine AWp.cond rfl (fun c83 => ?_) (fun c83 => ?_)
 replace c83 : ¬ (In (((n.cells.getD i5_10 default).args).getD k7_16 0) ((n.widths.length : Nat) : Int)) := by simpa using c83
 refine AWp.sr ?_
 refine .vl (Y.assign rfl rfl) ?_
 refine AOps.nil ?_
 refine AWp.ret ?_
 exact ⟨_, _, rfl, rfl, (cg1 (fun (z0 : Bool) => X.v (.bool z0)) (df (fun h => absurd ((h.cells i5_10 (by omega)).1 _ (getD_mem (i := k7_16) (by omega))) (by assumption)) : false = decide (Formed n)) : X.v (.bool false) = X.v (.bool (decide (Formed n)))), rfl⟩
 replace c83 : In (((n.cells.getD i5_10 default).args).getD k7_16 0) ((n.widths.length : Nat) : Int) := by simpa using c83
 refine AWp.skip ?_
 refine AWp.region ?_
 refine .vl (Y.move rfl rfl) ?_
 refine .vl (Y.addI rfl rfl (by first | omega | (simp [-List.getD_eq_getElem?_getD]; done) | (simp [-List.getD_eq_getElem?_getD]; omega) | (unfold In at *; omega))) ?_
 refine .vl (Y.assign rfl rfl) ?_
 refine AOps.nil ?_
 exact ⟨k7_16 + 1, ⟨by first | omega | (simp [-List.getD_eq_getElem?_getD]; done) | (simp [-List.getD_eq_getElem?_getD]; omega) | (unfold In at *; omega), below_succ' ha (by assumption)⟩, by omega, Le.mk (SubL.cons rfl (SubL.cons rfl (SubL.cons rfl (SubL.cons rfl (SubL.cons (look_int rfl (by first | rfl | omega)) (SubL.nil)))))) (SubL.cons rfl (SubL.cons rfl (SubL.cons rfl (SubL.nil))))⟩
 refine AWp.exit ?_
 refine AWp.seq ?_
 refine AWp.sr ?_
 refine .vl (Y.fieldAddr fl39_0 rfl rfl) ?_
 refine .vl (Y.load sh3 rfl rfl rfl rfl) ?_
 refine .vl (Y.eql rfl rfl) ?_
 refine AOps.nil ?_
 refine AWp.condD rfl (fun c86 => ?_) (fun c86 => ?_)
 refine AWp.seq ?_
 refine AWp.sr ?_
 refine .vl (Y.fieldAddr fl39_2 rfl rfl) ?_
 refine .vl (Y.load sh3 rfl rfl rfl rfl) ?_
 refine .vl (Y.neq rfl rfl) ?_
 refine AOps.nil ?_
 refine AWp.condD rfl (fun c89 => ?_) (fun c89 => ?_)
 refine AWp.sr ?_
 refine .vl (Y.assign rfl rfl) ?_
 refine AOps.nil ?_
 refine AWp.ret ?_
 exact ⟨_, _, rfl, rfl, (cg1 (fun (z0 : Bool) => X.v (.bool z0)) (df (fun h => by have h1 := h.cells i5_10 (by omega); obtain ⟨a1, a2, a3, a4⟩ := h1; first | contradiction | (have := a3 (by assumption); contradiction) | (have := a4 (by assumption); contradiction)) : false = decide (Formed n)) : X.v (.bool false) = X.v (.bool (decide (Formed n)))), rfl⟩
 refine AWp.skip ?_
 refine AWp.exit ?_
 exact ⟨driven4_10, ⟨by first | omega | (simp [-List.getD_eq_getElem?_getD]; done) | (simp [-List.getD_eq_getElem?_getD]; omega) | (unfold In at *; omega), ⟨⟨all_getD.1 (fun j hj => ha j (by omega)), by assumption, fun _ => by omega, fun h => absurd (by assumption) h⟩, hd.skip (by omega) (by assumption)⟩⟩, Le.mk (SubL.cons rfl (SubL.cons rfl (SubL.cons rfl (SubL.nil)))) (SubL.cons rfl (SubL.cons rfl (SubL.nil)))⟩
 refine AWp.skip ?_
 refine AWp.seq ?_
 refine AWp.sr ?_
 refine .vl (Y.fieldAddr fl39_2 rfl rfl) ?_
 refine .vl (Y.load sh3 rfl rfl rfl rfl) ?_
 refine .vl (Y.fieldAddr fl27_1 rfl rfl) ?_
 refine .vl (Y.load sh22 rfl rfl rfl rfl) ?_
 refine .vl (Y.len (n := n.widths.length) sl22 rfl (congrArg some (List.length_map ..))) ?_
 refine AOps.callP ok59 (within_spec (i := ((n.cells.getD i5_10 default).out)) (n := ((n.widths.length : Nat) : Int))) rfl (.keep rfl rfl (.keep rfl rfl .nil)) (by decide) rfl ?_
 refine .vl (Y.not rfl) ?_
 refine AOps.nil ?_
 refine AWp.cond rfl (fun c96 => ?_) (fun c96 => ?_)
 replace c96 : ¬ (In ((n.cells.getD i5_10 default).out) ((n.widths.length : Nat) : Int)) := by simpa using c96
 refine AWp.sr ?_
 refine .vl (Y.assign rfl rfl) ?_
 refine AOps.nil ?_
 refine AWp.ret ?_
 exact ⟨_, _, rfl, rfl, (cg1 (fun (z0 : Bool) => X.v (.bool z0)) (df (fun h => by have h1 := h.cells i5_10 (by omega); obtain ⟨a1, a2, a3, a4⟩ := h1; first | contradiction | (have := a3 (by assumption); contradiction) | (have := a4 (by assumption); contradiction)) : false = decide (Formed n)) : X.v (.bool false) = X.v (.bool (decide (Formed n)))), rfl⟩
 replace c96 : In ((n.cells.getD i5_10 default).out) ((n.widths.length : Nat) : Int) := by simpa using c96
 refine AWp.skip ?_
 refine AWp.region ?_
 have hio : In (n.cells.getD i5_10 default).out n.widths.length := by assumption
 have hio2 := hio; unfold In at hio2
 have hdl := hd.le (w := (n.cells.getD i5_10 default).out.toNat) (by omega)
 refine .vl (Y.move rfl rfl) ?_
 refine .vl (Y.fieldAddr fl39_2 rfl rfl) ?_
 refine .vl (Y.load sh3 rfl rfl rfl rfl) ?_
 refine .vl (Y.indexO (m := ((n.cells.getD i5_10 default).out).toNat) sl22 rfl rfl (by first | omega | (simp [-List.getD_eq_getElem?_getD]; done) | (simp [-List.getD_eq_getElem?_getD]; omega) | (unfold In at *; omega)) (by first | omega | (simp [-List.getD_eq_getElem?_getD]; done) | (simp [-List.getD_eq_getElem?_getD]; omega) | (unfold In at *; omega))) ?_
 refine .vl (Y.load sh3 rfl (row_getD0 (d := 0) (by first | omega | (simp [-List.getD_eq_getElem?_getD]; done) | (simp [-List.getD_eq_getElem?_getD]; omega) | (unfold In at *; omega))) rfl rfl) ?_
 refine .vl (Y.addI rfl rfl (by first | omega | (simp [-List.getD_eq_getElem?_getD]; done) | (simp [-List.getD_eq_getElem?_getD]; omega) | (unfold In at *; omega))) ?_
 refine .vl (Y.indexO (m := ((n.cells.getD i5_10 default).out).toNat) sl22 rfl rfl (by first | omega | (simp [-List.getD_eq_getElem?_getD]; done) | (simp [-List.getD_eq_getElem?_getD]; omega) | (unfold In at *; omega)) (by first | omega | (simp [-List.getD_eq_getElem?_getD]; done) | (simp [-List.getD_eq_getElem?_getD]; omega) | (unfold In at *; omega))) ?_
 refine AOps.storeE ((driven4_10.set (((n.cells.getD i5_10 default).out).toNat) ((driven4_10.getD (((n.cells.getD i5_10 default).out).toNat) 0) + 1)).map irow) si3 rfl rfl rfl rfl rfl rfl rfl (row_getD0 (d := 0) (by first | omega | (simp [-List.getD_eq_getElem?_getD]; done) | (simp [-List.getD_eq_getElem?_getD]; omega) | (unfold In at *; omega))) (Nat.le_of_ble_eq_true rfl) (set_map0 rfl) ?_
 refine AOps.nil ?_
 exact ⟨driven4_10.set (((n.cells.getD i5_10 default).out).toNat) ((driven4_10.getD (((n.cells.getD i5_10 default).out).toNat) 0) + 1), ⟨by first | omega | (simp [-List.getD_eq_getElem?_getD]; done) | (simp [-List.getD_eq_getElem?_getD]; omega) | (unfold In at *; omega), ⟨⟨all_getD.1 (fun j hj => ha j (by omega)), by assumption, fun h => absurd h (by assumption), fun _ => by assumption⟩, hd.step (by omega) (by assumption) (by assumption) hl104⟩⟩, Le.mk (SubL.cons rfl (SubL.cons rfl (SubL.cons rfl (SubL.nil)))) (SubL.cons rfl (SubL.cons rfl (SubL.nil)))⟩
 obtain ⟨hlj11_104, hJ11⟩ := hJx11
 refine AWp.region ?_
 refine .vl (Y.move rfl rfl) ?_
 refine .vl (Y.addI rfl rfl (by first | omega | (simp [-List.getD_eq_getElem?_getD]; done) | (simp [-List.getD_eq_getElem?_getD]; omega) | (unfold In at *; omega))) ?_
 refine .vl (Y.assign rfl rfl) ?_
 refine AOps.nil ?_
 exact ⟨i5_10 + 1, driven4_j11, ⟨by first | omega | (simp [-List.getD_eq_getElem?_getD]; done) | (simp [-List.getD_eq_getElem?_getD]; omega) | (unfold In at *; omega), by first | omega | (simp [-List.getD_eq_getElem?_getD]; done) | (simp [-List.getD_eq_getElem?_getD]; omega) | (unfold In at *; omega), hJ11.2, below_succ' hc hJ11.1⟩, by omega, Le.mk (SubL.cons rfl (SubL.cons rfl (SubL.cons (look_int rfl (by first | rfl | omega)) (SubL.nil)))) (SubL.cons rfl (SubL.cons rfl (SubL.nil)))⟩
 refine AWp.exit ?_
 refine AWp.seq ?_
 refine AWp.seq ?_
 have hd2 : Drn n n.cells.length driven4_10 := by rw [show n.cells.length = i5_10 by omega]; exact hd
 unfold Drn at hd2; rw [List.take_length] at hd2
 refine AWp.region ?_
 refine .vl (Y.assign rfl rfl) ?_
 refine AOps.nil ?_
 refine AWp.block ?_
 refine AWp.loop1 (fun (i8_27 : Nat) => ⟨[(4, .slc 104 1 0 n.widths.length), (8, .v (.int .i64 (i8_27 : Int)))], [(104, .rows 1 (driven4_10.map irow))]⟩) (fun (i8_27 : Nat) => ((i8_27 : Int) ≤ ((n.widths.length : Nat) : Int)) ∧ (∀ w, w < i8_27 → driven4_10.getD w 0 = 1)) (fun (i8_27 : Nat) => (((n.widths.length : Nat) : Int) - (i8_27 : Int)).toNat) 0 (⟨by first | omega | (simp [-List.getD_eq_getElem?_getD]; done) | (simp [-List.getD_eq_getElem?_getD]; omega) | (unfold In at *; omega), fun j hj => by omega⟩) (Le.mk (SubL.cons rfl (SubL.cons (look_int rfl (by first | rfl | omega)) (SubL.nil))) (SubL.cons rfl (SubL.nil))) (fun i8_27 hI27 => ?_)
 obtain ⟨hb27, h1⟩ := hI27
 refine AWp.seq ?_
 refine AWp.sr ?_
 refine .vl (Y.move rfl rfl) ?_
 refine .vl (Y.move rfl rfl) ?_
 refine .vl (Y.len (n := n.widths.length) sl22 rfl rfl) ?_
 refine .vl (Y.lss rfl rfl) ?_
 refine AOps.nil ?_
 refine AWp.condD rfl (fun c107 => ?_) (fun c107 => ?_)
 refine AWp.skip ?_
 refine AWp.seq ?_
 refine AWp.block ?_
 refine AWp.sr ?_
 refine .vl (Y.move rfl rfl) ?_
 refine .vl (Y.move rfl rfl) ?_
 refine .vl (Y.indexO (m := i8_27) sl22 rfl rfl (by first | rfl | omega) (by first | omega | (simp [-List.getD_eq_getElem?_getD]; done) | (simp [-List.getD_eq_getElem?_getD]; omega) | (unfold In at *; omega))) ?_
 refine .vl (Y.load sh3 rfl (row_getD0 (d := 0) (by first | omega | (simp [-List.getD_eq_getElem?_getD]; done) | (simp [-List.getD_eq_getElem?_getD]; omega) | (unfold In at *; omega))) rfl rfl) ?_
 refine .vl (Y.neq rfl rfl) ?_
 refine AOps.nil ?_
 refine AWp.condD rfl (fun c114 => ?_) (fun c114 => ?_)
 refine AWp.sr ?_
 refine .vl (Y.assign rfl rfl) ?_
 refine AOps.nil ?_
 refine AWp.ret ?_
 exact ⟨_, _, rfl, rfl, (cg1 (fun (z0 : Bool) => X.v (.bool z0)) (df (fun h => by have h1 := h.driven i8_27 (by omega); have h2 := hd2 i8_27 (by omega); omega) : false = decide (Formed n)) : X.v (.bool false) = X.v (.bool (decide (Formed n)))), rfl⟩
 refine AWp.skip ?_
 refine AWp.region ?_
 refine .vl (Y.move rfl rfl) ?_
 refine .vl (Y.addI rfl rfl (by first | omega | (simp [-List.getD_eq_getElem?_getD]; done) | (simp [-List.getD_eq_getElem?_getD]; omega) | (unfold In at *; omega))) ?_
 refine .vl (Y.assign rfl rfl) ?_
 refine AOps.nil ?_
 exact ⟨i8_27 + 1, ⟨by first | omega | (simp [-List.getD_eq_getElem?_getD]; done) | (simp [-List.getD_eq_getElem?_getD]; omega) | (unfold In at *; omega), below_succ' h1 (by omega)⟩, by omega, Le.mk (SubL.cons rfl (SubL.cons (look_int rfl (by first | rfl | omega)) (SubL.nil))) (SubL.cons rfl (SubL.nil))⟩
 refine AWp.exit ?_
 refine AWp.sr ?_
 refine .vl (Y.assign rfl rfl) ?_
 refine AOps.nil ?_
 refine AWp.ret ?_
 exact ⟨_, _, rfl, rfl, (cg1 (fun (z0 : Bool) => X.v (.bool z0)) (dt (Parts.formed (by assumption) (by assumption) (by assumption) (fun j hj => hr j (by omega)) (fun j hj => hc j (by omega)) (fun w hw => by have h2 := hd2 w hw; have h3 := h1 w (by omega); omega)) : true = decide (Formed n)) : X.v (.bool true) = X.v (.bool (decide (Formed n)))), rfl⟩

end Go.Proofs.Ytjnpbojdjipboaa
/- Walks through the specification of netlists. -/
namespace Go.Proofs.Ytjnpbojdjipboaa
open Go Go.AW Go.Proofs



set_option maxHeartbeats 1000000 in
theorem all_spec {kn : List Bool} {l : List Int} (h : ∀ x ∈ l, In x kn.length) (hl : l.length ≤ 17592186043904) : ACalls Try.prog 90 [.fz 1 (kn.map brow), .fz 1 (l.map irow)] [] [] (fun r o => r = .v (.bool (decide (∀ x ∈ l, kn.getD x.toNat false = true))) ∧ o = []) := by
 refine ACalls.of Try.func90 rfl rfl rfl (n := 20) (by decide) (Nat.le_of_ble_eq_true rfl) ?_
 refine AWp.sr ?_
 refine .vl (Y.assign rfl rfl) ?_
 refine AOps.nil ?_
 refine AWp.seq ?_
 refine AWp.sr ?_
 refine .vl (Y.assign rfl rfl) ?_
 refine AOps.nil ?_
 refine AWp.block ?_
 refine AWp.loop1 (fun (i5_2 : Nat) => ⟨[(0, .fz 1 (kn.map brow)), (1, .fz 1 (l.map irow)), (5, .v (.int .i64 (i5_2 : Int)))], []⟩) (fun (i5_2 : Nat) => ((i5_2 : Int) ≤ ((l.length : Nat) : Int)) ∧ (∀ j, j < i5_2 → kn.getD (l.getD j 0).toNat false = true)) (fun (i5_2 : Nat) => (((l.length : Nat) : Int) - (i5_2 : Int)).toNat) 0 (⟨by first | omega | (simp [-List.getD_eq_getElem?_getD]; done) | (simp [-List.getD_eq_getElem?_getD]; omega), fun j hj => by omega⟩) (Le.mk (SubL.cons rfl (SubL.cons rfl (SubL.cons (look_int rfl (by first | rfl | omega)) (SubL.nil)))) (SubL.nil)) (fun i5_2 hI2 => ?_)
 obtain ⟨hb2, hw⟩ := hI2
 refine AWp.seq ?_
 refine AWp.sr ?_
 refine .vl (Y.move rfl rfl) ?_
 refine .vl (Y.move rfl rfl) ?_
 refine .vl (Y.len (n := l.length) sl22 rfl (congrArg some (List.length_map ..))) ?_
 refine .vl (Y.lss rfl rfl) ?_
 refine AOps.nil ?_
 refine AWp.condD rfl (fun c9 => ?_) (fun c9 => ?_)
 refine AWp.skip ?_
 refine AWp.seq ?_
 refine AWp.block ?_
 refine AWp.seq ?_
 have hx := h _ (getD_mem (l := l) (i := i5_2) (by omega))
 unfold In at hx
 refine AWp.region ?_
 refine .vl (Y.move rfl rfl) ?_
 refine .vl (Y.move rfl rfl) ?_
 refine .vl (Y.move rfl rfl) ?_
 refine .vl (Y.indexF (m := i5_2) sl22 rfl rfl (by first | rfl | omega) (row_getD (d := 0) (by first | omega | simp [-List.getD_eq_getElem?_getD] <;> omega))) ?_
 refine .vl (Y.load sh3 rfl rfl rfl rfl) ?_
 refine .vl (Y.indexF (m := (l.getD i5_2 0).toNat) sl63 rfl rfl (by first | omega | simp [-List.getD_eq_getElem?_getD] <;> omega) (row_getD (d := false) (by first | omega | simp [-List.getD_eq_getElem?_getD] <;> omega))) ?_
 refine .vl (Y.load sh4 rfl rfl rfl rfl) ?_
 refine .vl (Y.not rfl) ?_
 refine AOps.nil ?_
 refine AWp.cond rfl (fun c19 => ?_) (fun c19 => ?_)
 replace c19 : (kn.getD ((l.getD i5_2 0).toNat) false) = false := by simpa using c19
 refine AWp.sr ?_
 refine .vl (Y.assign rfl rfl) ?_
 refine AOps.nil ?_
 refine AWp.ret ?_
 exact ⟨_, _, rfl, rfl, (cg1 (fun (z0 : Bool) => X.v (.bool z0)) (df (fun h => by have h2 := h _ (getD_mem (l := l) (i := i5_2) (by omega)); simp_all) : false = decide (∀ x ∈ l, kn.getD x.toNat false = true)) : X.v (.bool false) = X.v (.bool (decide (∀ x ∈ l, kn.getD x.toNat false = true)))), rfl⟩
 replace c19 : (kn.getD ((l.getD i5_2 0).toNat) false) = true := by simpa using c19
 refine AWp.skip ?_
 refine AWp.region ?_
 refine .vl (Y.move rfl rfl) ?_
 refine .vl (Y.addI rfl rfl (by first | omega | simp [-List.getD_eq_getElem?_getD] <;> omega)) ?_
 refine .vl (Y.assign rfl rfl) ?_
 refine AOps.nil ?_
 exact ⟨i5_2 + 1, ⟨by first | omega | (simp [-List.getD_eq_getElem?_getD]; done) | (simp [-List.getD_eq_getElem?_getD]; omega), below_succ' hw (by assumption)⟩, by omega, Le.mk (SubL.cons rfl (SubL.cons rfl (SubL.cons (look_int rfl (by first | rfl | omega)) (SubL.nil)))) (SubL.nil)⟩
 refine AWp.exit ?_
 refine AWp.sr ?_
 refine .vl (Y.assign rfl rfl) ?_
 refine AOps.nil ?_
 refine AWp.ret ?_
 exact ⟨_, _, rfl, rfl, (cg1 (fun (z0 : Bool) => X.v (.bool z0)) (dt ((all_getD (d := 0)).1 (fun j hj => hw j (by omega))) : true = decide (∀ x ∈ l, kn.getD x.toNat false = true)) : X.v (.bool true) = X.v (.bool (decide (∀ x ∈ l, kn.getD x.toNat false = true)))), rfl⟩

set_option maxRecDepth 4000 in
set_option maxHeartbeats 1000000 in
theorem refFit_spec {n : Netlist} (hs : n.Small) (hf : Formed n) : ACalls Try.prog 51 [.agg (Netlist.row n)] [] [] (fun r o => r = .v (.bool (decide (Fit n))) ∧ o = []) := by
 refine ACalls.of Try.func51 rfl rfl rfl (n := 79) (by decide) (Nat.le_of_ble_eq_true rfl) ?_
 have hs1 := hf.nactive; have hs2 := hf.ndata; have hs3 := hf.nstreams; have hs4 := hf.freeze; have hs5 := hf.done; unfold In at hs4 hs5; have hs6 := hf.nwidths; have hs7 := hf.ncells
 refine AWp.sr ?_
 refine AOps.box 101 rfl rfl rfl rfl rfl (by decide) ?_
 refine .vl (Y.assign rfl rfl) ?_
 refine AOps.nil ?_
 refine AWp.seq ?_
 refine AWp.sr ?_
 refine .vl (Y.assign rfl rfl) ?_
 refine AOps.nil ?_
 refine AWp.block ?_
 refine AWp.loop1 (fun (i3_2 : Nat) => ⟨[(1, .ptr 101 0 0 0), (3, .v (.int .i64 (i3_2 : Int)))], [(101, .cells (Netlist.row n))]⟩) (fun (i3_2 : Nat) => ((i3_2 : Int) ≤ ((n.cells.length : Nat) : Int)) ∧ (∀ j, j < i3_2 → Fits n (n.cells.getD j default))) (fun (i3_2 : Nat) => (((n.cells.length : Nat) : Int) - (i3_2 : Int)).toNat) 0 (⟨by first | omega | (simp [-List.getD_eq_getElem?_getD]; done) | (simp [-List.getD_eq_getElem?_getD]; omega), fun j hj => by omega⟩) (Le.mk (SubL.cons rfl (SubL.cons (look_int rfl (by first | rfl | omega)) (SubL.nil))) (SubL.cons rfl (SubL.nil))) (fun i3_2 hI2 => ?_)
 obtain ⟨hb2, hc⟩ := hI2
 refine AWp.seq ?_
 refine AWp.sr ?_
 refine .vl (Y.move rfl rfl) ?_
 refine .vl (Y.fieldAddr fl27_2 rfl rfl) ?_
 refine .vl (Y.load sh23 rfl rfl rfl rfl) ?_
 refine .vl (Y.len (n := n.cells.length) sl23 rfl (congrArg some (List.length_map ..))) ?_
 refine .vl (Y.lss rfl rfl) ?_
 refine AOps.nil ?_
 refine AWp.condD rfl (fun c9 => ?_) (fun c9 => ?_)
 refine AWp.skip ?_
 refine AWp.seq ?_
 refine AWp.block ?_
 refine AWp.seq ?_
 have hcm : n.cells.getD i3_2 default ∈ n.cells := getD_mem' (by omega)
 refine AWp.regionT 6 rfl (by kernel_rfl) ?_
 refine AHead.val (Y.loadA sh27 rfl rfl (Nat.le_of_ble_eq_true rfl) rfl rfl) (by decide) ?_
 refine AHead.val (Y.fieldAddr fl27_2 rfl rfl) (by decide) ?_
 refine AHead.val (Y.load sh23 rfl rfl rfl rfl) (by decide) ?_
 refine AHead.val (Y.move rfl rfl) (by decide) ?_
 refine AHead.val (Y.indexF (m := i3_2) sl23 rfl rfl (by first | rfl | omega) (row_getD (d := default) (by first | omega | simp [-List.getD_eq_getElem?_getD] <;> omega))) (by decide) ?_
 refine AHead.val (Y.loadA sh39 rfl rfl (Nat.le_of_ble_eq_true rfl) rfl rfl) (by decide) ?_
 refine AHead.nil ?_
 refine AOps.callP ok89 (refFits_spec (n := n) (c := (n.cells.getD i3_2 default)) hs (hs.args _ hcm) (hs.nums _ hcm) (hf.cell hcm).2.1 (hf.cell hcm).wired) rfl (.keep rfl rfl (.keep rfl rfl .nil)) (by decide) rfl ?_
 refine .vl (Y.not rfl) ?_
 refine AOps.nil ?_
 refine AWp.cond rfl (fun c19 => ?_) (fun c19 => ?_)
 replace c19 : ¬ (Fits n (n.cells.getD i3_2 default)) := by simpa using c19
 refine AWp.sr ?_
 refine .vl (Y.assign rfl rfl) ?_
 refine AOps.nil ?_
 refine AWp.ret ?_
 exact ⟨_, _, rfl, rfl, (cg1 (fun (z0 : Bool) => X.v (.bool z0)) (df (fun h => absurd (h.cells i3_2 (by omega)) (by assumption)) : false = decide (Fit n)) : X.v (.bool false) = X.v (.bool (decide (Fit n)))), rfl⟩
 replace c19 : Fits n (n.cells.getD i3_2 default) := by simpa using c19
 refine AWp.skip ?_
 refine AWp.region ?_
 refine .vl (Y.move rfl rfl) ?_
 refine .vl (Y.addI rfl rfl (by first | omega | simp [-List.getD_eq_getElem?_getD] <;> omega)) ?_
 refine .vl (Y.assign rfl rfl) ?_
 refine AOps.nil ?_
 exact ⟨i3_2 + 1, ⟨by first | omega | (simp [-List.getD_eq_getElem?_getD]; done) | (simp [-List.getD_eq_getElem?_getD]; omega), below_succ' hc (by assumption)⟩, by omega, Le.mk (SubL.cons rfl (SubL.cons (look_int rfl (by first | rfl | omega)) (SubL.nil))) (SubL.cons rfl (SubL.nil))⟩
 refine AWp.exit ?_
 refine AWp.seq ?_
 refine AWp.sr ?_
 refine .vl (Y.assign rfl rfl) ?_
 refine AOps.nil ?_
 refine AWp.block ?_
 refine AWp.loop1 (fun (i4_7 : Nat) => ⟨[(1, .ptr 101 0 0 0), (4, .v (.int .i64 (i4_7 : Int)))], [(101, .cells (Netlist.row n))]⟩) (fun (i4_7 : Nat) => ((i4_7 : Int) ≤ ((n.streams.length : Nat) : Int)) ∧ (∀ j, j < i4_7 → StrFit n j)) (fun (i4_7 : Nat) => (((n.streams.length : Nat) : Int) - (i4_7 : Int)).toNat) 0 (⟨by first | omega | (simp [-List.getD_eq_getElem?_getD]; done) | (simp [-List.getD_eq_getElem?_getD]; omega), fun j hj => by omega⟩) (Le.mk (SubL.cons rfl (SubL.cons (look_int rfl (by first | rfl | omega)) (SubL.nil))) (SubL.cons rfl (SubL.nil))) (fun i4_7 hI7 => ?_)
 obtain ⟨hb7, hst⟩ := hI7
 refine AWp.seq ?_
 refine AWp.sr ?_
 refine .vl (Y.move rfl rfl) ?_
 refine .vl (Y.fieldAddr fl27_5 rfl rfl) ?_
 refine .vl (Y.load sh25 rfl rfl rfl rfl) ?_
 refine .vl (Y.len (n := n.streams.length) sl25 rfl (congrArg some (List.length_map ..))) ?_
 refine .vl (Y.lss rfl rfl) ?_
 refine AOps.nil ?_
 refine AWp.condD rfl (fun c24 => ?_) (fun c24 => ?_)
 refine AWp.skip ?_
 refine AWp.join2 (fun (n44_j8 : Bool) (n61_j8 : Bool) => ⟨[(1, .ptr 101 0 0 0), (4, .v (.int .i64 (i4_7 : Int))), (38, .ptr 101 0 0 5), (39, .fz 3 (n.streams.map Strm.row)), (40, .v (.int .i64 (i4_7 : Int))), (41, .fp (Strm.row (n.streams.getD i4_7 default)) 0), (42, .fp (Strm.row (n.streams.getD i4_7 default)) 2), (43, .v (.bool ((n.streams.getD i4_7 default).out))), (44, .v (.bool n44_j8)), (61, .v (.bool n61_j8))], [(101, .cells (Netlist.row n))]⟩) (fun (n44_j8 : Bool) (n61_j8 : Bool) => StrFit n i4_7) ?_ (fun n44_j8 n61_j8 hJ8 => ?_)
 refine AWp.block ?_
 refine AWp.seq ?_
 obtain ⟨_, _, ha1, hd1, _⟩ := hf.strs i4_7 (by omega)
 unfold In at ha1 hd1
 refine AWp.regionS rfl (by kernel_rfl) ?_
 refine AHead.val (Y.fieldAddr fl27_1 rfl rfl) (by decide) ?_
 refine AHead.val (Y.load sh22 rfl rfl rfl rfl) (by decide) ?_
 refine AHead.val (Y.fieldAddr fl27_6 rfl rfl) (by decide) ?_
 refine AHead.val (Y.load sh22 rfl rfl rfl rfl) (by decide) ?_
 refine AHead.val (Y.move rfl rfl) (by decide) ?_
 refine AHead.val (Y.indexF (m := i4_7) sl22 rfl rfl (by first | rfl | omega) (row_getD (d := 0) (by first | omega | simp [-List.getD_eq_getElem?_getD] <;> omega))) (by decide) ?_
 refine AHead.val (Y.load sh3 rfl rfl rfl rfl) (by decide) ?_
 refine AHead.val (Y.indexF (m := (n.active.getD i4_7 0).toNat) sl22 rfl rfl (by first | omega | simp [-List.getD_eq_getElem?_getD] <;> omega) (row_getD (d := 0) (by first | omega | simp [-List.getD_eq_getElem?_getD] <;> omega))) (by decide) ?_
 refine AHead.val (Y.load sh3 rfl rfl rfl rfl) (by decide) ?_
 refine AHead.val (Y.neq rfl rfl) (by decide) ?_
 refine AHead.val (Y.move rfl rfl) (by decide) ?_
 refine AHead.splitD (d := 37) rfl (fun c37 => ?_) (fun c37 => ?_)
 refine AHead.guardSkipV (d := 37) rfl (by decide) (by decide) rfl rfl ?_
 refine AHead.guardSkipV (d := 37) rfl (by decide) (by decide) rfl rfl ?_
 refine AHead.guardSkipV (d := 37) rfl (by decide) (by decide) rfl rfl ?_
 refine AHead.guardSkipV (d := 37) rfl (by decide) (by decide) rfl rfl ?_
 refine AHead.guardSkipV (d := 37) rfl (by decide) (by decide) rfl rfl ?_
 refine AHead.guardSkipV (d := 37) rfl (by decide) (by decide) rfl rfl ?_
 refine AHead.guardSkipV (d := 37) rfl (by decide) (by decide) rfl rfl ?_
 refine AHead.guardSkipV (d := 44) rfl (by decide) (by decide) rfl rfl ?_
 refine AHead.guardSkipV (d := 44) rfl (by decide) (by decide) rfl rfl ?_
 refine AHead.guardSkipV (d := 44) rfl (by decide) (by decide) rfl rfl ?_
 refine AHead.guardSkipV (d := 44) rfl (by decide) (by decide) rfl rfl ?_
 refine AHead.guardSkipV (d := 44) rfl (by decide) (by decide) rfl rfl ?_
 refine AHead.guardSkipV (d := 44) rfl (by decide) (by decide) rfl rfl ?_
 refine AHead.guardSkipV (d := 44) rfl (by decide) (by decide) rfl rfl ?_
 refine AHead.guardSkipV (d := 44) rfl (by decide) (by decide) rfl rfl ?_
 refine AHead.guardSkipV (d := 44) rfl (by decide) (by decide) rfl rfl ?_
 refine AHead.guardSkipV (d := 44) rfl (by decide) (by decide) rfl rfl ?_
 refine AHead.guardSkipV (d := 44) rfl (by decide) (by decide) rfl rfl ?_
 refine AHead.guardSkipV (d := 44) rfl (by decide) (by decide) rfl rfl ?_
 refine AHead.guardSkipV (d := 44) rfl (by decide) (by decide) rfl rfl ?_
 refine AHead.guardSkipV (d := 44) rfl (by decide) (by decide) rfl rfl ?_
 refine AHead.guardSkipV (d := 44) rfl (by decide) (by decide) rfl rfl ?_
 refine AHead.guardSkipV (d := 44) rfl (by decide) (by decide) rfl rfl ?_
 refine AHead.guardSkipV (d := 37) rfl (by decide) (by decide) rfl rfl ?_
 refine AHead.val (Y.pick rfl rfl rfl) (by decide) ?_
 refine AHead.nil ?_
 refine AWp.condT rfl ?_
 refine AWp.sr ?_
 refine .vl (Y.assign rfl rfl) ?_
 refine AOps.nil ?_
 refine AWp.ret ?_
 exact ⟨_, _, rfl, rfl, (cg1 (fun (z0 : Bool) => X.v (.bool z0)) (df (fun h => by have h1 := h.strs i4_7 (by omega); unfold StrFit Netlist.wd at h1; grind) : false = decide (Fit n)) : X.v (.bool false) = X.v (.bool (decide (Fit n)))), rfl⟩
 refine AHead.guardRun (d := 37) rfl (by decide) rfl ?_
 refine AHead.val (Y.fieldAddr fl27_5 rfl rfl) (by decide) ?_
 refine AHead.guardRun (d := 37) rfl (by decide) rfl ?_
 refine AHead.val (Y.load sh25 rfl rfl rfl rfl) (by decide) ?_
 refine AHead.guardRun (d := 37) rfl (by decide) rfl ?_
 refine AHead.val (Y.move rfl rfl) (by decide) ?_
 refine AHead.guardRun (d := 37) rfl (by decide) rfl ?_
 refine AHead.val (Y.indexF (m := i4_7) sl25 rfl rfl (by first | rfl | omega) (row_getD (d := default) (by first | omega | simp [-List.getD_eq_getElem?_getD] <;> omega))) (by decide) ?_
 refine AHead.guardRun (d := 37) rfl (by decide) rfl ?_
 refine AHead.val (Y.fieldAddr fl83_2 rfl rfl) (by decide) ?_
 refine AHead.guardRun (d := 37) rfl (by decide) rfl ?_
 refine AHead.val (Y.load sh4 rfl rfl rfl rfl) (by decide) ?_
 refine AHead.guardRun (d := 37) rfl (by decide) rfl ?_
 refine AHead.val (Y.move rfl rfl) (by decide) ?_
 refine AHead.split (d := 44) rfl (fun c44 => ?_) (fun c44 => ?_)
 have hd2 := hd1 (by assumption)
 refine AHead.guardRun (d := 44) rfl (by decide) rfl ?_
 refine AHead.val (Y.fieldAddr fl27_1 rfl rfl) (by decide) ?_
 refine AHead.guardRun (d := 44) rfl (by decide) rfl ?_
 refine AHead.val (Y.load sh22 rfl rfl rfl rfl) (by decide) ?_
 refine AHead.guardRun (d := 44) rfl (by decide) rfl ?_
 refine AHead.val (Y.fieldAddr fl27_7 rfl rfl) (by decide) ?_
 refine AHead.guardRun (d := 44) rfl (by decide) rfl ?_
 refine AHead.val (Y.load sh22 rfl rfl rfl rfl) (by decide) ?_
 refine AHead.guardRun (d := 44) rfl (by decide) rfl ?_
 refine AHead.val (Y.move rfl rfl) (by decide) ?_
 refine AHead.guardRun (d := 44) rfl (by decide) rfl ?_
 refine AHead.val (Y.indexF (m := i4_7) sl22 rfl rfl (by first | rfl | omega) (row_getD (d := 0) (by first | omega | simp [-List.getD_eq_getElem?_getD] <;> omega))) (by decide) ?_
 refine AHead.guardRun (d := 44) rfl (by decide) rfl ?_
 refine AHead.val (Y.load sh3 rfl rfl rfl rfl) (by decide) ?_
 refine AHead.guardRun (d := 44) rfl (by decide) rfl ?_
 refine AHead.val (Y.indexF (m := (n.data.getD i4_7 0).toNat) sl22 rfl rfl (by first | omega | simp [-List.getD_eq_getElem?_getD] <;> omega) (row_getD (d := 0) (by first | omega | simp [-List.getD_eq_getElem?_getD] <;> omega))) (by decide) ?_
 refine AHead.guardRun (d := 44) rfl (by decide) rfl ?_
 refine AHead.val (Y.load sh3 rfl rfl rfl rfl) (by decide) ?_
 refine AHead.guardRun (d := 44) rfl (by decide) rfl ?_
 refine AHead.val (Y.fieldAddr fl27_5 rfl rfl) (by decide) ?_
 refine AHead.guardRun (d := 44) rfl (by decide) rfl ?_
 refine AHead.val (Y.load sh25 rfl rfl rfl rfl) (by decide) ?_
 refine AHead.guardRun (d := 44) rfl (by decide) rfl ?_
 refine AHead.val (Y.move rfl rfl) (by decide) ?_
 refine AHead.guardRun (d := 44) rfl (by decide) rfl ?_
 refine AHead.val (Y.indexF (m := i4_7) sl25 rfl rfl (by first | rfl | omega) (row_getD (d := default) (by first | omega | simp [-List.getD_eq_getElem?_getD] <;> omega))) (by decide) ?_
 refine AHead.guardRun (d := 44) rfl (by decide) rfl ?_
 refine AHead.val (Y.fieldAddr fl83_1 rfl rfl) (by decide) ?_
 refine AHead.guardRun (d := 44) rfl (by decide) rfl ?_
 refine AHead.val (Y.load sh3 rfl rfl rfl rfl) (by decide) ?_
 refine AHead.guardRun (d := 44) rfl (by decide) rfl ?_
 refine AHead.val (Y.neq rfl rfl) (by decide) ?_
 refine AHead.guardRun (d := 37) rfl (by decide) rfl ?_
 refine AHead.val (Y.pick rfl rfl rfl) (by decide) ?_
 refine AHead.val (Y.pick rfl rfl rfl) (by decide) ?_
 refine AHead.nil ?_
 refine AWp.condD rfl (fun c62 => ?_) (fun c62 => ?_)
 refine AWp.sr ?_
 refine .vl (Y.assign rfl rfl) ?_
 refine AOps.nil ?_
 refine AWp.ret ?_
 exact ⟨_, _, rfl, rfl, (cg1 (fun (z0 : Bool) => X.v (.bool z0)) (df (fun h => by have h1 := h.strs i4_7 (by omega); unfold StrFit Netlist.wd at h1; grind) : false = decide (Fit n)) : X.v (.bool false) = X.v (.bool (decide (Fit n)))), rfl⟩
 refine AWp.skip ?_
 exact ⟨true, decide ((n.widths.getD ((n.data.getD i4_7 0).toNat) 0) ≠ ((n.streams.getD i4_7 default).width)), by unfold StrFit Netlist.wd; grind, Le.mk (SubL.cons rfl (SubL.cons rfl (SubL.cons rfl (SubL.cons rfl (SubL.cons rfl (SubL.cons rfl (SubL.cons rfl (SubL.cons rfl (SubL.cons (look_bool rfl (by first | rfl | simp_all)) (SubL.cons (look_bool rfl (by first | rfl | simp_all)) (SubL.nil))))))))))) (SubL.cons rfl (SubL.nil))⟩
 refine AHead.guardSkipV (d := 44) rfl (by decide) (by decide) rfl rfl ?_
 refine AHead.guardSkipV (d := 44) rfl (by decide) (by decide) rfl rfl ?_
 refine AHead.guardSkipV (d := 44) rfl (by decide) (by decide) rfl rfl ?_
 refine AHead.guardSkipV (d := 44) rfl (by decide) (by decide) rfl rfl ?_
 refine AHead.guardSkipV (d := 44) rfl (by decide) (by decide) rfl rfl ?_
 refine AHead.guardSkipV (d := 44) rfl (by decide) (by decide) rfl rfl ?_
 refine AHead.guardSkipV (d := 44) rfl (by decide) (by decide) rfl rfl ?_
 refine AHead.guardSkipV (d := 44) rfl (by decide) (by decide) rfl rfl ?_
 refine AHead.guardSkipV (d := 44) rfl (by decide) (by decide) rfl rfl ?_
 refine AHead.guardSkipV (d := 44) rfl (by decide) (by decide) rfl rfl ?_
 refine AHead.guardSkipV (d := 44) rfl (by decide) (by decide) rfl rfl ?_
 refine AHead.guardSkipV (d := 44) rfl (by decide) (by decide) rfl rfl ?_
 refine AHead.guardSkipV (d := 44) rfl (by decide) (by decide) rfl rfl ?_
 refine AHead.guardSkipV (d := 44) rfl (by decide) (by decide) rfl rfl ?_
 refine AHead.guardSkipV (d := 44) rfl (by decide) (by decide) rfl rfl ?_
 refine AHead.guardSkipV (d := 44) rfl (by decide) (by decide) rfl rfl ?_
 refine AHead.guardRun (d := 37) rfl (by decide) rfl ?_
 refine AHead.val (Y.pick rfl rfl rfl) (by decide) ?_
 refine AHead.val (Y.pick rfl rfl rfl) (by decide) ?_
 refine AHead.nil ?_
 refine AWp.condF rfl ?_
 refine AWp.skip ?_
 exact ⟨false, false, by unfold StrFit Netlist.wd; grind, Le.mk (SubL.cons rfl (SubL.cons rfl (SubL.cons rfl (SubL.cons rfl (SubL.cons rfl (SubL.cons rfl (SubL.cons rfl (SubL.cons rfl (SubL.cons (look_bool rfl (by first | rfl | simp_all)) (SubL.cons (look_bool rfl (by first | rfl | simp_all)) (SubL.nil))))))))))) (SubL.cons rfl (SubL.nil))⟩
 refine AWp.region ?_
 refine .vl (Y.move rfl rfl) ?_
 refine .vl (Y.addI rfl rfl (by first | omega | simp [-List.getD_eq_getElem?_getD] <;> omega)) ?_
 refine .vl (Y.assign rfl rfl) ?_
 refine AOps.nil ?_
 exact ⟨i4_7 + 1, ⟨by first | omega | (simp [-List.getD_eq_getElem?_getD]; done) | (simp [-List.getD_eq_getElem?_getD]; omega), below_succ' hst hJ8⟩, by omega, Le.mk (SubL.cons rfl (SubL.cons (look_int rfl (by first | rfl | omega)) (SubL.nil))) (SubL.cons rfl (SubL.nil))⟩
 refine AWp.exit ?_
 refine AWp.sr ?_
 refine .vl (Y.fieldAddr fl27_1 rfl rfl) ?_
 refine .vl (Y.load sh22 rfl rfl rfl rfl) ?_
 refine .vl (Y.fieldAddr fl27_8 rfl rfl) ?_
 refine .vl (Y.load sh3 rfl rfl rfl rfl) ?_
 refine .vl (Y.indexF (m := (n.freeze).toNat) sl22 rfl rfl (by first | omega | simp [-List.getD_eq_getElem?_getD] <;> omega) (row_getD (d := 0) (by first | omega | simp [-List.getD_eq_getElem?_getD] <;> omega))) ?_
 refine .vl (Y.load sh3 rfl rfl rfl rfl) ?_
 refine .vl (Y.eql rfl rfl) ?_
 refine .vl (Y.move rfl rfl) ?_
 refine AOps.splitD (d := 70) rfl (fun c70 => ?_) (fun c70 => ?_)
 refine .gv 70 rfl rfl (Y.fieldAddr fl27_1 rfl rfl) ?_
 refine .gv 70 rfl rfl (Y.load sh22 rfl rfl rfl rfl) ?_
 refine .gv 70 rfl rfl (Y.fieldAddr fl27_9 rfl rfl) ?_
 refine .gv 70 rfl rfl (Y.load sh3 rfl rfl rfl rfl) ?_
 refine .gv 70 rfl rfl (Y.indexF (m := (n.done).toNat) sl22 rfl rfl (by first | omega | simp [-List.getD_eq_getElem?_getD] <;> omega) (row_getD (d := 0) (by first | omega | simp [-List.getD_eq_getElem?_getD] <;> omega))) ?_
 refine .gv 70 rfl rfl (Y.load sh3 rfl rfl rfl rfl) ?_
 refine .gv 70 rfl rfl (Y.eql rfl rfl) ?_
 refine .vl (Y.pick rfl rfl rfl) ?_
 refine .vl (Y.assign rfl rfl) ?_
 refine AOps.nil ?_
 refine AWp.ret ?_
 exact ⟨_, _, rfl, rfl, (cg1 (fun (z0 : Bool) => X.v (.bool z0)) (dd ⟨fun h => ⟨by unfold Netlist.wd; omega, h, fun j hj => hst j (by omega), fun j hj => hc j (by omega)⟩, fun h => h.done⟩ : (decide ((n.widths.getD ((n.done).toNat) 0) = 1)) = decide (Fit n)) : X.v (.bool (decide ((n.widths.getD ((n.done).toNat) 0) = 1))) = X.v (.bool (decide (Fit n)))), rfl⟩
 refine .gs 70 rfl rfl rfl ?_
 refine .gs 70 rfl rfl rfl ?_
 refine .gs 70 rfl rfl rfl ?_
 refine .gs 70 rfl rfl rfl ?_
 refine .gs 70 rfl rfl rfl ?_
 refine .gs 70 rfl rfl rfl ?_
 refine .gs 70 rfl rfl rfl ?_
 refine .vl (Y.pick rfl rfl rfl) ?_
 refine .vl (Y.assign rfl rfl) ?_
 refine AOps.nil ?_
 refine AWp.ret ?_
 exact ⟨_, _, rfl, rfl, (cg1 (fun (z0 : Bool) => X.v (.bool z0)) (df (fun h => by have h1 := h.freeze; unfold Netlist.wd at h1; omega) : false = decide (Fit n)) : X.v (.bool false) = X.v (.bool (decide (Fit n)))), rfl⟩

set_option maxRecDepth 4000 in
set_option maxHeartbeats 1000000 in
theorem loops_spec {n : Netlist} (hs : n.Small) (hf : Formed n) : ACalls Try.prog 52 [.agg (Netlist.row n)] [] [] (fun r o => r = .v (.bool (decide (¬ Acyclic n))) ∧ o = []) := by
 refine ACalls.of Try.func52 rfl rfl rfl (n := 83) (by decide) (Nat.le_of_ble_eq_true rfl) ?_
 have hs6 := hf.nwidths; have hs7 := hf.ncells
 refine AWp.sr ?_
 refine AOps.box 101 rfl rfl rfl rfl rfl (by decide) ?_
 refine .vl (Y.assign rfl rfl) ?_
 refine AOps.nil ?_
 refine AWp.sr ?_
 refine .vl (Y.fieldAddr fl27_1 rfl rfl) ?_
 refine .vl (Y.load sh22 rfl rfl rfl rfl) ?_
 refine .vl (Y.len (n := n.widths.length) sl22 rfl (congrArg some (List.length_map ..))) ?_
 refine AOps.makeSlice (n := n.widths.length) sl63 ze4 rfl rfl rfl rfl (by first | omega | (simp [-List.getD_eq_getElem?_getD]; done) | (simp [-List.getD_eq_getElem?_getD]; omega) | (unfold In at *; omega)) (by first | omega | (simp [-List.getD_eq_getElem?_getD]; done) | (simp [-List.getD_eq_getElem?_getD]; omega) | (unfold In at *; omega)) (by decide) ?_
 refine AOps.assignX rfl (by decide) ?_
 refine AOps.sh (Sh.adoptE (d := 3) (n := n.widths.length) 103 ((List.replicate n.widths.length false).map brow) rfl (by first | rfl | exact rep_map rfl) (len_map (by simp)) (by decide)) ?_
 refine AOps.nil ?_
 refine AWp.sr ?_
 refine .vl (Y.assign rfl rfl) ?_
 refine AOps.nil ?_
 refine AWp.seq ?_
 refine AWp.sr ?_
 refine .vl (Y.assign rfl rfl) ?_
 refine AOps.nil ?_
 refine AWp.block ?_
 refine AWp.loop3 (fun (left4_4 : Nat) (i5_4 : Nat) (known3_4 : List Bool) => ⟨[(1, .ptr 101 0 0 0), (3, .slc 103 1 0 n.widths.length), (4, .v (.int .i64 (left4_4 : Int))), (5, .v (.int .i64 (i5_4 : Int)))], [(101, .cells (Netlist.row n)), (103, .rows 1 (known3_4.map brow))]⟩) (fun (left4_4 : Nat) (i5_4 : Nat) (known3_4 : List Bool) => (known3_4.length = n.widths.length) ∧ ((i5_4 : Int) ≤ ((n.cells.length : Nat) : Int)) ∧ (KN0 n i5_4 known3_4) ∧ ((left4_4 : Int) = (i5_4 : Int) - ((seqL n i5_4).length : Int))) (fun (left4_4 : Nat) (i5_4 : Nat) (known3_4 : List Bool) => (((n.cells.length : Nat) : Int) - (i5_4 : Int)).toNat) 0 0 (List.replicate n.widths.length false) (⟨by first | omega | (simp [-List.getD_eq_getElem?_getD]; done) | (simp [-List.getD_eq_getElem?_getD]; omega) | (unfold In at *; omega), by first | omega | (simp [-List.getD_eq_getElem?_getD]; done) | (simp [-List.getD_eq_getElem?_getD]; omega) | (unfold In at *; omega), KN0.init n, by simp [seqL]⟩) (Le.mk (SubL.cons rfl (SubL.cons rfl (SubL.cons (look_int rfl (by first | rfl | omega)) (SubL.cons (look_int rfl (by first | rfl | omega)) (SubL.nil))))) (SubL.cons rfl (SubL.cons rfl (SubL.nil)))) (fun left4_4 i5_4 known3_4 hI4 => ?_)
 obtain ⟨hl103, hb4, hk, hle⟩ := hI4
 refine AWp.seq ?_
 refine AWp.sr ?_
 refine .vl (Y.move rfl rfl) ?_
 refine .vl (Y.fieldAddr fl27_2 rfl rfl) ?_
 refine .vl (Y.load sh23 rfl rfl rfl rfl) ?_
 refine .vl (Y.len (n := n.cells.length) sl23 rfl (congrArg some (List.length_map ..))) ?_
 refine .vl (Y.lss rfl rfl) ?_
 refine AOps.nil ?_
 refine AWp.condD rfl (fun c18 => ?_) (fun c18 => ?_)
 refine AWp.skip ?_
 refine AWp.join2 (fun (left4_j5 : Nat) (known3_j5 : List Bool) => ⟨[(1, .ptr 101 0 0 0), (3, .slc 103 1 0 n.widths.length), (4, .v (.int .i64 (left4_j5 : Int))), (5, .v (.int .i64 (i5_4 : Int)))], [(101, .cells (Netlist.row n)), (103, .rows 1 (known3_j5.map brow))]⟩) (fun (left4_j5 : Nat) (known3_j5 : List Bool) => (known3_j5.length = n.widths.length) ∧ (KN0 n (i5_4 + 1) known3_j5 ∧ (left4_j5 : Int) = ((i5_4 + 1 : Nat) : Int) - ((seqL n (i5_4 + 1)).length : Int))) ?_ (fun left4_j5 known3_j5 hJx5 => ?_)
 refine AWp.block ?_
 refine AWp.sr ?_
 refine .vl (Y.fieldAddr fl27_2 rfl rfl) ?_
 refine .vl (Y.load sh23 rfl rfl rfl rfl) ?_
 refine .vl (Y.move rfl rfl) ?_
 refine .vl (Y.indexF (m := i5_4) sl23 rfl rfl (by first | rfl | omega) (row_getD (d := default) (by first | omega | (simp [-List.getD_eq_getElem?_getD]; done) | (simp [-List.getD_eq_getElem?_getD]; omega) | (unfold In at *; omega)))) ?_
 refine .vl (Y.loadA sh39 rfl rfl (Nat.le_of_ble_eq_true rfl) rfl rfl) ?_
 refine AOps.alloc 106 ze39 rfl rfl (by decide) ?_
 refine AOps.storeC si39 rfl rfl rfl rfl rfl rfl (Nat.le_of_ble_eq_true rfl) rfl ?_
 refine AOps.nil ?_
 refine AWp.seq ?_
 have hx := hk.next hf (by omega) hl103
 have hx4 := hx.2.2.2
 have hy := seqL_lens n i5_4
 refine AWp.region ?_
 refine .vl (Y.fieldAddr fl39_0 rfl rfl) ?_
 refine .vl (Y.load sh3 rfl rfl rfl rfl) ?_
 refine AOps.callP ok22 (refComb_spec (w := ((n.cells.getD i5_4 default).kind))) rfl (.keep rfl rfl .nil) (by decide) rfl ?_
 refine .vl (Y.not rfl) ?_
 refine .vl (Y.move rfl rfl) ?_
 refine AOps.split (d := 30) rfl (fun c30 => ?_) (fun c30 => ?_)
 replace c30 : ¬ (Comb ((n.cells.getD i5_4 default).kind)) := by simpa using c30
 refine .gv 30 rfl rfl (Y.fieldAddr fl39_2 rfl rfl) ?_
 refine .gv 30 rfl rfl (Y.load sh3 rfl rfl rfl rfl) ?_
 refine .gv 30 rfl rfl (Y.geq rfl rfl) ?_
 refine .vl (Y.pick rfl rfl rfl) ?_
 refine AOps.nil ?_
 refine AWp.condD rfl (fun c34 => ?_) (fun c34 => ?_)
 refine AWp.region ?_
 refine .vl (Y.move rfl rfl) ?_
 refine .vl (Y.fieldAddr fl39_2 rfl rfl) ?_
 refine .vl (Y.load sh3 rfl rfl rfl rfl) ?_
 refine .vl (Y.indexO (m := ((n.cells.getD i5_4 default).out).toNat) sl63 rfl rfl (by first | omega | (simp [-List.getD_eq_getElem?_getD]; done) | (simp [-List.getD_eq_getElem?_getD]; omega) | (unfold In at *; omega)) (by first | omega | (simp [-List.getD_eq_getElem?_getD]; done) | (simp [-List.getD_eq_getElem?_getD]; omega) | (unfold In at *; omega))) ?_
 refine AOps.storeE ((known3_4.set (((n.cells.getD i5_4 default).out).toNat) true).map brow) si4 rfl rfl rfl rfl rfl rfl rfl (row_getD0 (d := false) (by first | omega | (simp [-List.getD_eq_getElem?_getD]; done) | (simp [-List.getD_eq_getElem?_getD]; omega) | (unfold In at *; omega))) (Nat.le_of_ble_eq_true rfl) (set_map0 rfl) ?_
 refine AOps.nil ?_
 exact ⟨left4_4, known3_4.set (((n.cells.getD i5_4 default).out).toNat) true, ⟨by first | omega | (simp [-List.getD_eq_getElem?_getD]; done) | (simp [-List.getD_eq_getElem?_getD]; omega) | (unfold In at *; omega), by first | exact ⟨hx.1 (by assumption) (by assumption), by have := hy.2 (by assumption); omega⟩ | exact ⟨(hx.2.1 (by assumption)).1, by have := hy.1 (by assumption); omega⟩ | exact ⟨hx.2.2.1 (by assumption), by have := hy.2 (by assumption); omega⟩ | (exfalso; have := (hx.2.1 (by assumption)).2; omega) | (exfalso; omega)⟩, Le.mk (SubL.cons rfl (SubL.cons rfl (SubL.cons (look_int rfl (by first | rfl | omega)) (SubL.cons rfl (SubL.nil))))) (SubL.cons rfl (SubL.cons rfl (SubL.nil)))⟩
 refine AWp.sr ?_
 refine .vl (Y.fieldAddr fl39_2 rfl rfl) ?_
 refine .vl (Y.load sh3 rfl rfl rfl rfl) ?_
 refine .vl (Y.geq rfl rfl) ?_
 refine AOps.nil ?_
 refine AWp.condD rfl (fun c41 => ?_) (fun c41 => ?_)
 refine AWp.region ?_
 refine .vl (Y.move rfl rfl) ?_
 refine .vl (Y.addI rfl rfl (by first | omega | (simp [-List.getD_eq_getElem?_getD]; done) | (simp [-List.getD_eq_getElem?_getD]; omega) | (unfold In at *; omega))) ?_
 refine .vl (Y.assign rfl rfl) ?_
 refine AOps.nil ?_
 exact ⟨left4_4 + 1, known3_4, ⟨by first | omega | (simp [-List.getD_eq_getElem?_getD]; done) | (simp [-List.getD_eq_getElem?_getD]; omega) | (unfold In at *; omega), by first | exact ⟨hx.1 (by assumption) (by assumption), by have := hy.2 (by assumption); omega⟩ | exact ⟨(hx.2.1 (by assumption)).1, by have := hy.1 (by assumption); omega⟩ | exact ⟨hx.2.2.1 (by assumption), by have := hy.2 (by assumption); omega⟩ | (exfalso; have := (hx.2.1 (by assumption)).2; omega) | (exfalso; omega)⟩, Le.mk (SubL.cons rfl (SubL.cons rfl (SubL.cons (look_int rfl (by first | rfl | omega)) (SubL.cons rfl (SubL.nil))))) (SubL.cons rfl (SubL.cons rfl (SubL.nil)))⟩
 refine AWp.skip ?_
 exact ⟨left4_4, known3_4, ⟨by first | omega | (simp [-List.getD_eq_getElem?_getD]; done) | (simp [-List.getD_eq_getElem?_getD]; omega) | (unfold In at *; omega), by first | exact ⟨hx.1 (by assumption) (by assumption), by have := hy.2 (by assumption); omega⟩ | exact ⟨(hx.2.1 (by assumption)).1, by have := hy.1 (by assumption); omega⟩ | exact ⟨hx.2.2.1 (by assumption), by have := hy.2 (by assumption); omega⟩ | (exfalso; have := (hx.2.1 (by assumption)).2; omega) | (exfalso; omega)⟩, Le.mk (SubL.cons rfl (SubL.cons rfl (SubL.cons (look_int rfl (by first | rfl | omega)) (SubL.cons rfl (SubL.nil))))) (SubL.cons rfl (SubL.cons rfl (SubL.nil)))⟩
 replace c30 : Comb ((n.cells.getD i5_4 default).kind) := by simpa using c30
 refine .gs 30 rfl rfl rfl ?_
 refine .gs 30 rfl rfl rfl ?_
 refine .gs 30 rfl rfl rfl ?_
 refine .vl (Y.pick rfl rfl rfl) ?_
 refine AOps.nil ?_
 refine AWp.condF rfl ?_
 refine AWp.sr ?_
 refine .vl (Y.fieldAddr fl39_2 rfl rfl) ?_
 refine .vl (Y.load sh3 rfl rfl rfl rfl) ?_
 refine .vl (Y.geq rfl rfl) ?_
 refine AOps.nil ?_
 refine AWp.condD rfl (fun c41 => ?_) (fun c41 => ?_)
 refine AWp.region ?_
 refine .vl (Y.move rfl rfl) ?_
 refine .vl (Y.addI rfl rfl (by first | omega | (simp [-List.getD_eq_getElem?_getD]; done) | (simp [-List.getD_eq_getElem?_getD]; omega) | (unfold In at *; omega))) ?_
 refine .vl (Y.assign rfl rfl) ?_
 refine AOps.nil ?_
 exact ⟨left4_4 + 1, known3_4, ⟨by first | omega | (simp [-List.getD_eq_getElem?_getD]; done) | (simp [-List.getD_eq_getElem?_getD]; omega) | (unfold In at *; omega), by first | exact ⟨hx.1 (by assumption) (by assumption), by have := hy.2 (by assumption); omega⟩ | exact ⟨(hx.2.1 (by assumption)).1, by have := hy.1 (by assumption); omega⟩ | exact ⟨hx.2.2.1 (by assumption), by have := hy.2 (by assumption); omega⟩ | (exfalso; have := (hx.2.1 (by assumption)).2; omega) | (exfalso; omega)⟩, Le.mk (SubL.cons rfl (SubL.cons rfl (SubL.cons (look_int rfl (by first | rfl | omega)) (SubL.cons rfl (SubL.nil))))) (SubL.cons rfl (SubL.cons rfl (SubL.nil)))⟩
 refine AWp.skip ?_
 exact ⟨left4_4, known3_4, ⟨by first | omega | (simp [-List.getD_eq_getElem?_getD]; done) | (simp [-List.getD_eq_getElem?_getD]; omega) | (unfold In at *; omega), by first | exact ⟨hx.1 (by assumption) (by assumption), by have := hy.2 (by assumption); omega⟩ | exact ⟨(hx.2.1 (by assumption)).1, by have := hy.1 (by assumption); omega⟩ | exact ⟨hx.2.2.1 (by assumption), by have := hy.2 (by assumption); omega⟩ | (exfalso; have := (hx.2.1 (by assumption)).2; omega) | (exfalso; omega)⟩, Le.mk (SubL.cons rfl (SubL.cons rfl (SubL.cons (look_int rfl (by first | rfl | omega)) (SubL.cons rfl (SubL.nil))))) (SubL.cons rfl (SubL.cons rfl (SubL.nil)))⟩
 obtain ⟨hlj5_103, hJ5⟩ := hJx5
 refine AWp.region ?_
 refine .vl (Y.move rfl rfl) ?_
 refine .vl (Y.addI rfl rfl (by first | omega | (simp [-List.getD_eq_getElem?_getD]; done) | (simp [-List.getD_eq_getElem?_getD]; omega) | (unfold In at *; omega))) ?_
 refine .vl (Y.assign rfl rfl) ?_
 refine AOps.nil ?_
 exact ⟨left4_j5, i5_4 + 1, known3_j5, ⟨by first | omega | (simp [-List.getD_eq_getElem?_getD]; done) | (simp [-List.getD_eq_getElem?_getD]; omega) | (unfold In at *; omega), by first | omega | (simp [-List.getD_eq_getElem?_getD]; done) | (simp [-List.getD_eq_getElem?_getD]; omega) | (unfold In at *; omega), hJ5.1, hJ5.2⟩, by omega, Le.mk (SubL.cons rfl (SubL.cons rfl (SubL.cons (look_int rfl (by first | rfl | omega)) (SubL.cons (look_int rfl (by first | rfl | omega)) (SubL.nil))))) (SubL.cons rfl (SubL.cons rfl (SubL.nil)))⟩
 refine AWp.exit ?_
 refine AWp.seq ?_
 refine AWp.sr ?_
 refine .vl (Y.assign rfl rfl) ?_
 refine AOps.nil ?_
 refine AWp.block ?_
 have hk2 : KN0 n n.cells.length known3_4 := by rw [show n.cells.length = i5_4 by omega]; exact hk
 have hld := LD.init hf hk2
 have hlf : (left4_4 : Int) = (n.cells.length : Int) - ((seqL n n.cells.length).length : Int) := by rw [show n.cells.length = i5_4 by omega]; exact hle
 refine AWp.loop3 (fun (left4_12 : Int) (more7_12 : Bool) (known3_12 : List Bool) => ⟨[(1, .ptr 101 0 0 0), (3, .slc 103 1 0 n.widths.length), (4, .v (.int .i64 left4_12)), (7, .v (.bool more7_12))], [(101, .cells (Netlist.row n)), (103, .rows 1 (known3_12.map brow))]⟩) (fun (left4_12 : Int) (more7_12 : Bool) (known3_12 : List Bool) => (known3_12.length = n.widths.length) ∧ (∃ done, LD n done known3_12 left4_12 ∧ (more7_12 = false → Stuck n n.cells.length done))) (fun (left4_12 : Int) (more7_12 : Bool) (known3_12 : List Bool) => 2 * left4_12.toNat + more7_12.toNat) (left4_4 : Int) true known3_4 (⟨by first | omega | (simp [-List.getD_eq_getElem?_getD]; done) | (simp [-List.getD_eq_getElem?_getD]; omega) | (unfold In at *; omega), ⟨[], by rw [hlf]; exact hld, fun h => (by cases h)⟩⟩) (Le.mk (SubL.cons rfl (SubL.cons rfl (SubL.cons (look_int rfl (by first | rfl | omega)) (SubL.cons (look_bool rfl (by first | rfl | simp_all)) (SubL.nil))))) (SubL.cons rfl (SubL.cons rfl (SubL.nil)))) (fun left4_12 more7_12 known3_12 hI12 => ?_)
 obtain ⟨hl103, hR⟩ := hI12
 refine AWp.seq ?_
 refine AWp.sr ?_
 refine .vl (Y.move rfl rfl) ?_
 refine AOps.nil ?_
 refine AWp.cond rfl (fun c44 => ?_) (fun c44 => ?_)
 refine AWp.skip ?_
 refine AWp.block ?_
 refine AWp.sr ?_
 refine .vl (Y.assign rfl rfl) ?_
 refine AOps.nil ?_
 refine AWp.sr ?_
 refine .vl (Y.assign rfl rfl) ?_
 refine AOps.nil ?_
 refine AWp.block ?_
 refine AWp.loop4 (fun (left4_15 : Int) (more7_15 : Bool) (i8_15 : Nat) (known3_15 : List Bool) => ⟨[(1, .ptr 101 0 0 0), (3, .slc 103 1 0 n.widths.length), (4, .v (.int .i64 left4_15)), (7, .v (.bool more7_15)), (8, .v (.int .i64 (i8_15 : Int)))], [(101, .cells (Netlist.row n)), (103, .rows 1 (known3_15.map brow))]⟩) (fun (left4_15 : Int) (more7_15 : Bool) (i8_15 : Nat) (known3_15 : List Bool) => (known3_15.length = n.widths.length) ∧ ((i8_15 : Int) ≤ ((n.cells.length : Nat) : Int)) ∧ (Rnd n (i8_15 : Int) left4_12 known3_15 left4_15 more7_15)) (fun (left4_15 : Int) (more7_15 : Bool) (i8_15 : Nat) (known3_15 : List Bool) => (((n.cells.length : Nat) : Int) - (i8_15 : Int)).toNat) left4_12 false 0 known3_12 (⟨by first | omega | (simp [-List.getD_eq_getElem?_getD]; done) | (simp [-List.getD_eq_getElem?_getD]; omega) | (unfold In at *; omega), by first | omega | (simp [-List.getD_eq_getElem?_getD]; done) | (simp [-List.getD_eq_getElem?_getD]; omega) | (unfold In at *; omega), by obtain ⟨done, b1, b2⟩ := hR; exact ⟨done, b1, Int.le_refl _, fun h => (by cases h), fun _ i hi h0 => by have := hi.1; omega⟩⟩) (Le.mk (SubL.cons rfl (SubL.cons rfl (SubL.cons (look_int rfl (by first | rfl | omega)) (SubL.cons (look_bool rfl (by first | rfl | simp_all)) (SubL.cons (look_int rfl (by first | rfl | omega)) (SubL.nil)))))) (SubL.cons rfl (SubL.cons rfl (SubL.nil)))) (fun left4_15 more7_15 i8_15 known3_15 hI15 => ?_)
 obtain ⟨hl103, hb15, hQ⟩ := hI15
 refine AWp.seq ?_
 refine AWp.sr ?_
 refine .vl (Y.move rfl rfl) ?_
 refine .vl (Y.fieldAddr fl27_2 rfl rfl) ?_
 refine .vl (Y.load sh23 rfl rfl rfl rfl) ?_
 refine .vl (Y.len (n := n.cells.length) sl23 rfl (congrArg some (List.length_map ..))) ?_
 refine .vl (Y.lss rfl rfl) ?_
 refine AOps.nil ?_
 refine AWp.condD rfl (fun c49 => ?_) (fun c49 => ?_)
 refine AWp.skip ?_
 refine AWp.join3 (fun (left4_j16 : Int) (more7_j16 : Bool) (known3_j16 : List Bool) => ⟨[(1, .ptr 101 0 0 0), (3, .slc 103 1 0 n.widths.length), (4, .v (.int .i64 left4_j16)), (7, .v (.bool more7_j16)), (8, .v (.int .i64 (i8_15 : Int)))], [(101, .cells (Netlist.row n)), (103, .rows 1 (known3_j16.map brow))]⟩) (fun (left4_j16 : Int) (more7_j16 : Bool) (known3_j16 : List Bool) => (known3_j16.length = n.widths.length) ∧ (Rnd n ((i8_15 + 1 : Nat) : Int) left4_12 known3_j16 left4_j16 more7_j16)) ?_ (fun left4_j16 more7_j16 known3_j16 hJx16 => ?_)
 refine AWp.block ?_
 refine AWp.sr ?_
 refine .vl (Y.fieldAddr fl27_2 rfl rfl) ?_
 refine .vl (Y.load sh23 rfl rfl rfl rfl) ?_
 refine .vl (Y.move rfl rfl) ?_
 refine .vl (Y.indexF (m := i8_15) sl23 rfl rfl (by first | rfl | omega) (row_getD (d := default) (by first | omega | (simp [-List.getD_eq_getElem?_getD]; done) | (simp [-List.getD_eq_getElem?_getD]; omega) | (unfold In at *; omega)))) ?_
 refine .vl (Y.loadA sh39 rfl rfl (Nat.le_of_ble_eq_true rfl) rfl rfl) ?_
 refine AOps.alloc 109 ze39 rfl rfl (by decide) ?_
 refine AOps.storeC si39 rfl rfl rfl rfl rfl rfl (Nat.le_of_ble_eq_true rfl) rfl ?_
 refine AOps.nil ?_
 refine AWp.seq ?_
 refine AWp.seq ?_
 have hQb := Rnd.bd hf hQ
 refine AWp.region ?_
 refine .vl (Y.fieldAddr fl39_0 rfl rfl) ?_
 refine .vl (Y.load sh3 rfl rfl rfl rfl) ?_
 refine AOps.callP ok22 (refComb_spec (w := ((n.cells.getD i8_15 default).kind))) rfl (.keep rfl rfl .nil) (by decide) rfl ?_
 refine .vl (Y.not rfl) ?_
 refine .vl (Y.move rfl rfl) ?_
 refine AOps.split (d := 61) rfl (fun c61 => ?_) (fun c61 => ?_)
 replace c61 : ¬ (Comb ((n.cells.getD i8_15 default).kind)) := by simpa using c61
 refine .gs 61 rfl rfl rfl ?_
 refine .gs 61 rfl rfl rfl ?_
 refine .gs 61 rfl rfl rfl ?_
 refine .gs 61 rfl rfl rfl ?_
 refine .gs 61 rfl rfl rfl ?_
 refine .vl (Y.pick rfl rfl rfl) ?_
 refine .vl (Y.move rfl rfl) ?_
 refine .gs 68 rfl rfl rfl ?_
 refine .gs 68 rfl rfl rfl ?_
 refine .gs 68 rfl rfl rfl ?_
 refine .gs 68 rfl rfl rfl ?_
 refine .gs 68 rfl rfl rfl ?_
 refine .vl (Y.pick rfl rfl rfl) ?_
 refine AOps.nil ?_
 refine AWp.condT rfl ?_
 refine AWp.exit ?_
 exact ⟨left4_15, more7_15, known3_15, ⟨by first | omega | (simp [-List.getD_eq_getElem?_getD]; done) | (simp [-List.getD_eq_getElem?_getD]; omega) | (unfold In at *; omega), by first | exact Rnd.seq hQ (by assumption) | exact Rnd.skip hf hQ (by omega) (.inl (by assumption)) (by assumption) | exact Rnd.skip hf hQ (by omega) (.inr (by assumption)) (by assumption) | exact Rnd.step hf hQ (by omega) hl103 (by assumption) (by assumption) (by assumption)⟩, Le.mk (SubL.cons rfl (SubL.cons rfl (SubL.cons (look_int rfl (by first | rfl | omega)) (SubL.cons (look_bool rfl (by first | rfl | simp_all)) (SubL.cons rfl (SubL.nil)))))) (SubL.cons rfl (SubL.cons rfl (SubL.nil)))⟩
 replace c61 : Comb ((n.cells.getD i8_15 default).kind) := by simpa using c61
 have hw1 := hf.outIn (CombAt.drives (n := n) (i := (i8_15 : Int)) ⟨⟨by omega, by omega⟩, by assumption⟩)
 rw [cell_nat] at hw1
 have hw2 := hw1; unfold In at hw2
 refine .gv 61 rfl rfl (Y.move rfl rfl) ?_
 refine .gv 61 rfl rfl (Y.fieldAddr fl39_2 rfl rfl) ?_
 refine .gv 61 rfl rfl (Y.load sh3 rfl rfl rfl rfl) ?_
 refine .gv 61 rfl rfl (Y.indexO (m := ((n.cells.getD i8_15 default).out).toNat) sl63 rfl rfl (by first | omega | (simp [-List.getD_eq_getElem?_getD]; done) | (simp [-List.getD_eq_getElem?_getD]; omega) | (unfold In at *; omega)) (by first | omega | (simp [-List.getD_eq_getElem?_getD]; done) | (simp [-List.getD_eq_getElem?_getD]; omega) | (unfold In at *; omega))) ?_
 refine .gv 61 rfl rfl (Y.load sh4 rfl (row_getD0 (d := false) (by first | omega | (simp [-List.getD_eq_getElem?_getD]; done) | (simp [-List.getD_eq_getElem?_getD]; omega) | (unfold In at *; omega))) rfl rfl) ?_
 refine .vl (Y.pick rfl rfl rfl) ?_
 refine .vl (Y.move rfl rfl) ?_
 refine AOps.split (d := 68) rfl (fun c68 => ?_) (fun c68 => ?_)
 refine .gs 68 rfl rfl rfl ?_
 refine .gs 68 rfl rfl rfl ?_
 refine .gs 68 rfl rfl rfl ?_
 refine .gs 68 rfl rfl rfl ?_
 refine .gs 68 rfl rfl rfl ?_
 refine .vl (Y.pick rfl rfl rfl) ?_
 refine AOps.nil ?_
 refine AWp.condT rfl ?_
 refine AWp.exit ?_
 exact ⟨left4_15, more7_15, known3_15, ⟨by first | omega | (simp [-List.getD_eq_getElem?_getD]; done) | (simp [-List.getD_eq_getElem?_getD]; omega) | (unfold In at *; omega), by first | exact Rnd.seq hQ (by assumption) | exact Rnd.skip hf hQ (by omega) (.inl (by assumption)) (by assumption) | exact Rnd.skip hf hQ (by omega) (.inr (by assumption)) (by assumption) | exact Rnd.step hf hQ (by omega) hl103 (by assumption) (by assumption) (by assumption)⟩, Le.mk (SubL.cons rfl (SubL.cons rfl (SubL.cons (look_int rfl (by first | rfl | omega)) (SubL.cons (look_bool rfl (by first | rfl | simp_all)) (SubL.cons rfl (SubL.nil)))))) (SubL.cons rfl (SubL.cons rfl (SubL.nil)))⟩
 refine .gv 68 rfl rfl (Y.move rfl rfl) ?_
 refine .gv 68 rfl rfl (Y.fieldAddr fl39_3 rfl rfl) ?_
 refine .gv 68 rfl rfl (Y.load sh22 rfl rfl rfl rfl) ?_
 refine AOps.guardRun (d := 68) rfl (by decide) rfl ?_
 refine AOps.callLP [103] ok90 (all_spec (kn := known3_15) (l := ((n.cells.getD i8_15 default).args)) (fun x hx => by rw [hl103]; exact hf.argIn (i := (i8_15 : Int)) ⟨by omega, by omega⟩ hx) (hs.args _ (getD_mem' (by omega)))) rfl (.lend rfl rfl (lend_le (by first | omega | (simp [-List.getD_eq_getElem?_getD]; done) | (simp [-List.getD_eq_getElem?_getD]; omega) | (unfold In at *; omega))) (lend_eq (by first | omega | (simp [-List.getD_eq_getElem?_getD]; done) | (simp [-List.getD_eq_getElem?_getD]; omega) | (unfold In at *; omega))) (.keep rfl rfl .nil)) (lend1 rfl (owns_map brow_frees)) (by decide) rfl trivial ?_
 refine .gv 68 rfl rfl (Y.not rfl) ?_
 refine .vl (Y.pick rfl rfl rfl) ?_
 refine AOps.nil ?_
 refine AWp.cond rfl (fun c74 => ?_) (fun c74 => ?_)
 replace c74 : ¬ (∀ x ∈ ((n.cells.getD i8_15 default).args), known3_15.getD x.toNat false = true) := by simpa using c74
 refine AWp.exit ?_
 exact ⟨left4_15, more7_15, known3_15, ⟨by first | omega | (simp [-List.getD_eq_getElem?_getD]; done) | (simp [-List.getD_eq_getElem?_getD]; omega) | (unfold In at *; omega), by first | exact Rnd.seq hQ (by assumption) | exact Rnd.skip hf hQ (by omega) (.inl (by assumption)) (by assumption) | exact Rnd.skip hf hQ (by omega) (.inr (by assumption)) (by assumption) | exact Rnd.step hf hQ (by omega) hl103 (by assumption) (by assumption) (by assumption)⟩, Le.mk (SubL.cons rfl (SubL.cons rfl (SubL.cons (look_int rfl (by first | rfl | omega)) (SubL.cons (look_bool rfl (by first | rfl | simp_all)) (SubL.cons rfl (SubL.nil)))))) (SubL.cons rfl (SubL.cons rfl (SubL.nil)))⟩
 replace c74 : ∀ x ∈ ((n.cells.getD i8_15 default).args), known3_15.getD x.toNat false = true := by simpa using c74
 refine AWp.skip ?_
 refine AWp.sr ?_
 refine .vl (Y.move rfl rfl) ?_
 refine .vl (Y.fieldAddr fl39_2 rfl rfl) ?_
 refine .vl (Y.load sh3 rfl rfl rfl rfl) ?_
 refine .vl (Y.indexO (m := ((n.cells.getD i8_15 default).out).toNat) sl63 rfl rfl (by first | omega | (simp [-List.getD_eq_getElem?_getD]; done) | (simp [-List.getD_eq_getElem?_getD]; omega) | (unfold In at *; omega)) (by first | omega | (simp [-List.getD_eq_getElem?_getD]; done) | (simp [-List.getD_eq_getElem?_getD]; omega) | (unfold In at *; omega))) ?_
 refine AOps.storeE ((known3_15.set (((n.cells.getD i8_15 default).out).toNat) true).map brow) si4 rfl rfl rfl rfl rfl rfl rfl (row_getD0 (d := false) (by first | omega | (simp [-List.getD_eq_getElem?_getD]; done) | (simp [-List.getD_eq_getElem?_getD]; omega) | (unfold In at *; omega))) (Nat.le_of_ble_eq_true rfl) (set_map0 rfl) ?_
 refine AOps.nil ?_
 refine AWp.sr ?_
 refine .vl (Y.assign rfl rfl) ?_
 refine AOps.nil ?_
 refine AWp.region ?_
 refine .vl (Y.move rfl rfl) ?_
 refine .vl (Y.subI rfl rfl (by first | omega | (simp [-List.getD_eq_getElem?_getD]; done) | (simp [-List.getD_eq_getElem?_getD]; omega) | (unfold In at *; omega))) ?_
 refine .vl (Y.assign rfl rfl) ?_
 refine AOps.nil ?_
 exact ⟨left4_15 - 1, true, known3_15.set (((n.cells.getD i8_15 default).out).toNat) true, ⟨by first | omega | (simp [-List.getD_eq_getElem?_getD]; done) | (simp [-List.getD_eq_getElem?_getD]; omega) | (unfold In at *; omega), by first | exact Rnd.seq hQ (by assumption) | exact Rnd.skip hf hQ (by omega) (.inl (by assumption)) (by assumption) | exact Rnd.skip hf hQ (by omega) (.inr (by assumption)) (by assumption) | exact Rnd.step hf hQ (by omega) hl103 (by assumption) (by assumption) (by assumption)⟩, Le.mk (SubL.cons rfl (SubL.cons rfl (SubL.cons (look_int rfl (by first | rfl | omega)) (SubL.cons (look_bool rfl (by first | rfl | simp_all)) (SubL.cons rfl (SubL.nil)))))) (SubL.cons rfl (SubL.cons rfl (SubL.nil)))⟩
 obtain ⟨hlj16_103, hJ16⟩ := hJx16
 refine AWp.region ?_
 refine .vl (Y.move rfl rfl) ?_
 refine .vl (Y.addI rfl rfl (by first | omega | (simp [-List.getD_eq_getElem?_getD]; done) | (simp [-List.getD_eq_getElem?_getD]; omega) | (unfold In at *; omega))) ?_
 refine .vl (Y.assign rfl rfl) ?_
 refine AOps.nil ?_
 exact ⟨left4_j16, more7_j16, i8_15 + 1, known3_j16, ⟨by first | omega | (simp [-List.getD_eq_getElem?_getD]; done) | (simp [-List.getD_eq_getElem?_getD]; omega) | (unfold In at *; omega), by first | omega | (simp [-List.getD_eq_getElem?_getD]; done) | (simp [-List.getD_eq_getElem?_getD]; omega) | (unfold In at *; omega), hJ16⟩, by omega, Le.mk (SubL.cons rfl (SubL.cons rfl (SubL.cons (look_int rfl (by first | rfl | omega)) (SubL.cons (look_bool rfl (by first | rfl | simp_all)) (SubL.cons (look_int rfl (by first | rfl | omega)) (SubL.nil)))))) (SubL.cons rfl (SubL.cons rfl (SubL.nil)))⟩
 refine AWp.exit ?_
 exact ⟨left4_15, more7_15, known3_15, ⟨by first | omega | (simp [-List.getD_eq_getElem?_getD]; done) | (simp [-List.getD_eq_getElem?_getD]; omega) | (unfold In at *; omega), by obtain ⟨done, b1, b2, b3, b4⟩ := hQ; exact ⟨done, b1, by rw [show (n.cells.length : Int) = (i8_15 : Int) by omega]; exact b4⟩⟩, Rnd.mu hf hQ (by assumption), Le.mk (SubL.cons rfl (SubL.cons rfl (SubL.cons (look_int rfl (by first | rfl | omega)) (SubL.cons (look_bool rfl (by first | rfl | simp_all)) (SubL.nil))))) (SubL.cons rfl (SubL.cons rfl (SubL.nil)))⟩
 refine AWp.exit ?_
 refine AWp.sr ?_
 refine .vl (Y.move rfl rfl) ?_
 refine .vl (Y.gtr rfl rfl) ?_
 refine .vl (Y.assign rfl rfl) ?_
 refine AOps.nil ?_
 refine AWp.ret ?_
 exact ⟨_, _, rfl, rfl, (cg1 (fun (z0 : Bool) => X.v (.bool z0)) (dd (by obtain ⟨done, b1, b2⟩ := hR; exact b1.res hf (b2 (by assumption))) : (decide (0 < left4_12)) = decide (¬ Acyclic n)) : X.v (.bool (decide (0 < left4_12))) = X.v (.bool (decide (¬ Acyclic n)))), rfl⟩

set_option maxHeartbeats 1000000 in
theorem refCheck_spec {n : Netlist} (hs : n.Small) : ACalls Try.prog 17 [.agg (Netlist.row n)] [] [] (fun r o => r = .v (.int .i64 (errOf n)) ∧ o = []) := by
 refine ACalls.of Try.func17 rfl rfl rfl (n := 14) (by decide) (Nat.le_of_ble_eq_true rfl) ?_
 refine AWp.sr ?_
 refine AOps.box 101 rfl rfl rfl rfl rfl (by decide) ?_
 refine .vl (Y.assign rfl rfl) ?_
 refine AOps.nil ?_
 refine AWp.seq ?_
 refine AWp.block ?_
 refine AWp.sr ?_
 refine .vl (Y.loadA sh27 rfl rfl (Nat.le_of_ble_eq_true rfl) rfl rfl) ?_
 refine AOps.callP ok50 (refFormed_spec (n := n) hs) rfl (.keep rfl rfl .nil) (by decide) rfl ?_
 refine .vl (Y.not rfl) ?_
 refine .vl (Y.assign rfl rfl) ?_
 refine AOps.nil ?_
 refine AWp.cond rfl (fun c3 => ?_) (fun c3 => ?_)
 replace c3 : ¬ (Formed n) := by simpa using c3
 refine AWp.sr ?_
 refine .vl (Y.assign rfl rfl) ?_
 refine AOps.nil ?_
 refine AWp.ret ?_
 exact ⟨_, _, rfl, rfl, (cg1 (fun (z0 : Int) => X.v (.int .i64 z0)) (by unfold errOf; rw [if_neg (by assumption)] : 3 = errOf n) : X.v (.int .i64 3) = X.v (.int .i64 (errOf n))), rfl⟩
 replace c3 : Formed n := by simpa using c3
 refine AWp.sr ?_
 refine .vl (Y.loadA sh27 rfl rfl (Nat.le_of_ble_eq_true rfl) rfl rfl) ?_
 refine AOps.callP ok51 (refFit_spec (n := n) hs (by assumption)) rfl (.keep rfl rfl .nil) (by decide) rfl ?_
 refine .vl (Y.not rfl) ?_
 refine .vl (Y.assign rfl rfl) ?_
 refine AOps.nil ?_
 refine AWp.cond rfl (fun c7 => ?_) (fun c7 => ?_)
 replace c7 : ¬ (Fit n) := by simpa using c7
 refine AWp.sr ?_
 refine .vl (Y.assign rfl rfl) ?_
 refine AOps.nil ?_
 refine AWp.ret ?_
 exact ⟨_, _, rfl, rfl, (cg1 (fun (z0 : Int) => X.v (.int .i64 z0)) (by unfold errOf; rw [if_pos (by assumption), if_neg (by assumption)] : 13 = errOf n) : X.v (.int .i64 13) = X.v (.int .i64 (errOf n))), rfl⟩
 replace c7 : Fit n := by simpa using c7
 refine AWp.sr ?_
 refine .vl (Y.loadA sh27 rfl rfl (Nat.le_of_ble_eq_true rfl) rfl rfl) ?_
 refine AOps.callP ok52 (loops_spec (n := n) hs (by assumption)) rfl (.keep rfl rfl .nil) (by decide) rfl ?_
 refine .vl (Y.assign rfl rfl) ?_
 refine AOps.nil ?_
 refine AWp.condD rfl (fun c11 => ?_) (fun c11 => ?_)
 refine AWp.sr ?_
 refine .vl (Y.assign rfl rfl) ?_
 refine AOps.nil ?_
 refine AWp.ret ?_
 exact ⟨_, _, rfl, rfl, (cg1 (fun (z0 : Int) => X.v (.int .i64 z0)) (by unfold errOf; rw [if_pos (by assumption), if_pos (by assumption), if_neg (by assumption)] : 12 = errOf n) : X.v (.int .i64 12) = X.v (.int .i64 (errOf n))), rfl⟩
 refine AWp.skip ?_
 refine AWp.sr ?_
 refine .vl (Y.assign rfl rfl) ?_
 refine AOps.nil ?_
 refine AWp.ret ?_
 exact ⟨_, _, rfl, rfl, (cg1 (fun (z0 : Int) => X.v (.int .i64 z0)) (by unfold errOf; rw [if_pos (by assumption), if_pos (by assumption), if_pos (Classical.not_not.1 (by assumption))] : 0 = errOf n) : X.v (.int .i64 0) = X.v (.int .i64 (errOf n))), rfl⟩

end Go.Proofs.Ytjnpbojdjipboaa
/- Walks through the builder. -/
namespace Go.Proofs.Ytjnpbojdjipboaa
open Go Go.AW Go.Proofs



set_option maxHeartbeats 1000000 in
theorem cloneInt_spec {l : List Int} (hl : l.length ≤ 17592186043904) : ACalls Try.prog 68 [.fz 1 (l.map irow)] [] [] (fun r o => r = .uni 1 (l.map irow) ∧ o = []) := by
 refine ACalls.of Try.func68 rfl rfl rfl (n := 8) (by decide) (Nat.le_of_ble_eq_true rfl) ?_
 refine AWp.sr ?_
 refine .vl (Y.assign rfl rfl) ?_
 refine AOps.nil ?_
 refine AWp.seq ?_
 refine AWp.sr ?_
 refine .vl (Y.move rfl rfl) ?_
 refine AOps.eqNil sl22 rfl rfl (by decide) (fun b4 hb4 => ?_)
 refine AOps.nil ?_
 refine AWp.cond rfl (fun c4 => ?_) (fun c4 => ?_)
 refine AWp.sr ?_
 refine .vl (Y.assign rfl rfl) ?_
 refine AOps.nil ?_
 refine AWp.sh (Sh.nilU (d := 2) 1 rfl) ?_
 refine AWp.ret ?_
 exact ⟨_, _, rfl, rfl, (cg1 (fun (z0 : List Int) => X.uni 1 (z0.map irow)) (by have := hb4 (by assumption); simpa using this : ([] : List Int) = l) : X.uni 1 (([] : List Int).map irow) = X.uni 1 (l.map irow)), rfl⟩
 refine AWp.skip ?_
 refine AWp.sr ?_
 refine AOps.buildSlice (([] : List Int).map irow) sl22 ze3 rfl rfl rfl rfl rfl (uniform_map (s := 1) (f := irow) (fun _ => rfl)) rfl rfl rfl (by decide) ?_
 refine .vl (Y.move rfl rfl) ?_
 refine AOps.sh (Sh.adoptE (d := 5) (n := ([] : List Int).length) 105 (([] : List Int).map irow) rfl (by first | rfl | exact rep_map rfl) (len_map rfl) (by decide)) ?_
 refine AOps.appendFE ((([] : List Int) ++ l).map irow) (([] : List Int) ++ l).length sl22 ze3 rfl rfl rfl rfl (app_le (by first | omega | simp [-List.getD_eq_getElem?_getD] <;> omega)) (app_map (by first | omega | simp [-List.getD_eq_getElem?_getD] <;> omega)) (app_n (by first | omega | simp [-List.getD_eq_getElem?_getD] <;> omega)) (by first | omega | simp [-List.getD_eq_getElem?_getD] <;> omega) (by first | omega | simp [-List.getD_eq_getElem?_getD] <;> omega) (by decide) (by decide) ?_
 refine .vl (Y.assign rfl rfl) ?_
 refine AOps.sh (Sh.detach (d := 2) (o := 105) rfl rfl (len_map (by first | omega | simp [-List.getD_eq_getElem?_getD] <;> omega)) (by decide)) ?_
 refine AOps.nil ?_
 refine AWp.ret ?_
 exact ⟨_, _, rfl, rfl, (cg1 (fun (z0 : List Int) => X.uni 1 (z0.map irow)) (rfl : (([] : List Int) ++ l) = l) : X.uni 1 ((([] : List Int) ++ l).map irow) = X.uni 1 (l.map irow)), rfl⟩

set_option maxHeartbeats 1000000 in
theorem wire_spec {nm : ByteArray} {ws : List Int} {cs : List Cell} {fz dn : Int} {rl : List Int} (hws : ws.length ≤ 1048576) (hcs : cs.length ≤ 1048576) {w : Int} : ACalls Try.prog 33 [.ptr 0 0 0 0, .v (.int .i64 w)] [.cells [.v (.string nm), .slc 1 1 0 ws.length, .slc 2 6 0 cs.length, .v (.slice none 0 0), .v (.slice none 0 0), .v (.slice none 0 0), .v (.slice none 0 0), .v (.slice none 0 0), .v (.int .i64 fz), .v (.int .i64 dn), .fz 1 (rl.map irow)], .rows 1 (ws.map irow), .rows 6 (cs.map Cell.row)] [0] (fun r o => r = .v (.int .i64 ((ws.length : Nat) : Int)) ∧ o = [.cells [.v (.string nm), .slc 1 1 0 ((ws ++ [w]).length), .slc 2 6 0 cs.length, .v (.slice none 0 0), .v (.slice none 0 0), .v (.slice none 0 0), .v (.slice none 0 0), .v (.slice none 0 0), .v (.int .i64 fz), .v (.int .i64 dn), .fz 1 (rl.map irow)], .rows 1 ((ws ++ [w]).map irow), .rows 6 (cs.map Cell.row)]) := by
 refine ACalls.of Try.func33 rfl rfl rfl (n := 24) (by decide) (Nat.le_of_ble_eq_true rfl) ?_
 refine AWp.sr ?_
 refine .vl (Y.assign rfl rfl) ?_
 refine AOps.nil ?_
 refine AWp.sr ?_
 refine .vl (Y.move rfl rfl) ?_
 refine .vl (Y.move rfl rfl) ?_
 refine .vl (Y.nilCheck rfl rfl) ?_
 refine .vl (Y.fieldAddr fl53_0 rfl rfl) ?_
 refine .vl (Y.fieldAddr fl27_1 rfl rfl) ?_
 refine .vl (Y.load sh22 rfl rfl rfl rfl) ?_
 refine .vl (Y.move rfl rfl) ?_
 refine AOps.buildSlice (([w] : List Int).map irow) sl22 ze3 rfl rfl rfl rfl rfl (uniform_map (s := 1) (f := irow) (fun _ => rfl)) rfl rfl rfl (by decide) ?_
 refine AOps.appendE ((ws ++ ([w] : List Int)).map irow) (ws ++ ([w] : List Int)).length sl22 ze3 rfl rfl rfl rfl (app_le (by first | omega | simp [-List.getD_eq_getElem?_getD] <;> omega)) (app_map (by first | omega | simp [-List.getD_eq_getElem?_getD] <;> omega)) (app_n (by first | omega | simp [-List.getD_eq_getElem?_getD] <;> omega)) (by first | omega | simp [-List.getD_eq_getElem?_getD] <;> omega) (by first | omega | simp [-List.getD_eq_getElem?_getD] <;> omega) (by decide) (by decide) ?_
 refine .vl (Y.nilCheck rfl rfl) ?_
 refine .vl (Y.fieldAddr fl53_0 rfl rfl) ?_
 refine .vl (Y.fieldAddr fl27_1 rfl rfl) ?_
 refine AOps.storeC si22 rfl rfl rfl rfl rfl rfl (Nat.le_of_ble_eq_true rfl) rfl ?_
 refine AOps.nil ?_
 refine AWp.sr ?_
 refine .vl (Y.move rfl rfl) ?_
 refine .vl (Y.nilCheck rfl rfl) ?_
 refine .vl (Y.fieldAddr fl53_0 rfl rfl) ?_
 refine .vl (Y.fieldAddr fl27_1 rfl rfl) ?_
 refine .vl (Y.load sh22 rfl rfl rfl rfl) ?_
 refine .vl (Y.len (n := (ws ++ ([w] : List Int)).length) sl22 rfl rfl) ?_
 refine .vl (Y.subI rfl rfl (by first | omega | simp [-List.getD_eq_getElem?_getD] <;> omega)) ?_
 refine .vl (Y.assign rfl rfl) ?_
 refine AOps.nil ?_
 refine AWp.ret ?_
 exact ⟨_, _, rfl, rfl, cg1 (fun (z0 : Int) => X.v (.int .i64 z0)) (by simp : (((ws ++ ([w] : List Int)).length : Nat) : Int) - 1 = ((ws.length : Nat) : Int)), rfl⟩

set_option maxHeartbeats 1000000 in
theorem bcell_spec {nm : ByteArray} {ws : List Int} {cs : List Cell} {fz dn : Int} {rl : List Int} (hws : ws.length ≤ 1048576) (hcs : cs.length ≤ 1048576) {c : Cell} (hc : c.args.length ≤ 17592186043904) : ACalls Try.prog 32 [.ptr 0 0 0 0, .agg (Cell.row c)] [.cells [.v (.string nm), .slc 1 1 0 ws.length, .slc 2 6 0 cs.length, .v (.slice none 0 0), .v (.slice none 0 0), .v (.slice none 0 0), .v (.slice none 0 0), .v (.slice none 0 0), .v (.int .i64 fz), .v (.int .i64 dn), .fz 1 (rl.map irow)], .rows 1 (ws.map irow), .rows 6 (cs.map Cell.row)] [0] (fun r o => r = .tup [] ∧ o = [.cells [.v (.string nm), .slc 1 1 0 ws.length, .slc 2 6 0 ((cs ++ [c]).length), .v (.slice none 0 0), .v (.slice none 0 0), .v (.slice none 0 0), .v (.slice none 0 0), .v (.slice none 0 0), .v (.int .i64 fz), .v (.int .i64 dn), .fz 1 (rl.map irow)], .rows 1 (ws.map irow), .rows 6 ((cs ++ [c]).map Cell.row)]) := by
 refine ACalls.of Try.func32 rfl rfl rfl (n := 20) (by decide) (Nat.le_of_ble_eq_true rfl) ?_
 refine AWp.sr ?_
 refine AOps.box 103 rfl rfl rfl rfl rfl (by decide) ?_
 refine AOps.nil ?_
 refine AWp.sr ?_
 refine .vl (Y.fieldAddr fl39_3 rfl rfl) ?_
 refine .vl (Y.load sh22 rfl rfl rfl rfl) ?_
 refine AOps.callP ok68 (cloneInt_spec (l := c.args) ((by first | omega | simp [-List.getD_eq_getElem?_getD] <;> omega))) rfl (.keep rfl rfl .nil) (by decide) rfl ?_
 refine .vl (Y.fieldAddr fl39_3 rfl rfl) ?_
 refine AOps.sh (Sh.freezeE (d := 6) (c.args.map irow) rfl (by first | rfl | exact rep_map rfl) (Frees.map irow_frees)) ?_
 refine AOps.storeC si22 rfl rfl rfl rfl rfl rfl (Nat.le_of_ble_eq_true rfl) rfl ?_
 refine AOps.nil ?_
 refine AWp.regionAny rfl ?_
 refine AAny.blind 0 rfl (by kernel_rfl) (Blind.move rfl rfl) (by decide) ?_
 refine AAny.blind 1 rfl (by kernel_rfl) (Blind.move rfl rfl) (by decide) ?_
 refine AAny.blind 2 rfl (by kernel_rfl) (Blind.nilCheck rfl rfl) (by decide) ?_
 refine AAny.blind 3 rfl (by kernel_rfl) (Blind.fieldAddr fl53_0 rfl rfl) (by decide) ?_
 refine AAny.blind 4 rfl (by kernel_rfl) (Blind.fieldAddr fl27_2 rfl rfl) (by decide) ?_
 refine AAny.two 5 6 rfl rfl (by kernel_rfl) ?_ ?_
 refine .vl (Y.load sh23 rfl rfl rfl rfl) ?_
 refine AOps.nil ⟨rfl, ?_⟩
 refine AAny.quietN (n := 6) [6] [7, 8, 9, 10, 11, 12] 7 rfl (by kernel_rfl) ?_
 refine .cn 6 rfl (Y.loadA sh39 rfl rfl (Nat.le_of_ble_eq_true rfl) rfl rfl) ?_
 refine AQ.nil ?_
 refine AAny.one 7 rfl (by kernel_rfl) ?_
 refine AOps.buildSlice (([c] : List Cell).map Cell.row) sl23 ze39 rfl rfl rfl rfl rfl (uniform_map (s := 6) (f := Cell.row) (fun _ => rfl)) rfl rfl rfl (by decide) ?_
 refine AOps.nil ⟨rfl, ?_⟩
 refine AAny.one 8 rfl (by kernel_rfl) ?_
 refine AOps.appendE ((cs ++ ([c] : List Cell)).map Cell.row) (cs ++ ([c] : List Cell)).length sl23 ze39 rfl rfl rfl rfl (app_le (by first | omega | simp [-List.getD_eq_getElem?_getD] <;> omega)) (app_map (by first | omega | simp [-List.getD_eq_getElem?_getD] <;> omega)) (app_n (by first | omega | simp [-List.getD_eq_getElem?_getD] <;> omega)) (by first | omega | simp [-List.getD_eq_getElem?_getD] <;> omega) (by first | omega | simp [-List.getD_eq_getElem?_getD] <;> omega) (by decide) (by decide) ?_
 refine AOps.nil ⟨rfl, ?_⟩
 refine AAny.quietN (n := 1) [9, 10, 11] [12] 12 rfl (by kernel_rfl) ?_
 refine .cn 9 rfl (Y.nilCheck rfl rfl) ?_
 refine .cn 10 rfl (Y.fieldAddr fl53_0 rfl rfl) ?_
 refine .cn 11 rfl (Y.fieldAddr fl27_2 rfl rfl) ?_
 refine AQ.nil ?_
 refine AAny.one 12 rfl (by kernel_rfl) ?_
 refine AOps.storeC si23 rfl rfl rfl rfl rfl rfl (Nat.le_of_ble_eq_true rfl) rfl ?_
 refine AOps.nil ⟨rfl, ?_⟩
 refine AAny.done (by kernel_rfl) ?_
 exact ⟨_, _, rfl, rfl, rfl, rfl⟩
 refine .vl (Y.loadA sh39 rfl rfl (Nat.le_of_ble_eq_true rfl) rfl rfl) ?_
 refine AOps.nil ⟨rfl, ?_⟩
 refine AAny.two 5 7 rfl rfl (by kernel_rfl) ?_ ?_
 refine .vl (Y.load sh23 rfl rfl rfl rfl) ?_
 refine AOps.nil ⟨rfl, ?_⟩
 refine AAny.one 7 rfl (by kernel_rfl) ?_
 refine AOps.buildSlice (([c] : List Cell).map Cell.row) sl23 ze39 rfl rfl rfl rfl rfl (uniform_map (s := 6) (f := Cell.row) (fun _ => rfl)) rfl rfl rfl (by decide) ?_
 refine AOps.nil ⟨rfl, ?_⟩
 refine AAny.one 8 rfl (by kernel_rfl) ?_
 refine AOps.appendE ((cs ++ ([c] : List Cell)).map Cell.row) (cs ++ ([c] : List Cell)).length sl23 ze39 rfl rfl rfl rfl (app_le (by first | omega | simp [-List.getD_eq_getElem?_getD] <;> omega)) (app_map (by first | omega | simp [-List.getD_eq_getElem?_getD] <;> omega)) (app_n (by first | omega | simp [-List.getD_eq_getElem?_getD] <;> omega)) (by first | omega | simp [-List.getD_eq_getElem?_getD] <;> omega) (by first | omega | simp [-List.getD_eq_getElem?_getD] <;> omega) (by decide) (by decide) ?_
 refine AOps.nil ⟨rfl, ?_⟩
 refine AAny.quietN (n := 1) [9, 10, 11] [12] 12 rfl (by kernel_rfl) ?_
 refine .cn 9 rfl (Y.nilCheck rfl rfl) ?_
 refine .cn 10 rfl (Y.fieldAddr fl53_0 rfl rfl) ?_
 refine .cn 11 rfl (Y.fieldAddr fl27_2 rfl rfl) ?_
 refine AQ.nil ?_
 refine AAny.one 12 rfl (by kernel_rfl) ?_
 refine AOps.storeC si23 rfl rfl rfl rfl rfl rfl (Nat.le_of_ble_eq_true rfl) rfl ?_
 refine AOps.nil ⟨rfl, ?_⟩
 refine AAny.done (by kernel_rfl) ?_
 exact ⟨_, _, rfl, rfl, rfl, rfl⟩
 refine AOps.buildSlice (([c] : List Cell).map Cell.row) sl23 ze39 rfl rfl rfl rfl rfl (uniform_map (s := 6) (f := Cell.row) (fun _ => rfl)) rfl rfl rfl (by decide) ?_
 refine AOps.nil ⟨rfl, ?_⟩
 refine AAny.quietN (n := 5) [5] [8, 9, 10, 11, 12] 8 rfl (by kernel_rfl) ?_
 refine .cn 5 rfl (Y.load sh23 rfl rfl rfl rfl) ?_
 refine AQ.nil ?_
 refine AAny.one 8 rfl (by kernel_rfl) ?_
 refine AOps.appendE ((cs ++ ([c] : List Cell)).map Cell.row) (cs ++ ([c] : List Cell)).length sl23 ze39 rfl rfl rfl rfl (app_le (by first | omega | simp [-List.getD_eq_getElem?_getD] <;> omega)) (app_map (by first | omega | simp [-List.getD_eq_getElem?_getD] <;> omega)) (app_n (by first | omega | simp [-List.getD_eq_getElem?_getD] <;> omega)) (by first | omega | simp [-List.getD_eq_getElem?_getD] <;> omega) (by first | omega | simp [-List.getD_eq_getElem?_getD] <;> omega) (by decide) (by decide) ?_
 refine AOps.nil ⟨rfl, ?_⟩
 refine AAny.quietN (n := 1) [9, 10, 11] [12] 12 rfl (by kernel_rfl) ?_
 refine .cn 9 rfl (Y.nilCheck rfl rfl) ?_
 refine .cn 10 rfl (Y.fieldAddr fl53_0 rfl rfl) ?_
 refine .cn 11 rfl (Y.fieldAddr fl27_2 rfl rfl) ?_
 refine AQ.nil ?_
 refine AAny.one 12 rfl (by kernel_rfl) ?_
 refine AOps.storeC si23 rfl rfl rfl rfl rfl rfl (Nat.le_of_ble_eq_true rfl) rfl ?_
 refine AOps.nil ⟨rfl, ?_⟩
 refine AAny.done (by kernel_rfl) ?_
 exact ⟨_, _, rfl, rfl, rfl, rfl⟩

set_option maxHeartbeats 1000000 in
theorem const_spec {nm : ByteArray} {ws : List Int} {cs : List Cell} {fz dn : Int} {rl : List Int} (hws : ws.length ≤ 1048000) (hcs : cs.length ≤ 1048000) {w : Int} {x : Nat} (hx : x < 18446744073709551616) : ACalls Try.prog 25 [.ptr 0 0 0 0, .v (.int .i64 w), .v (.int .u64 ((x : Nat) : Int))] [.cells [.v (.string nm), .slc 1 1 0 ws.length, .slc 2 6 0 cs.length, .v (.slice none 0 0), .v (.slice none 0 0), .v (.slice none 0 0), .v (.slice none 0 0), .v (.slice none 0 0), .v (.int .i64 fz), .v (.int .i64 dn), .fz 1 (rl.map irow)], .rows 1 (ws.map irow), .rows 6 (cs.map Cell.row)] [0] (fun r o => r = .v (.int .i64 ((ws.length : Nat) : Int)) ∧ o = [.cells [.v (.string nm), .slc 1 1 0 ((ws ++ [w]).length), .slc 2 6 0 ((cs ++ [(⟨1, 0, (ws.length : Int), [], fitN w x, 0⟩ : Cell)]).length), .v (.slice none 0 0), .v (.slice none 0 0), .v (.slice none 0 0), .v (.slice none 0 0), .v (.slice none 0 0), .v (.int .i64 fz), .v (.int .i64 dn), .fz 1 (rl.map irow)], .rows 1 ((ws ++ [w]).map irow), .rows 6 ((cs ++ [(⟨1, 0, (ws.length : Int), [], fitN w x, 0⟩ : Cell)]).map Cell.row)]) := by
 refine ACalls.of Try.func25 rfl rfl rfl (n := 19) (by decide) (Nat.le_of_ble_eq_true rfl) ?_
 refine AWp.sr ?_
 refine .vl (Y.assign rfl rfl) ?_
 refine AOps.nil ?_
 refine AWp.sr ?_
 refine .vl (Y.move rfl rfl) ?_
 refine .vl (Y.move rfl rfl) ?_
 refine AOps.callO [0, 1, 2] [] ok33 (wire_spec (w := w) (ws := ws) (cs := cs) (nm := nm) (fz := fz) (dn := dn) (rl := rl) (by first | omega | simp [-List.getD_eq_getElem?_getD] <;> omega) (by first | omega | simp [-List.getD_eq_getElem?_getD] <;> omega)) rfl (.named rfl rfl (.keep rfl rfl .nil)) ⟨rfl, rfl, rfl, trivial⟩ rfl (by decide) (fun _ h => by cases h) (fun _ h => by cases h) (by decide) (by decide) ?_
 rintro r objs' ⟨rfl, rfl⟩ _
 refine ⟨⟨rfl, (by intro ob hob; simp only [List.mem_cons, List.not_mem_nil, or_false] at hob; rcases hob with rfl | rfl | rfl <;> rfl), .inl rfl⟩, ?_⟩
 refine .vl (Y.assign rfl rfl) ?_
 refine AOps.nil ?_
 refine AWp.sr ?_
 refine .vl (Y.move rfl rfl) ?_
 refine .vl (Y.move rfl rfl) ?_
 refine .vl (Y.move rfl rfl) ?_
 refine .vl (Y.move rfl rfl) ?_
 refine AOps.callP ok65 (bfit_spec (w := w) (x := x) ((by first | omega | simp [-List.getD_eq_getElem?_getD] <;> omega))) rfl (.keep rfl rfl (.keep rfl rfl .nil)) (by decide) rfl ?_
 refine .vl (Y.build pl39 ze39 rfl rfl rfl) ?_
 refine AOps.sh (Sh.fzA (d := 16) 1 3 rfl rfl) ?_
 refine AOps.callO [0, 1, 2] [] ok32 (bcell_spec (c := (⟨1, 0, (((ws).length : Nat) : Int), ([] : List Int), fitN w x, 0⟩ : Cell)) (ws := ws ++ [w]) (cs := cs) (nm := nm) (fz := fz) (dn := dn) (rl := rl) (by first | omega | simp [-List.getD_eq_getElem?_getD] <;> omega) (by first | omega | simp [-List.getD_eq_getElem?_getD] <;> omega) (by first | omega | simp [-List.getD_eq_getElem?_getD] <;> omega)) rfl (.named rfl rfl (.keep rfl rfl .nil)) ⟨rfl, rfl, rfl, trivial⟩ rfl (by decide) (fun _ h => by cases h) (fun _ h => by cases h) (by decide) (by decide) ?_
 rintro r objs' ⟨rfl, rfl⟩ _
 refine ⟨⟨rfl, (by intro ob hob; simp only [List.mem_cons, List.not_mem_nil, or_false] at hob; rcases hob with rfl | rfl | rfl <;> rfl), .inl rfl⟩, ?_⟩
 refine AOps.nil ?_
 refine AWp.sr ?_
 refine .vl (Y.move rfl rfl) ?_
 refine .vl (Y.assign rfl rfl) ?_
 refine AOps.nil ?_
 refine AWp.ret ?_
 exact ⟨_, _, rfl, rfl, rfl, rfl⟩

set_option maxHeartbeats 1000000 in
theorem bop_spec {nm : ByteArray} {ws : List Int} {cs : List Cell} {fz dn : Int} {rl : List Int} (hws : ws.length ≤ 1048000) (hcs : cs.length ≤ 1048000) {op w : Int} {args : List Int} (hx : args.length ≤ 17592186043904) : ACalls Try.prog 27 [.ptr 0 0 0 0, .v (.int .i64 op), .v (.int .i64 w), .fz 1 (args.map irow)] [.cells [.v (.string nm), .slc 1 1 0 ws.length, .slc 2 6 0 cs.length, .v (.slice none 0 0), .v (.slice none 0 0), .v (.slice none 0 0), .v (.slice none 0 0), .v (.slice none 0 0), .v (.int .i64 fz), .v (.int .i64 dn), .fz 1 (rl.map irow)], .rows 1 (ws.map irow), .rows 6 (cs.map Cell.row)] [0] (fun r o => r = .v (.int .i64 ((ws.length : Nat) : Int)) ∧ o = [.cells [.v (.string nm), .slc 1 1 0 ((ws ++ [w]).length), .slc 2 6 0 ((cs ++ [(⟨2, op, (ws.length : Int), args, 0, 0⟩ : Cell)]).length), .v (.slice none 0 0), .v (.slice none 0 0), .v (.slice none 0 0), .v (.slice none 0 0), .v (.slice none 0 0), .v (.int .i64 fz), .v (.int .i64 dn), .fz 1 (rl.map irow)], .rows 1 ((ws ++ [w]).map irow), .rows 6 ((cs ++ [(⟨2, op, (ws.length : Int), args, 0, 0⟩ : Cell)]).map Cell.row)]) := by
 refine ACalls.of Try.func27 rfl rfl rfl (n := 20) (by decide) (Nat.le_of_ble_eq_true rfl) ?_
 refine AWp.sr ?_
 refine .vl (Y.assign rfl rfl) ?_
 refine AOps.nil ?_
 refine AWp.sr ?_
 refine .vl (Y.move rfl rfl) ?_
 refine .vl (Y.move rfl rfl) ?_
 refine AOps.callO [0, 1, 2] [] ok33 (wire_spec (w := w) (ws := ws) (cs := cs) (nm := nm) (fz := fz) (dn := dn) (rl := rl) (by first | omega | simp [-List.getD_eq_getElem?_getD] <;> omega) (by first | omega | simp [-List.getD_eq_getElem?_getD] <;> omega)) rfl (.named rfl rfl (.keep rfl rfl .nil)) ⟨rfl, rfl, rfl, trivial⟩ rfl (by decide) (fun _ h => by cases h) (fun _ h => by cases h) (by decide) (by decide) ?_
 rintro r objs' ⟨rfl, rfl⟩ _
 refine ⟨⟨rfl, (by intro ob hob; simp only [List.mem_cons, List.not_mem_nil, or_false] at hob; rcases hob with rfl | rfl | rfl <;> rfl), .inl rfl⟩, ?_⟩
 refine .vl (Y.assign rfl rfl) ?_
 refine AOps.nil ?_
 refine AWp.sr ?_
 refine .vl (Y.move rfl rfl) ?_
 refine .vl (Y.move rfl rfl) ?_
 refine .vl (Y.move rfl rfl) ?_
 refine .vl (Y.move rfl rfl) ?_
 refine .vl (Y.build pl39 ze39 rfl rfl rfl) ?_
 refine AOps.callO [0, 1, 2] [] ok32 (bcell_spec (c := (⟨2, op, (((ws).length : Nat) : Int), args, 0, 0⟩ : Cell)) (ws := ws ++ [w]) (cs := cs) (nm := nm) (fz := fz) (dn := dn) (rl := rl) (by first | omega | simp [-List.getD_eq_getElem?_getD] <;> omega) (by first | omega | simp [-List.getD_eq_getElem?_getD] <;> omega) (by first | omega | simp [-List.getD_eq_getElem?_getD] <;> omega)) rfl (.named rfl rfl (.keep rfl rfl .nil)) ⟨rfl, rfl, rfl, trivial⟩ rfl (by decide) (fun _ h => by cases h) (fun _ h => by cases h) (by decide) (by decide) ?_
 rintro r objs' ⟨rfl, rfl⟩ _
 refine ⟨⟨rfl, (by intro ob hob; simp only [List.mem_cons, List.not_mem_nil, or_false] at hob; rcases hob with rfl | rfl | rfl <;> rfl), .inl rfl⟩, ?_⟩
 refine AOps.nil ?_
 refine AWp.sr ?_
 refine .vl (Y.move rfl rfl) ?_
 refine .vl (Y.assign rfl rfl) ?_
 refine AOps.nil ?_
 refine AWp.ret ?_
 exact ⟨_, _, rfl, rfl, rfl, rfl⟩

set_option maxHeartbeats 1000000 in
theorem awake_spec  : ACalls Try.prog 15 [] [] [] (fun r o => r = .v (.bool true) ∧ o = []) := by
 refine ACalls.of Try.func15 rfl rfl rfl (n := 27) (by decide) (Nat.zero_le _) ?_
 refine AWp.sr ?_
 refine .vl (Y.assign rfl rfl) ?_
 refine AOps.nil ?_
 refine AWp.sr ?_
 refine AOps.alloc 101 ze53 rfl rfl (by decide) ?_
 refine AOps.nil ?_
 refine AWp.seq ?_
 refine AWp.sh (Sh.nilCell 101 301 1 1 rfl rfl rfl rfl (by decide)) ?_
 refine AWp.sh (Sh.nilCell 101 302 6 2 rfl rfl rfl rfl (by decide)) ?_
 refine AWp.sh (Sh.fzCell 101 1 10 rfl rfl rfl) ?_
 refine AWp.region ?_
 refine AOps.callO [101, 301, 302] [] ok25 (const_spec (w := 8) (x := 5) (ws := ([] : List Int)) (cs := ([] : List Cell)) (nm := ByteArray.empty) (fz := 0) (dn := 0) (rl := ([] : List Int)) (by first | omega | simp [-List.getD_eq_getElem?_getD] <;> omega) (by first | omega | simp [-List.getD_eq_getElem?_getD] <;> omega) (by first | omega | simp [-List.getD_eq_getElem?_getD] <;> omega)) rfl (.named rfl rfl (.keep rfl rfl (.keep rfl rfl .nil))) ⟨rfl, rfl, rfl, trivial⟩ rfl (by decide) (fun _ h => by cases h) (fun _ h => by cases h) (by decide) (by decide) ?_
 rintro r objs' ⟨rfl, rfl⟩ _
 refine ⟨⟨rfl, (by intro ob hob; simp only [List.mem_cons, List.not_mem_nil, or_false] at hob; rcases hob with rfl | rfl | rfl <;> rfl), .inl rfl⟩, ?_⟩
 refine .vl (Y.assign rfl rfl) ?_
 refine AOps.nil ?_
 refine AWp.sr ?_
 refine .vl (Y.move rfl rfl) ?_
 refine .vl (Y.move rfl rfl) ?_
 refine AOps.buildSlice (([(((([] : List Int)).length : Nat) : Int), (((([] : List Int)).length : Nat) : Int)] : List Int).map irow) sl22 ze3 rfl rfl rfl rfl rfl (uniform_map (s := 1) (f := irow) (fun _ => rfl)) rfl rfl rfl (by decide) ?_
 refine AOps.sh (Sh.freezeE (d := 7) (([(((([] : List Int)).length : Nat) : Int), (((([] : List Int)).length : Nat) : Int)] : List Int).map irow) rfl (by first | rfl | exact rep_map rfl) (Frees.map irow_frees)) ?_
 refine AOps.callO [101, 301, 302] [] ok27 (bop_spec (op := 2) (w := 8) (args := ([(((([] : List Int)).length : Nat) : Int), (((([] : List Int)).length : Nat) : Int)] : List Int)) (ws := ([] : List Int) ++ [8]) (cs := ([] : List Cell) ++ [(⟨1, 0, ((([] : List Int)).length : Int), [], fitN 8 5, 0⟩ : Cell)]) (nm := ByteArray.empty) (fz := 0) (dn := 0) (rl := ([] : List Int)) (by first | omega | simp [-List.getD_eq_getElem?_getD] <;> omega) (by first | omega | simp [-List.getD_eq_getElem?_getD] <;> omega) (by first | omega | simp [-List.getD_eq_getElem?_getD] <;> omega)) rfl (.named rfl rfl (.keep rfl rfl (.keep rfl rfl (.keep rfl rfl .nil)))) ⟨rfl, rfl, rfl, trivial⟩ rfl (by decide) (fun _ h => by cases h) (fun _ h => by cases h) (by decide) (by decide) ?_
 rintro r objs' ⟨rfl, rfl⟩ _
 refine ⟨⟨rfl, (by intro ob hob; simp only [List.mem_cons, List.not_mem_nil, or_false] at hob; rcases hob with rfl | rfl | rfl <;> rfl), .inl rfl⟩, ?_⟩
 refine .vl (Y.assign rfl rfl) ?_
 refine AOps.nil ?_
 refine AWp.sr ?_
 refine .vl (Y.move rfl rfl) ?_
 refine .vl (Y.eql rfl rfl) ?_
 refine .vl (Y.move rfl rfl) ?_
 refine AOps.splitD (d := 11) rfl (fun c11 => ?_) (fun c11 => ?_)
 refine .gv 11 rfl rfl (Y.move rfl rfl) ?_
 refine .gv 11 rfl rfl (Y.eql rfl rfl) ?_
 refine .vl (Y.pick rfl rfl rfl) ?_
 refine .vl (Y.move rfl rfl) ?_
 refine AOps.splitD (d := 15) rfl (fun c15 => ?_) (fun c15 => ?_)
 refine .gv 15 rfl rfl (Y.fieldAddr fl53_0 rfl rfl) ?_
 refine .gv 15 rfl rfl (Y.fieldAddr fl27_2 rfl rfl) ?_
 refine .gv 15 rfl rfl (Y.load sh23 rfl rfl rfl rfl) ?_
 refine .gv 15 rfl rfl (Y.len (n := ((([] : List Cell) ++ [(⟨1, 0, ((([] : List Int)).length : Int), [], fitN 8 5, 0⟩ : Cell)]) ++ [(⟨2, 2, (((([] : List Int) ++ [8])).length : Int), ([(((([] : List Int)).length : Nat) : Int), (((([] : List Int)).length : Nat) : Int)] : List Int), 0, 0⟩ : Cell)]).length) sl23 rfl rfl) ?_
 refine .gv 15 rfl rfl (Y.eql rfl rfl) ?_
 refine .vl (Y.pick rfl rfl rfl) ?_
 refine .vl (Y.move rfl rfl) ?_
 refine AOps.splitD (d := 22) rfl (fun c22 => ?_) (fun c22 => ?_)
 refine .gv 22 rfl rfl (Y.build pl27 ze27 rfl rfl rfl) ?_
 refine AOps.sh (Sh.fzA (d := 23) 1 1 rfl rfl) ?_
 refine AOps.sh (Sh.fzA (d := 23) 6 2 rfl rfl) ?_
 refine AOps.sh (Sh.fzA (d := 23) 1 3 rfl rfl) ?_
 refine AOps.sh (Sh.fzA (d := 23) 5 4 rfl rfl) ?_
 refine AOps.sh (Sh.fzA (d := 23) 3 5 rfl rfl) ?_
 refine AOps.sh (Sh.fzA (d := 23) 1 6 rfl rfl) ?_
 refine AOps.sh (Sh.fzA (d := 23) 1 7 rfl rfl) ?_
 refine AOps.sh (Sh.fzA (d := 23) 1 10 rfl rfl) ?_
 refine AOps.guardRun (d := 22) rfl (by decide) rfl ?_
 refine AOps.callP ok16 (check_spec (n := emptyN) emptyN_small (by decide)) rfl (.keep rfl rfl .nil) (by decide) rfl ?_
 refine .gv 22 rfl rfl (Y.eql rfl rfl) ?_
 refine .vl (Y.pick rfl rfl rfl) ?_
 refine .vl (Y.assign rfl rfl) ?_
 refine AOps.nil ?_
 refine AWp.ret ?_
 exact ⟨_, _, rfl, rfl, (cg1 (fun (z0 : Bool) => X.v (.bool z0)) (by rw [emptyN_err]; rfl : (decide ((errOf emptyN) = 3)) = true) : X.v (.bool (decide ((errOf emptyN) = 3))) = X.v (.bool true)), rfl⟩
 refine .gs 22 rfl rfl rfl ?_
 refine .gs 22 rfl rfl rfl ?_
 refine .gs 22 rfl rfl rfl ?_
 refine .vl (Y.pick rfl rfl rfl) ?_
 refine .vl (Y.assign rfl rfl) ?_
 refine AOps.nil ?_
 refine AWp.ret ?_
 exact ⟨_, _, rfl, rfl, (cg1 (fun (z0 : Bool) => X.v (.bool z0)) (by exfalso; simp_all : false = true) : X.v (.bool false) = X.v (.bool true)), rfl⟩
 refine .gs 15 rfl rfl rfl ?_
 refine .gs 15 rfl rfl rfl ?_
 refine .gs 15 rfl rfl rfl ?_
 refine .gs 15 rfl rfl rfl ?_
 refine .gs 15 rfl rfl rfl ?_
 refine .vl (Y.pick rfl rfl rfl) ?_
 refine .vl (Y.move rfl rfl) ?_
 refine .gs 22 rfl rfl rfl ?_
 refine .gs 22 rfl rfl rfl ?_
 refine .gs 22 rfl rfl rfl ?_
 refine .vl (Y.pick rfl rfl rfl) ?_
 refine .vl (Y.assign rfl rfl) ?_
 refine AOps.nil ?_
 refine AWp.ret ?_
 exact ⟨_, _, rfl, rfl, (cg1 (fun (z0 : Bool) => X.v (.bool z0)) (by exfalso; simp_all : false = true) : X.v (.bool false) = X.v (.bool true)), rfl⟩
 refine .gs 11 rfl rfl rfl ?_
 refine .gs 11 rfl rfl rfl ?_
 refine .vl (Y.pick rfl rfl rfl) ?_
 refine .vl (Y.move rfl rfl) ?_
 refine .gs 15 rfl rfl rfl ?_
 refine .gs 15 rfl rfl rfl ?_
 refine .gs 15 rfl rfl rfl ?_
 refine .gs 15 rfl rfl rfl ?_
 refine .gs 15 rfl rfl rfl ?_
 refine .vl (Y.pick rfl rfl rfl) ?_
 refine .vl (Y.move rfl rfl) ?_
 refine .gs 22 rfl rfl rfl ?_
 refine .gs 22 rfl rfl rfl ?_
 refine .gs 22 rfl rfl rfl ?_
 refine .vl (Y.pick rfl rfl rfl) ?_
 refine .vl (Y.assign rfl rfl) ?_
 refine AOps.nil ?_
 refine AWp.ret ?_
 exact ⟨_, _, rfl, rfl, (cg1 (fun (z0 : Bool) => X.v (.bool z0)) (by exfalso; simp_all : false = true) : X.v (.bool false) = X.v (.bool true)), rfl⟩

set_option maxHeartbeats 1000000 in
theorem netlistChecks_spec {n : Netlist} (hs : n.Small) : ACalls Try.prog 3 [.agg (Netlist.row n)] [] [] (fun r o => r = .v (.bool true) ∧ o = []) := by
 refine ACalls.of Try.func3 rfl rfl rfl (n := 23) (by decide) (Nat.le_of_ble_eq_true rfl) ?_
 have hs4 := hs.ins
 refine AWp.sr ?_
 refine AOps.box 101 rfl rfl rfl rfl rfl (by decide) ?_
 refine .vl (Y.assign rfl rfl) ?_
 refine AOps.nil ?_
 refine AWp.seq ?_
 refine AWp.sr ?_
 refine AOps.callP ok15 (awake_spec) rfl .nil (by decide) rfl ?_
 refine .vl (Y.not rfl) ?_
 refine .vl (Y.move rfl rfl) ?_
 refine .gv 5 rfl rfl (Y.fieldAddr fl27_2 rfl rfl) ?_
 refine .gv 5 rfl rfl (Y.load sh23 rfl rfl rfl rfl) ?_
 refine .gv 5 rfl rfl (Y.len (n := n.cells.length) sl23 rfl (congrArg some (List.length_map ..))) ?_
 refine .gv 5 rfl rfl (Y.gtr rfl rfl) ?_
 refine .vl (Y.pick rfl rfl rfl) ?_
 refine .vl (Y.move rfl rfl) ?_
 refine AOps.splitD (d := 11) rfl (fun c11 => ?_) (fun c11 => ?_)
 refine .gs 11 rfl rfl rfl ?_
 refine .gs 11 rfl rfl rfl ?_
 refine .gs 11 rfl rfl rfl ?_
 refine .gs 11 rfl rfl rfl ?_
 refine .vl (Y.pick rfl rfl rfl) ?_
 refine AOps.nil ?_
 refine AWp.condT rfl ?_
 refine AWp.sr ?_
 refine AOps.callP ok15 (awake_spec) rfl .nil (by decide) rfl ?_
 refine .vl (Y.assign rfl rfl) ?_
 refine AOps.nil ?_
 refine AWp.ret ?_
 exact ⟨_, _, rfl, rfl, (cg1 (fun (z0 : Bool) => X.v (.bool z0)) (rfl : true = true) : X.v (.bool true) = X.v (.bool true)), rfl⟩
 refine .gv 11 rfl rfl (Y.fieldAddr fl27_1 rfl rfl) ?_
 refine .gv 11 rfl rfl (Y.load sh22 rfl rfl rfl rfl) ?_
 refine .gv 11 rfl rfl (Y.len (n := n.widths.length) sl22 rfl (congrArg some (List.length_map ..))) ?_
 refine .gv 11 rfl rfl (Y.gtr rfl rfl) ?_
 refine .vl (Y.pick rfl rfl rfl) ?_
 refine AOps.nil ?_
 refine AWp.condD rfl (fun c16 => ?_) (fun c16 => ?_)
 refine AWp.sr ?_
 refine AOps.callP ok15 (awake_spec) rfl .nil (by decide) rfl ?_
 refine .vl (Y.assign rfl rfl) ?_
 refine AOps.nil ?_
 refine AWp.ret ?_
 exact ⟨_, _, rfl, rfl, (cg1 (fun (z0 : Bool) => X.v (.bool z0)) (rfl : true = true) : X.v (.bool true) = X.v (.bool true)), rfl⟩
 refine AWp.skip ?_
 refine AWp.seq ?_
 refine AWp.regionAny rfl ?_
 refine AAny.two 0 2 rfl rfl (by kernel_rfl) ?_ ?_
 refine .vl (Y.loadA sh27 rfl rfl (Nat.le_of_ble_eq_true rfl) rfl rfl) ?_
 refine AOps.nil ⟨rfl, ?_⟩
 refine AAny.two 1 2 rfl rfl (by kernel_rfl) ?_ ?_
 refine AOps.callP ok16 (check_spec (n := n) hs ((by first | omega | simp [-List.getD_eq_getElem?_getD] <;> omega))) rfl (.keep rfl rfl .nil) (by decide) rfl ?_
 refine AOps.nil ⟨rfl, ?_⟩
 refine AAny.quietN (n := 3) [2] [3, 4, 5] 3 rfl (by kernel_rfl) ?_
 refine .cn 2 rfl (Y.loadA sh27 rfl rfl (Nat.le_of_ble_eq_true rfl) rfl rfl) ?_
 refine AQ.nil ?_
 refine AAny.one 3 rfl (by kernel_rfl) ?_
 refine AOps.callP ok17 (refCheck_spec (n := n) hs) rfl (.keep rfl rfl .nil) (by decide) rfl ?_
 refine AOps.nil ⟨rfl, ?_⟩
 refine AAny.quietN (n := 0) [4, 5] [] 0 rfl (by kernel_rfl) ?_
 refine .cn 4 rfl (Y.eql rfl rfl) ?_
 refine .cn 5 rfl (Y.assign rfl rfl) ?_
 refine AQ.nil ?_
 refine AAny.done (by kernel_rfl) ?_
 refine AWp.ret ?_
 exact ⟨_, _, rfl, rfl, (cg1 (fun (z0 : Bool) => X.v (.bool z0)) (by simp : (decide ((errOf n) = (errOf n))) = true) : X.v (.bool (decide ((errOf n) = (errOf n)))) = X.v (.bool true)), rfl⟩
 refine .vl (Y.loadA sh27 rfl rfl (Nat.le_of_ble_eq_true rfl) rfl rfl) ?_
 refine AOps.nil ⟨rfl, ?_⟩
 refine AAny.one 1 rfl (by kernel_rfl) ?_
 refine AOps.callP ok16 (check_spec (n := n) hs ((by first | omega | simp [-List.getD_eq_getElem?_getD] <;> omega))) rfl (.keep rfl rfl .nil) (by decide) rfl ?_
 refine AOps.nil ⟨rfl, ?_⟩
 refine AAny.one 3 rfl (by kernel_rfl) ?_
 refine AOps.callP ok17 (refCheck_spec (n := n) hs) rfl (.keep rfl rfl .nil) (by decide) rfl ?_
 refine AOps.nil ⟨rfl, ?_⟩
 refine AAny.quietN (n := 0) [4, 5] [] 0 rfl (by kernel_rfl) ?_
 refine .cn 4 rfl (Y.eql rfl rfl) ?_
 refine .cn 5 rfl (Y.assign rfl rfl) ?_
 refine AQ.nil ?_
 refine AAny.done (by kernel_rfl) ?_
 refine AWp.ret ?_
 exact ⟨_, _, rfl, rfl, (cg1 (fun (z0 : Bool) => X.v (.bool z0)) (by simp : (decide ((errOf n) = (errOf n))) = true) : X.v (.bool (decide ((errOf n) = (errOf n)))) = X.v (.bool true)), rfl⟩
 refine .vl (Y.loadA sh27 rfl rfl (Nat.le_of_ble_eq_true rfl) rfl rfl) ?_
 refine AOps.nil ⟨rfl, ?_⟩
 refine AAny.quietN (n := 4) [0] [1, 3, 4, 5] 1 rfl (by kernel_rfl) ?_
 refine .cn 0 rfl (Y.loadA sh27 rfl rfl (Nat.le_of_ble_eq_true rfl) rfl rfl) ?_
 refine AQ.nil ?_
 refine AAny.one 1 rfl (by kernel_rfl) ?_
 refine AOps.callP ok16 (check_spec (n := n) hs ((by first | omega | simp [-List.getD_eq_getElem?_getD] <;> omega))) rfl (.keep rfl rfl .nil) (by decide) rfl ?_
 refine AOps.nil ⟨rfl, ?_⟩
 refine AAny.one 3 rfl (by kernel_rfl) ?_
 refine AOps.callP ok17 (refCheck_spec (n := n) hs) rfl (.keep rfl rfl .nil) (by decide) rfl ?_
 refine AOps.nil ⟨rfl, ?_⟩
 refine AAny.quietN (n := 0) [4, 5] [] 0 rfl (by kernel_rfl) ?_
 refine .cn 4 rfl (Y.eql rfl rfl) ?_
 refine .cn 5 rfl (Y.assign rfl rfl) ?_
 refine AQ.nil ?_
 refine AAny.done (by kernel_rfl) ?_
 refine AWp.ret ?_
 exact ⟨_, _, rfl, rfl, (cg1 (fun (z0 : Bool) => X.v (.bool z0)) (by simp : (decide ((errOf n) = (errOf n))) = true) : X.v (.bool (decide ((errOf n) = (errOf n)))) = X.v (.bool true)), rfl⟩

end Go.Proofs.Ytjnpbojdjipboaa
