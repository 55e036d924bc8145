/- The walk of NetlistSame. -/
import Derived.Test.YtligpghohcfpnaaNetx0
import Derived.Test.YtligpghohcfpnaaNetx2
set_option linter.unusedSimpArgs false
set_option linter.unusedVariables false
set_option linter.unusedSectionVars false
namespace Go.Proofs.Ytligpghohcfpnaa
open Go Go.AW Go.Proofs



set_option maxRecDepth 4000 in
set_option maxHeartbeats 8000000 in
theorem netlistSame_spec {n : Netlist} {k : Nat} (hs : n.Mid) : ACalls Try.prog 6 [.agg (Netlist.row n), .v (.int .u8 (k : Int))] [] [] (fun r o => r = .v (.bool true) ∧ o = []) := by
 refine ACalls.of Try.func6 rfl rfl rfl (n := 141) (by decide) (Nat.le_of_ble_eq_true rfl) ?_
 have hxB := xB_size; have hL := hs.lens; have f0 := hs.name; have f1 := hs.widths; have f2 := hs.cells; have f3 := hs.ins; have f4 := hs.mems; have f5 := hs.streams; have f6 := hs.active; have f7 := hs.data; have f8 := hs.rets
 refine AWp.sr ?_
 refine AOps.box 102 rfl rfl rfl rfl rfl (by decide) ?_
 refine .vl (Y.assign rfl rfl) ?_
 refine AOps.nil ?_
 refine AWp.seq ?_
 refine AWp.sr ?_
 refine AOps.callP ok15 (awake_spec) rfl .nil (by decide) rfl ?_
 refine .vl (Y.not rfl) ?_
 refine AOps.nil ?_
 refine AWp.condF rfl ?_
 refine AWp.skip ?_
 refine AWp.sr ?_
 refine .vl (Y.loadA sh27 rfl rfl (Nat.le_of_ble_eq_true rfl) rfl rfl) ?_
 refine AOps.alloc 105 ze27 rfl rfl (by decide) ?_
 refine AOps.storeC si27 rfl rfl rfl rfl rfl rfl (Nat.le_of_ble_eq_true rfl) rfl ?_
 refine AOps.nil ?_
 refine AWp.seq ?_
 refine AWp.sr ?_
 refine .vl (Y.move rfl rfl) ?_
 refine .vl (Y.remI rfl rfl (by first | omega | (rw [show (⟨#[120]⟩ : ByteArray).size = 1 from rfl]; omega) | (simp [-List.getD_eq_getElem?_getD]; done) | (simp [-List.getD_eq_getElem?_getD]; omega))) ?_
 refine AOps.nil ?_
 refine AWp.block ?_
 refine AWp.sr ?_
 refine .vl (Y.eql rfl rfl) ?_
 refine .vl (Y.assign rfl rfl) ?_
 refine AOps.nil ?_
 refine AWp.condD rfl (fun c52 => ?_) (fun c52 => ?_)
 refine AWp.region ?_
 refine .vl (Y.fieldAddr fl27_0 rfl rfl) ?_
 refine .vl (Y.load sh9 rfl rfl rfl rfl) ?_
 refine .vl (Y.addS rfl rfl (by first | omega | (rw [show (⟨#[120]⟩ : ByteArray).size = 1 from rfl]; omega) | (simp [-List.getD_eq_getElem?_getD]; done) | (simp [-List.getD_eq_getElem?_getD]; omega))) ?_
 refine .vl (Y.fieldAddr fl27_0 rfl rfl) ?_
 refine AOps.storeC si9 rfl rfl rfl rfl rfl rfl (Nat.le_of_ble_eq_true rfl) rfl ?_
 refine AOps.nil ?_
 refine AWp.sr ?_
 refine .vl (Y.loadA sh27 rfl rfl (Nat.le_of_ble_eq_true rfl) rfl rfl) ?_
 refine .vl (Y.loadA sh27 rfl rfl (Nat.le_of_ble_eq_true rfl) rfl rfl) ?_
 refine AOps.callP ok24 (same_spec (a := n) (b := n) (by first | exact hL | (constructor <;> (try simp only [List.length_append, List.length_cons, List.length_nil]) <;> first | omega | exact hL.args | exact args_app hL.args rfl | exact hA9)) (by first | exact hL | (constructor <;> (try simp only [List.length_append, List.length_cons, List.length_nil]) <;> first | omega | exact hL.args | exact args_app hL.args rfl | exact hA9))) rfl (.keep rfl rfl (.keep rfl rfl .nil)) (by decide) rfl ?_
 refine .vl (Y.move rfl rfl) ?_
 refine AOps.splitD (d := 129) rfl (fun c129 => ?_) (fun c129 => ?_)
 refine .gv 129 rfl rfl (Y.loadA sh27 rfl rfl (Nat.le_of_ble_eq_true rfl) rfl rfl) ?_
 refine .gv 129 rfl rfl (Y.loadA sh27 rfl rfl (Nat.le_of_ble_eq_true rfl) rfl rfl) ?_
 refine AOps.guardRun (d := 129) rfl (by decide) rfl ?_
 refine AOps.callP ok24 (same_spec (a := n) (b := (⟨n.name ++ xB, n.widths, n.cells, n.ins, n.mems, n.streams, n.active, n.data, n.freeze, n.done, n.rets⟩ : Netlist)) (by first | exact hL | (constructor <;> (try simp only [List.length_append, List.length_cons, List.length_nil]) <;> first | omega | exact hL.args | exact args_app hL.args rfl | exact hA9)) (by first | exact hL | (constructor <;> (try simp only [List.length_append, List.length_cons, List.length_nil]) <;> first | omega | exact hL.args | exact args_app hL.args rfl | exact hA9))) rfl (.keep rfl rfl (.keep rfl rfl .nil)) (by decide) rfl ?_
 refine .gv 129 rfl rfl (Y.not rfl) ?_
 refine .vl (Y.pick rfl rfl rfl) ?_
 refine .vl (Y.move rfl rfl) ?_
 refine AOps.split (d := 135) rfl (fun c135 => ?_) (fun c135 => ?_)
 replace c135 : ¬ (SameP n (⟨n.name ++ xB, n.widths, n.cells, n.ins, n.mems, n.streams, n.active, n.data, n.freeze, n.done, n.rets⟩ : Netlist)) := by simpa using c135
 refine .gv 135 rfl rfl (Y.loadA sh27 rfl rfl (Nat.le_of_ble_eq_true rfl) rfl rfl) ?_
 refine .gv 135 rfl rfl (Y.loadA sh27 rfl rfl (Nat.le_of_ble_eq_true rfl) rfl rfl) ?_
 refine AOps.guardRun (d := 135) rfl (by decide) rfl ?_
 refine AOps.callP ok24 (same_spec (a := (⟨n.name ++ xB, n.widths, n.cells, n.ins, n.mems, n.streams, n.active, n.data, n.freeze, n.done, n.rets⟩ : Netlist)) (b := n) (by first | exact hL | (constructor <;> (try simp only [List.length_append, List.length_cons, List.length_nil]) <;> first | omega | exact hL.args | exact args_app hL.args rfl | exact hA9)) (by first | exact hL | (constructor <;> (try simp only [List.length_append, List.length_cons, List.length_nil]) <;> first | omega | exact hL.args | exact args_app hL.args rfl | exact hA9))) rfl (.keep rfl rfl (.keep rfl rfl .nil)) (by decide) rfl ?_
 refine .gv 135 rfl rfl (Y.not rfl) ?_
 refine .vl (Y.pick rfl rfl rfl) ?_
 refine .vl (Y.assign rfl rfl) ?_
 refine AOps.nil ?_
 refine AWp.ret ?_
 exact ⟨_, _, rfl, rfl, (cg1 (fun (z0 : Bool) => X.v (.bool z0)) (by rw [decide_eq_false (notSame_of (by (try simp only [List.length_append, List.length_cons, List.length_nil, ByteArray.size_append, IntKind.wrap_i64]); first | omega | (simp; done) | (simp; omega)))]; rfl : (!decide (SameP (⟨n.name ++ xB, n.widths, n.cells, n.ins, n.mems, n.streams, n.active, n.data, n.freeze, n.done, n.rets⟩ : Netlist) n)) = true) : X.v (.bool (!decide (SameP (⟨n.name ++ xB, n.widths, n.cells, n.ins, n.mems, n.streams, n.active, n.data, n.freeze, n.done, n.rets⟩ : Netlist) n))) = X.v (.bool true)), rfl⟩
 exact absurd c135 (by rw [decide_eq_false (by first | exact (notSame_last' (a := n) (by omega) hnl (fun j hj => hq j (by have hj2 : j < n305_7.length := hj; omega))).1 | exact notSame_of (by (try simp only [List.length_append, List.length_cons, List.length_nil, ByteArray.size_append, IntKind.wrap_i64]); first | omega | (simp; done) | (simp; omega)))]; decide)
 exact absurd (SameP.self _) (by assumption)
 refine AWp.sr ?_
 refine .vl (Y.eql rfl rfl) ?_
 refine .vl (Y.assign rfl rfl) ?_
 refine AOps.nil ?_
 refine AWp.condD rfl (fun c58 => ?_) (fun c58 => ?_)
 refine AWp.region ?_
 refine AOps.buildSlice (([] : List Int).map irow) sl22 ze3 rfl rfl rfl rfl rfl (uniform_map (s := 1) (f := irow) (fun _ => rfl)) rfl rfl rfl (by decide) ?_
 refine .vl (Y.fieldAddr fl27_1 rfl rfl) ?_
 refine .vl (Y.load sh22 rfl rfl rfl rfl) ?_
 refine AOps.sh (Sh.adoptE (d := 60) (n := ([] : List Int).length) 160 (([] : List Int).map irow) rfl (by first | rfl | exact rep_map rfl) (len_map rfl) (by decide)) ?_
 refine AOps.appendFE ((([] : List Int) ++ n.widths).map irow) (([] : List Int) ++ n.widths).length sl22 ze3 rfl rfl rfl rfl (app_le (by first | omega | (rw [show (⟨#[120]⟩ : ByteArray).size = 1 from rfl]; omega) | (simp [-List.getD_eq_getElem?_getD]; done) | (simp [-List.getD_eq_getElem?_getD]; omega))) (app_map (by first | omega | (rw [show (⟨#[120]⟩ : ByteArray).size = 1 from rfl]; omega) | (simp [-List.getD_eq_getElem?_getD]; done) | (simp [-List.getD_eq_getElem?_getD]; omega))) (app_n (by first | omega | (rw [show (⟨#[120]⟩ : ByteArray).size = 1 from rfl]; omega) | (simp [-List.getD_eq_getElem?_getD]; done) | (simp [-List.getD_eq_getElem?_getD]; omega))) (by first | omega | (rw [show (⟨#[120]⟩ : ByteArray).size = 1 from rfl]; omega) | (simp [-List.getD_eq_getElem?_getD]; done) | (simp [-List.getD_eq_getElem?_getD]; omega)) (by first | omega | (rw [show (⟨#[120]⟩ : ByteArray).size = 1 from rfl]; omega) | (simp [-List.getD_eq_getElem?_getD]; done) | (simp [-List.getD_eq_getElem?_getD]; omega)) (by decide) (by decide) ?_
 refine AOps.buildSlice (([3] : List Int).map irow) sl22 ze3 rfl rfl rfl rfl rfl (uniform_map (s := 1) (f := irow) (fun _ => rfl)) rfl rfl rfl (by decide) ?_
 refine AOps.appendE (((([] : List Int) ++ n.widths) ++ ([3] : List Int)).map irow) ((([] : List Int) ++ n.widths) ++ ([3] : List Int)).length sl22 ze3 rfl rfl rfl rfl (app_le (by first | omega | (rw [show (⟨#[120]⟩ : ByteArray).size = 1 from rfl]; omega) | (simp [-List.getD_eq_getElem?_getD]; done) | (simp [-List.getD_eq_getElem?_getD]; omega))) (app_map (by first | omega | (rw [show (⟨#[120]⟩ : ByteArray).size = 1 from rfl]; omega) | (simp [-List.getD_eq_getElem?_getD]; done) | (simp [-List.getD_eq_getElem?_getD]; omega))) (app_n (by first | omega | (rw [show (⟨#[120]⟩ : ByteArray).size = 1 from rfl]; omega) | (simp [-List.getD_eq_getElem?_getD]; done) | (simp [-List.getD_eq_getElem?_getD]; omega))) (by first | omega | (rw [show (⟨#[120]⟩ : ByteArray).size = 1 from rfl]; omega) | (simp [-List.getD_eq_getElem?_getD]; done) | (simp [-List.getD_eq_getElem?_getD]; omega)) (by first | omega | (rw [show (⟨#[120]⟩ : ByteArray).size = 1 from rfl]; omega) | (simp [-List.getD_eq_getElem?_getD]; done) | (simp [-List.getD_eq_getElem?_getD]; omega)) (by decide) (by decide) ?_
 refine .vl (Y.fieldAddr fl27_1 rfl rfl) ?_
 refine AOps.storeC si22 rfl rfl rfl rfl rfl rfl (Nat.le_of_ble_eq_true rfl) rfl ?_
 refine AOps.nil ?_
 refine AWp.seq ?_
 refine AWp.sh (Sh.fzObj 105 160 1 rfl rfl rfl (len_map (by first | omega | (rw [show (⟨#[120]⟩ : ByteArray).size = 1 from rfl]; omega) | (simp [-List.getD_eq_getElem?_getD]; done) | (simp [-List.getD_eq_getElem?_getD]; omega))) (Frees.map irow_frees) (by decide) rfl rfl rfl) ?_
 refine AWp.region ?_
 refine .vl (Y.loadA sh27 rfl rfl (Nat.le_of_ble_eq_true rfl) rfl rfl) ?_
 refine .vl (Y.loadA sh27 rfl rfl (Nat.le_of_ble_eq_true rfl) rfl rfl) ?_
 refine AOps.callP ok24 (same_spec (a := n) (b := n) (by first | exact hL | (constructor <;> (try simp only [List.length_append, List.length_cons, List.length_nil]) <;> first | omega | exact hL.args | exact args_app hL.args rfl | exact hA9)) (by first | exact hL | (constructor <;> (try simp only [List.length_append, List.length_cons, List.length_nil]) <;> first | omega | exact hL.args | exact args_app hL.args rfl | exact hA9))) rfl (.keep rfl rfl (.keep rfl rfl .nil)) (by decide) rfl ?_
 refine .vl (Y.move rfl rfl) ?_
 refine AOps.splitD (d := 129) rfl (fun c129 => ?_) (fun c129 => ?_)
 refine .gv 129 rfl rfl (Y.loadA sh27 rfl rfl (Nat.le_of_ble_eq_true rfl) rfl rfl) ?_
 refine .gv 129 rfl rfl (Y.loadA sh27 rfl rfl (Nat.le_of_ble_eq_true rfl) rfl rfl) ?_
 refine AOps.guardRun (d := 129) rfl (by decide) rfl ?_
 refine AOps.callP ok24 (same_spec (a := n) (b := (⟨n.name, (([] : List Int) ++ n.widths) ++ ([3] : List Int), n.cells, n.ins, n.mems, n.streams, n.active, n.data, n.freeze, n.done, n.rets⟩ : Netlist)) (by first | exact hL | (constructor <;> (try simp only [List.length_append, List.length_cons, List.length_nil]) <;> first | omega | exact hL.args | exact args_app hL.args rfl | exact hA9)) (by first | exact hL | (constructor <;> (try simp only [List.length_append, List.length_cons, List.length_nil]) <;> first | omega | exact hL.args | exact args_app hL.args rfl | exact hA9))) rfl (.keep rfl rfl (.keep rfl rfl .nil)) (by decide) rfl ?_
 refine .gv 129 rfl rfl (Y.not rfl) ?_
 refine .vl (Y.pick rfl rfl rfl) ?_
 refine .vl (Y.move rfl rfl) ?_
 refine AOps.split (d := 135) rfl (fun c135 => ?_) (fun c135 => ?_)
 replace c135 : ¬ (SameP n (⟨n.name, (([] : List Int) ++ n.widths) ++ ([3] : List Int), n.cells, n.ins, n.mems, n.streams, n.active, n.data, n.freeze, n.done, n.rets⟩ : Netlist)) := by simpa using c135
 refine .gv 135 rfl rfl (Y.loadA sh27 rfl rfl (Nat.le_of_ble_eq_true rfl) rfl rfl) ?_
 refine .gv 135 rfl rfl (Y.loadA sh27 rfl rfl (Nat.le_of_ble_eq_true rfl) rfl rfl) ?_
 refine AOps.guardRun (d := 135) rfl (by decide) rfl ?_
 refine AOps.callP ok24 (same_spec (a := (⟨n.name, (([] : List Int) ++ n.widths) ++ ([3] : List Int), n.cells, n.ins, n.mems, n.streams, n.active, n.data, n.freeze, n.done, n.rets⟩ : Netlist)) (b := n) (by first | exact hL | (constructor <;> (try simp only [List.length_append, List.length_cons, List.length_nil]) <;> first | omega | exact hL.args | exact args_app hL.args rfl | exact hA9)) (by first | exact hL | (constructor <;> (try simp only [List.length_append, List.length_cons, List.length_nil]) <;> first | omega | exact hL.args | exact args_app hL.args rfl | exact hA9))) rfl (.keep rfl rfl (.keep rfl rfl .nil)) (by decide) rfl ?_
 refine .gv 135 rfl rfl (Y.not rfl) ?_
 refine .vl (Y.pick rfl rfl rfl) ?_
 refine .vl (Y.assign rfl rfl) ?_
 refine AOps.nil ?_
 refine AWp.ret ?_
 exact ⟨_, _, rfl, rfl, (cg1 (fun (z0 : Bool) => X.v (.bool z0)) (by rw [decide_eq_false (notSame_of (by (try simp only [List.length_append, List.length_cons, List.length_nil, ByteArray.size_append, IntKind.wrap_i64]); first | omega | (simp; done) | (simp; omega)))]; rfl : (!decide (SameP (⟨n.name, (([] : List Int) ++ n.widths) ++ ([3] : List Int), n.cells, n.ins, n.mems, n.streams, n.active, n.data, n.freeze, n.done, n.rets⟩ : Netlist) n)) = true) : X.v (.bool (!decide (SameP (⟨n.name, (([] : List Int) ++ n.widths) ++ ([3] : List Int), n.cells, n.ins, n.mems, n.streams, n.active, n.data, n.freeze, n.done, n.rets⟩ : Netlist) n))) = X.v (.bool true)), rfl⟩
 exact absurd c135 (by rw [decide_eq_false (by first | exact (notSame_last' (a := n) (by omega) hnl (fun j hj => hq j (by have hj2 : j < n305_7.length := hj; omega))).1 | exact notSame_of (by (try simp only [List.length_append, List.length_cons, List.length_nil, ByteArray.size_append, IntKind.wrap_i64]); first | omega | (simp; done) | (simp; omega)))]; decide)
 exact absurd (SameP.self _) (by assumption)
 refine AWp.sr ?_
 refine .vl (Y.eql rfl rfl) ?_
 refine .vl (Y.assign rfl rfl) ?_
 refine AOps.nil ?_
 refine AWp.condD rfl (fun c67 => ?_) (fun c67 => ?_)
 refine AWp.region ?_
 refine AOps.buildSlice (([] : List Cell).map Cell.row) sl23 ze39 rfl rfl rfl rfl rfl (uniform_map (s := 6) (f := Cell.row) (fun _ => rfl)) rfl rfl rfl (by decide) ?_
 refine .vl (Y.fieldAddr fl27_2 rfl rfl) ?_
 refine .vl (Y.load sh23 rfl rfl rfl rfl) ?_
 refine AOps.sh (Sh.adoptE (d := 69) (n := ([] : List Cell).length) 169 (([] : List Cell).map Cell.row) rfl (by first | rfl | exact rep_map rfl) (len_map rfl) (by decide)) ?_
 refine AOps.appendFE ((([] : List Cell) ++ n.cells).map Cell.row) (([] : List Cell) ++ n.cells).length sl23 ze39 rfl rfl rfl rfl (app_le (by first | omega | (rw [show (⟨#[120]⟩ : ByteArray).size = 1 from rfl]; omega) | (simp [-List.getD_eq_getElem?_getD]; done) | (simp [-List.getD_eq_getElem?_getD]; omega))) (app_map (by first | omega | (rw [show (⟨#[120]⟩ : ByteArray).size = 1 from rfl]; omega) | (simp [-List.getD_eq_getElem?_getD]; done) | (simp [-List.getD_eq_getElem?_getD]; omega))) (app_n (by first | omega | (rw [show (⟨#[120]⟩ : ByteArray).size = 1 from rfl]; omega) | (simp [-List.getD_eq_getElem?_getD]; done) | (simp [-List.getD_eq_getElem?_getD]; omega))) (by first | omega | (rw [show (⟨#[120]⟩ : ByteArray).size = 1 from rfl]; omega) | (simp [-List.getD_eq_getElem?_getD]; done) | (simp [-List.getD_eq_getElem?_getD]; omega)) (by first | omega | (rw [show (⟨#[120]⟩ : ByteArray).size = 1 from rfl]; omega) | (simp [-List.getD_eq_getElem?_getD]; done) | (simp [-List.getD_eq_getElem?_getD]; omega)) (by decide) (by decide) ?_
 refine .vl (Y.build pl39 ze39 rfl rfl rfl) ?_
 refine AOps.sh (Sh.fzA (d := 73) 1 3 rfl rfl) ?_
 refine AOps.buildSlice (([(⟨0, 0, 0, ([] : List Int), 0, 0⟩ : Cell)] : List Cell).map Cell.row) sl23 ze39 rfl rfl rfl rfl rfl (uniform_map (s := 6) (f := Cell.row) (fun _ => rfl)) rfl rfl rfl (by decide) ?_
 refine AOps.appendE (((([] : List Cell) ++ n.cells) ++ ([(⟨0, 0, 0, ([] : List Int), 0, 0⟩ : Cell)] : List Cell)).map Cell.row) ((([] : List Cell) ++ n.cells) ++ ([(⟨0, 0, 0, ([] : List Int), 0, 0⟩ : Cell)] : List Cell)).length sl23 ze39 rfl rfl rfl rfl (app_le (by first | omega | (rw [show (⟨#[120]⟩ : ByteArray).size = 1 from rfl]; omega) | (simp [-List.getD_eq_getElem?_getD]; done) | (simp [-List.getD_eq_getElem?_getD]; omega))) (app_map (by first | omega | (rw [show (⟨#[120]⟩ : ByteArray).size = 1 from rfl]; omega) | (simp [-List.getD_eq_getElem?_getD]; done) | (simp [-List.getD_eq_getElem?_getD]; omega))) (app_n (by first | omega | (rw [show (⟨#[120]⟩ : ByteArray).size = 1 from rfl]; omega) | (simp [-List.getD_eq_getElem?_getD]; done) | (simp [-List.getD_eq_getElem?_getD]; omega))) (by first | omega | (rw [show (⟨#[120]⟩ : ByteArray).size = 1 from rfl]; omega) | (simp [-List.getD_eq_getElem?_getD]; done) | (simp [-List.getD_eq_getElem?_getD]; omega)) (by first | omega | (rw [show (⟨#[120]⟩ : ByteArray).size = 1 from rfl]; omega) | (simp [-List.getD_eq_getElem?_getD]; done) | (simp [-List.getD_eq_getElem?_getD]; omega)) (by decide) (by decide) ?_
 refine .vl (Y.fieldAddr fl27_2 rfl rfl) ?_
 refine AOps.storeC si23 rfl rfl rfl rfl rfl rfl (Nat.le_of_ble_eq_true rfl) rfl ?_
 refine AOps.nil ?_
 refine AWp.seq ?_
 refine AWp.sh (Sh.fzObj 105 169 2 rfl rfl rfl (len_map (by first | omega | (rw [show (⟨#[120]⟩ : ByteArray).size = 1 from rfl]; omega) | (simp [-List.getD_eq_getElem?_getD]; done) | (simp [-List.getD_eq_getElem?_getD]; omega))) (Frees.map Cell.row_frees) (by decide) rfl rfl rfl) ?_
 refine AWp.region ?_
 refine .vl (Y.loadA sh27 rfl rfl (Nat.le_of_ble_eq_true rfl) rfl rfl) ?_
 refine .vl (Y.loadA sh27 rfl rfl (Nat.le_of_ble_eq_true rfl) rfl rfl) ?_
 refine AOps.callP ok24 (same_spec (a := n) (b := n) (by first | exact hL | (constructor <;> (try simp only [List.length_append, List.length_cons, List.length_nil]) <;> first | omega | exact hL.args | exact args_app hL.args rfl | exact hA9)) (by first | exact hL | (constructor <;> (try simp only [List.length_append, List.length_cons, List.length_nil]) <;> first | omega | exact hL.args | exact args_app hL.args rfl | exact hA9))) rfl (.keep rfl rfl (.keep rfl rfl .nil)) (by decide) rfl ?_
 refine .vl (Y.move rfl rfl) ?_
 refine AOps.splitD (d := 129) rfl (fun c129 => ?_) (fun c129 => ?_)
 refine .gv 129 rfl rfl (Y.loadA sh27 rfl rfl (Nat.le_of_ble_eq_true rfl) rfl rfl) ?_
 refine .gv 129 rfl rfl (Y.loadA sh27 rfl rfl (Nat.le_of_ble_eq_true rfl) rfl rfl) ?_
 refine AOps.guardRun (d := 129) rfl (by decide) rfl ?_
 refine AOps.callP ok24 (same_spec (a := n) (b := (⟨n.name, n.widths, (([] : List Cell) ++ n.cells) ++ ([(⟨0, 0, 0, ([] : List Int), 0, 0⟩ : Cell)] : List Cell), n.ins, n.mems, n.streams, n.active, n.data, n.freeze, n.done, n.rets⟩ : Netlist)) (by first | exact hL | (constructor <;> (try simp only [List.length_append, List.length_cons, List.length_nil]) <;> first | omega | exact hL.args | exact args_app hL.args rfl | exact hA9)) (by first | exact hL | (constructor <;> (try simp only [List.length_append, List.length_cons, List.length_nil]) <;> first | omega | exact hL.args | exact args_app hL.args rfl | exact hA9))) rfl (.keep rfl rfl (.keep rfl rfl .nil)) (by decide) rfl ?_
 refine .gv 129 rfl rfl (Y.not rfl) ?_
 refine .vl (Y.pick rfl rfl rfl) ?_
 refine .vl (Y.move rfl rfl) ?_
 refine AOps.split (d := 135) rfl (fun c135 => ?_) (fun c135 => ?_)
 replace c135 : ¬ (SameP n (⟨n.name, n.widths, (([] : List Cell) ++ n.cells) ++ ([(⟨0, 0, 0, ([] : List Int), 0, 0⟩ : Cell)] : List Cell), n.ins, n.mems, n.streams, n.active, n.data, n.freeze, n.done, n.rets⟩ : Netlist)) := by simpa using c135
 refine .gv 135 rfl rfl (Y.loadA sh27 rfl rfl (Nat.le_of_ble_eq_true rfl) rfl rfl) ?_
 refine .gv 135 rfl rfl (Y.loadA sh27 rfl rfl (Nat.le_of_ble_eq_true rfl) rfl rfl) ?_
 refine AOps.guardRun (d := 135) rfl (by decide) rfl ?_
 refine AOps.callP ok24 (same_spec (a := (⟨n.name, n.widths, (([] : List Cell) ++ n.cells) ++ ([(⟨0, 0, 0, ([] : List Int), 0, 0⟩ : Cell)] : List Cell), n.ins, n.mems, n.streams, n.active, n.data, n.freeze, n.done, n.rets⟩ : Netlist)) (b := n) (by first | exact hL | (constructor <;> (try simp only [List.length_append, List.length_cons, List.length_nil]) <;> first | omega | exact hL.args | exact args_app hL.args rfl | exact hA9)) (by first | exact hL | (constructor <;> (try simp only [List.length_append, List.length_cons, List.length_nil]) <;> first | omega | exact hL.args | exact args_app hL.args rfl | exact hA9))) rfl (.keep rfl rfl (.keep rfl rfl .nil)) (by decide) rfl ?_
 refine .gv 135 rfl rfl (Y.not rfl) ?_
 refine .vl (Y.pick rfl rfl rfl) ?_
 refine .vl (Y.assign rfl rfl) ?_
 refine AOps.nil ?_
 refine AWp.ret ?_
 exact ⟨_, _, rfl, rfl, (cg1 (fun (z0 : Bool) => X.v (.bool z0)) (by rw [decide_eq_false (notSame_of (by (try simp only [List.length_append, List.length_cons, List.length_nil, ByteArray.size_append, IntKind.wrap_i64]); first | omega | (simp; done) | (simp; omega)))]; rfl : (!decide (SameP (⟨n.name, n.widths, (([] : List Cell) ++ n.cells) ++ ([(⟨0, 0, 0, ([] : List Int), 0, 0⟩ : Cell)] : List Cell), n.ins, n.mems, n.streams, n.active, n.data, n.freeze, n.done, n.rets⟩ : Netlist) n)) = true) : X.v (.bool (!decide (SameP (⟨n.name, n.widths, (([] : List Cell) ++ n.cells) ++ ([(⟨0, 0, 0, ([] : List Int), 0, 0⟩ : Cell)] : List Cell), n.ins, n.mems, n.streams, n.active, n.data, n.freeze, n.done, n.rets⟩ : Netlist) n))) = X.v (.bool true)), rfl⟩
 exact absurd c135 (by rw [decide_eq_false (by first | exact (notSame_last' (a := n) (by omega) hnl (fun j hj => hq j (by have hj2 : j < n305_7.length := hj; omega))).1 | exact notSame_of (by (try simp only [List.length_append, List.length_cons, List.length_nil, ByteArray.size_append, IntKind.wrap_i64]); first | omega | (simp; done) | (simp; omega)))]; decide)
 exact absurd (SameP.self _) (by assumption)
 refine AWp.sr ?_
 refine .vl (Y.eql rfl rfl) ?_
 refine .vl (Y.assign rfl rfl) ?_
 refine AOps.nil ?_
 refine AWp.condD rfl (fun c77 => ?_) (fun c77 => ?_)
 refine AWp.region ?_
 refine .vl (Y.fieldAddr fl27_8 rfl rfl) ?_
 refine .vl (Y.load sh3 rfl rfl rfl rfl) ?_
 refine .vl (Y.add rfl rfl rfl) ?_
 refine .vl (Y.fieldAddr fl27_8 rfl rfl) ?_
 refine AOps.storeC si3 rfl rfl rfl rfl rfl rfl (Nat.le_of_ble_eq_true rfl) rfl ?_
 refine AOps.nil ?_
 refine AWp.sr ?_
 refine .vl (Y.loadA sh27 rfl rfl (Nat.le_of_ble_eq_true rfl) rfl rfl) ?_
 refine .vl (Y.loadA sh27 rfl rfl (Nat.le_of_ble_eq_true rfl) rfl rfl) ?_
 refine AOps.callP ok24 (same_spec (a := n) (b := n) (by first | exact hL | (constructor <;> (try simp only [List.length_append, List.length_cons, List.length_nil]) <;> first | omega | exact hL.args | exact args_app hL.args rfl | exact hA9)) (by first | exact hL | (constructor <;> (try simp only [List.length_append, List.length_cons, List.length_nil]) <;> first | omega | exact hL.args | exact args_app hL.args rfl | exact hA9))) rfl (.keep rfl rfl (.keep rfl rfl .nil)) (by decide) rfl ?_
 refine .vl (Y.move rfl rfl) ?_
 refine AOps.splitD (d := 129) rfl (fun c129 => ?_) (fun c129 => ?_)
 refine .gv 129 rfl rfl (Y.loadA sh27 rfl rfl (Nat.le_of_ble_eq_true rfl) rfl rfl) ?_
 refine .gv 129 rfl rfl (Y.loadA sh27 rfl rfl (Nat.le_of_ble_eq_true rfl) rfl rfl) ?_
 refine AOps.guardRun (d := 129) rfl (by decide) rfl ?_
 refine AOps.callP ok24 (same_spec (a := n) (b := (⟨n.name, n.widths, n.cells, n.ins, n.mems, n.streams, n.active, n.data, IntKind.i64.wrap (n.freeze + 1), n.done, n.rets⟩ : Netlist)) (by first | exact hL | (constructor <;> (try simp only [List.length_append, List.length_cons, List.length_nil]) <;> first | omega | exact hL.args | exact args_app hL.args rfl | exact hA9)) (by first | exact hL | (constructor <;> (try simp only [List.length_append, List.length_cons, List.length_nil]) <;> first | omega | exact hL.args | exact args_app hL.args rfl | exact hA9))) rfl (.keep rfl rfl (.keep rfl rfl .nil)) (by decide) rfl ?_
 refine .gv 129 rfl rfl (Y.not rfl) ?_
 refine .vl (Y.pick rfl rfl rfl) ?_
 refine .vl (Y.move rfl rfl) ?_
 refine AOps.split (d := 135) rfl (fun c135 => ?_) (fun c135 => ?_)
 replace c135 : ¬ (SameP n (⟨n.name, n.widths, n.cells, n.ins, n.mems, n.streams, n.active, n.data, IntKind.i64.wrap (n.freeze + 1), n.done, n.rets⟩ : Netlist)) := by simpa using c135
 refine .gv 135 rfl rfl (Y.loadA sh27 rfl rfl (Nat.le_of_ble_eq_true rfl) rfl rfl) ?_
 refine .gv 135 rfl rfl (Y.loadA sh27 rfl rfl (Nat.le_of_ble_eq_true rfl) rfl rfl) ?_
 refine AOps.guardRun (d := 135) rfl (by decide) rfl ?_
 refine AOps.callP ok24 (same_spec (a := (⟨n.name, n.widths, n.cells, n.ins, n.mems, n.streams, n.active, n.data, IntKind.i64.wrap (n.freeze + 1), n.done, n.rets⟩ : Netlist)) (b := n) (by first | exact hL | (constructor <;> (try simp only [List.length_append, List.length_cons, List.length_nil]) <;> first | omega | exact hL.args | exact args_app hL.args rfl | exact hA9)) (by first | exact hL | (constructor <;> (try simp only [List.length_append, List.length_cons, List.length_nil]) <;> first | omega | exact hL.args | exact args_app hL.args rfl | exact hA9))) rfl (.keep rfl rfl (.keep rfl rfl .nil)) (by decide) rfl ?_
 refine .gv 135 rfl rfl (Y.not rfl) ?_
 refine .vl (Y.pick rfl rfl rfl) ?_
 refine .vl (Y.assign rfl rfl) ?_
 refine AOps.nil ?_
 refine AWp.ret ?_
 exact ⟨_, _, rfl, rfl, (cg1 (fun (z0 : Bool) => X.v (.bool z0)) (by rw [decide_eq_false (notSame_of (by (try simp only [List.length_append, List.length_cons, List.length_nil, ByteArray.size_append, IntKind.wrap_i64]); first | omega | (simp; done) | (simp; omega)))]; rfl : (!decide (SameP (⟨n.name, n.widths, n.cells, n.ins, n.mems, n.streams, n.active, n.data, IntKind.i64.wrap (n.freeze + 1), n.done, n.rets⟩ : Netlist) n)) = true) : X.v (.bool (!decide (SameP (⟨n.name, n.widths, n.cells, n.ins, n.mems, n.streams, n.active, n.data, IntKind.i64.wrap (n.freeze + 1), n.done, n.rets⟩ : Netlist) n))) = X.v (.bool true)), rfl⟩
 exact absurd c135 (by rw [decide_eq_false (by first | exact (notSame_last' (a := n) (by omega) hnl (fun j hj => hq j (by have hj2 : j < n305_7.length := hj; omega))).1 | exact notSame_of (by (try simp only [List.length_append, List.length_cons, List.length_nil, ByteArray.size_append, IntKind.wrap_i64]); first | omega | (simp; done) | (simp; omega)))]; decide)
 exact absurd (SameP.self _) (by assumption)
 refine AWp.sr ?_
 refine .vl (Y.eql rfl rfl) ?_
 refine .vl (Y.assign rfl rfl) ?_
 refine AOps.nil ?_
 refine AWp.condD rfl (fun c83 => ?_) (fun c83 => ?_)
 refine AWp.region ?_
 refine .vl (Y.fieldAddr fl27_9 rfl rfl) ?_
 refine .vl (Y.load sh3 rfl rfl rfl rfl) ?_
 refine .vl (Y.sub rfl rfl rfl) ?_
 refine .vl (Y.fieldAddr fl27_9 rfl rfl) ?_
 refine AOps.storeC si3 rfl rfl rfl rfl rfl rfl (Nat.le_of_ble_eq_true rfl) rfl ?_
 refine AOps.nil ?_
 refine AWp.sr ?_
 refine .vl (Y.loadA sh27 rfl rfl (Nat.le_of_ble_eq_true rfl) rfl rfl) ?_
 refine .vl (Y.loadA sh27 rfl rfl (Nat.le_of_ble_eq_true rfl) rfl rfl) ?_
 refine AOps.callP ok24 (same_spec (a := n) (b := n) (by first | exact hL | (constructor <;> (try simp only [List.length_append, List.length_cons, List.length_nil]) <;> first | omega | exact hL.args | exact args_app hL.args rfl | exact hA9)) (by first | exact hL | (constructor <;> (try simp only [List.length_append, List.length_cons, List.length_nil]) <;> first | omega | exact hL.args | exact args_app hL.args rfl | exact hA9))) rfl (.keep rfl rfl (.keep rfl rfl .nil)) (by decide) rfl ?_
 refine .vl (Y.move rfl rfl) ?_
 refine AOps.splitD (d := 129) rfl (fun c129 => ?_) (fun c129 => ?_)
 refine .gv 129 rfl rfl (Y.loadA sh27 rfl rfl (Nat.le_of_ble_eq_true rfl) rfl rfl) ?_
 refine .gv 129 rfl rfl (Y.loadA sh27 rfl rfl (Nat.le_of_ble_eq_true rfl) rfl rfl) ?_
 refine AOps.guardRun (d := 129) rfl (by decide) rfl ?_
 refine AOps.callP ok24 (same_spec (a := n) (b := (⟨n.name, n.widths, n.cells, n.ins, n.mems, n.streams, n.active, n.data, n.freeze, IntKind.i64.wrap (n.done - 1), n.rets⟩ : Netlist)) (by first | exact hL | (constructor <;> (try simp only [List.length_append, List.length_cons, List.length_nil]) <;> first | omega | exact hL.args | exact args_app hL.args rfl | exact hA9)) (by first | exact hL | (constructor <;> (try simp only [List.length_append, List.length_cons, List.length_nil]) <;> first | omega | exact hL.args | exact args_app hL.args rfl | exact hA9))) rfl (.keep rfl rfl (.keep rfl rfl .nil)) (by decide) rfl ?_
 refine .gv 129 rfl rfl (Y.not rfl) ?_
 refine .vl (Y.pick rfl rfl rfl) ?_
 refine .vl (Y.move rfl rfl) ?_
 refine AOps.split (d := 135) rfl (fun c135 => ?_) (fun c135 => ?_)
 replace c135 : ¬ (SameP n (⟨n.name, n.widths, n.cells, n.ins, n.mems, n.streams, n.active, n.data, n.freeze, IntKind.i64.wrap (n.done - 1), n.rets⟩ : Netlist)) := by simpa using c135
 refine .gv 135 rfl rfl (Y.loadA sh27 rfl rfl (Nat.le_of_ble_eq_true rfl) rfl rfl) ?_
 refine .gv 135 rfl rfl (Y.loadA sh27 rfl rfl (Nat.le_of_ble_eq_true rfl) rfl rfl) ?_
 refine AOps.guardRun (d := 135) rfl (by decide) rfl ?_
 refine AOps.callP ok24 (same_spec (a := (⟨n.name, n.widths, n.cells, n.ins, n.mems, n.streams, n.active, n.data, n.freeze, IntKind.i64.wrap (n.done - 1), n.rets⟩ : Netlist)) (b := n) (by first | exact hL | (constructor <;> (try simp only [List.length_append, List.length_cons, List.length_nil]) <;> first | omega | exact hL.args | exact args_app hL.args rfl | exact hA9)) (by first | exact hL | (constructor <;> (try simp only [List.length_append, List.length_cons, List.length_nil]) <;> first | omega | exact hL.args | exact args_app hL.args rfl | exact hA9))) rfl (.keep rfl rfl (.keep rfl rfl .nil)) (by decide) rfl ?_
 refine .gv 135 rfl rfl (Y.not rfl) ?_
 refine .vl (Y.pick rfl rfl rfl) ?_
 refine .vl (Y.assign rfl rfl) ?_
 refine AOps.nil ?_
 refine AWp.ret ?_
 exact ⟨_, _, rfl, rfl, (cg1 (fun (z0 : Bool) => X.v (.bool z0)) (by rw [decide_eq_false (notSame_of (by (try simp only [List.length_append, List.length_cons, List.length_nil, ByteArray.size_append, IntKind.wrap_i64]); first | omega | (simp; done) | (simp; omega)))]; rfl : (!decide (SameP (⟨n.name, n.widths, n.cells, n.ins, n.mems, n.streams, n.active, n.data, n.freeze, IntKind.i64.wrap (n.done - 1), n.rets⟩ : Netlist) n)) = true) : X.v (.bool (!decide (SameP (⟨n.name, n.widths, n.cells, n.ins, n.mems, n.streams, n.active, n.data, n.freeze, IntKind.i64.wrap (n.done - 1), n.rets⟩ : Netlist) n))) = X.v (.bool true)), rfl⟩
 exact absurd c135 (by rw [decide_eq_false (by first | exact (notSame_last' (a := n) (by omega) hnl (fun j hj => hq j (by have hj2 : j < n305_7.length := hj; omega))).1 | exact notSame_of (by (try simp only [List.length_append, List.length_cons, List.length_nil, ByteArray.size_append, IntKind.wrap_i64]); first | omega | (simp; done) | (simp; omega)))]; decide)
 exact absurd (SameP.self _) (by assumption)
 refine AWp.sr ?_
 refine .vl (Y.eql rfl rfl) ?_
 refine .vl (Y.assign rfl rfl) ?_
 refine AOps.nil ?_
 refine AWp.condD rfl (fun c89 => ?_) (fun c89 => ?_)
 refine AWp.region ?_
 refine AOps.buildSlice (([] : List Int).map irow) sl22 ze3 rfl rfl rfl rfl rfl (uniform_map (s := 1) (f := irow) (fun _ => rfl)) rfl rfl rfl (by decide) ?_
 refine .vl (Y.fieldAddr fl27_10 rfl rfl) ?_
 refine .vl (Y.load sh22 rfl rfl rfl rfl) ?_
 refine AOps.sh (Sh.adoptE (d := 91) (n := ([] : List Int).length) 191 (([] : List Int).map irow) rfl (by first | rfl | exact rep_map rfl) (len_map rfl) (by decide)) ?_
 refine AOps.appendFE ((([] : List Int) ++ n.rets).map irow) (([] : List Int) ++ n.rets).length sl22 ze3 rfl rfl rfl rfl (app_le (by first | omega | (rw [show (⟨#[120]⟩ : ByteArray).size = 1 from rfl]; omega) | (simp [-List.getD_eq_getElem?_getD]; done) | (simp [-List.getD_eq_getElem?_getD]; omega))) (app_map (by first | omega | (rw [show (⟨#[120]⟩ : ByteArray).size = 1 from rfl]; omega) | (simp [-List.getD_eq_getElem?_getD]; done) | (simp [-List.getD_eq_getElem?_getD]; omega))) (app_n (by first | omega | (rw [show (⟨#[120]⟩ : ByteArray).size = 1 from rfl]; omega) | (simp [-List.getD_eq_getElem?_getD]; done) | (simp [-List.getD_eq_getElem?_getD]; omega))) (by first | omega | (rw [show (⟨#[120]⟩ : ByteArray).size = 1 from rfl]; omega) | (simp [-List.getD_eq_getElem?_getD]; done) | (simp [-List.getD_eq_getElem?_getD]; omega)) (by first | omega | (rw [show (⟨#[120]⟩ : ByteArray).size = 1 from rfl]; omega) | (simp [-List.getD_eq_getElem?_getD]; done) | (simp [-List.getD_eq_getElem?_getD]; omega)) (by decide) (by decide) ?_
 refine AOps.buildSlice (([0] : List Int).map irow) sl22 ze3 rfl rfl rfl rfl rfl (uniform_map (s := 1) (f := irow) (fun _ => rfl)) rfl rfl rfl (by decide) ?_
 refine AOps.appendE (((([] : List Int) ++ n.rets) ++ ([0] : List Int)).map irow) ((([] : List Int) ++ n.rets) ++ ([0] : List Int)).length sl22 ze3 rfl rfl rfl rfl (app_le (by first | omega | (rw [show (⟨#[120]⟩ : ByteArray).size = 1 from rfl]; omega) | (simp [-List.getD_eq_getElem?_getD]; done) | (simp [-List.getD_eq_getElem?_getD]; omega))) (app_map (by first | omega | (rw [show (⟨#[120]⟩ : ByteArray).size = 1 from rfl]; omega) | (simp [-List.getD_eq_getElem?_getD]; done) | (simp [-List.getD_eq_getElem?_getD]; omega))) (app_n (by first | omega | (rw [show (⟨#[120]⟩ : ByteArray).size = 1 from rfl]; omega) | (simp [-List.getD_eq_getElem?_getD]; done) | (simp [-List.getD_eq_getElem?_getD]; omega))) (by first | omega | (rw [show (⟨#[120]⟩ : ByteArray).size = 1 from rfl]; omega) | (simp [-List.getD_eq_getElem?_getD]; done) | (simp [-List.getD_eq_getElem?_getD]; omega)) (by first | omega | (rw [show (⟨#[120]⟩ : ByteArray).size = 1 from rfl]; omega) | (simp [-List.getD_eq_getElem?_getD]; done) | (simp [-List.getD_eq_getElem?_getD]; omega)) (by decide) (by decide) ?_
 refine .vl (Y.fieldAddr fl27_10 rfl rfl) ?_
 refine AOps.storeC si22 rfl rfl rfl rfl rfl rfl (Nat.le_of_ble_eq_true rfl) rfl ?_
 refine AOps.nil ?_
 refine AWp.seq ?_
 refine AWp.sh (Sh.fzObj 105 191 10 rfl rfl rfl (len_map (by first | omega | (rw [show (⟨#[120]⟩ : ByteArray).size = 1 from rfl]; omega) | (simp [-List.getD_eq_getElem?_getD]; done) | (simp [-List.getD_eq_getElem?_getD]; omega))) (Frees.map irow_frees) (by decide) rfl rfl rfl) ?_
 refine AWp.region ?_
 refine .vl (Y.loadA sh27 rfl rfl (Nat.le_of_ble_eq_true rfl) rfl rfl) ?_
 refine .vl (Y.loadA sh27 rfl rfl (Nat.le_of_ble_eq_true rfl) rfl rfl) ?_
 refine AOps.callP ok24 (same_spec (a := n) (b := n) (by first | exact hL | (constructor <;> (try simp only [List.length_append, List.length_cons, List.length_nil]) <;> first | omega | exact hL.args | exact args_app hL.args rfl | exact hA9)) (by first | exact hL | (constructor <;> (try simp only [List.length_append, List.length_cons, List.length_nil]) <;> first | omega | exact hL.args | exact args_app hL.args rfl | exact hA9))) rfl (.keep rfl rfl (.keep rfl rfl .nil)) (by decide) rfl ?_
 refine .vl (Y.move rfl rfl) ?_
 refine AOps.splitD (d := 129) rfl (fun c129 => ?_) (fun c129 => ?_)
 refine .gv 129 rfl rfl (Y.loadA sh27 rfl rfl (Nat.le_of_ble_eq_true rfl) rfl rfl) ?_
 refine .gv 129 rfl rfl (Y.loadA sh27 rfl rfl (Nat.le_of_ble_eq_true rfl) rfl rfl) ?_
 refine AOps.guardRun (d := 129) rfl (by decide) rfl ?_
 refine AOps.callP ok24 (same_spec (a := n) (b := (⟨n.name, n.widths, n.cells, n.ins, n.mems, n.streams, n.active, n.data, n.freeze, n.done, (([] : List Int) ++ n.rets) ++ ([0] : List Int)⟩ : Netlist)) (by first | exact hL | (constructor <;> (try simp only [List.length_append, List.length_cons, List.length_nil]) <;> first | omega | exact hL.args | exact args_app hL.args rfl | exact hA9)) (by first | exact hL | (constructor <;> (try simp only [List.length_append, List.length_cons, List.length_nil]) <;> first | omega | exact hL.args | exact args_app hL.args rfl | exact hA9))) rfl (.keep rfl rfl (.keep rfl rfl .nil)) (by decide) rfl ?_
 refine .gv 129 rfl rfl (Y.not rfl) ?_
 refine .vl (Y.pick rfl rfl rfl) ?_
 refine .vl (Y.move rfl rfl) ?_
 refine AOps.split (d := 135) rfl (fun c135 => ?_) (fun c135 => ?_)
 replace c135 : ¬ (SameP n (⟨n.name, n.widths, n.cells, n.ins, n.mems, n.streams, n.active, n.data, n.freeze, n.done, (([] : List Int) ++ n.rets) ++ ([0] : List Int)⟩ : Netlist)) := by simpa using c135
 refine .gv 135 rfl rfl (Y.loadA sh27 rfl rfl (Nat.le_of_ble_eq_true rfl) rfl rfl) ?_
 refine .gv 135 rfl rfl (Y.loadA sh27 rfl rfl (Nat.le_of_ble_eq_true rfl) rfl rfl) ?_
 refine AOps.guardRun (d := 135) rfl (by decide) rfl ?_
 refine AOps.callP ok24 (same_spec (a := (⟨n.name, n.widths, n.cells, n.ins, n.mems, n.streams, n.active, n.data, n.freeze, n.done, (([] : List Int) ++ n.rets) ++ ([0] : List Int)⟩ : Netlist)) (b := n) (by first | exact hL | (constructor <;> (try simp only [List.length_append, List.length_cons, List.length_nil]) <;> first | omega | exact hL.args | exact args_app hL.args rfl | exact hA9)) (by first | exact hL | (constructor <;> (try simp only [List.length_append, List.length_cons, List.length_nil]) <;> first | omega | exact hL.args | exact args_app hL.args rfl | exact hA9))) rfl (.keep rfl rfl (.keep rfl rfl .nil)) (by decide) rfl ?_
 refine .gv 135 rfl rfl (Y.not rfl) ?_
 refine .vl (Y.pick rfl rfl rfl) ?_
 refine .vl (Y.assign rfl rfl) ?_
 refine AOps.nil ?_
 refine AWp.ret ?_
 exact ⟨_, _, rfl, rfl, (cg1 (fun (z0 : Bool) => X.v (.bool z0)) (by rw [decide_eq_false (notSame_of (by (try simp only [List.length_append, List.length_cons, List.length_nil, ByteArray.size_append, IntKind.wrap_i64]); first | omega | (simp; done) | (simp; omega)))]; rfl : (!decide (SameP (⟨n.name, n.widths, n.cells, n.ins, n.mems, n.streams, n.active, n.data, n.freeze, n.done, (([] : List Int) ++ n.rets) ++ ([0] : List Int)⟩ : Netlist) n)) = true) : X.v (.bool (!decide (SameP (⟨n.name, n.widths, n.cells, n.ins, n.mems, n.streams, n.active, n.data, n.freeze, n.done, (([] : List Int) ++ n.rets) ++ ([0] : List Int)⟩ : Netlist) n))) = X.v (.bool true)), rfl⟩
 exact absurd c135 (by rw [decide_eq_false (by first | exact (notSame_last' (a := n) (by omega) hnl (fun j hj => hq j (by have hj2 : j < n305_7.length := hj; omega))).1 | exact notSame_of (by (try simp only [List.length_append, List.length_cons, List.length_nil, ByteArray.size_append, IntKind.wrap_i64]); first | omega | (simp; done) | (simp; omega)))]; decide)
 exact absurd (SameP.self _) (by assumption)
 refine AWp.sr ?_
 refine .vl (Y.eql rfl rfl) ?_
 refine .vl (Y.assign rfl rfl) ?_
 refine AOps.nil ?_
 refine AWp.condD rfl (fun c98 => ?_) (fun c98 => ?_)
 refine AWp.region ?_
 refine AOps.buildSlice (([] : List Arr).map Arr.row) sl24 ze48 rfl rfl rfl rfl rfl (uniform_map (s := 5) (f := Arr.row) (fun _ => rfl)) rfl rfl rfl (by decide) ?_
 refine .vl (Y.fieldAddr fl27_4 rfl rfl) ?_
 refine .vl (Y.load sh24 rfl rfl rfl rfl) ?_
 refine AOps.sh (Sh.adoptE (d := 100) (n := ([] : List Arr).length) 200 (([] : List Arr).map Arr.row) rfl (by first | rfl | exact rep_map rfl) (len_map rfl) (by decide)) ?_
 refine AOps.appendFE ((([] : List Arr) ++ n.mems).map Arr.row) (([] : List Arr) ++ n.mems).length sl24 ze48 rfl rfl rfl rfl (app_le (by first | omega | (rw [show (⟨#[120]⟩ : ByteArray).size = 1 from rfl]; omega) | (simp [-List.getD_eq_getElem?_getD]; done) | (simp [-List.getD_eq_getElem?_getD]; omega))) (app_map (by first | omega | (rw [show (⟨#[120]⟩ : ByteArray).size = 1 from rfl]; omega) | (simp [-List.getD_eq_getElem?_getD]; done) | (simp [-List.getD_eq_getElem?_getD]; omega))) (app_n (by first | omega | (rw [show (⟨#[120]⟩ : ByteArray).size = 1 from rfl]; omega) | (simp [-List.getD_eq_getElem?_getD]; done) | (simp [-List.getD_eq_getElem?_getD]; omega))) (by first | omega | (rw [show (⟨#[120]⟩ : ByteArray).size = 1 from rfl]; omega) | (simp [-List.getD_eq_getElem?_getD]; done) | (simp [-List.getD_eq_getElem?_getD]; omega)) (by first | omega | (rw [show (⟨#[120]⟩ : ByteArray).size = 1 from rfl]; omega) | (simp [-List.getD_eq_getElem?_getD]; done) | (simp [-List.getD_eq_getElem?_getD]; omega)) (by decide) (by decide) ?_
 refine .vl (Y.build pl48 ze48 rfl rfl rfl) ?_
 refine AOps.buildSlice (([(⟨ByteArray.empty, 0, 0, 0, 0⟩ : Arr)] : List Arr).map Arr.row) sl24 ze48 rfl rfl rfl rfl rfl (uniform_map (s := 5) (f := Arr.row) (fun _ => rfl)) rfl rfl rfl (by decide) ?_
 refine AOps.appendE (((([] : List Arr) ++ n.mems) ++ ([(⟨ByteArray.empty, 0, 0, 0, 0⟩ : Arr)] : List Arr)).map Arr.row) ((([] : List Arr) ++ n.mems) ++ ([(⟨ByteArray.empty, 0, 0, 0, 0⟩ : Arr)] : List Arr)).length sl24 ze48 rfl rfl rfl rfl (app_le (by first | omega | (rw [show (⟨#[120]⟩ : ByteArray).size = 1 from rfl]; omega) | (simp [-List.getD_eq_getElem?_getD]; done) | (simp [-List.getD_eq_getElem?_getD]; omega))) (app_map (by first | omega | (rw [show (⟨#[120]⟩ : ByteArray).size = 1 from rfl]; omega) | (simp [-List.getD_eq_getElem?_getD]; done) | (simp [-List.getD_eq_getElem?_getD]; omega))) (app_n (by first | omega | (rw [show (⟨#[120]⟩ : ByteArray).size = 1 from rfl]; omega) | (simp [-List.getD_eq_getElem?_getD]; done) | (simp [-List.getD_eq_getElem?_getD]; omega))) (by first | omega | (rw [show (⟨#[120]⟩ : ByteArray).size = 1 from rfl]; omega) | (simp [-List.getD_eq_getElem?_getD]; done) | (simp [-List.getD_eq_getElem?_getD]; omega)) (by first | omega | (rw [show (⟨#[120]⟩ : ByteArray).size = 1 from rfl]; omega) | (simp [-List.getD_eq_getElem?_getD]; done) | (simp [-List.getD_eq_getElem?_getD]; omega)) (by decide) (by decide) ?_
 refine .vl (Y.fieldAddr fl27_4 rfl rfl) ?_
 refine AOps.storeC si24 rfl rfl rfl rfl rfl rfl (Nat.le_of_ble_eq_true rfl) rfl ?_
 refine AOps.nil ?_
 refine AWp.seq ?_
 refine AWp.sh (Sh.fzObj 105 200 4 rfl rfl rfl (len_map (by first | omega | (rw [show (⟨#[120]⟩ : ByteArray).size = 1 from rfl]; omega) | (simp [-List.getD_eq_getElem?_getD]; done) | (simp [-List.getD_eq_getElem?_getD]; omega))) (Frees.map Arr.row_frees) (by decide) rfl rfl rfl) ?_
 refine AWp.region ?_
 refine .vl (Y.loadA sh27 rfl rfl (Nat.le_of_ble_eq_true rfl) rfl rfl) ?_
 refine .vl (Y.loadA sh27 rfl rfl (Nat.le_of_ble_eq_true rfl) rfl rfl) ?_
 refine AOps.callP ok24 (same_spec (a := n) (b := n) (by first | exact hL | (constructor <;> (try simp only [List.length_append, List.length_cons, List.length_nil]) <;> first | omega | exact hL.args | exact args_app hL.args rfl | exact hA9)) (by first | exact hL | (constructor <;> (try simp only [List.length_append, List.length_cons, List.length_nil]) <;> first | omega | exact hL.args | exact args_app hL.args rfl | exact hA9))) rfl (.keep rfl rfl (.keep rfl rfl .nil)) (by decide) rfl ?_
 refine .vl (Y.move rfl rfl) ?_
 refine AOps.splitD (d := 129) rfl (fun c129 => ?_) (fun c129 => ?_)
 refine .gv 129 rfl rfl (Y.loadA sh27 rfl rfl (Nat.le_of_ble_eq_true rfl) rfl rfl) ?_
 refine .gv 129 rfl rfl (Y.loadA sh27 rfl rfl (Nat.le_of_ble_eq_true rfl) rfl rfl) ?_
 refine AOps.guardRun (d := 129) rfl (by decide) rfl ?_
 refine AOps.callP ok24 (same_spec (a := n) (b := (⟨n.name, n.widths, n.cells, n.ins, (([] : List Arr) ++ n.mems) ++ ([(⟨ByteArray.empty, 0, 0, 0, 0⟩ : Arr)] : List Arr), n.streams, n.active, n.data, n.freeze, n.done, n.rets⟩ : Netlist)) (by first | exact hL | (constructor <;> (try simp only [List.length_append, List.length_cons, List.length_nil]) <;> first | omega | exact hL.args | exact args_app hL.args rfl | exact hA9)) (by first | exact hL | (constructor <;> (try simp only [List.length_append, List.length_cons, List.length_nil]) <;> first | omega | exact hL.args | exact args_app hL.args rfl | exact hA9))) rfl (.keep rfl rfl (.keep rfl rfl .nil)) (by decide) rfl ?_
 refine .gv 129 rfl rfl (Y.not rfl) ?_
 refine .vl (Y.pick rfl rfl rfl) ?_
 refine .vl (Y.move rfl rfl) ?_
 refine AOps.split (d := 135) rfl (fun c135 => ?_) (fun c135 => ?_)
 replace c135 : ¬ (SameP n (⟨n.name, n.widths, n.cells, n.ins, (([] : List Arr) ++ n.mems) ++ ([(⟨ByteArray.empty, 0, 0, 0, 0⟩ : Arr)] : List Arr), n.streams, n.active, n.data, n.freeze, n.done, n.rets⟩ : Netlist)) := by simpa using c135
 refine .gv 135 rfl rfl (Y.loadA sh27 rfl rfl (Nat.le_of_ble_eq_true rfl) rfl rfl) ?_
 refine .gv 135 rfl rfl (Y.loadA sh27 rfl rfl (Nat.le_of_ble_eq_true rfl) rfl rfl) ?_
 refine AOps.guardRun (d := 135) rfl (by decide) rfl ?_
 refine AOps.callP ok24 (same_spec (a := (⟨n.name, n.widths, n.cells, n.ins, (([] : List Arr) ++ n.mems) ++ ([(⟨ByteArray.empty, 0, 0, 0, 0⟩ : Arr)] : List Arr), n.streams, n.active, n.data, n.freeze, n.done, n.rets⟩ : Netlist)) (b := n) (by first | exact hL | (constructor <;> (try simp only [List.length_append, List.length_cons, List.length_nil]) <;> first | omega | exact hL.args | exact args_app hL.args rfl | exact hA9)) (by first | exact hL | (constructor <;> (try simp only [List.length_append, List.length_cons, List.length_nil]) <;> first | omega | exact hL.args | exact args_app hL.args rfl | exact hA9))) rfl (.keep rfl rfl (.keep rfl rfl .nil)) (by decide) rfl ?_
 refine .gv 135 rfl rfl (Y.not rfl) ?_
 refine .vl (Y.pick rfl rfl rfl) ?_
 refine .vl (Y.assign rfl rfl) ?_
 refine AOps.nil ?_
 refine AWp.ret ?_
 exact ⟨_, _, rfl, rfl, (cg1 (fun (z0 : Bool) => X.v (.bool z0)) (by rw [decide_eq_false (notSame_of (by (try simp only [List.length_append, List.length_cons, List.length_nil, ByteArray.size_append, IntKind.wrap_i64]); first | omega | (simp; done) | (simp; omega)))]; rfl : (!decide (SameP (⟨n.name, n.widths, n.cells, n.ins, (([] : List Arr) ++ n.mems) ++ ([(⟨ByteArray.empty, 0, 0, 0, 0⟩ : Arr)] : List Arr), n.streams, n.active, n.data, n.freeze, n.done, n.rets⟩ : Netlist) n)) = true) : X.v (.bool (!decide (SameP (⟨n.name, n.widths, n.cells, n.ins, (([] : List Arr) ++ n.mems) ++ ([(⟨ByteArray.empty, 0, 0, 0, 0⟩ : Arr)] : List Arr), n.streams, n.active, n.data, n.freeze, n.done, n.rets⟩ : Netlist) n))) = X.v (.bool true)), rfl⟩
 exact absurd c135 (by rw [decide_eq_false (by first | exact (notSame_last' (a := n) (by omega) hnl (fun j hj => hq j (by have hj2 : j < n305_7.length := hj; omega))).1 | exact notSame_of (by (try simp only [List.length_append, List.length_cons, List.length_nil, ByteArray.size_append, IntKind.wrap_i64]); first | omega | (simp; done) | (simp; omega)))]; decide)
 exact absurd (SameP.self _) (by assumption)
 refine AWp.sr ?_
 refine .vl (Y.eql rfl rfl) ?_
 refine .vl (Y.assign rfl rfl) ?_
 refine AOps.nil ?_
 refine AWp.condD rfl (fun c108 => ?_) (fun c108 => ?_)
 refine AWp.region ?_
 refine AOps.buildSlice (([] : List Int).map irow) sl22 ze3 rfl rfl rfl rfl rfl (uniform_map (s := 1) (f := irow) (fun _ => rfl)) rfl rfl rfl (by decide) ?_
 refine .vl (Y.fieldAddr fl27_6 rfl rfl) ?_
 refine .vl (Y.load sh22 rfl rfl rfl rfl) ?_
 refine AOps.sh (Sh.adoptE (d := 110) (n := ([] : List Int).length) 210 (([] : List Int).map irow) rfl (by first | rfl | exact rep_map rfl) (len_map rfl) (by decide)) ?_
 refine AOps.appendFE ((([] : List Int) ++ n.active).map irow) (([] : List Int) ++ n.active).length sl22 ze3 rfl rfl rfl rfl (app_le (by first | omega | (rw [show (⟨#[120]⟩ : ByteArray).size = 1 from rfl]; omega) | (simp [-List.getD_eq_getElem?_getD]; done) | (simp [-List.getD_eq_getElem?_getD]; omega))) (app_map (by first | omega | (rw [show (⟨#[120]⟩ : ByteArray).size = 1 from rfl]; omega) | (simp [-List.getD_eq_getElem?_getD]; done) | (simp [-List.getD_eq_getElem?_getD]; omega))) (app_n (by first | omega | (rw [show (⟨#[120]⟩ : ByteArray).size = 1 from rfl]; omega) | (simp [-List.getD_eq_getElem?_getD]; done) | (simp [-List.getD_eq_getElem?_getD]; omega))) (by first | omega | (rw [show (⟨#[120]⟩ : ByteArray).size = 1 from rfl]; omega) | (simp [-List.getD_eq_getElem?_getD]; done) | (simp [-List.getD_eq_getElem?_getD]; omega)) (by first | omega | (rw [show (⟨#[120]⟩ : ByteArray).size = 1 from rfl]; omega) | (simp [-List.getD_eq_getElem?_getD]; done) | (simp [-List.getD_eq_getElem?_getD]; omega)) (by decide) (by decide) ?_
 refine AOps.buildSlice (([-1] : List Int).map irow) sl22 ze3 rfl rfl rfl rfl rfl (uniform_map (s := 1) (f := irow) (fun _ => rfl)) rfl rfl rfl (by decide) ?_
 refine AOps.appendE (((([] : List Int) ++ n.active) ++ ([-1] : List Int)).map irow) ((([] : List Int) ++ n.active) ++ ([-1] : List Int)).length sl22 ze3 rfl rfl rfl rfl (app_le (by first | omega | (rw [show (⟨#[120]⟩ : ByteArray).size = 1 from rfl]; omega) | (simp [-List.getD_eq_getElem?_getD]; done) | (simp [-List.getD_eq_getElem?_getD]; omega))) (app_map (by first | omega | (rw [show (⟨#[120]⟩ : ByteArray).size = 1 from rfl]; omega) | (simp [-List.getD_eq_getElem?_getD]; done) | (simp [-List.getD_eq_getElem?_getD]; omega))) (app_n (by first | omega | (rw [show (⟨#[120]⟩ : ByteArray).size = 1 from rfl]; omega) | (simp [-List.getD_eq_getElem?_getD]; done) | (simp [-List.getD_eq_getElem?_getD]; omega))) (by first | omega | (rw [show (⟨#[120]⟩ : ByteArray).size = 1 from rfl]; omega) | (simp [-List.getD_eq_getElem?_getD]; done) | (simp [-List.getD_eq_getElem?_getD]; omega)) (by first | omega | (rw [show (⟨#[120]⟩ : ByteArray).size = 1 from rfl]; omega) | (simp [-List.getD_eq_getElem?_getD]; done) | (simp [-List.getD_eq_getElem?_getD]; omega)) (by decide) (by decide) ?_
 refine .vl (Y.fieldAddr fl27_6 rfl rfl) ?_
 refine AOps.storeC si22 rfl rfl rfl rfl rfl rfl (Nat.le_of_ble_eq_true rfl) rfl ?_
 refine AOps.nil ?_
 refine AWp.seq ?_
 refine AWp.sh (Sh.fzObj 105 210 6 rfl rfl rfl (len_map (by first | omega | (rw [show (⟨#[120]⟩ : ByteArray).size = 1 from rfl]; omega) | (simp [-List.getD_eq_getElem?_getD]; done) | (simp [-List.getD_eq_getElem?_getD]; omega))) (Frees.map irow_frees) (by decide) rfl rfl rfl) ?_
 refine AWp.region ?_
 refine .vl (Y.loadA sh27 rfl rfl (Nat.le_of_ble_eq_true rfl) rfl rfl) ?_
 refine .vl (Y.loadA sh27 rfl rfl (Nat.le_of_ble_eq_true rfl) rfl rfl) ?_
 refine AOps.callP ok24 (same_spec (a := n) (b := n) (by first | exact hL | (constructor <;> (try simp only [List.length_append, List.length_cons, List.length_nil]) <;> first | omega | exact hL.args | exact args_app hL.args rfl | exact hA9)) (by first | exact hL | (constructor <;> (try simp only [List.length_append, List.length_cons, List.length_nil]) <;> first | omega | exact hL.args | exact args_app hL.args rfl | exact hA9))) rfl (.keep rfl rfl (.keep rfl rfl .nil)) (by decide) rfl ?_
 refine .vl (Y.move rfl rfl) ?_
 refine AOps.splitD (d := 129) rfl (fun c129 => ?_) (fun c129 => ?_)
 refine .gv 129 rfl rfl (Y.loadA sh27 rfl rfl (Nat.le_of_ble_eq_true rfl) rfl rfl) ?_
 refine .gv 129 rfl rfl (Y.loadA sh27 rfl rfl (Nat.le_of_ble_eq_true rfl) rfl rfl) ?_
 refine AOps.guardRun (d := 129) rfl (by decide) rfl ?_
 refine AOps.callP ok24 (same_spec (a := n) (b := (⟨n.name, n.widths, n.cells, n.ins, n.mems, n.streams, (([] : List Int) ++ n.active) ++ ([-1] : List Int), n.data, n.freeze, n.done, n.rets⟩ : Netlist)) (by first | exact hL | (constructor <;> (try simp only [List.length_append, List.length_cons, List.length_nil]) <;> first | omega | exact hL.args | exact args_app hL.args rfl | exact hA9)) (by first | exact hL | (constructor <;> (try simp only [List.length_append, List.length_cons, List.length_nil]) <;> first | omega | exact hL.args | exact args_app hL.args rfl | exact hA9))) rfl (.keep rfl rfl (.keep rfl rfl .nil)) (by decide) rfl ?_
 refine .gv 129 rfl rfl (Y.not rfl) ?_
 refine .vl (Y.pick rfl rfl rfl) ?_
 refine .vl (Y.move rfl rfl) ?_
 refine AOps.split (d := 135) rfl (fun c135 => ?_) (fun c135 => ?_)
 replace c135 : ¬ (SameP n (⟨n.name, n.widths, n.cells, n.ins, n.mems, n.streams, (([] : List Int) ++ n.active) ++ ([-1] : List Int), n.data, n.freeze, n.done, n.rets⟩ : Netlist)) := by simpa using c135
 refine .gv 135 rfl rfl (Y.loadA sh27 rfl rfl (Nat.le_of_ble_eq_true rfl) rfl rfl) ?_
 refine .gv 135 rfl rfl (Y.loadA sh27 rfl rfl (Nat.le_of_ble_eq_true rfl) rfl rfl) ?_
 refine AOps.guardRun (d := 135) rfl (by decide) rfl ?_
 refine AOps.callP ok24 (same_spec (a := (⟨n.name, n.widths, n.cells, n.ins, n.mems, n.streams, (([] : List Int) ++ n.active) ++ ([-1] : List Int), n.data, n.freeze, n.done, n.rets⟩ : Netlist)) (b := n) (by first | exact hL | (constructor <;> (try simp only [List.length_append, List.length_cons, List.length_nil]) <;> first | omega | exact hL.args | exact args_app hL.args rfl | exact hA9)) (by first | exact hL | (constructor <;> (try simp only [List.length_append, List.length_cons, List.length_nil]) <;> first | omega | exact hL.args | exact args_app hL.args rfl | exact hA9))) rfl (.keep rfl rfl (.keep rfl rfl .nil)) (by decide) rfl ?_
 refine .gv 135 rfl rfl (Y.not rfl) ?_
 refine .vl (Y.pick rfl rfl rfl) ?_
 refine .vl (Y.assign rfl rfl) ?_
 refine AOps.nil ?_
 refine AWp.ret ?_
 exact ⟨_, _, rfl, rfl, (cg1 (fun (z0 : Bool) => X.v (.bool z0)) (by rw [decide_eq_false (notSame_of (by (try simp only [List.length_append, List.length_cons, List.length_nil, ByteArray.size_append, IntKind.wrap_i64]); first | omega | (simp; done) | (simp; omega)))]; rfl : (!decide (SameP (⟨n.name, n.widths, n.cells, n.ins, n.mems, n.streams, (([] : List Int) ++ n.active) ++ ([-1] : List Int), n.data, n.freeze, n.done, n.rets⟩ : Netlist) n)) = true) : X.v (.bool (!decide (SameP (⟨n.name, n.widths, n.cells, n.ins, n.mems, n.streams, (([] : List Int) ++ n.active) ++ ([-1] : List Int), n.data, n.freeze, n.done, n.rets⟩ : Netlist) n))) = X.v (.bool true)), rfl⟩
 exact absurd c135 (by rw [decide_eq_false (by first | exact (notSame_last' (a := n) (by omega) hnl (fun j hj => hq j (by have hj2 : j < n305_7.length := hj; omega))).1 | exact notSame_of (by (try simp only [List.length_append, List.length_cons, List.length_nil, ByteArray.size_append, IntKind.wrap_i64]); first | omega | (simp; done) | (simp; omega)))]; decide)
 exact absurd (SameP.self _) (by assumption)
 refine AWp.sr ?_
 refine .vl (Y.eql rfl rfl) ?_
 refine .vl (Y.assign rfl rfl) ?_
 refine AOps.nil ?_
 refine AWp.condD rfl (fun c117 => ?_) (fun c117 => ?_)
 refine AWp.region ?_
 refine AOps.buildSlice (([] : List Int).map irow) sl22 ze3 rfl rfl rfl rfl rfl (uniform_map (s := 1) (f := irow) (fun _ => rfl)) rfl rfl rfl (by decide) ?_
 refine .vl (Y.fieldAddr fl27_3 rfl rfl) ?_
 refine .vl (Y.load sh22 rfl rfl rfl rfl) ?_
 refine AOps.sh (Sh.adoptE (d := 119) (n := ([] : List Int).length) 219 (([] : List Int).map irow) rfl (by first | rfl | exact rep_map rfl) (len_map rfl) (by decide)) ?_
 refine AOps.appendFE ((([] : List Int) ++ n.ins).map irow) (([] : List Int) ++ n.ins).length sl22 ze3 rfl rfl rfl rfl (app_le (by first | omega | (rw [show (⟨#[120]⟩ : ByteArray).size = 1 from rfl]; omega) | (simp [-List.getD_eq_getElem?_getD]; done) | (simp [-List.getD_eq_getElem?_getD]; omega))) (app_map (by first | omega | (rw [show (⟨#[120]⟩ : ByteArray).size = 1 from rfl]; omega) | (simp [-List.getD_eq_getElem?_getD]; done) | (simp [-List.getD_eq_getElem?_getD]; omega))) (app_n (by first | omega | (rw [show (⟨#[120]⟩ : ByteArray).size = 1 from rfl]; omega) | (simp [-List.getD_eq_getElem?_getD]; done) | (simp [-List.getD_eq_getElem?_getD]; omega))) (by first | omega | (rw [show (⟨#[120]⟩ : ByteArray).size = 1 from rfl]; omega) | (simp [-List.getD_eq_getElem?_getD]; done) | (simp [-List.getD_eq_getElem?_getD]; omega)) (by first | omega | (rw [show (⟨#[120]⟩ : ByteArray).size = 1 from rfl]; omega) | (simp [-List.getD_eq_getElem?_getD]; done) | (simp [-List.getD_eq_getElem?_getD]; omega)) (by decide) (by decide) ?_
 refine AOps.buildSlice (([1] : List Int).map irow) sl22 ze3 rfl rfl rfl rfl rfl (uniform_map (s := 1) (f := irow) (fun _ => rfl)) rfl rfl rfl (by decide) ?_
 refine AOps.appendE (((([] : List Int) ++ n.ins) ++ ([1] : List Int)).map irow) ((([] : List Int) ++ n.ins) ++ ([1] : List Int)).length sl22 ze3 rfl rfl rfl rfl (app_le (by first | omega | (rw [show (⟨#[120]⟩ : ByteArray).size = 1 from rfl]; omega) | (simp [-List.getD_eq_getElem?_getD]; done) | (simp [-List.getD_eq_getElem?_getD]; omega))) (app_map (by first | omega | (rw [show (⟨#[120]⟩ : ByteArray).size = 1 from rfl]; omega) | (simp [-List.getD_eq_getElem?_getD]; done) | (simp [-List.getD_eq_getElem?_getD]; omega))) (app_n (by first | omega | (rw [show (⟨#[120]⟩ : ByteArray).size = 1 from rfl]; omega) | (simp [-List.getD_eq_getElem?_getD]; done) | (simp [-List.getD_eq_getElem?_getD]; omega))) (by first | omega | (rw [show (⟨#[120]⟩ : ByteArray).size = 1 from rfl]; omega) | (simp [-List.getD_eq_getElem?_getD]; done) | (simp [-List.getD_eq_getElem?_getD]; omega)) (by first | omega | (rw [show (⟨#[120]⟩ : ByteArray).size = 1 from rfl]; omega) | (simp [-List.getD_eq_getElem?_getD]; done) | (simp [-List.getD_eq_getElem?_getD]; omega)) (by decide) (by decide) ?_
 refine .vl (Y.fieldAddr fl27_3 rfl rfl) ?_
 refine AOps.storeC si22 rfl rfl rfl rfl rfl rfl (Nat.le_of_ble_eq_true rfl) rfl ?_
 refine AOps.nil ?_
 refine AWp.seq ?_
 refine AWp.sh (Sh.fzObj 105 219 3 rfl rfl rfl (len_map (by first | omega | (rw [show (⟨#[120]⟩ : ByteArray).size = 1 from rfl]; omega) | (simp [-List.getD_eq_getElem?_getD]; done) | (simp [-List.getD_eq_getElem?_getD]; omega))) (Frees.map irow_frees) (by decide) rfl rfl rfl) ?_
 refine AWp.region ?_
 refine .vl (Y.loadA sh27 rfl rfl (Nat.le_of_ble_eq_true rfl) rfl rfl) ?_
 refine .vl (Y.loadA sh27 rfl rfl (Nat.le_of_ble_eq_true rfl) rfl rfl) ?_
 refine AOps.callP ok24 (same_spec (a := n) (b := n) (by first | exact hL | (constructor <;> (try simp only [List.length_append, List.length_cons, List.length_nil]) <;> first | omega | exact hL.args | exact args_app hL.args rfl | exact hA9)) (by first | exact hL | (constructor <;> (try simp only [List.length_append, List.length_cons, List.length_nil]) <;> first | omega | exact hL.args | exact args_app hL.args rfl | exact hA9))) rfl (.keep rfl rfl (.keep rfl rfl .nil)) (by decide) rfl ?_
 refine .vl (Y.move rfl rfl) ?_
 refine AOps.splitD (d := 129) rfl (fun c129 => ?_) (fun c129 => ?_)
 refine .gv 129 rfl rfl (Y.loadA sh27 rfl rfl (Nat.le_of_ble_eq_true rfl) rfl rfl) ?_
 refine .gv 129 rfl rfl (Y.loadA sh27 rfl rfl (Nat.le_of_ble_eq_true rfl) rfl rfl) ?_
 refine AOps.guardRun (d := 129) rfl (by decide) rfl ?_
 refine AOps.callP ok24 (same_spec (a := n) (b := (⟨n.name, n.widths, n.cells, (([] : List Int) ++ n.ins) ++ ([1] : List Int), n.mems, n.streams, n.active, n.data, n.freeze, n.done, n.rets⟩ : Netlist)) (by first | exact hL | (constructor <;> (try simp only [List.length_append, List.length_cons, List.length_nil]) <;> first | omega | exact hL.args | exact args_app hL.args rfl | exact hA9)) (by first | exact hL | (constructor <;> (try simp only [List.length_append, List.length_cons, List.length_nil]) <;> first | omega | exact hL.args | exact args_app hL.args rfl | exact hA9))) rfl (.keep rfl rfl (.keep rfl rfl .nil)) (by decide) rfl ?_
 refine .gv 129 rfl rfl (Y.not rfl) ?_
 refine .vl (Y.pick rfl rfl rfl) ?_
 refine .vl (Y.move rfl rfl) ?_
 refine AOps.split (d := 135) rfl (fun c135 => ?_) (fun c135 => ?_)
 replace c135 : ¬ (SameP n (⟨n.name, n.widths, n.cells, (([] : List Int) ++ n.ins) ++ ([1] : List Int), n.mems, n.streams, n.active, n.data, n.freeze, n.done, n.rets⟩ : Netlist)) := by simpa using c135
 refine .gv 135 rfl rfl (Y.loadA sh27 rfl rfl (Nat.le_of_ble_eq_true rfl) rfl rfl) ?_
 refine .gv 135 rfl rfl (Y.loadA sh27 rfl rfl (Nat.le_of_ble_eq_true rfl) rfl rfl) ?_
 refine AOps.guardRun (d := 135) rfl (by decide) rfl ?_
 refine AOps.callP ok24 (same_spec (a := (⟨n.name, n.widths, n.cells, (([] : List Int) ++ n.ins) ++ ([1] : List Int), n.mems, n.streams, n.active, n.data, n.freeze, n.done, n.rets⟩ : Netlist)) (b := n) (by first | exact hL | (constructor <;> (try simp only [List.length_append, List.length_cons, List.length_nil]) <;> first | omega | exact hL.args | exact args_app hL.args rfl | exact hA9)) (by first | exact hL | (constructor <;> (try simp only [List.length_append, List.length_cons, List.length_nil]) <;> first | omega | exact hL.args | exact args_app hL.args rfl | exact hA9))) rfl (.keep rfl rfl (.keep rfl rfl .nil)) (by decide) rfl ?_
 refine .gv 135 rfl rfl (Y.not rfl) ?_
 refine .vl (Y.pick rfl rfl rfl) ?_
 refine .vl (Y.assign rfl rfl) ?_
 refine AOps.nil ?_
 refine AWp.ret ?_
 exact ⟨_, _, rfl, rfl, (cg1 (fun (z0 : Bool) => X.v (.bool z0)) (by rw [decide_eq_false (notSame_of (by (try simp only [List.length_append, List.length_cons, List.length_nil, ByteArray.size_append, IntKind.wrap_i64]); first | omega | (simp; done) | (simp; omega)))]; rfl : (!decide (SameP (⟨n.name, n.widths, n.cells, (([] : List Int) ++ n.ins) ++ ([1] : List Int), n.mems, n.streams, n.active, n.data, n.freeze, n.done, n.rets⟩ : Netlist) n)) = true) : X.v (.bool (!decide (SameP (⟨n.name, n.widths, n.cells, (([] : List Int) ++ n.ins) ++ ([1] : List Int), n.mems, n.streams, n.active, n.data, n.freeze, n.done, n.rets⟩ : Netlist) n))) = X.v (.bool true)), rfl⟩
 exact absurd c135 (by rw [decide_eq_false (by first | exact (notSame_last' (a := n) (by omega) hnl (fun j hj => hq j (by have hj2 : j < n305_7.length := hj; omega))).1 | exact notSame_of (by (try simp only [List.length_append, List.length_cons, List.length_nil, ByteArray.size_append, IntKind.wrap_i64]); first | omega | (simp; done) | (simp; omega)))]; decide)
 exact absurd (SameP.self _) (by assumption)
 refine AWp.sr ?_
 refine .vl (Y.fieldAddr fl27_2 rfl rfl) ?_
 refine AOps.storeC si23 rfl rfl rfl rfl rfl rfl (Nat.le_of_ble_eq_true rfl) rfl ?_
 refine AOps.nil ?_
 refine AWp.seq ?_
 refine AWp.sr ?_
 refine .vl (Y.fieldAddr fl27_2 rfl rfl) ?_
 refine .vl (Y.load sh23 rfl rfl rfl rfl) ?_
 refine .vl (Y.len (n := n.cells.length) sl23 rfl (congrArg some (List.length_map ..))) ?_
 refine .vl (Y.move rfl rfl) ?_
 refine AOps.nil ?_
 refine AWp.block ?_
 refine AWp.sh (Sh.nilCell 105 405 6 2 rfl rfl rfl rfl (by decide)) ?_
 refine AWp.loop2 (fun (n17_7 : Nat) (n305_7 : List Cell) => ⟨[(2, .ptr 102 0 0 0), (5, .ptr 105 0 0 0), (16, .v (.int .i64 ((n.cells.length : Nat) : Int))), (17, .v (.int .i64 (n17_7 : Int)))], [(102, .cells (Netlist.row n)), (105, .cells [.v (.string n.name), .fz 1 (n.widths.map irow), .slc 405 6 0 n305_7.length, .fz 1 (n.ins.map irow), .fz 5 (n.mems.map Arr.row), .fz 3 (n.streams.map Strm.row), .fz 1 (n.active.map irow), .fz 1 (n.data.map irow), .v (.int .i64 n.freeze), .v (.int .i64 n.done), .fz 1 (n.rets.map irow)]), (405, .rows 6 (n305_7.map Cell.row))]⟩) (fun (n17_7 : Nat) (n305_7 : List Cell) => ((n17_7 : Int) ≤ ((n.cells.length : Nat) : Int)) ∧ (n305_7.length = n17_7) ∧ (∀ j, j < n17_7 → (n305_7.getD j default).args.length = (n.cells.getD j default).args.length + (if j + 1 = n.cells.length then 1 else 0))) (fun (n17_7 : Nat) (n305_7 : List Cell) => (((n.cells.length : Nat) : Int) - (n17_7 : Int)).toNat) 0 ([] : List Cell) (⟨by first | omega | (rw [show (⟨#[120]⟩ : ByteArray).size = 1 from rfl]; omega) | (simp [-List.getD_eq_getElem?_getD]; done) | (simp [-List.getD_eq_getElem?_getD]; omega), rfl, fun j hj => by omega⟩) (Le.mk (SubL.cons rfl (SubL.cons rfl (SubL.cons rfl (SubL.cons (look_int rfl (by first | rfl | omega)) (SubL.nil))))) (SubL.cons rfl (SubL.cons (look_cells rfl (by first | rfl | (simp only [List.cons.injEq, X.v.injEq, X.slc.injEq, Value.int.injEq, and_true, true_and]; omega) | simp_all)) (SubL.cons rfl (SubL.nil))))) (fun n17_7 n305_7 hI7 => ?_)
 obtain ⟨hb7, hl, hq⟩ := hI7
 refine AWp.sr ?_
 refine .vl (Y.lss rfl rfl) ?_
 refine AOps.nil ?_
 refine AWp.seq ?_
 refine AWp.condD rfl (fun c18 => ?_) (fun c18 => ?_)
 refine AWp.skip ?_
 refine AWp.seq ?_
 refine AWp.block ?_
 refine AWp.sr ?_
 refine .vl (Y.move rfl rfl) ?_
 refine .vl (Y.assign rfl rfl) ?_
 refine AOps.nil ?_
 refine AWp.seq ?_
 have h17 := hs.args (n.cells.getD n17_7 default) (getD_mem' (by omega))
 refine AWp.region ?_
 refine .vl (Y.fieldAddr fl27_2 rfl rfl) ?_
 refine .vl (Y.load sh23 rfl rfl rfl rfl) ?_
 refine .vl (Y.move rfl rfl) ?_
 refine .vl (Y.indexF (m := n17_7) sl23 rfl rfl (by first | rfl | omega) (row_getD (d := default) (by first | omega | (rw [show (⟨#[120]⟩ : ByteArray).size = 1 from rfl]; omega) | (simp [-List.getD_eq_getElem?_getD]; done) | (simp [-List.getD_eq_getElem?_getD]; omega)))) ?_
 refine .vl (Y.loadA sh39 rfl rfl (Nat.le_of_ble_eq_true rfl) rfl rfl) ?_
 refine AOps.alloc 107 ze39 rfl rfl (by decide) ?_
 refine AOps.storeC si39 rfl rfl rfl rfl rfl rfl (Nat.le_of_ble_eq_true rfl) rfl ?_
 refine AOps.nil ?_
 refine AWp.join1 (fun (c7_3_j12 : List Int) => ⟨[(2, .ptr 102 0 0 0), (5, .ptr 105 0 0 0), (7, .ptr 107 0 0 0), (16, .v (.int .i64 ((n.cells.length : Nat) : Int))), (17, .v (.int .i64 (n17_7 : Int)))], [(102, .cells (Netlist.row n)), (105, .cells [.v (.string n.name), .fz 1 (n.widths.map irow), .slc 405 6 0 n305_7.length, .fz 1 (n.ins.map irow), .fz 5 (n.mems.map Arr.row), .fz 3 (n.streams.map Strm.row), .fz 1 (n.active.map irow), .fz 1 (n.data.map irow), .v (.int .i64 n.freeze), .v (.int .i64 n.done), .fz 1 (n.rets.map irow)]), (107, .cells [.v (.int .i64 ((n.cells.getD n17_7 default).kind)), .v (.int .i64 ((n.cells.getD n17_7 default).op)), .v (.int .i64 ((n.cells.getD n17_7 default).out)), .fz 1 (c7_3_j12.map irow), .v (.int .u64 (((n.cells.getD n17_7 default).num : Nat) : Int)), .v (.int .i64 ((n.cells.getD n17_7 default).mem))]), (405, .rows 6 (n305_7.map Cell.row))]⟩) (fun (c7_3_j12 : List Int) => c7_3_j12.length = (n.cells.getD n17_7 default).args.length + (if n17_7 + 1 = n.cells.length then 1 else 0)) ?_ (fun c7_3_j12 hJ12 => ?_)
 refine AWp.sr ?_
 refine .vl (Y.move rfl rfl) ?_
 refine .vl (Y.fieldAddr fl27_2 rfl rfl) ?_
 refine .vl (Y.load sh23 rfl rfl rfl rfl) ?_
 refine .vl (Y.len (n := n.cells.length) sl23 rfl (congrArg some (List.length_map ..))) ?_
 refine .vl (Y.subI rfl rfl (by first | omega | (rw [show (⟨#[120]⟩ : ByteArray).size = 1 from rfl]; omega) | (simp [-List.getD_eq_getElem?_getD]; done) | (simp [-List.getD_eq_getElem?_getD]; omega))) ?_
 refine .vl (Y.eql rfl rfl) ?_
 refine AOps.nil ?_
 refine AWp.condD rfl (fun c30 => ?_) (fun c30 => ?_)
 refine AWp.region ?_
 refine AOps.buildSlice (([] : List Int).map irow) sl22 ze3 rfl rfl rfl rfl rfl (uniform_map (s := 1) (f := irow) (fun _ => rfl)) rfl rfl rfl (by decide) ?_
 refine .vl (Y.fieldAddr fl39_3 rfl rfl) ?_
 refine .vl (Y.load sh22 rfl rfl rfl rfl) ?_
 refine AOps.sh (Sh.adoptE (d := 31) (n := ([] : List Int).length) 131 (([] : List Int).map irow) rfl (by first | rfl | exact rep_map rfl) (len_map rfl) (by decide)) ?_
 refine AOps.appendFE ((([] : List Int) ++ ((n.cells.getD n17_7 default).args)).map irow) (([] : List Int) ++ ((n.cells.getD n17_7 default).args)).length sl22 ze3 rfl rfl rfl rfl (app_le (by first | omega | (rw [show (⟨#[120]⟩ : ByteArray).size = 1 from rfl]; omega) | (simp [-List.getD_eq_getElem?_getD]; done) | (simp [-List.getD_eq_getElem?_getD]; omega))) (app_map (by first | omega | (rw [show (⟨#[120]⟩ : ByteArray).size = 1 from rfl]; omega) | (simp [-List.getD_eq_getElem?_getD]; done) | (simp [-List.getD_eq_getElem?_getD]; omega))) (app_n (by first | omega | (rw [show (⟨#[120]⟩ : ByteArray).size = 1 from rfl]; omega) | (simp [-List.getD_eq_getElem?_getD]; done) | (simp [-List.getD_eq_getElem?_getD]; omega))) (by first | omega | (rw [show (⟨#[120]⟩ : ByteArray).size = 1 from rfl]; omega) | (simp [-List.getD_eq_getElem?_getD]; done) | (simp [-List.getD_eq_getElem?_getD]; omega)) (by first | omega | (rw [show (⟨#[120]⟩ : ByteArray).size = 1 from rfl]; omega) | (simp [-List.getD_eq_getElem?_getD]; done) | (simp [-List.getD_eq_getElem?_getD]; omega)) (by decide) (by decide) ?_
 refine AOps.buildSlice (([7] : List Int).map irow) sl22 ze3 rfl rfl rfl rfl rfl (uniform_map (s := 1) (f := irow) (fun _ => rfl)) rfl rfl rfl (by decide) ?_
 refine AOps.appendE (((([] : List Int) ++ ((n.cells.getD n17_7 default).args)) ++ ([7] : List Int)).map irow) ((([] : List Int) ++ ((n.cells.getD n17_7 default).args)) ++ ([7] : List Int)).length sl22 ze3 rfl rfl rfl rfl (app_le (by first | omega | (rw [show (⟨#[120]⟩ : ByteArray).size = 1 from rfl]; omega) | (simp [-List.getD_eq_getElem?_getD]; done) | (simp [-List.getD_eq_getElem?_getD]; omega))) (app_map (by first | omega | (rw [show (⟨#[120]⟩ : ByteArray).size = 1 from rfl]; omega) | (simp [-List.getD_eq_getElem?_getD]; done) | (simp [-List.getD_eq_getElem?_getD]; omega))) (app_n (by first | omega | (rw [show (⟨#[120]⟩ : ByteArray).size = 1 from rfl]; omega) | (simp [-List.getD_eq_getElem?_getD]; done) | (simp [-List.getD_eq_getElem?_getD]; omega))) (by first | omega | (rw [show (⟨#[120]⟩ : ByteArray).size = 1 from rfl]; omega) | (simp [-List.getD_eq_getElem?_getD]; done) | (simp [-List.getD_eq_getElem?_getD]; omega)) (by first | omega | (rw [show (⟨#[120]⟩ : ByteArray).size = 1 from rfl]; omega) | (simp [-List.getD_eq_getElem?_getD]; done) | (simp [-List.getD_eq_getElem?_getD]; omega)) (by decide) (by decide) ?_
 refine .vl (Y.fieldAddr fl39_3 rfl rfl) ?_
 refine AOps.storeC si22 rfl rfl rfl rfl rfl rfl (Nat.le_of_ble_eq_true rfl) rfl ?_
 refine AOps.sh (Sh.fzObj 107 131 3 rfl rfl rfl (len_map (by first | omega | (rw [show (⟨#[120]⟩ : ByteArray).size = 1 from rfl]; omega) | (simp [-List.getD_eq_getElem?_getD]; done) | (simp [-List.getD_eq_getElem?_getD]; omega))) (Frees.map irow_frees) (by decide) rfl rfl rfl) ?_
 refine AOps.nil ?_
 exact ⟨(([] : List Int) ++ ((n.cells.getD n17_7 default).args)) ++ ([7] : List Int), by split <;> first | omega | (simp only [List.length_append, List.length_cons, List.length_nil]; omega), Le.mk (SubL.cons rfl (SubL.cons rfl (SubL.cons rfl (SubL.cons rfl (SubL.cons rfl (SubL.nil)))))) (SubL.cons rfl (SubL.cons rfl (SubL.cons rfl (SubL.cons rfl (SubL.nil)))))⟩
 refine AWp.skip ?_
 exact ⟨(n.cells.getD n17_7 default).args, by split <;> first | omega | (simp only [List.length_append, List.length_cons, List.length_nil]; omega), Le.mk (SubL.cons rfl (SubL.cons rfl (SubL.cons rfl (SubL.cons rfl (SubL.cons rfl (SubL.nil)))))) (SubL.cons rfl (SubL.cons rfl (SubL.cons rfl (SubL.cons rfl (SubL.nil)))))⟩
 refine AWp.region ?_
 refine .vl (Y.fieldAddr fl27_2 rfl rfl) ?_
 refine .vl (Y.load sh23 rfl rfl rfl rfl) ?_
 refine .vl (Y.loadA sh39 rfl rfl (Nat.le_of_ble_eq_true rfl) rfl rfl) ?_
 refine AOps.buildSlice (([(⟨(n.cells.getD n17_7 default).kind, (n.cells.getD n17_7 default).op, (n.cells.getD n17_7 default).out, c7_3_j12, (n.cells.getD n17_7 default).num, (n.cells.getD n17_7 default).mem⟩ : Cell)] : List Cell).map Cell.row) sl23 ze39 rfl rfl rfl rfl rfl (uniform_map (s := 6) (f := Cell.row) (fun _ => rfl)) rfl rfl rfl (by decide) ?_
 refine AOps.appendE ((n305_7 ++ ([(⟨(n.cells.getD n17_7 default).kind, (n.cells.getD n17_7 default).op, (n.cells.getD n17_7 default).out, c7_3_j12, (n.cells.getD n17_7 default).num, (n.cells.getD n17_7 default).mem⟩ : Cell)] : List Cell)).map Cell.row) (n305_7 ++ ([(⟨(n.cells.getD n17_7 default).kind, (n.cells.getD n17_7 default).op, (n.cells.getD n17_7 default).out, c7_3_j12, (n.cells.getD n17_7 default).num, (n.cells.getD n17_7 default).mem⟩ : Cell)] : List Cell)).length sl23 ze39 rfl rfl rfl rfl (app_le (by first | omega | (rw [show (⟨#[120]⟩ : ByteArray).size = 1 from rfl]; omega) | (simp [-List.getD_eq_getElem?_getD]; done) | (simp [-List.getD_eq_getElem?_getD]; omega))) (app_map (by first | omega | (rw [show (⟨#[120]⟩ : ByteArray).size = 1 from rfl]; omega) | (simp [-List.getD_eq_getElem?_getD]; done) | (simp [-List.getD_eq_getElem?_getD]; omega))) (app_n (by first | omega | (rw [show (⟨#[120]⟩ : ByteArray).size = 1 from rfl]; omega) | (simp [-List.getD_eq_getElem?_getD]; done) | (simp [-List.getD_eq_getElem?_getD]; omega))) (by first | omega | (rw [show (⟨#[120]⟩ : ByteArray).size = 1 from rfl]; omega) | (simp [-List.getD_eq_getElem?_getD]; done) | (simp [-List.getD_eq_getElem?_getD]; omega)) (by first | omega | (rw [show (⟨#[120]⟩ : ByteArray).size = 1 from rfl]; omega) | (simp [-List.getD_eq_getElem?_getD]; done) | (simp [-List.getD_eq_getElem?_getD]; omega)) (by decide) (by decide) ?_
 refine .vl (Y.fieldAddr fl27_2 rfl rfl) ?_
 refine AOps.storeC si23 rfl rfl rfl rfl rfl rfl (Nat.le_of_ble_eq_true rfl) rfl ?_
 refine AOps.nil ?_
 refine AWp.region ?_
 refine .vl (Y.addI rfl rfl (by first | omega | (rw [show (⟨#[120]⟩ : ByteArray).size = 1 from rfl]; omega) | (simp [-List.getD_eq_getElem?_getD]; done) | (simp [-List.getD_eq_getElem?_getD]; omega))) ?_
 refine .vl (Y.move rfl rfl) ?_
 refine AOps.nil ?_
 exact ⟨n17_7 + 1, n305_7 ++ ([(⟨(n.cells.getD n17_7 default).kind, (n.cells.getD n17_7 default).op, (n.cells.getD n17_7 default).out, c7_3_j12, (n.cells.getD n17_7 default).num, (n.cells.getD n17_7 default).mem⟩ : Cell)] : List Cell), ⟨by first | omega | (rw [show (⟨#[120]⟩ : ByteArray).size = 1 from rfl]; omega) | (simp [-List.getD_eq_getElem?_getD]; done) | (simp [-List.getD_eq_getElem?_getD]; omega), by rw [List.length_append, hl]; rfl, lastInv_succ hl hq hJ12⟩, by omega, Le.mk (SubL.cons rfl (SubL.cons rfl (SubL.cons rfl (SubL.cons (look_int rfl (by first | rfl | omega)) (SubL.nil))))) (SubL.cons rfl (SubL.cons (look_cells rfl (by first | rfl | (simp only [List.cons.injEq, X.v.injEq, X.slc.injEq, Value.int.injEq, and_true, true_and]; omega) | simp_all)) (SubL.cons rfl (SubL.nil))))⟩
 refine AWp.exit ?_
 refine AWp.seq ?_
 have hnl : n305_7.length = n.cells.length := by omega
 have hA9 := lastArgs hnl hs.args (fun j hj => hq j (by omega))
 refine AWp.sh (Sh.fzObj 105 405 2 rfl rfl rfl (len_map (by first | omega | (rw [show (⟨#[120]⟩ : ByteArray).size = 1 from rfl]; omega) | (simp [-List.getD_eq_getElem?_getD]; done) | (simp [-List.getD_eq_getElem?_getD]; omega))) (Frees.map Cell.row_frees) (by decide) rfl rfl rfl) ?_
 refine AWp.region ?_
 refine .vl (Y.fieldAddr fl27_2 rfl rfl) ?_
 refine .vl (Y.load sh23 rfl rfl rfl rfl) ?_
 refine .vl (Y.len (n := n.cells.length) sl23 rfl (congrArg some (List.length_map ..))) ?_
 refine .vl (Y.eql rfl rfl) ?_
 refine AOps.nil ?_
 refine AWp.condD rfl (fun c48 => ?_) (fun c48 => ?_)
 refine AWp.sr ?_
 refine .vl (Y.loadA sh27 rfl rfl (Nat.le_of_ble_eq_true rfl) rfl rfl) ?_
 refine .vl (Y.loadA sh27 rfl rfl (Nat.le_of_ble_eq_true rfl) rfl rfl) ?_
 refine AOps.callP ok24 (same_spec (a := n) (b := (⟨n.name, n.widths, n305_7, n.ins, n.mems, n.streams, n.active, n.data, n.freeze, n.done, n.rets⟩ : Netlist)) (by first | exact hL | (constructor <;> (try simp only [List.length_append, List.length_cons, List.length_nil]) <;> first | omega | exact hL.args | exact args_app hL.args rfl | exact hA9)) (by first | exact hL | (constructor <;> (try simp only [List.length_append, List.length_cons, List.length_nil]) <;> first | omega | exact hL.args | exact args_app hL.args rfl | exact hA9))) rfl (.keep rfl rfl (.keep rfl rfl .nil)) (by decide) rfl ?_
 refine .vl (Y.assign rfl rfl) ?_
 refine AOps.nil ?_
 refine AWp.ret ?_
 exact ⟨_, _, rfl, rfl, (cg1 (fun (z0 : Bool) => X.v (.bool z0)) (decide_eq_true (same_nil_cells (n := n) (by omega) (by omega)) : (decide (SameP n (⟨n.name, n.widths, n305_7, n.ins, n.mems, n.streams, n.active, n.data, n.freeze, n.done, n.rets⟩ : Netlist))) = true) : X.v (.bool (decide (SameP n (⟨n.name, n.widths, n305_7, n.ins, n.mems, n.streams, n.active, n.data, n.freeze, n.done, n.rets⟩ : Netlist)))) = X.v (.bool true)), rfl⟩
 refine AWp.skip ?_
 refine AWp.sr ?_
 refine .vl (Y.loadA sh27 rfl rfl (Nat.le_of_ble_eq_true rfl) rfl rfl) ?_
 refine .vl (Y.loadA sh27 rfl rfl (Nat.le_of_ble_eq_true rfl) rfl rfl) ?_
 refine AOps.callP ok24 (same_spec (a := n) (b := n) (by first | exact hL | (constructor <;> (try simp only [List.length_append, List.length_cons, List.length_nil]) <;> first | omega | exact hL.args | exact args_app hL.args rfl | exact hA9)) (by first | exact hL | (constructor <;> (try simp only [List.length_append, List.length_cons, List.length_nil]) <;> first | omega | exact hL.args | exact args_app hL.args rfl | exact hA9))) rfl (.keep rfl rfl (.keep rfl rfl .nil)) (by decide) rfl ?_
 refine .vl (Y.move rfl rfl) ?_
 refine AOps.splitD (d := 129) rfl (fun c129 => ?_) (fun c129 => ?_)
 refine .gv 129 rfl rfl (Y.loadA sh27 rfl rfl (Nat.le_of_ble_eq_true rfl) rfl rfl) ?_
 refine .gv 129 rfl rfl (Y.loadA sh27 rfl rfl (Nat.le_of_ble_eq_true rfl) rfl rfl) ?_
 refine AOps.guardRun (d := 129) rfl (by decide) rfl ?_
 refine AOps.callP ok24 (same_spec (a := n) (b := (⟨n.name, n.widths, n305_7, n.ins, n.mems, n.streams, n.active, n.data, n.freeze, n.done, n.rets⟩ : Netlist)) (by first | exact hL | (constructor <;> (try simp only [List.length_append, List.length_cons, List.length_nil]) <;> first | omega | exact hL.args | exact args_app hL.args rfl | exact hA9)) (by first | exact hL | (constructor <;> (try simp only [List.length_append, List.length_cons, List.length_nil]) <;> first | omega | exact hL.args | exact args_app hL.args rfl | exact hA9))) rfl (.keep rfl rfl (.keep rfl rfl .nil)) (by decide) rfl ?_
 refine .gv 129 rfl rfl (Y.not rfl) ?_
 refine .vl (Y.pick rfl rfl rfl) ?_
 refine .vl (Y.move rfl rfl) ?_
 refine AOps.split (d := 135) rfl (fun c135 => ?_) (fun c135 => ?_)
 replace c135 : ¬ (SameP n (⟨n.name, n.widths, n305_7, n.ins, n.mems, n.streams, n.active, n.data, n.freeze, n.done, n.rets⟩ : Netlist)) := by simpa using c135
 refine .gv 135 rfl rfl (Y.loadA sh27 rfl rfl (Nat.le_of_ble_eq_true rfl) rfl rfl) ?_
 refine .gv 135 rfl rfl (Y.loadA sh27 rfl rfl (Nat.le_of_ble_eq_true rfl) rfl rfl) ?_
 refine AOps.guardRun (d := 135) rfl (by decide) rfl ?_
 refine AOps.callP ok24 (same_spec (a := (⟨n.name, n.widths, n305_7, n.ins, n.mems, n.streams, n.active, n.data, n.freeze, n.done, n.rets⟩ : Netlist)) (b := n) (by first | exact hL | (constructor <;> (try simp only [List.length_append, List.length_cons, List.length_nil]) <;> first | omega | exact hL.args | exact args_app hL.args rfl | exact hA9)) (by first | exact hL | (constructor <;> (try simp only [List.length_append, List.length_cons, List.length_nil]) <;> first | omega | exact hL.args | exact args_app hL.args rfl | exact hA9))) rfl (.keep rfl rfl (.keep rfl rfl .nil)) (by decide) rfl ?_
 refine .gv 135 rfl rfl (Y.not rfl) ?_
 refine .vl (Y.pick rfl rfl rfl) ?_
 refine .vl (Y.assign rfl rfl) ?_
 refine AOps.nil ?_
 refine AWp.ret ?_
 exact ⟨_, _, rfl, rfl, (cg1 (fun (z0 : Bool) => X.v (.bool z0)) (by rw [decide_eq_false (notSame_last' (a := n) (by omega) hnl (fun j hj => hq j (by have hj2 : j < n305_7.length := hj; omega))).2]; rfl : (!decide (SameP (⟨n.name, n.widths, n305_7, n.ins, n.mems, n.streams, n.active, n.data, n.freeze, n.done, n.rets⟩ : Netlist) n)) = true) : X.v (.bool (!decide (SameP (⟨n.name, n.widths, n305_7, n.ins, n.mems, n.streams, n.active, n.data, n.freeze, n.done, n.rets⟩ : Netlist) n))) = X.v (.bool true)), rfl⟩
 exact absurd c135 (by rw [decide_eq_false (by first | exact (notSame_last' (a := n) (by omega) hnl (fun j hj => hq j (by have hj2 : j < n305_7.length := hj; omega))).1 | exact notSame_of (by (try simp only [List.length_append, List.length_cons, List.length_nil, ByteArray.size_append, IntKind.wrap_i64]); first | omega | (simp; done) | (simp; omega)))]; decide)
 exact absurd (SameP.self _) (by assumption)

end Go.Proofs.Ytligpghohcfpnaa
