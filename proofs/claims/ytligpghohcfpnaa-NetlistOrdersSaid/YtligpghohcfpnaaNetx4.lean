/- The walk of late. -/
import Derived.Test.YtligpghohcfpnaaNetx0
import Derived.Test.YtligpghohcfpnaaAWx2
set_option linter.unusedSimpArgs false
set_option linter.unusedVariables false
set_option linter.unusedSectionVars false
namespace Go.Proofs.Ytligpghohcfpnaa
open Go Go.AW Go.Proofs



set_option maxRecDepth 4000 in
set_option maxHeartbeats 1000000 in
theorem late_spec {nm : ByteArray} {ws ins : List Int} {cs : List Cell} {mems : List Arr} {streams : List Strm} {f0 d0 : Int} {p : Prt} {i cl : Nat} (hcl : cl = cs.length) (hn : ws.length ≤ 1048576) (hc : cs.length ≤ 1048576) (hp : p.Ok) (hi : i < cs.length) (ho : In (cs.getD (((((cs.length : Nat) : Int) - 1) - (i : Int)).toNat) default).out ws.length ∨ (cs.getD (((((cs.length : Nat) : Int) - 1) - (i : Int)).toNat) default).kind ≠ 4) : ACalls Try.prog 55 [.ptr 0 0 0 0, .agg (Prt.row p), .v (.int .i64 (i : Int))] [.cells [.v (.string nm), .slc 1 1 0 ws.length, .slc 2 6 0 cl, .fz 1 (ins.map irow), .fz 5 (mems.map Arr.row), .fz 3 (streams.map Strm.row), .v (.slice none 0 0), .v (.slice none 0 0), .v (.int .i64 f0), .v (.int .i64 d0), .v (.slice none 0 0)], .rows 1 (ws.map irow), .rows 6 (cs.map Cell.row)] [0, 1, 2] (fun r o => r = .tup [] ∧ o = [.cells [.v (.string nm), .slc 1 1 0 ws.length, .slc 2 6 0 cl, .fz 1 (ins.map irow), .fz 5 (mems.map Arr.row), .fz 3 (streams.map Strm.row), .v (.slice none 0 0), .v (.slice none 0 0), .v (.int .i64 f0), .v (.int .i64 d0), .v (.slice none 0 0)], .rows 1 (ws.map irow), .rows 6 ((lateN ws cs p i).map Cell.row)]) := by
 refine ACalls.of Try.func55 rfl rfl rfl (n := 62) (by decide) (Nat.le_of_ble_eq_true rfl) ?_
 subst hcl
 have hp4 := hp.a; have hp6 := hp.d
 refine AWp.sr ?_
 refine AOps.box 104 rfl rfl rfl rfl rfl (by decide) ?_
 refine AOps.nil ?_
 refine AWp.seq ?_
 refine AWp.sh (Sh.freezeO 104 rfl rfl) ?_
 refine AWp.regionHeldJ [0] [0, 1, 2, 104] (⟨[(0, .ptr 0 0 0 0), (2, .v (.int .i64 (i : Int))), (4, .fp (Prt.row p) 0), (6, .ptr 106 0 0 0)], [(0, .cells [.v (.string nm), .slc 1 1 0 ws.length, .slc 2 6 0 cs.length, .fz 1 (ins.map irow), .fz 5 (mems.map Arr.row), .fz 3 (streams.map Strm.row), .v (.slice none 0 0), .v (.slice none 0 0), .v (.int .i64 f0), .v (.int .i64 d0), .v (.slice none 0 0)]), (1, .rows 1 (ws.map irow)), (2, .rows 6 (cs.map Cell.row)), (106, .cells [.v (.int .i64 ((cs.getD (((((cs.length : Nat) : Int) - 1) - (i : Int)).toNat) default).kind)), .v (.int .i64 ((cs.getD (((((cs.length : Nat) : Int) - 1) - (i : Int)).toNat) default).op)), .v (.int .i64 ((cs.getD (((((cs.length : Nat) : Int) - 1) - (i : Int)).toNat) default).out)), .fz 1 (((cs.getD (((((cs.length : Nat) : Int) - 1) - (i : Int)).toNat) default).args).map irow), .v (.int .u64 (((cs.getD (((((cs.length : Nat) : Int) - 1) - (i : Int)).toNat) default).num : Nat) : Int)), .v (.int .i64 ((cs.getD (((((cs.length : Nat) : Int) - 1) - (i : Int)).toNat) default).mem))])]⟩) rfl ?_ ?_
 refine AFirst.blind 0 rfl (by kernel_rfl) (Blind.move rfl rfl) (by decide) ?_
 refine AFirst.blind 1 rfl (by kernel_rfl) (Blind.nilCheck rfl rfl) (by decide) ?_
 refine AFirst.blind 2 rfl (by kernel_rfl) (Blind.fieldAddr fl27_2 rfl rfl) (by decide) ?_
 refine AFirst.load 3 rfl (by kernel_rfl) sh23 rfl rfl rfl rfl rfl (by decide) ?_
 refine AFirst.blind 4 rfl (by kernel_rfl) (Blind.move rfl rfl) (by decide) ?_
 refine AFirst.blind 5 rfl (by kernel_rfl) (Blind.nilCheck rfl rfl) (by decide) ?_
 refine AFirst.blind 6 rfl (by kernel_rfl) (Blind.fieldAddr fl27_2 rfl rfl) (by decide) ?_
 refine AFirst.load 7 rfl (by kernel_rfl) sh23 rfl rfl rfl rfl rfl (by decide) ?_
 refine AFirst.blind 8 rfl (by kernel_rfl) (Blind.len (n := cs.length) sl23 rfl rfl) (by decide) ?_
 refine AFirst.blind 9 rfl (by kernel_rfl) (Blind.subI rfl rfl (by first | omega | simp [-List.getD_eq_getElem?_getD] <;> omega)) (by decide) ?_
 refine AFirst.blind 10 rfl (by kernel_rfl) (Blind.move rfl rfl) (by decide) ?_
 refine AFirst.blind 11 rfl (by kernel_rfl) (Blind.subI rfl rfl (by first | omega | simp [-List.getD_eq_getElem?_getD] <;> omega)) (by decide) ?_
 refine AFirst.blind 12 rfl (by kernel_rfl) (Blind.indexO (m := ((((cs.length : Nat) : Int) - 1) - (i : Int)).toNat) sl23 rfl rfl (by first | omega | simp [-List.getD_eq_getElem?_getD] <;> omega) (by first | omega | simp [-List.getD_eq_getElem?_getD] <;> omega)) (by decide) ?_
 refine AFirst.goL rfl rfl (namesIn.cells rfl rfl rfl namesIn.nil) ?_
 refine AHeld.two 13 14 rfl rfl (by kernel_rfl) ?_ ?_
 refine .vl (Y.loadA sh39 rfl (row_getD0 (d := default) (by first | omega | simp [-List.getD_eq_getElem?_getD] <;> omega)) (Nat.le_of_ble_eq_true rfl) rfl rfl) ?_
 refine AOps.nil ⟨rfl, ?_⟩
 refine AHeld.one 14 rfl (by kernel_rfl) ?_
 refine AOps.alloc 106 ze39 rfl rfl (by decide) ?_
 refine AOps.nil ⟨rfl, ?_⟩
 refine AHeld.one 15 rfl (by kernel_rfl) ?_
 refine AOps.storeC si39 rfl rfl rfl rfl rfl rfl (Nat.le_of_ble_eq_true rfl) rfl ?_
 refine AOps.nil ⟨rfl, ?_⟩
 refine AHeld.done (by kernel_rfl) ?_
 exact Le.mk (SubL.cons rfl (SubL.cons rfl (SubL.cons rfl (SubL.cons rfl (SubL.nil))))) (SubL.cons rfl (SubL.cons rfl (SubL.cons rfl (SubL.cons rfl (SubL.nil)))))
 refine AOps.alloc 106 ze39 rfl rfl (by decide) ?_
 refine AOps.nil ⟨rfl, ?_⟩
 refine AHeld.one 13 rfl (by kernel_rfl) ?_
 refine .vl (Y.loadA sh39 rfl (row_getD0 (d := default) (by first | omega | simp [-List.getD_eq_getElem?_getD] <;> omega)) (Nat.le_of_ble_eq_true rfl) rfl rfl) ?_
 refine AOps.nil ⟨rfl, ?_⟩
 refine AHeld.one 15 rfl (by kernel_rfl) ?_
 refine AOps.storeC si39 rfl rfl rfl rfl rfl rfl (Nat.le_of_ble_eq_true rfl) rfl ?_
 refine AOps.nil ⟨rfl, ?_⟩
 refine AHeld.done (by kernel_rfl) ?_
 exact Le.mk (SubL.cons rfl (SubL.cons rfl (SubL.cons rfl (SubL.cons rfl (SubL.nil))))) (SubL.cons rfl (SubL.cons rfl (SubL.cons rfl (SubL.cons rfl (SubL.nil)))))
 refine AWp.le (st' := ⟨[(0, .ptr 0 0 0 0), (2, .v (.int .i64 (i : Int))), (4, .fp (Prt.row p) 0), (6, .ptr 106 0 0 0)], [(0, .cells [.v (.string nm), .slc 1 1 0 ws.length, .slc 2 6 0 cs.length, .fz 1 (ins.map irow), .fz 5 (mems.map Arr.row), .fz 3 (streams.map Strm.row), .v (.slice none 0 0), .v (.slice none 0 0), .v (.int .i64 f0), .v (.int .i64 d0), .v (.slice none 0 0)]), (1, .rows 1 (ws.map irow)), (2, .rows 6 (cs.map Cell.row)), (106, .cells [.v (.int .i64 ((cs.getD (((((cs.length : Nat) : Int) - 1) - (i : Int)).toNat) default).kind)), .v (.int .i64 ((cs.getD (((((cs.length : Nat) : Int) - 1) - (i : Int)).toNat) default).op)), .v (.int .i64 ((cs.getD (((((cs.length : Nat) : Int) - 1) - (i : Int)).toNat) default).out)), .fz 1 (((cs.getD (((((cs.length : Nat) : Int) - 1) - (i : Int)).toNat) default).args).map irow), .v (.int .u64 (((cs.getD (((((cs.length : Nat) : Int) - 1) - (i : Int)).toNat) default).num : Nat) : Int)), .v (.int .i64 ((cs.getD (((((cs.length : Nat) : Int) - 1) - (i : Int)).toNat) default).mem))])]⟩) (Le.mk (SubL.cons rfl (SubL.cons rfl (SubL.cons rfl (SubL.cons rfl (SubL.nil))))) (SubL.cons rfl (SubL.cons rfl (SubL.cons rfl (SubL.cons rfl (SubL.nil)))))) ?_
 refine AWp.sr ?_
 refine .vl (Y.fieldAddr fl39_0 rfl rfl) ?_
 refine .vl (Y.load sh3 rfl rfl rfl rfl) ?_
 refine .vl (Y.eql rfl rfl) ?_
 refine AOps.nil ?_
 refine AWp.le (st' := ⟨[(0, .ptr 0 0 0 0), (2, .v (.int .i64 (i : Int))), (4, .fp (Prt.row p) 0), (6, .ptr 106 0 0 0), (23, .v (.bool (decide (((cs.getD (((((cs.length : Nat) : Int) - 1) - (i : Int)).toNat) default).kind) = 4))))], [(0, .cells [.v (.string nm), .slc 1 1 0 ws.length, .slc 2 6 0 cs.length, .fz 1 (ins.map irow), .fz 5 (mems.map Arr.row), .fz 3 (streams.map Strm.row), .v (.slice none 0 0), .v (.slice none 0 0), .v (.int .i64 f0), .v (.int .i64 d0), .v (.slice none 0 0)]), (1, .rows 1 (ws.map irow)), (2, .rows 6 (cs.map Cell.row)), (106, .cells [.v (.int .i64 ((cs.getD (((((cs.length : Nat) : Int) - 1) - (i : Int)).toNat) default).kind)), .v (.int .i64 ((cs.getD (((((cs.length : Nat) : Int) - 1) - (i : Int)).toNat) default).op)), .v (.int .i64 ((cs.getD (((((cs.length : Nat) : Int) - 1) - (i : Int)).toNat) default).out)), .fz 1 (((cs.getD (((((cs.length : Nat) : Int) - 1) - (i : Int)).toNat) default).args).map irow), .v (.int .u64 (((cs.getD (((((cs.length : Nat) : Int) - 1) - (i : Int)).toNat) default).num : Nat) : Int)), .v (.int .i64 ((cs.getD (((((cs.length : Nat) : Int) - 1) - (i : Int)).toNat) default).mem))])]⟩) (Le.mk (SubL.cons rfl (SubL.cons rfl (SubL.cons rfl (SubL.cons rfl (SubL.cons rfl (SubL.nil)))))) (SubL.cons rfl (SubL.cons rfl (SubL.cons rfl (SubL.cons rfl (SubL.nil)))))) ?_
 refine AWp.condD rfl (fun c23 => ?_) (fun c23 => ?_)
 have ho2 := ho.resolve_right (fun h => h c23)
 unfold In at ho2
 refine AWp.seq ?_
 refine AWp.regionHeldJ [0] [0, 1, 2, 106] (⟨[(0, .ptr 0 0 0 0), (2, .v (.int .i64 (i : Int))), (6, .ptr 106 0 0 0)], [(0, .cells [.v (.string nm), .slc 1 1 0 ws.length, .slc 2 6 0 cs.length, .fz 1 (ins.map irow), .fz 5 (mems.map Arr.row), .fz 3 (streams.map Strm.row), .v (.slice none 0 0), .v (.slice none 0 0), .v (.int .i64 f0), .v (.int .i64 d0), .v (.slice none 0 0)]), (1, .rows 1 (ws.map irow)), (2, .rows 6 (cs.map Cell.row)), (106, .cells [.v (.int .i64 ((cs.getD (((((cs.length : Nat) : Int) - 1) - (i : Int)).toNat) default).kind)), .v (.int .i64 ((cs.getD (((((cs.length : Nat) : Int) - 1) - (i : Int)).toNat) default).op)), .v (.int .i64 ((cs.getD (((((cs.length : Nat) : Int) - 1) - (i : Int)).toNat) default).out)), .fz 1 (([pickN ws 1 p.a, pickN ws (ws.getD (((cs.getD (((((cs.length : Nat) : Int) - 1) - (i : Int)).toNat) default).out).toNat) 0) p.d] : List Int).map irow), .v (.int .u64 (((cs.getD (((((cs.length : Nat) : Int) - 1) - (i : Int)).toNat) default).num : Nat) : Int)), .v (.int .i64 ((cs.getD (((((cs.length : Nat) : Int) - 1) - (i : Int)).toNat) default).mem))])]⟩) rfl ?_ ?_
 refine AFirst.blind 0 rfl (by kernel_rfl) (Blind.move rfl rfl) (by decide) ?_
 refine AFirst.blind 1 rfl (by kernel_rfl) (Blind.nilCheck rfl rfl) (by decide) ?_
 refine AFirst.loadA 2 rfl (by kernel_rfl) sh27 rfl rfl rfl (Nat.le_of_ble_eq_true rfl) rfl rfl (by decide) ?_
 refine AFirst.blind 3 rfl (by kernel_rfl) (Blind.fieldAddr fl88_3 rfl rfl) (by decide) ?_
 refine AFirst.blind 4 rfl (by kernel_rfl) (Blind.indexP ar86 rfl rfl (m := 0) rfl (by omega) rfl) (by decide) ?_
 refine AFirst.load 5 rfl (by kernel_rfl) sh5 rfl rfl rfl rfl rfl (by decide) ?_
 refine AFirst.blind 7 rfl (by kernel_rfl) (Blind.move rfl rfl) (by decide) ?_
 refine AFirst.blind 8 rfl (by kernel_rfl) (Blind.nilCheck rfl rfl) (by decide) ?_
 refine AFirst.loadA 9 rfl (by kernel_rfl) sh27 rfl rfl rfl (Nat.le_of_ble_eq_true rfl) rfl rfl (by decide) ?_
 refine AFirst.blind 10 rfl (by kernel_rfl) (Blind.move rfl rfl) (by decide) ?_
 refine AFirst.blind 11 rfl (by kernel_rfl) (Blind.nilCheck rfl rfl) (by decide) ?_
 refine AFirst.blind 12 rfl (by kernel_rfl) (Blind.fieldAddr fl27_1 rfl rfl) (by decide) ?_
 refine AFirst.load 13 rfl (by kernel_rfl) sh22 rfl rfl rfl rfl rfl (by decide) ?_
 refine AFirst.blind 14 rfl (by kernel_rfl) (Blind.fieldAddr fl39_2 rfl rfl) (by decide) ?_
 refine AFirst.blind 18 rfl (by kernel_rfl) (Blind.fieldAddr fl88_3 rfl rfl) (by decide) ?_
 refine AFirst.blind 19 rfl (by kernel_rfl) (Blind.indexP ar86 rfl rfl (m := 2) rfl (by omega) rfl) (by decide) ?_
 refine AFirst.load 20 rfl (by kernel_rfl) sh5 rfl rfl rfl rfl rfl (by decide) ?_
 refine AFirst.goL rfl rfl (namesIn.cells rfl rfl rfl namesIn.nil) ?_
 refine AHeld.two 6 15 rfl rfl (by kernel_rfl) ?_ ?_
 refine AOps.callLP [1, 2] ok56 (pick_spec (n := (⟨nm, ws, cs, ins, mems, streams, [], [], f0, d0, []⟩ : Netlist)) (w := 1) (k := p.a) (by show (ws).length ≤ 1048576; omega) (by omega)) rfl (.agg (.keep rfl rfl (.lend rfl rfl (lend_le (by first | omega | simp [-List.getD_eq_getElem?_getD] <;> omega)) (lend_eq (by first | omega | simp [-List.getD_eq_getElem?_getD] <;> omega)) (.lend rfl rfl (lend_le (by first | omega | simp [-List.getD_eq_getElem?_getD] <;> omega)) (lend_eq (by first | omega | simp [-List.getD_eq_getElem?_getD] <;> omega)) (.keep rfl rfl (.keep rfl rfl (.keep rfl rfl (.keep rfl rfl (.keep rfl rfl (.keep rfl rfl (.keep rfl rfl (.keep rfl rfl .nil))))))))))) rfl (.keep rfl rfl (.keep rfl rfl .nil))) (lend2 rfl (owns_map irow_frees) (lend1 rfl (owns_map Cell.row_frees))) (by decide) rfl trivial ?_
 refine AOps.nil ⟨rfl, ?_⟩
 refine AHeld.one 15 rfl (by kernel_rfl) ?_
 refine .vl (Y.load sh3 rfl rfl rfl rfl) ?_
 refine AOps.nil ⟨rfl, ?_⟩
 refine AHeld.one 16 rfl (by kernel_rfl) ?_
 refine .vl (Y.indexO (m := ((cs.getD (((((cs.length : Nat) : Int) - 1) - (i : Int)).toNat) default).out).toNat) sl22 rfl rfl (by first | omega | simp [-List.getD_eq_getElem?_getD] <;> omega) (by first | omega | simp [-List.getD_eq_getElem?_getD] <;> omega)) ?_
 refine AOps.nil ⟨rfl, ?_⟩
 refine AHeld.one 17 rfl (by kernel_rfl) ?_
 refine .vl (Y.load sh3 rfl (row_getD0 (d := 0) (by first | omega | simp [-List.getD_eq_getElem?_getD] <;> omega)) rfl rfl) ?_
 refine AOps.nil ⟨rfl, ?_⟩
 refine AHeld.one 21 rfl (by kernel_rfl) ?_
 refine AOps.callLP [1, 2] ok56 (pick_spec (n := (⟨nm, ws, cs, ins, mems, streams, [], [], f0, d0, []⟩ : Netlist)) (w := (ws.getD (((cs.getD (((((cs.length : Nat) : Int) - 1) - (i : Int)).toNat) default).out).toNat) 0)) (k := p.d) (by show (ws).length ≤ 1048576; omega) (by omega)) rfl (.agg (.keep rfl rfl (.lend rfl rfl (lend_le (by first | omega | simp [-List.getD_eq_getElem?_getD] <;> omega)) (lend_eq (by first | omega | simp [-List.getD_eq_getElem?_getD] <;> omega)) (.lend rfl rfl (lend_le (by first | omega | simp [-List.getD_eq_getElem?_getD] <;> omega)) (lend_eq (by first | omega | simp [-List.getD_eq_getElem?_getD] <;> omega)) (.keep rfl rfl (.keep rfl rfl (.keep rfl rfl (.keep rfl rfl (.keep rfl rfl (.keep rfl rfl (.keep rfl rfl (.keep rfl rfl .nil))))))))))) rfl (.keep rfl rfl (.keep rfl rfl .nil))) (lend2 rfl (owns_map irow_frees) (lend1 rfl (owns_map Cell.row_frees))) (by decide) rfl trivial ?_
 refine AOps.nil ⟨rfl, ?_⟩
 refine AHeld.one 22 rfl (by kernel_rfl) ?_
 refine AOps.buildSlice (([pickN ws 1 p.a, pickN ws (ws.getD (((cs.getD (((((cs.length : Nat) : Int) - 1) - (i : Int)).toNat) default).out).toNat) 0) p.d] : List Int).map irow) sl22 ze3 rfl rfl rfl rfl rfl (uniform_map (s := 1) (f := irow) (fun _ => rfl)) rfl rfl rfl (by decide) ?_
 refine AOps.nil ⟨rfl, ?_⟩
 refine AHeld.one 23 rfl (by kernel_rfl) ?_
 refine .vl (Y.fieldAddr fl39_3 rfl rfl) ?_
 refine AOps.nil ⟨rfl, ?_⟩
 refine AHeld.one 24 rfl (by kernel_rfl) ?_
 refine AOps.sh (Sh.freezeE (d := 46) (([pickN ws 1 p.a, pickN ws (ws.getD (((cs.getD (((((cs.length : Nat) : Int) - 1) - (i : Int)).toNat) default).out).toNat) 0) p.d] : List Int).map irow) rfl (by first | rfl | exact rep_map rfl) (Frees.map irow_frees)) ?_
 refine AOps.storeC si22 rfl rfl rfl rfl rfl rfl (Nat.le_of_ble_eq_true rfl) rfl ?_
 refine AOps.nil ⟨rfl, ?_⟩
 refine AHeld.done (by kernel_rfl) ?_
 exact Le.mk (SubL.cons rfl (SubL.cons rfl (SubL.cons rfl (SubL.nil)))) (SubL.cons rfl (SubL.cons rfl (SubL.cons rfl (SubL.cons rfl (SubL.nil)))))
 refine .vl (Y.load sh3 rfl rfl rfl rfl) ?_
 refine AOps.nil ⟨rfl, ?_⟩
 refine AHeld.blind 16 rfl (by kernel_rfl) (Blind.indexO (m := ((cs.getD (((((cs.length : Nat) : Int) - 1) - (i : Int)).toNat) default).out).toNat) sl22 rfl rfl (by first | omega | simp [-List.getD_eq_getElem?_getD] <;> omega) (by first | omega | simp [-List.getD_eq_getElem?_getD] <;> omega)) (by decide) ?_
 refine AHeld.two 6 17 rfl rfl (by kernel_rfl) ?_ ?_
 refine AOps.callLP [1, 2] ok56 (pick_spec (n := (⟨nm, ws, cs, ins, mems, streams, [], [], f0, d0, []⟩ : Netlist)) (w := 1) (k := p.a) (by show (ws).length ≤ 1048576; omega) (by omega)) rfl (.agg (.keep rfl rfl (.lend rfl rfl (lend_le (by first | omega | simp [-List.getD_eq_getElem?_getD] <;> omega)) (lend_eq (by first | omega | simp [-List.getD_eq_getElem?_getD] <;> omega)) (.lend rfl rfl (lend_le (by first | omega | simp [-List.getD_eq_getElem?_getD] <;> omega)) (lend_eq (by first | omega | simp [-List.getD_eq_getElem?_getD] <;> omega)) (.keep rfl rfl (.keep rfl rfl (.keep rfl rfl (.keep rfl rfl (.keep rfl rfl (.keep rfl rfl (.keep rfl rfl (.keep rfl rfl .nil))))))))))) rfl (.keep rfl rfl (.keep rfl rfl .nil))) (lend2 rfl (owns_map irow_frees) (lend1 rfl (owns_map Cell.row_frees))) (by decide) rfl trivial ?_
 refine AOps.nil ⟨rfl, ?_⟩
 refine AHeld.one 17 rfl (by kernel_rfl) ?_
 refine .vl (Y.load sh3 rfl (row_getD0 (d := 0) (by first | omega | simp [-List.getD_eq_getElem?_getD] <;> omega)) rfl rfl) ?_
 refine AOps.nil ⟨rfl, ?_⟩
 refine AHeld.one 21 rfl (by kernel_rfl) ?_
 refine AOps.callLP [1, 2] ok56 (pick_spec (n := (⟨nm, ws, cs, ins, mems, streams, [], [], f0, d0, []⟩ : Netlist)) (w := (ws.getD (((cs.getD (((((cs.length : Nat) : Int) - 1) - (i : Int)).toNat) default).out).toNat) 0)) (k := p.d) (by show (ws).length ≤ 1048576; omega) (by omega)) rfl (.agg (.keep rfl rfl (.lend rfl rfl (lend_le (by first | omega | simp [-List.getD_eq_getElem?_getD] <;> omega)) (lend_eq (by first | omega | simp [-List.getD_eq_getElem?_getD] <;> omega)) (.lend rfl rfl (lend_le (by first | omega | simp [-List.getD_eq_getElem?_getD] <;> omega)) (lend_eq (by first | omega | simp [-List.getD_eq_getElem?_getD] <;> omega)) (.keep rfl rfl (.keep rfl rfl (.keep rfl rfl (.keep rfl rfl (.keep rfl rfl (.keep rfl rfl (.keep rfl rfl (.keep rfl rfl .nil))))))))))) rfl (.keep rfl rfl (.keep rfl rfl .nil))) (lend2 rfl (owns_map irow_frees) (lend1 rfl (owns_map Cell.row_frees))) (by decide) rfl trivial ?_
 refine AOps.nil ⟨rfl, ?_⟩
 refine AHeld.one 22 rfl (by kernel_rfl) ?_
 refine AOps.buildSlice (([pickN ws 1 p.a, pickN ws (ws.getD (((cs.getD (((((cs.length : Nat) : Int) - 1) - (i : Int)).toNat) default).out).toNat) 0) p.d] : List Int).map irow) sl22 ze3 rfl rfl rfl rfl rfl (uniform_map (s := 1) (f := irow) (fun _ => rfl)) rfl rfl rfl (by decide) ?_
 refine AOps.nil ⟨rfl, ?_⟩
 refine AHeld.one 23 rfl (by kernel_rfl) ?_
 refine .vl (Y.fieldAddr fl39_3 rfl rfl) ?_
 refine AOps.nil ⟨rfl, ?_⟩
 refine AHeld.one 24 rfl (by kernel_rfl) ?_
 refine AOps.sh (Sh.freezeE (d := 46) (([pickN ws 1 p.a, pickN ws (ws.getD (((cs.getD (((((cs.length : Nat) : Int) - 1) - (i : Int)).toNat) default).out).toNat) 0) p.d] : List Int).map irow) rfl (by first | rfl | exact rep_map rfl) (Frees.map irow_frees)) ?_
 refine AOps.storeC si22 rfl rfl rfl rfl rfl rfl (Nat.le_of_ble_eq_true rfl) rfl ?_
 refine AOps.nil ⟨rfl, ?_⟩
 refine AHeld.done (by kernel_rfl) ?_
 exact Le.mk (SubL.cons rfl (SubL.cons rfl (SubL.cons rfl (SubL.nil)))) (SubL.cons rfl (SubL.cons rfl (SubL.cons rfl (SubL.cons rfl (SubL.nil)))))
 refine .vl (Y.load sh3 rfl (row_getD0 (d := 0) (by first | omega | simp [-List.getD_eq_getElem?_getD] <;> omega)) rfl rfl) ?_
 refine AOps.nil ⟨rfl, ?_⟩
 refine AHeld.one 6 rfl (by kernel_rfl) ?_
 refine AOps.callLP [1, 2] ok56 (pick_spec (n := (⟨nm, ws, cs, ins, mems, streams, [], [], f0, d0, []⟩ : Netlist)) (w := 1) (k := p.a) (by show (ws).length ≤ 1048576; omega) (by omega)) rfl (.agg (.keep rfl rfl (.lend rfl rfl (lend_le (by first | omega | simp [-List.getD_eq_getElem?_getD] <;> omega)) (lend_eq (by first | omega | simp [-List.getD_eq_getElem?_getD] <;> omega)) (.lend rfl rfl (lend_le (by first | omega | simp [-List.getD_eq_getElem?_getD] <;> omega)) (lend_eq (by first | omega | simp [-List.getD_eq_getElem?_getD] <;> omega)) (.keep rfl rfl (.keep rfl rfl (.keep rfl rfl (.keep rfl rfl (.keep rfl rfl (.keep rfl rfl (.keep rfl rfl (.keep rfl rfl .nil))))))))))) rfl (.keep rfl rfl (.keep rfl rfl .nil))) (lend2 rfl (owns_map irow_frees) (lend1 rfl (owns_map Cell.row_frees))) (by decide) rfl trivial ?_
 refine AOps.nil ⟨rfl, ?_⟩
 refine AHeld.one 21 rfl (by kernel_rfl) ?_
 refine AOps.callLP [1, 2] ok56 (pick_spec (n := (⟨nm, ws, cs, ins, mems, streams, [], [], f0, d0, []⟩ : Netlist)) (w := (ws.getD (((cs.getD (((((cs.length : Nat) : Int) - 1) - (i : Int)).toNat) default).out).toNat) 0)) (k := p.d) (by show (ws).length ≤ 1048576; omega) (by omega)) rfl (.agg (.keep rfl rfl (.lend rfl rfl (lend_le (by first | omega | simp [-List.getD_eq_getElem?_getD] <;> omega)) (lend_eq (by first | omega | simp [-List.getD_eq_getElem?_getD] <;> omega)) (.lend rfl rfl (lend_le (by first | omega | simp [-List.getD_eq_getElem?_getD] <;> omega)) (lend_eq (by first | omega | simp [-List.getD_eq_getElem?_getD] <;> omega)) (.keep rfl rfl (.keep rfl rfl (.keep rfl rfl (.keep rfl rfl (.keep rfl rfl (.keep rfl rfl (.keep rfl rfl (.keep rfl rfl .nil))))))))))) rfl (.keep rfl rfl (.keep rfl rfl .nil))) (lend2 rfl (owns_map irow_frees) (lend1 rfl (owns_map Cell.row_frees))) (by decide) rfl trivial ?_
 refine AOps.nil ⟨rfl, ?_⟩
 refine AHeld.one 22 rfl (by kernel_rfl) ?_
 refine AOps.buildSlice (([pickN ws 1 p.a, pickN ws (ws.getD (((cs.getD (((((cs.length : Nat) : Int) - 1) - (i : Int)).toNat) default).out).toNat) 0) p.d] : List Int).map irow) sl22 ze3 rfl rfl rfl rfl rfl (uniform_map (s := 1) (f := irow) (fun _ => rfl)) rfl rfl rfl (by decide) ?_
 refine AOps.nil ⟨rfl, ?_⟩
 refine AHeld.one 23 rfl (by kernel_rfl) ?_
 refine .vl (Y.fieldAddr fl39_3 rfl rfl) ?_
 refine AOps.nil ⟨rfl, ?_⟩
 refine AHeld.one 24 rfl (by kernel_rfl) ?_
 refine AOps.sh (Sh.freezeE (d := 46) (([pickN ws 1 p.a, pickN ws (ws.getD (((cs.getD (((((cs.length : Nat) : Int) - 1) - (i : Int)).toNat) default).out).toNat) 0) p.d] : List Int).map irow) rfl (by first | rfl | exact rep_map rfl) (Frees.map irow_frees)) ?_
 refine AOps.storeC si22 rfl rfl rfl rfl rfl rfl (Nat.le_of_ble_eq_true rfl) rfl ?_
 refine AOps.nil ⟨rfl, ?_⟩
 refine AHeld.done (by kernel_rfl) ?_
 exact Le.mk (SubL.cons rfl (SubL.cons rfl (SubL.cons rfl (SubL.nil)))) (SubL.cons rfl (SubL.cons rfl (SubL.cons rfl (SubL.cons rfl (SubL.nil)))))
 refine AWp.le (st' := ⟨[(0, .ptr 0 0 0 0), (2, .v (.int .i64 (i : Int))), (6, .ptr 106 0 0 0)], [(0, .cells [.v (.string nm), .slc 1 1 0 ws.length, .slc 2 6 0 cs.length, .fz 1 (ins.map irow), .fz 5 (mems.map Arr.row), .fz 3 (streams.map Strm.row), .v (.slice none 0 0), .v (.slice none 0 0), .v (.int .i64 f0), .v (.int .i64 d0), .v (.slice none 0 0)]), (1, .rows 1 (ws.map irow)), (2, .rows 6 (cs.map Cell.row)), (106, .cells [.v (.int .i64 ((cs.getD (((((cs.length : Nat) : Int) - 1) - (i : Int)).toNat) default).kind)), .v (.int .i64 ((cs.getD (((((cs.length : Nat) : Int) - 1) - (i : Int)).toNat) default).op)), .v (.int .i64 ((cs.getD (((((cs.length : Nat) : Int) - 1) - (i : Int)).toNat) default).out)), .fz 1 (([pickN ws 1 p.a, pickN ws (ws.getD (((cs.getD (((((cs.length : Nat) : Int) - 1) - (i : Int)).toNat) default).out).toNat) 0) p.d] : List Int).map irow), .v (.int .u64 (((cs.getD (((((cs.length : Nat) : Int) - 1) - (i : Int)).toNat) default).num : Nat) : Int)), .v (.int .i64 ((cs.getD (((((cs.length : Nat) : Int) - 1) - (i : Int)).toNat) default).mem))])]⟩) (Le.mk (SubL.cons rfl (SubL.cons rfl (SubL.cons rfl (SubL.nil)))) (SubL.cons rfl (SubL.cons rfl (SubL.cons rfl (SubL.cons rfl (SubL.nil)))))) ?_
 refine AWp.regionT 14 rfl (by kernel_rfl) ?_
 refine AHead.val (Y.move rfl rfl) (by decide) ?_
 refine AHead.val (Y.nilCheck rfl rfl) (by decide) ?_
 refine AHead.val (Y.fieldAddr fl27_2 rfl rfl) (by decide) ?_
 refine AHead.val (Y.load sh23 rfl rfl rfl rfl) (by decide) ?_
 refine AHead.val (Y.move rfl rfl) (by decide) ?_
 refine AHead.val (Y.nilCheck rfl rfl) (by decide) ?_
 refine AHead.val (Y.fieldAddr fl27_2 rfl rfl) (by decide) ?_
 refine AHead.val (Y.load sh23 rfl rfl rfl rfl) (by decide) ?_
 refine AHead.val (Y.len (n := cs.length) sl23 rfl rfl) (by decide) ?_
 refine AHead.val (Y.subI rfl rfl (by first | omega | simp [-List.getD_eq_getElem?_getD] <;> omega)) (by decide) ?_
 refine AHead.val (Y.move rfl rfl) (by decide) ?_
 refine AHead.val (Y.subI rfl rfl (by first | omega | simp [-List.getD_eq_getElem?_getD] <;> omega)) (by decide) ?_
 refine AHead.val (Y.loadA sh39 rfl rfl (Nat.le_of_ble_eq_true rfl) rfl rfl) (by decide) ?_
 refine AHead.val (Y.indexO (m := ((((cs.length : Nat) : Int) - 1) - (i : Int)).toNat) sl23 rfl rfl (by first | omega | simp [-List.getD_eq_getElem?_getD] <;> omega) (by first | omega | simp [-List.getD_eq_getElem?_getD] <;> omega)) (by decide) ?_
 refine AHead.nil ?_
 refine AOps.storeE ((cs.set (((((cs.length : Nat) : Int) - 1) - (i : Int)).toNat) (⟨(cs.getD (((((cs.length : Nat) : Int) - 1) - (i : Int)).toNat) default).kind, (cs.getD (((((cs.length : Nat) : Int) - 1) - (i : Int)).toNat) default).op, (cs.getD (((((cs.length : Nat) : Int) - 1) - (i : Int)).toNat) default).out, ([pickN ws 1 p.a, pickN ws (ws.getD (((cs.getD (((((cs.length : Nat) : Int) - 1) - (i : Int)).toNat) default).out).toNat) 0) p.d] : List Int), (cs.getD (((((cs.length : Nat) : Int) - 1) - (i : Int)).toNat) default).num, (cs.getD (((((cs.length : Nat) : Int) - 1) - (i : Int)).toNat) default).mem⟩ : Cell)).map Cell.row) si39 rfl rfl rfl rfl rfl rfl rfl (row_getD0 (d := default) (by first | omega | simp [-List.getD_eq_getElem?_getD] <;> omega)) (Nat.le_of_ble_eq_true rfl) (set_map0 rfl) ?_
 refine AOps.nil ?_
 exact ⟨_, _, rfl, rfl, rfl, (by unfold lateN; rw [if_pos c23])⟩
 refine AWp.skip ?_
 exact ⟨_, _, rfl, rfl, rfl, (by unfold lateN; rw [if_neg c23])⟩

end Go.Proofs.Ytligpghohcfpnaa
