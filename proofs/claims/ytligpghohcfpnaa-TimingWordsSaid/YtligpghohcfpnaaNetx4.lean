/- The walk of late. -/
import Derived.Test.YtligpghohcfpnaaNetx0
import Derived.Test.YtligpghohcfpnaaNetx1
import Derived.Test.YtligpghohcfpnaaAWx2
import Derived.Test.YtligpghohcfpnaaAWx3
import Derived.Test.YtligpghohcfpnaaNetx3
set_option linter.unusedSimpArgs false
set_option linter.unusedVariables false
set_option linter.unusedSectionVars false
set_option maxRecDepth 4000
set_option maxHeartbeats 8000000
namespace Go.Proofs.Ytligpghohcfpnaa
open Go Go.AW Go.Proofs
theorem late_spec {nm : ByteArray} {ws ins : List Int} {cs : List Cell} {mems : List Arr} {streams : List Strm} {f0 d0 : Int} {p : Prt} {i cl : Nat} (hcl : cl = cs.length) (hn : ws.length ≤ 1048576) (hc : cs.length ≤ 1048576) (hp : p.Ok) (hi : i < cs.length) (ho : In (cs.getD (((((cs.length : Nat) : Int) - 1) - (i : Int)).toNat) default).out ws.length ∨ (cs.getD (((((cs.length : Nat) : Int) - 1) - (i : Int)).toNat) default).kind ≠ 4) : ACalls Try.prog 55 [.ptr 0 0 0 0, .agg (Prt.row p), vi (i : Int)] [.cells [.v (.string nm), .slc 1 1 0 ws.length, .slc 2 6 0 cl, .fz 1 (ins.map irow), .fz 5 (mems.map Arr.row), .fz 3 (streams.map Strm.row), .v (.slice none 0 0), .v (.slice none 0 0), vi f0, vi d0, .v (.slice none 0 0)], .rows 1 (ws.map irow), .rows 6 (cs.map Cell.row)] [0, 1, 2] (fun r o => r = .tup [] ∧ o = [.cells [.v (.string nm), .slc 1 1 0 ws.length, .slc 2 6 0 cl, .fz 1 (ins.map irow), .fz 5 (mems.map Arr.row), .fz 3 (streams.map Strm.row), .v (.slice none 0 0), .v (.slice none 0 0), vi f0, vi d0, .v (.slice none 0 0)], .rows 1 (ws.map irow), .rows 6 ((lateN ws cs p i).map Cell.row)]) := by
 refine ACalls.of Try.func55 rfl rfl rfl (n := 62) dcd (nbE rfl) ?_
 subst hcl
 have hp4 := hp.a; have hp6 := hp.d
 refine .sr (.box 104 rfl rfl rfl rfl rfl dcd (.nil ?_))
 refine .seq (.sh (Sh.freezeO 104 rfl rfl) ?_)
 refine .regionHeldJ [0] [0, 1, 2, 104] (⟨[(0, .ptr 0 0 0 0), (2, .v (.int .i64 (i : Int))), (4, .fp (Prt.row p) 0), (6, .ptr 106 0 0 0)], [(0, .cells [.v (.string nm), .slc 1 1 0 ws.length, .slc 2 6 0 cs.length, .fz 1 (ins.map irow), .fz 5 (mems.map Arr.row), .fz 3 (streams.map Strm.row), .v (.slice none 0 0), .v (.slice none 0 0), .v (.int .i64 f0), .v (.int .i64 d0), .v (.slice none 0 0)]), (1, .rows 1 (ws.map irow)), (2, .rows 6 (cs.map Cell.row)), (106, .cells [.v (.int .i64 ((cs.getD (((((cs.length : Nat) : Int) - 1) - (i : Int)).toNat) default).kind)), .v (.int .i64 ((cs.getD (((((cs.length : Nat) : Int) - 1) - (i : Int)).toNat) default).op)), .v (.int .i64 ((cs.getD (((((cs.length : Nat) : Int) - 1) - (i : Int)).toNat) default).out)), .fz 1 (((cs.getD (((((cs.length : Nat) : Int) - 1) - (i : Int)).toNat) default).args).map irow), .v (.int .u64 (((cs.getD (((((cs.length : Nat) : Int) - 1) - (i : Int)).toNat) default).num : Nat) : Int)), .v (.int .i64 ((cs.getD (((((cs.length : Nat) : Int) - 1) - (i : Int)).toNat) default).mem))])]⟩) rfl ?_ ?_
 refine .blind 0 rfl krf (Blind.move rfl rfl) dcd (.blind 1 rfl krf (Blind.nilCheck rfl rfl) dcd (.blind 2 rfl krf (Blind.fieldAddr fl27_2 rfl rfl) dcd ?_))
 refine .load 3 rfl krf sh23 rfl rfl rfl rfl rfl dcd (.blind 4 rfl krf (Blind.move rfl rfl) dcd (.blind 5 rfl krf (Blind.nilCheck rfl rfl) dcd ?_))
 refine .blind 6 rfl krf (Blind.fieldAddr fl27_2 rfl rfl) dcd (.load 7 rfl krf sh23 rfl rfl rfl rfl rfl dcd (.blind 8 rfl krf (Blind.len (n := cs.length) sl23 rfl rfl) dcd ?_))
 refine .blind 9 rfl krf (Blind.subI rfl rfl om) dcd (.blind 10 rfl krf (Blind.move rfl rfl) dcd (.blind 11 rfl krf (Blind.subI rfl rfl om) dcd (.blind 12 rfl krf (Blind.indexO (m := ((((cs.length : Nat) : Int) - 1) - (i : Int)).toNat) sl23 rfl rfl om om) dcd (.goL rfl rfl (namesIn.cells rfl rfl rfl namesIn.nil) ?_))))
 refine .two 13 14 rfl rfl krf ?_ ?_
 refine .vl (Y.loadA sh39 rfl (row_getD0 (d := default) oms) (nbE rfl) rfl rfl) ?_
 refine .nil ⟨rfl, ?_⟩
 refine .one 14 rfl krf (.alloc 106 ze39 rfl rfl dcd ?_)
 refine .nil ⟨rfl, ?_⟩
 refine .one 15 rfl krf (.storeC si39 rfl rfl rfl rfl rfl rfl (nbE rfl) rfl ?_)
 refine .nil ⟨rfl, ?_⟩
 refine .done krf ?_
 exact Le.mk (.c (.c (.c (.c (.nil))))) (.c (.c (.c (.c (.nil)))))
 refine .alloc 106 ze39 rfl rfl dcd ?_
 refine .nil ⟨rfl, ?_⟩
 refine .one 13 rfl krf (.vl (Y.loadA sh39 rfl (row_getD0 (d := default) oms) (nbE rfl) rfl rfl) ?_)
 refine .nil ⟨rfl, ?_⟩
 refine .one 15 rfl krf (.storeC si39 rfl rfl rfl rfl rfl rfl (nbE rfl) rfl ?_)
 refine .nil ⟨rfl, ?_⟩
 refine .done krf ?_
 exact Le.mk (.c (.c (.c (.c (.nil))))) (.c (.c (.c (.c (.nil)))))
 refine .le (st' := ⟨[(0, .ptr 0 0 0 0), (2, vi (i : Int)), (4, .fp (Prt.row p) 0), (6, .ptr 106 0 0 0)], [(0, .cells [.v (.string nm), .slc 1 1 0 ws.length, .slc 2 6 0 cs.length, .fz 1 (ins.map irow), .fz 5 (mems.map Arr.row), .fz 3 (streams.map Strm.row), .v (.slice none 0 0), .v (.slice none 0 0), vi f0, vi d0, .v (.slice none 0 0)]), (1, .rows 1 (ws.map irow)), (2, .rows 6 (cs.map Cell.row)), (106, .cells [vi ((cs.getD (((((cs.length : Nat) : Int) - 1) - (i : Int)).toNat) default).kind), vi ((cs.getD (((((cs.length : Nat) : Int) - 1) - (i : Int)).toNat) default).op), vi ((cs.getD (((((cs.length : Nat) : Int) - 1) - (i : Int)).toNat) default).out), .fz 1 (((cs.getD (((((cs.length : Nat) : Int) - 1) - (i : Int)).toNat) default).args).map irow), .v (.int .u64 (((cs.getD (((((cs.length : Nat) : Int) - 1) - (i : Int)).toNat) default).num : Nat) : Int)), vi ((cs.getD (((((cs.length : Nat) : Int) - 1) - (i : Int)).toNat) default).mem)])]⟩) (Le.mk (.c (.c (.c (.c (.nil))))) (.c (.c (.c (.c (.nil)))))) (.sr ?_)
 refine .fa fl39_0 ?_
 refine .ld sh3 ?_
 refine .vl (Y.eql rfl rfl) (.nil ?_)
 refine .le (st' := ⟨[(0, .ptr 0 0 0 0), (2, vi (i : Int)), (4, .fp (Prt.row p) 0), (6, .ptr 106 0 0 0), (23, .v (.bool (decide (((cs.getD (((((cs.length : Nat) : Int) - 1) - (i : Int)).toNat) default).kind) = 4))))], [(0, .cells [.v (.string nm), .slc 1 1 0 ws.length, .slc 2 6 0 cs.length, .fz 1 (ins.map irow), .fz 5 (mems.map Arr.row), .fz 3 (streams.map Strm.row), .v (.slice none 0 0), .v (.slice none 0 0), vi f0, vi d0, .v (.slice none 0 0)]), (1, .rows 1 (ws.map irow)), (2, .rows 6 (cs.map Cell.row)), (106, .cells [vi ((cs.getD (((((cs.length : Nat) : Int) - 1) - (i : Int)).toNat) default).kind), vi ((cs.getD (((((cs.length : Nat) : Int) - 1) - (i : Int)).toNat) default).op), vi ((cs.getD (((((cs.length : Nat) : Int) - 1) - (i : Int)).toNat) default).out), .fz 1 (((cs.getD (((((cs.length : Nat) : Int) - 1) - (i : Int)).toNat) default).args).map irow), .v (.int .u64 (((cs.getD (((((cs.length : Nat) : Int) - 1) - (i : Int)).toNat) default).num : Nat) : Int)), vi ((cs.getD (((((cs.length : Nat) : Int) - 1) - (i : Int)).toNat) default).mem)])]⟩) (Le.mk (.c (.c (.c (.c (.c (.nil)))))) (.c (.c (.c (.c (.nil)))))) ?_
 refine .condD rfl (fun c23 => ?_) (fun c23 => ?_)
 have ho2 := ho.resolve_right (fun h => h c23)
 unfold In at ho2
 refine .seq ?_
 refine .regionHeldJ [0] [0, 1, 2, 106] (⟨[(0, .ptr 0 0 0 0), (2, .v (.int .i64 (i : Int))), (6, .ptr 106 0 0 0)], [(0, .cells [.v (.string nm), .slc 1 1 0 ws.length, .slc 2 6 0 cs.length, .fz 1 (ins.map irow), .fz 5 (mems.map Arr.row), .fz 3 (streams.map Strm.row), .v (.slice none 0 0), .v (.slice none 0 0), .v (.int .i64 f0), .v (.int .i64 d0), .v (.slice none 0 0)]), (1, .rows 1 (ws.map irow)), (2, .rows 6 (cs.map Cell.row)), (106, .cells [.v (.int .i64 ((cs.getD (((((cs.length : Nat) : Int) - 1) - (i : Int)).toNat) default).kind)), .v (.int .i64 ((cs.getD (((((cs.length : Nat) : Int) - 1) - (i : Int)).toNat) default).op)), .v (.int .i64 ((cs.getD (((((cs.length : Nat) : Int) - 1) - (i : Int)).toNat) default).out)), .fz 1 (([pickN ws 1 p.a, pickN ws (ws.getD (((cs.getD (((((cs.length : Nat) : Int) - 1) - (i : Int)).toNat) default).out).toNat) 0) p.d] : List Int).map irow), .v (.int .u64 (((cs.getD (((((cs.length : Nat) : Int) - 1) - (i : Int)).toNat) default).num : Nat) : Int)), .v (.int .i64 ((cs.getD (((((cs.length : Nat) : Int) - 1) - (i : Int)).toNat) default).mem))])]⟩) rfl ?_ ?_
 refine .blind 0 rfl krf (Blind.move rfl rfl) dcd (.blind 1 rfl krf (Blind.nilCheck rfl rfl) dcd (.loadA 2 rfl krf sh27 rfl rfl rfl (nbE rfl) rfl rfl dcd ?_))
 refine .blind 3 rfl krf (Blind.fieldAddr fl88_3 rfl rfl) dcd (.blind 4 rfl krf (Blind.indexP ar86 rfl rfl (m := 0) rfl om rfl) dcd (.load 5 rfl krf sh5 rfl rfl rfl rfl rfl dcd ?_))
 refine .blind 7 rfl krf (Blind.move rfl rfl) dcd (.blind 8 rfl krf (Blind.nilCheck rfl rfl) dcd (.loadA 9 rfl krf sh27 rfl rfl rfl (nbE rfl) rfl rfl dcd ?_))
 refine .blind 10 rfl krf (Blind.move rfl rfl) dcd (.blind 11 rfl krf (Blind.nilCheck rfl rfl) dcd (.blind 12 rfl krf (Blind.fieldAddr fl27_1 rfl rfl) dcd ?_))
 refine .load 13 rfl krf sh22 rfl rfl rfl rfl rfl dcd (.blind 14 rfl krf (Blind.fieldAddr fl39_2 rfl rfl) dcd (.blind 18 rfl krf (Blind.fieldAddr fl88_3 rfl rfl) dcd ?_))
 refine .blind 19 rfl krf (Blind.indexP ar86 rfl rfl (m := 2) rfl om rfl) dcd (.load 20 rfl krf sh5 rfl rfl rfl rfl rfl dcd (.goL rfl rfl (namesIn.cells rfl rfl rfl namesIn.nil) ?_))
 refine .two 6 15 rfl rfl krf ?_ ?_
 refine .callLP [1, 2] ok56 (pick_spec (n := (⟨nm, ws, cs, ins, mems, streams, [], [], f0, d0, []⟩ : Netlist)) (w := 1) (k := p.a) (by show (ws).length ≤ 1048576; omega) om) rfl (.agg (.keep rfl rfl (.lend rfl rfl (lend_le om) (lend_eq om) (.lend rfl rfl (lend_le om) (lend_eq om) (.keep rfl rfl (.keep rfl rfl (.keep rfl rfl (.keep rfl rfl (.keep rfl rfl (.keep rfl rfl (.keep rfl rfl (.keep rfl rfl .nil))))))))))) rfl (.keep rfl rfl (.keep rfl rfl .nil))) (lend2 rfl (owns_map irow_frees) (lend1 rfl (owns_map Cell.row_frees))) dcd rfl trivial ?_
 refine .nil ⟨rfl, ?_⟩
 refine .one 15 rfl krf ?_
 refine .ld sh3 ?_
 refine .nil ⟨rfl, ?_⟩
 refine .one 16 rfl krf (.vl (Y.indexO (m := ((cs.getD (((((cs.length : Nat) : Int) - 1) - (i : Int)).toNat) default).out).toNat) sl22 rfl rfl om om) ?_)
 refine .nil ⟨rfl, ?_⟩
 refine .one 17 rfl krf (.vl (Y.load sh3 rfl (row_getD0 (d := 0) om) rfl rfl) ?_)
 refine .nil ⟨rfl, ?_⟩
 refine .one 21 rfl krf (.callLP [1, 2] ok56 (pick_spec (n := (⟨nm, ws, cs, ins, mems, streams, [], [], f0, d0, []⟩ : Netlist)) (w := (ws.getD (((cs.getD (((((cs.length : Nat) : Int) - 1) - (i : Int)).toNat) default).out).toNat) 0)) (k := p.d) (by show (ws).length ≤ 1048576; omega) om) rfl (.agg (.keep rfl rfl (.lend rfl rfl (lend_le om) (lend_eq om) (.lend rfl rfl (lend_le om) (lend_eq om) (.keep rfl rfl (.keep rfl rfl (.keep rfl rfl (.keep rfl rfl (.keep rfl rfl (.keep rfl rfl (.keep rfl rfl (.keep rfl rfl .nil))))))))))) rfl (.keep rfl rfl (.keep rfl rfl .nil))) (lend2 rfl (owns_map irow_frees) (lend1 rfl (owns_map Cell.row_frees))) dcd rfl trivial ?_)
 refine .nil ⟨rfl, ?_⟩
 refine .one 22 rfl krf ?_
 refine .buildSlice (([pickN ws 1 p.a, pickN ws (ws.getD (((cs.getD (((((cs.length : Nat) : Int) - 1) - (i : Int)).toNat) default).out).toNat) 0) p.d] : List Int).map irow) sl22 ze3 rfl rfl rfl rfl rfl (uniform_map (s := 1) (f := irow) (fun _ => rfl)) rfl rfl rfl dcd ?_
 refine .nil ⟨rfl, ?_⟩
 refine .one 23 rfl krf ?_
 refine .fa fl39_3 ?_
 refine .nil ⟨rfl, ?_⟩
 refine .one 24 rfl krf (.sh (Sh.freezeE (d := 46) (([pickN ws 1 p.a, pickN ws (ws.getD (((cs.getD (((((cs.length : Nat) : Int) - 1) - (i : Int)).toNat) default).out).toNat) 0) p.d] : List Int).map irow) rfl (by first | rfl | exact rep_map rfl) (Frees.map irow_frees)) (.storeC si22 rfl rfl rfl rfl rfl rfl (nbE rfl) rfl ?_))
 refine .nil ⟨rfl, ?_⟩
 refine .done krf ?_
 exact Le.mk (.c (.c (.c (.nil)))) (.c (.c (.c (.c (.nil)))))
 refine .ld sh3 ?_
 refine .nil ⟨rfl, ?_⟩
 refine .blind 16 rfl krf (Blind.indexO (m := ((cs.getD (((((cs.length : Nat) : Int) - 1) - (i : Int)).toNat) default).out).toNat) sl22 rfl rfl om om) dcd ?_
 refine .two 6 17 rfl rfl krf ?_ ?_
 refine .callLP [1, 2] ok56 (pick_spec (n := (⟨nm, ws, cs, ins, mems, streams, [], [], f0, d0, []⟩ : Netlist)) (w := 1) (k := p.a) (by show (ws).length ≤ 1048576; omega) om) rfl (.agg (.keep rfl rfl (.lend rfl rfl (lend_le om) (lend_eq om) (.lend rfl rfl (lend_le om) (lend_eq om) (.keep rfl rfl (.keep rfl rfl (.keep rfl rfl (.keep rfl rfl (.keep rfl rfl (.keep rfl rfl (.keep rfl rfl (.keep rfl rfl .nil))))))))))) rfl (.keep rfl rfl (.keep rfl rfl .nil))) (lend2 rfl (owns_map irow_frees) (lend1 rfl (owns_map Cell.row_frees))) dcd rfl trivial ?_
 refine .nil ⟨rfl, ?_⟩
 refine .one 17 rfl krf (.vl (Y.load sh3 rfl (row_getD0 (d := 0) om) rfl rfl) ?_)
 refine .nil ⟨rfl, ?_⟩
 refine .one 21 rfl krf (.callLP [1, 2] ok56 (pick_spec (n := (⟨nm, ws, cs, ins, mems, streams, [], [], f0, d0, []⟩ : Netlist)) (w := (ws.getD (((cs.getD (((((cs.length : Nat) : Int) - 1) - (i : Int)).toNat) default).out).toNat) 0)) (k := p.d) (by show (ws).length ≤ 1048576; omega) om) rfl (.agg (.keep rfl rfl (.lend rfl rfl (lend_le om) (lend_eq om) (.lend rfl rfl (lend_le om) (lend_eq om) (.keep rfl rfl (.keep rfl rfl (.keep rfl rfl (.keep rfl rfl (.keep rfl rfl (.keep rfl rfl (.keep rfl rfl (.keep rfl rfl .nil))))))))))) rfl (.keep rfl rfl (.keep rfl rfl .nil))) (lend2 rfl (owns_map irow_frees) (lend1 rfl (owns_map Cell.row_frees))) dcd rfl trivial ?_)
 refine .nil ⟨rfl, ?_⟩
 refine .one 22 rfl krf ?_
 refine .buildSlice (([pickN ws 1 p.a, pickN ws (ws.getD (((cs.getD (((((cs.length : Nat) : Int) - 1) - (i : Int)).toNat) default).out).toNat) 0) p.d] : List Int).map irow) sl22 ze3 rfl rfl rfl rfl rfl (uniform_map (s := 1) (f := irow) (fun _ => rfl)) rfl rfl rfl dcd ?_
 refine .nil ⟨rfl, ?_⟩
 refine .one 23 rfl krf ?_
 refine .fa fl39_3 ?_
 refine .nil ⟨rfl, ?_⟩
 refine .one 24 rfl krf (.sh (Sh.freezeE (d := 46) (([pickN ws 1 p.a, pickN ws (ws.getD (((cs.getD (((((cs.length : Nat) : Int) - 1) - (i : Int)).toNat) default).out).toNat) 0) p.d] : List Int).map irow) rfl (by first | rfl | exact rep_map rfl) (Frees.map irow_frees)) (.storeC si22 rfl rfl rfl rfl rfl rfl (nbE rfl) rfl ?_))
 refine .nil ⟨rfl, ?_⟩
 refine .done krf ?_
 exact Le.mk (.c (.c (.c (.nil)))) (.c (.c (.c (.c (.nil)))))
 refine .vl (Y.load sh3 rfl (row_getD0 (d := 0) om) rfl rfl) ?_
 refine .nil ⟨rfl, ?_⟩
 refine .one 6 rfl krf (.callLP [1, 2] ok56 (pick_spec (n := (⟨nm, ws, cs, ins, mems, streams, [], [], f0, d0, []⟩ : Netlist)) (w := 1) (k := p.a) (by show (ws).length ≤ 1048576; omega) om) rfl (.agg (.keep rfl rfl (.lend rfl rfl (lend_le om) (lend_eq om) (.lend rfl rfl (lend_le om) (lend_eq om) (.keep rfl rfl (.keep rfl rfl (.keep rfl rfl (.keep rfl rfl (.keep rfl rfl (.keep rfl rfl (.keep rfl rfl (.keep rfl rfl .nil))))))))))) rfl (.keep rfl rfl (.keep rfl rfl .nil))) (lend2 rfl (owns_map irow_frees) (lend1 rfl (owns_map Cell.row_frees))) dcd rfl trivial ?_)
 refine .nil ⟨rfl, ?_⟩
 refine .one 21 rfl krf (.callLP [1, 2] ok56 (pick_spec (n := (⟨nm, ws, cs, ins, mems, streams, [], [], f0, d0, []⟩ : Netlist)) (w := (ws.getD (((cs.getD (((((cs.length : Nat) : Int) - 1) - (i : Int)).toNat) default).out).toNat) 0)) (k := p.d) (by show (ws).length ≤ 1048576; omega) om) rfl (.agg (.keep rfl rfl (.lend rfl rfl (lend_le om) (lend_eq om) (.lend rfl rfl (lend_le om) (lend_eq om) (.keep rfl rfl (.keep rfl rfl (.keep rfl rfl (.keep rfl rfl (.keep rfl rfl (.keep rfl rfl (.keep rfl rfl (.keep rfl rfl .nil))))))))))) rfl (.keep rfl rfl (.keep rfl rfl .nil))) (lend2 rfl (owns_map irow_frees) (lend1 rfl (owns_map Cell.row_frees))) dcd rfl trivial ?_)
 refine .nil ⟨rfl, ?_⟩
 refine .one 22 rfl krf ?_
 refine .buildSlice (([pickN ws 1 p.a, pickN ws (ws.getD (((cs.getD (((((cs.length : Nat) : Int) - 1) - (i : Int)).toNat) default).out).toNat) 0) p.d] : List Int).map irow) sl22 ze3 rfl rfl rfl rfl rfl (uniform_map (s := 1) (f := irow) (fun _ => rfl)) rfl rfl rfl dcd ?_
 refine .nil ⟨rfl, ?_⟩
 refine .one 23 rfl krf ?_
 refine .fa fl39_3 ?_
 refine .nil ⟨rfl, ?_⟩
 refine .one 24 rfl krf (.sh (Sh.freezeE (d := 46) (([pickN ws 1 p.a, pickN ws (ws.getD (((cs.getD (((((cs.length : Nat) : Int) - 1) - (i : Int)).toNat) default).out).toNat) 0) p.d] : List Int).map irow) rfl (by first | rfl | exact rep_map rfl) (Frees.map irow_frees)) (.storeC si22 rfl rfl rfl rfl rfl rfl (nbE rfl) rfl ?_))
 refine .nil ⟨rfl, ?_⟩
 refine .done krf ?_
 exact Le.mk (.c (.c (.c (.nil)))) (.c (.c (.c (.c (.nil)))))
 refine .le (st' := ⟨[(0, .ptr 0 0 0 0), (2, vi (i : Int)), (6, .ptr 106 0 0 0)], [(0, .cells [.v (.string nm), .slc 1 1 0 ws.length, .slc 2 6 0 cs.length, .fz 1 (ins.map irow), .fz 5 (mems.map Arr.row), .fz 3 (streams.map Strm.row), .v (.slice none 0 0), .v (.slice none 0 0), vi f0, vi d0, .v (.slice none 0 0)]), (1, .rows 1 (ws.map irow)), (2, .rows 6 (cs.map Cell.row)), (106, .cells [vi ((cs.getD (((((cs.length : Nat) : Int) - 1) - (i : Int)).toNat) default).kind), vi ((cs.getD (((((cs.length : Nat) : Int) - 1) - (i : Int)).toNat) default).op), vi ((cs.getD (((((cs.length : Nat) : Int) - 1) - (i : Int)).toNat) default).out), .fz 1 (([pickN ws 1 p.a, pickN ws (ws.getD (((cs.getD (((((cs.length : Nat) : Int) - 1) - (i : Int)).toNat) default).out).toNat) 0) p.d] : List Int).map irow), .v (.int .u64 (((cs.getD (((((cs.length : Nat) : Int) - 1) - (i : Int)).toNat) default).num : Nat) : Int)), vi ((cs.getD (((((cs.length : Nat) : Int) - 1) - (i : Int)).toNat) default).mem)])]⟩) (Le.mk (.c (.c (.c (.nil)))) (.c (.c (.c (.c (.nil)))))) ?_
 refine .regionT 14 rfl krf (.val (Y.move rfl rfl) dcd (.val (Y.nilCheck rfl rfl) dcd ?_))
 refine .val (Y.fieldAddr fl27_2 rfl rfl) dcd (.val (Y.load sh23 rfl rfl rfl rfl) dcd (.val (Y.move rfl rfl) dcd ?_))
 refine .val (Y.nilCheck rfl rfl) dcd (.val (Y.fieldAddr fl27_2 rfl rfl) dcd (.val (Y.load sh23 rfl rfl rfl rfl) dcd ?_))
 refine .val (Y.len (n := cs.length) sl23 rfl rfl) dcd (.val (Y.subI rfl rfl om) dcd (.val (Y.move rfl rfl) dcd (.val (Y.subI rfl rfl om) dcd (.val (Y.loadA sh39 rfl rfl (nbE rfl) rfl rfl) dcd (.val (Y.indexO (m := ((((cs.length : Nat) : Int) - 1) - (i : Int)).toNat) sl23 rfl rfl om om) dcd (.nil (.storeE ((cs.set (((((cs.length : Nat) : Int) - 1) - (i : Int)).toNat) (⟨(cs.getD (((((cs.length : Nat) : Int) - 1) - (i : Int)).toNat) default).kind, (cs.getD (((((cs.length : Nat) : Int) - 1) - (i : Int)).toNat) default).op, (cs.getD (((((cs.length : Nat) : Int) - 1) - (i : Int)).toNat) default).out, ([pickN ws 1 p.a, pickN ws (ws.getD (((cs.getD (((((cs.length : Nat) : Int) - 1) - (i : Int)).toNat) default).out).toNat) 0) p.d] : List Int), (cs.getD (((((cs.length : Nat) : Int) - 1) - (i : Int)).toNat) default).num, (cs.getD (((((cs.length : Nat) : Int) - 1) - (i : Int)).toNat) default).mem⟩ : Cell)).map Cell.row) si39 rfl rfl rfl rfl rfl rfl rfl (row_getD0 (d := default) om) (nbE rfl) (set_map0 rfl) (.nil ?_))))))))
 exact ⟨_, _, rfl, rfl, rfl, (by unfold lateN; rw [if_pos c23])⟩
 refine .skip ?_
 exact ⟨_, _, rfl, rfl, rfl, (by unfold lateN; rw [if_neg c23])⟩
end Go.Proofs.Ytligpghohcfpnaa
/- The walk of Made. -/
namespace Go.Proofs.Ytligpghohcfpnaa
open Go Go.AW Go.Proofs
theorem made_spec {p : Pln} (hf : p.Few) (hk : p.Ok) : ACalls Try.prog 19 [.agg (Pln.row p)] [] [] (fun r o => ∃ n, MadeP n ∧ r = .agg (Netlist.orow n) ∧ o = []) := by
 refine ACalls.ofS Try.func19 rfl rfl rfl (n := 252) dcd (nbE rfl) ?_
 have hf1 := hf.mems; have hf2 := hf.streams; have hf3 := hf.ins; have hf4 := hf.parts; have hf5 := hf.rets; have hpp := hk.parts
 refine .sr (.box 101 rfl rfl rfl rfl rfl dcd (.alloc 102 ze27 rfl rfl dcd ?_))
 refine .nil (.sr (.vl (Y.build pl27 ze27 rfl rfl rfl) ?_))
 refine .alloc 103 ze27 rfl rfl dcd (.storeC si27 rfl rfl rfl rfl rfl rfl (nbE rfl) rfl (.nil ?_))
 refine .seq (.seq (.sh (Sh.freezeO 101 rfl rfl) ?_))
 refine .sh (Sh.nilCell 103 401 1 1 rfl rfl rfl rfl dcd) (.sh (Sh.nilCell 103 402 6 2 rfl rfl rfl rfl dcd) (.sh (Sh.nilCell 103 403 1 3 rfl rfl rfl rfl dcd) ?_))
 refine .sh (Sh.nilCell 103 404 5 4 rfl rfl rfl rfl dcd) (.sh (Sh.nilCell 103 405 3 5 rfl rfl rfl rfl dcd) (.region ?_))
 refine .an ?_
 refine .nil (.block ?_)
 refine .loop3 (fun (i4_3 : Nat) (n301_3 : List Int) (n302_3 : List Cell) => ⟨[(1, .fp (Pln.row p) 0), (2, .ptr 102 0 0 0), (3, .ptr 103 0 0 0), (4, vi (i4_3 : Int))], [(102, .cells [.v (.string ByteArray.empty), .v (.slice none 0 0), .v (.slice none 0 0), .v (.slice none 0 0), .v (.slice none 0 0), .v (.slice none 0 0), .v (.slice none 0 0), .v (.slice none 0 0), vi 0, vi 0, .v (.slice none 0 0)]), (103, .cells [.v (.string nB), .slc 401 1 0 n301_3.length, .slc 402 6 0 n302_3.length, .slc 403 1 0 0, .slc 404 5 0 0, .slc 405 3 0 0, .v (.slice none 0 0), .v (.slice none 0 0), vi 0, vi 0, .v (.slice none 0 0)]), (401, .rows 1 (n301_3.map irow)), (402, .rows 6 (n302_3.map Cell.row)), (403, .rows 1 (([] : List Int).map irow)), (404, .rows 5 (([] : List Arr).map Arr.row)), (405, .rows 3 (([] : List Strm).map Strm.row))]⟩) (fun (i4_3 : Nat) (n301_3 : List Int) (n302_3 : List Cell) => ((i4_3 : Int) ≤ 8) ∧ (n301_3 = w0L i4_3) ∧ (n302_3 = c0L i4_3) ∧ (n301_3.length = i4_3) ∧ (n302_3.length = i4_3)) (fun (i4_3 : Nat) (n301_3 : List Int) (n302_3 : List Cell) => (8 - (i4_3 : Int)).toNat) 0 ([] : List Int) ([] : List Cell) (⟨om, rfl, rfl, rfl, rfl⟩) (Le.mk (.c (.c (.c (.cons (look_int rfl rlo) (.nil))))) (.c (.cons (look_cells rfl lkc) (.c (.c (.c (.c (.c (.nil))))))))) (fun i4_3 n301_3 n302_3 hI3 => ?_)
 obtain ⟨hb3, hw0, hc0, hwl0, hcl0⟩ := hI3
 refine .seq (.sr ?_)
 refine .mv ?_
 refine .vl (Y.lss rfl rfl) (.nil ?_)
 refine .condD rfl (fun c16 => ?_) (fun c16 => ?_)
 refine .skip (.seq (.block ?_))
 refine .seq ?_
 refine .regionHeldJ0 (⟨[(1, .fp (Pln.row p) 0), (2, .ptr 102 0 0 0), (3, .ptr 103 0 0 0), (4, .v (.int .i64 (i4_3 : Int)))], [(102, .cells [.v (.string ByteArray.empty), .v (.slice none 0 0), .v (.slice none 0 0), .v (.slice none 0 0), .v (.slice none 0 0), .v (.slice none 0 0), .v (.slice none 0 0), .v (.slice none 0 0), .v (.int .i64 0), .v (.int .i64 0), .v (.slice none 0 0)]), (103, .cells [.v (.string nB), .slc 401 1 0 ((n301_3 ++ ([widthN i4_3] : List Int)).length), .slc 402 6 0 n302_3.length, .slc 403 1 0 0, .slc 404 5 0 0, .slc 405 3 0 0, .v (.slice none 0 0), .v (.slice none 0 0), .v (.int .i64 0), .v (.int .i64 0), .v (.slice none 0 0)]), (401, .rows 1 ((n301_3 ++ ([widthN i4_3] : List Int)).map irow)), (402, .rows 6 (n302_3.map Cell.row)), (403, .rows 1 (([] : List Int).map irow)), (404, .rows 5 (([] : List Arr).map Arr.row)), (405, .rows 3 (([] : List Strm).map Strm.row))]⟩) rfl ?_ ?_
 refine .blind 0 rfl krf (Blind.fieldAddr fl27_1 rfl rfl) dcd (.blind 2 rfl krf (Blind.move rfl rfl) dcd ?_)
 refine .blind 3 rfl krf (Blind.convK ii3 ii5 rfl (by first | rfl | exact IntWalk.u8_in _ om)) dcd (.go0 ?_)
 refine .two 1 4 rfl rfl krf ?_ ?_
 refine .ld sh22 ?_
 refine .nil ⟨rfl, ?_⟩
 refine .one 4 rfl krf (.callP ok53 (width_spec (k := i4_3)) rfl (.keep rfl rfl .nil) dcd rfl ?_)
 refine .nil ⟨rfl, ?_⟩
 refine .one 5 rfl krf ?_
 refine .buildSlice (([widthN i4_3] : List Int).map irow) sl22 ze3 rfl rfl rfl rfl rfl (uniform_map (s := 1) (f := irow) (fun _ => rfl)) rfl rfl rfl dcd ?_
 refine .nil ⟨rfl, ?_⟩
 refine .one 6 rfl krf (.appendE ((n301_3 ++ ([widthN i4_3] : List Int)).map irow) (n301_3 ++ ([widthN i4_3] : List Int)).length sl22 ze3 rfl rfl rfl rfl (app_le omz) (app_map omz) (app_n omz) omz omz dcd dcd ?_)
 refine .nil ⟨rfl, ?_⟩
 refine .one 7 rfl krf ?_
 refine .fa fl27_1 ?_
 refine .nil ⟨rfl, ?_⟩
 refine .one 8 rfl krf (.storeC si22 rfl rfl rfl rfl rfl rfl (nbE rfl) rfl ?_)
 refine .nil ⟨rfl, ?_⟩
 refine .done krf ?_
 exact Le.mk (.c (.c (.c (.c (.nil))))) (.c (.c (.c (.c (.c (.c (.c (.nil))))))))
 refine .callP ok53 (width_spec (k := i4_3)) rfl (.keep rfl rfl .nil) dcd rfl ?_
 refine .nil ⟨rfl, ?_⟩
 refine .two 1 5 rfl rfl krf ?_ ?_
 refine .ld sh22 ?_
 refine .nil ⟨rfl, ?_⟩
 refine .one 5 rfl krf ?_
 refine .buildSlice (([widthN i4_3] : List Int).map irow) sl22 ze3 rfl rfl rfl rfl rfl (uniform_map (s := 1) (f := irow) (fun _ => rfl)) rfl rfl rfl dcd ?_
 refine .nil ⟨rfl, ?_⟩
 refine .one 6 rfl krf (.appendE ((n301_3 ++ ([widthN i4_3] : List Int)).map irow) (n301_3 ++ ([widthN i4_3] : List Int)).length sl22 ze3 rfl rfl rfl rfl (app_le omz) (app_map omz) (app_n omz) omz omz dcd dcd ?_)
 refine .nil ⟨rfl, ?_⟩
 refine .one 7 rfl krf ?_
 refine .fa fl27_1 ?_
 refine .nil ⟨rfl, ?_⟩
 refine .one 8 rfl krf (.storeC si22 rfl rfl rfl rfl rfl rfl (nbE rfl) rfl ?_)
 refine .nil ⟨rfl, ?_⟩
 refine .done krf ?_
 exact Le.mk (.c (.c (.c (.c (.nil))))) (.c (.c (.c (.c (.c (.c (.c (.nil))))))))
 refine .buildSlice (([widthN i4_3] : List Int).map irow) sl22 ze3 rfl rfl rfl rfl rfl (uniform_map (s := 1) (f := irow) (fun _ => rfl)) rfl rfl rfl dcd ?_
 refine .nil ⟨rfl, ?_⟩
 refine .one 1 rfl krf ?_
 refine .ld sh22 ?_
 refine .nil ⟨rfl, ?_⟩
 refine .one 6 rfl krf (.appendE ((n301_3 ++ ([widthN i4_3] : List Int)).map irow) (n301_3 ++ ([widthN i4_3] : List Int)).length sl22 ze3 rfl rfl rfl rfl (app_le omz) (app_map omz) (app_n omz) omz omz dcd dcd ?_)
 refine .nil ⟨rfl, ?_⟩
 refine .one 7 rfl krf ?_
 refine .fa fl27_1 ?_
 refine .nil ⟨rfl, ?_⟩
 refine .one 8 rfl krf (.storeC si22 rfl rfl rfl rfl rfl rfl (nbE rfl) rfl ?_)
 refine .nil ⟨rfl, ?_⟩
 refine .done krf ?_
 exact Le.mk (.c (.c (.c (.c (.nil))))) (.c (.c (.c (.c (.c (.c (.c (.nil))))))))
 refine .le (st' := ⟨[(1, .fp (Pln.row p) 0), (2, .ptr 102 0 0 0), (3, .ptr 103 0 0 0), (4, vi (i4_3 : Int))], [(102, .cells [.v (.string ByteArray.empty), .v (.slice none 0 0), .v (.slice none 0 0), .v (.slice none 0 0), .v (.slice none 0 0), .v (.slice none 0 0), .v (.slice none 0 0), .v (.slice none 0 0), vi 0, vi 0, .v (.slice none 0 0)]), (103, .cells [.v (.string nB), .slc 401 1 0 ((n301_3 ++ ([widthN i4_3] : List Int)).length), .slc 402 6 0 n302_3.length, .slc 403 1 0 0, .slc 404 5 0 0, .slc 405 3 0 0, .v (.slice none 0 0), .v (.slice none 0 0), vi 0, vi 0, .v (.slice none 0 0)]), (401, .rows 1 ((n301_3 ++ ([widthN i4_3] : List Int)).map irow)), (402, .rows 6 (n302_3.map Cell.row)), (403, .rows 1 (([] : List Int).map irow)), (404, .rows 5 (([] : List Arr).map Arr.row)), (405, .rows 3 (([] : List Strm).map Strm.row))]⟩) (Le.mk (.c (.c (.c (.c (.nil))))) (.c (.c (.c (.c (.c (.c (.c (.nil))))))))) (.region ?_)
 refine .fa fl27_2 ?_
 refine .ld sh23 ?_
 refine .mv ?_
 refine .mv ?_
 refine .vl (Y.remI rfl rfl om) (.vl (Y.convK ii3 ii37 rfl (by first | rfl | exact IntWalk.u64_in _ om)) ?_)
 refine .vl (Y.build pl39 ze39 rfl rfl rfl) (.sh (Sh.fzA (d := 33) 1 3 rfl rfl) ?_)
 refine .buildSlice (([(⟨1, 0, (i4_3 : Int), ([] : List Int), i4_3 % 2, 0⟩ : Cell)] : List Cell).map Cell.row) sl23 ze39 rfl rfl rfl rfl rfl (uniform_map (s := 6) (f := Cell.row) (fun _ => rfl)) rfl rfl rfl dcd ?_
 refine .appendE ((n302_3 ++ ([(⟨1, 0, (i4_3 : Int), ([] : List Int), i4_3 % 2, 0⟩ : Cell)] : List Cell)).map Cell.row) (n302_3 ++ ([(⟨1, 0, (i4_3 : Int), ([] : List Int), i4_3 % 2, 0⟩ : Cell)] : List Cell)).length sl23 ze39 rfl rfl rfl rfl (app_le omz) (app_map omz) (app_n omz) omz omz dcd dcd ?_
 refine .fa fl27_2 ?_
 refine .storeC si23 rfl rfl rfl rfl rfl rfl (nbE rfl) rfl (.nil (.region ?_))
 refine .mv ?_
 refine .vl (Y.addI rfl rfl om) ?_
 refine .an ?_
 refine .nil ?_
 exact ⟨i4_3 + 1, n301_3 ++ ([widthN i4_3] : List Int), n302_3 ++ ([(⟨1, 0, (i4_3 : Int), ([] : List Int), i4_3 % 2, 0⟩ : Cell)] : List Cell), ⟨om, by rw [hw0]; exact (w0L_succ _).symm, by rw [hc0]; exact (c0L_succ _).symm, by rw [List.length_append, hwl0]; rfl, by rw [List.length_append, hcl0]; rfl⟩, om, Le.mk (.c (.c (.c (.cons (look_int rfl rlo) (.nil))))) (.c (.cons (look_cells rfl lkc) (.c (.c (.c (.c (.c (.nil))))))))⟩
 refine .exit (.seq (.sr ?_))
 refine .an ?_
 refine .nil (.block ?_)
 refine .loop2 (fun (i5_8 : Nat) (n304_8 : List Arr) => ⟨[(1, .fp (Pln.row p) 0), (2, .ptr 102 0 0 0), (3, .ptr 103 0 0 0), (5, vi (i5_8 : Int))], [(102, .cells [.v (.string ByteArray.empty), .v (.slice none 0 0), .v (.slice none 0 0), .v (.slice none 0 0), .v (.slice none 0 0), .v (.slice none 0 0), .v (.slice none 0 0), .v (.slice none 0 0), vi 0, vi 0, .v (.slice none 0 0)]), (103, .cells [.v (.string nB), .slc 401 1 0 n301_3.length, .slc 402 6 0 n302_3.length, .slc 403 1 0 0, .slc 404 5 0 n304_8.length, .slc 405 3 0 0, .v (.slice none 0 0), .v (.slice none 0 0), vi 0, vi 0, .v (.slice none 0 0)]), (401, .rows 1 (n301_3.map irow)), (402, .rows 6 (n302_3.map Cell.row)), (403, .rows 1 (([] : List Int).map irow)), (404, .rows 5 (n304_8.map Arr.row)), (405, .rows 3 (([] : List Strm).map Strm.row))]⟩) (fun (i5_8 : Nat) (n304_8 : List Arr) => ((i5_8 : Int) ≤ ((p.mems.length : Nat) : Int)) ∧ (∀ m ∈ n304_8, MemOK m ∧ ∃ k, m.width = widthN k) ∧ (n304_8.length = i5_8)) (fun (i5_8 : Nat) (n304_8 : List Arr) => (((p.mems.length : Nat) : Int) - (i5_8 : Int)).toNat) 0 ([] : List Arr) (⟨om, fun m h => (by cases h), rfl⟩) (Le.mk (.c (.c (.c (.cons (look_int rfl rlo) (.nil))))) (.c (.cons (look_cells rfl lkc) (.c (.c (.c (.c (.c (.nil))))))))) (fun i5_8 n304_8 hI8 => ?_)
 obtain ⟨hb8, hm, hml⟩ := hI8
 refine .seq (.sr ?_)
 refine .mv ?_
 refine .fa fl36_0 ?_
 refine .ld sh32 ?_
 refine .vl (Y.len (n := p.mems.length) sl32 rfl (congrArg some (List.length_map ..))) (.vl (Y.lss rfl rfl) (.nil ?_))
 refine .condD rfl (fun c41 => ?_) (fun c41 => ?_)
 refine .skip (.seq (.block ?_))
 have hk1 := hk.mems (p.mems.getD i5_8 default) (getD_in om)
 refine .regionHeldJ0 (⟨[(1, .fp (Pln.row p) 0), (2, .ptr 102 0 0 0), (3, .ptr 103 0 0 0), (5, .v (.int .i64 (i5_8 : Int)))], [(102, .cells [.v (.string ByteArray.empty), .v (.slice none 0 0), .v (.slice none 0 0), .v (.slice none 0 0), .v (.slice none 0 0), .v (.slice none 0 0), .v (.slice none 0 0), .v (.slice none 0 0), .v (.int .i64 0), .v (.int .i64 0), .v (.slice none 0 0)]), (103, .cells [.v (.string nB), .slc 401 1 0 n301_3.length, .slc 402 6 0 n302_3.length, .slc 403 1 0 0, .slc 404 5 0 ((n304_8 ++ ([(⟨mB, widthN ((p.mems.getD i5_8 default).a), 1 + ((((p.mems.getD i5_8 default).b : Nat) : Int) % 9), 0, 0⟩ : Arr)] : List Arr)).length), .slc 405 3 0 0, .v (.slice none 0 0), .v (.slice none 0 0), .v (.int .i64 0), .v (.int .i64 0), .v (.slice none 0 0)]), (401, .rows 1 (n301_3.map irow)), (402, .rows 6 (n302_3.map Cell.row)), (403, .rows 1 (([] : List Int).map irow)), (404, .rows 5 ((n304_8 ++ ([(⟨mB, widthN ((p.mems.getD i5_8 default).a), 1 + ((((p.mems.getD i5_8 default).b : Nat) : Int) % 9), 0, 0⟩ : Arr)] : List Arr)).map Arr.row)), (405, .rows 3 (([] : List Strm).map Strm.row))]⟩) rfl ?_ ?_
 refine .blind 0 rfl krf (Blind.fieldAddr fl27_4 rfl rfl) dcd (.blind 2 rfl krf (Blind.fieldAddr fl36_0 rfl rfl) dcd (.load 3 rfl krf sh32 rfl rfl rfl rfl rfl dcd ?_))
 refine .blind 4 rfl krf (Blind.move rfl rfl) dcd (.blind 5 rfl krf (Blind.indexF (m := i5_8) sl32 rfl rfl rlo (row_getD (d := default) om)) dcd ?_)
 refine .blind 6 rfl krf (Blind.indexP ar81 rfl rfl (m := 0) rfl om rfl) dcd (.load 7 rfl krf sh5 rfl rfl rfl rfl rfl dcd (.blind 9 rfl krf (Blind.fieldAddr fl36_0 rfl rfl) dcd ?_))
 refine .load 10 rfl krf sh32 rfl rfl rfl rfl rfl dcd (.blind 11 rfl krf (Blind.move rfl rfl) dcd ?_)
 refine .blind 12 rfl krf (Blind.indexF (m := i5_8) sl32 rfl rfl rlo (row_getD (d := default) om)) dcd ?_
 refine .blind 13 rfl krf (Blind.indexP ar81 rfl rfl (m := 1) rfl om rfl) dcd (.load 14 rfl krf sh5 rfl rfl rfl rfl rfl dcd ?_)
 refine .blind 15 rfl krf (Blind.remI rfl rfl om) dcd (.blind 16 rfl krf (Blind.convK ii5 ii3 rfl (by first | rfl | exact IntWalk.i64_in _ om)) dcd (.blind 17 rfl krf (Blind.addI rfl rfl om) dcd (.go0 ?_)))
 refine .two 1 8 rfl rfl krf ?_ ?_
 refine .ld sh24 ?_
 refine .nil ⟨rfl, ?_⟩
 refine .one 8 rfl krf (.callP ok53 (width_spec (k := ((p.mems.getD i5_8 default).a))) rfl (.keep rfl rfl .nil) dcd rfl ?_)
 refine .nil ⟨rfl, ?_⟩
 refine .one 18 rfl krf (.vl (Y.build pl48 ze48 rfl rfl rfl) ?_)
 refine .nil ⟨rfl, ?_⟩
 refine .one 19 rfl krf ?_
 refine .buildSlice (([(⟨mB, widthN ((p.mems.getD i5_8 default).a), 1 + ((((p.mems.getD i5_8 default).b : Nat) : Int) % 9), 0, 0⟩ : Arr)] : List Arr).map Arr.row) sl24 ze48 rfl rfl rfl rfl rfl (uniform_map (s := 5) (f := Arr.row) (fun _ => rfl)) rfl rfl rfl dcd ?_
 refine .nil ⟨rfl, ?_⟩
 refine .one 20 rfl krf (.appendE ((n304_8 ++ ([(⟨mB, widthN ((p.mems.getD i5_8 default).a), 1 + ((((p.mems.getD i5_8 default).b : Nat) : Int) % 9), 0, 0⟩ : Arr)] : List Arr)).map Arr.row) (n304_8 ++ ([(⟨mB, widthN ((p.mems.getD i5_8 default).a), 1 + ((((p.mems.getD i5_8 default).b : Nat) : Int) % 9), 0, 0⟩ : Arr)] : List Arr)).length sl24 ze48 rfl rfl rfl rfl (app_le omz) (app_map omz) (app_n omz) omz omz dcd dcd ?_)
 refine .nil ⟨rfl, ?_⟩
 refine .one 21 rfl krf ?_
 refine .fa fl27_4 ?_
 refine .nil ⟨rfl, ?_⟩
 refine .one 22 rfl krf (.storeC si24 rfl rfl rfl rfl rfl rfl (nbE rfl) rfl ?_)
 refine .nil ⟨rfl, ?_⟩
 refine .done krf ?_
 exact Le.mk (.c (.c (.c (.c (.nil))))) (.c (.c (.c (.c (.c (.c (.c (.nil))))))))
 refine .callP ok53 (width_spec (k := ((p.mems.getD i5_8 default).a))) rfl (.keep rfl rfl .nil) dcd rfl ?_
 refine .nil ⟨rfl, ?_⟩
 refine .two 1 18 rfl rfl krf ?_ ?_
 refine .ld sh24 ?_
 refine .nil ⟨rfl, ?_⟩
 refine .one 18 rfl krf (.vl (Y.build pl48 ze48 rfl rfl rfl) ?_)
 refine .nil ⟨rfl, ?_⟩
 refine .one 19 rfl krf ?_
 refine .buildSlice (([(⟨mB, widthN ((p.mems.getD i5_8 default).a), 1 + ((((p.mems.getD i5_8 default).b : Nat) : Int) % 9), 0, 0⟩ : Arr)] : List Arr).map Arr.row) sl24 ze48 rfl rfl rfl rfl rfl (uniform_map (s := 5) (f := Arr.row) (fun _ => rfl)) rfl rfl rfl dcd ?_
 refine .nil ⟨rfl, ?_⟩
 refine .one 20 rfl krf (.appendE ((n304_8 ++ ([(⟨mB, widthN ((p.mems.getD i5_8 default).a), 1 + ((((p.mems.getD i5_8 default).b : Nat) : Int) % 9), 0, 0⟩ : Arr)] : List Arr)).map Arr.row) (n304_8 ++ ([(⟨mB, widthN ((p.mems.getD i5_8 default).a), 1 + ((((p.mems.getD i5_8 default).b : Nat) : Int) % 9), 0, 0⟩ : Arr)] : List Arr)).length sl24 ze48 rfl rfl rfl rfl (app_le omz) (app_map omz) (app_n omz) omz omz dcd dcd ?_)
 refine .nil ⟨rfl, ?_⟩
 refine .one 21 rfl krf ?_
 refine .fa fl27_4 ?_
 refine .nil ⟨rfl, ?_⟩
 refine .one 22 rfl krf (.storeC si24 rfl rfl rfl rfl rfl rfl (nbE rfl) rfl ?_)
 refine .nil ⟨rfl, ?_⟩
 refine .done krf ?_
 exact Le.mk (.c (.c (.c (.c (.nil))))) (.c (.c (.c (.c (.c (.c (.c (.nil))))))))
 refine .vl (Y.build pl48 ze48 rfl rfl rfl) ?_
 refine .nil ⟨rfl, ?_⟩
 refine .two 1 19 rfl rfl krf ?_ ?_
 refine .ld sh24 ?_
 refine .nil ⟨rfl, ?_⟩
 refine .one 19 rfl krf ?_
 refine .buildSlice (([(⟨mB, widthN ((p.mems.getD i5_8 default).a), 1 + ((((p.mems.getD i5_8 default).b : Nat) : Int) % 9), 0, 0⟩ : Arr)] : List Arr).map Arr.row) sl24 ze48 rfl rfl rfl rfl rfl (uniform_map (s := 5) (f := Arr.row) (fun _ => rfl)) rfl rfl rfl dcd ?_
 refine .nil ⟨rfl, ?_⟩
 refine .one 20 rfl krf (.appendE ((n304_8 ++ ([(⟨mB, widthN ((p.mems.getD i5_8 default).a), 1 + ((((p.mems.getD i5_8 default).b : Nat) : Int) % 9), 0, 0⟩ : Arr)] : List Arr)).map Arr.row) (n304_8 ++ ([(⟨mB, widthN ((p.mems.getD i5_8 default).a), 1 + ((((p.mems.getD i5_8 default).b : Nat) : Int) % 9), 0, 0⟩ : Arr)] : List Arr)).length sl24 ze48 rfl rfl rfl rfl (app_le omz) (app_map omz) (app_n omz) omz omz dcd dcd ?_)
 refine .nil ⟨rfl, ?_⟩
 refine .one 21 rfl krf ?_
 refine .fa fl27_4 ?_
 refine .nil ⟨rfl, ?_⟩
 refine .one 22 rfl krf (.storeC si24 rfl rfl rfl rfl rfl rfl (nbE rfl) rfl ?_)
 refine .nil ⟨rfl, ?_⟩
 refine .done krf ?_
 exact Le.mk (.c (.c (.c (.c (.nil))))) (.c (.c (.c (.c (.c (.c (.c (.nil))))))))
 refine .buildSlice (([(⟨mB, widthN ((p.mems.getD i5_8 default).a), 1 + ((((p.mems.getD i5_8 default).b : Nat) : Int) % 9), 0, 0⟩ : Arr)] : List Arr).map Arr.row) sl24 ze48 rfl rfl rfl rfl rfl (uniform_map (s := 5) (f := Arr.row) (fun _ => rfl)) rfl rfl rfl dcd ?_
 refine .nil ⟨rfl, ?_⟩
 refine .one 1 rfl krf ?_
 refine .ld sh24 ?_
 refine .nil ⟨rfl, ?_⟩
 refine .one 20 rfl krf (.appendE ((n304_8 ++ ([(⟨mB, widthN ((p.mems.getD i5_8 default).a), 1 + ((((p.mems.getD i5_8 default).b : Nat) : Int) % 9), 0, 0⟩ : Arr)] : List Arr)).map Arr.row) (n304_8 ++ ([(⟨mB, widthN ((p.mems.getD i5_8 default).a), 1 + ((((p.mems.getD i5_8 default).b : Nat) : Int) % 9), 0, 0⟩ : Arr)] : List Arr)).length sl24 ze48 rfl rfl rfl rfl (app_le omz) (app_map omz) (app_n omz) omz omz dcd dcd ?_)
 refine .nil ⟨rfl, ?_⟩
 refine .one 21 rfl krf ?_
 refine .fa fl27_4 ?_
 refine .nil ⟨rfl, ?_⟩
 refine .one 22 rfl krf (.storeC si24 rfl rfl rfl rfl rfl rfl (nbE rfl) rfl ?_)
 refine .nil ⟨rfl, ?_⟩
 refine .done krf ?_
 exact Le.mk (.c (.c (.c (.c (.nil))))) (.c (.c (.c (.c (.c (.c (.c (.nil))))))))
 refine .region ?_
 refine .mv ?_
 refine .vl (Y.addI rfl rfl om) ?_
 refine .an ?_
 refine .nil ?_
 exact ⟨i5_8 + 1, n304_8 ++ ([(⟨mB, widthN ((p.mems.getD i5_8 default).a), 1 + ((((p.mems.getD i5_8 default).b : Nat) : Int) % 9), 0, 0⟩ : Arr)] : List Arr), ⟨om, all_app hm (memOK_made om), by rw [List.length_append, hml]; rfl⟩, om, Le.mk (.c (.c (.c (.cons (look_int rfl rlo) (.nil))))) (.c (.cons (look_cells rfl lkc) (.c (.c (.c (.c (.c (.nil))))))))⟩
 refine .exit (.seq (.sr ?_))
 refine .an ?_
 refine .nil (.block ?_)
 refine .loop2 (fun (i6_12 : Nat) (n305_12 : List Strm) => ⟨[(1, .fp (Pln.row p) 0), (2, .ptr 102 0 0 0), (3, .ptr 103 0 0 0), (6, vi (i6_12 : Int))], [(102, .cells [.v (.string ByteArray.empty), .v (.slice none 0 0), .v (.slice none 0 0), .v (.slice none 0 0), .v (.slice none 0 0), .v (.slice none 0 0), .v (.slice none 0 0), .v (.slice none 0 0), vi 0, vi 0, .v (.slice none 0 0)]), (103, .cells [.v (.string nB), .slc 401 1 0 n301_3.length, .slc 402 6 0 n302_3.length, .slc 403 1 0 0, .slc 404 5 0 n304_8.length, .slc 405 3 0 n305_12.length, .v (.slice none 0 0), .v (.slice none 0 0), vi 0, vi 0, .v (.slice none 0 0)]), (401, .rows 1 (n301_3.map irow)), (402, .rows 6 (n302_3.map Cell.row)), (403, .rows 1 (([] : List Int).map irow)), (404, .rows 5 (n304_8.map Arr.row)), (405, .rows 3 (n305_12.map Strm.row))]⟩) (fun (i6_12 : Nat) (n305_12 : List Strm) => ((i6_12 : Int) ≤ ((p.streams.length : Nat) : Int)) ∧ (∀ m ∈ n305_12, Named m.name ∧ ∃ k, m.width = widthN k) ∧ (n305_12.length = i6_12)) (fun (i6_12 : Nat) (n305_12 : List Strm) => (((p.streams.length : Nat) : Int) - (i6_12 : Int)).toNat) 0 ([] : List Strm) (⟨om, fun m h => (by cases h), rfl⟩) (Le.mk (.c (.c (.c (.cons (look_int rfl rlo) (.nil))))) (.c (.cons (look_cells rfl lkc) (.c (.c (.c (.c (.c (.nil))))))))) (fun i6_12 n305_12 hI12 => ?_)
 obtain ⟨hb12, hs, hsl⟩ := hI12
 refine .seq (.sr ?_)
 refine .mv ?_
 refine .fa fl36_1 ?_
 refine .ld sh32 ?_
 refine .vl (Y.len (n := p.streams.length) sl32 rfl (congrArg some (List.length_map ..))) (.vl (Y.lss rfl rfl) (.nil ?_))
 refine .condD rfl (fun c70 => ?_) (fun c70 => ?_)
 refine .skip (.seq (.block ?_))
 have hk1 := hk.streams (p.streams.getD i6_12 default) (getD_in om)
 refine .regionHeldJ0 (⟨[(1, .fp (Pln.row p) 0), (2, .ptr 102 0 0 0), (3, .ptr 103 0 0 0), (6, .v (.int .i64 (i6_12 : Int)))], [(102, .cells [.v (.string ByteArray.empty), .v (.slice none 0 0), .v (.slice none 0 0), .v (.slice none 0 0), .v (.slice none 0 0), .v (.slice none 0 0), .v (.slice none 0 0), .v (.slice none 0 0), .v (.int .i64 0), .v (.int .i64 0), .v (.slice none 0 0)]), (103, .cells [.v (.string nB), .slc 401 1 0 n301_3.length, .slc 402 6 0 n302_3.length, .slc 403 1 0 0, .slc 404 5 0 n304_8.length, .slc 405 3 0 ((n305_12 ++ ([(⟨sB, widthN ((p.streams.getD i6_12 default).a), decide (((((p.streams.getD i6_12 default).b : Nat) : Int) % 2) = 1)⟩ : Strm)] : List Strm)).length), .v (.slice none 0 0), .v (.slice none 0 0), .v (.int .i64 0), .v (.int .i64 0), .v (.slice none 0 0)]), (401, .rows 1 (n301_3.map irow)), (402, .rows 6 (n302_3.map Cell.row)), (403, .rows 1 (([] : List Int).map irow)), (404, .rows 5 (n304_8.map Arr.row)), (405, .rows 3 ((n305_12 ++ ([(⟨sB, widthN ((p.streams.getD i6_12 default).a), decide (((((p.streams.getD i6_12 default).b : Nat) : Int) % 2) = 1)⟩ : Strm)] : List Strm)).map Strm.row))]⟩) rfl ?_ ?_
 refine .blind 0 rfl krf (Blind.fieldAddr fl27_5 rfl rfl) dcd (.blind 2 rfl krf (Blind.fieldAddr fl36_1 rfl rfl) dcd (.load 3 rfl krf sh32 rfl rfl rfl rfl rfl dcd ?_))
 refine .blind 4 rfl krf (Blind.move rfl rfl) dcd (.blind 5 rfl krf (Blind.indexF (m := i6_12) sl32 rfl rfl rlo (row_getD (d := default) om)) dcd ?_)
 refine .blind 6 rfl krf (Blind.indexP ar81 rfl rfl (m := 0) rfl om rfl) dcd (.load 7 rfl krf sh5 rfl rfl rfl rfl rfl dcd (.blind 9 rfl krf (Blind.fieldAddr fl36_1 rfl rfl) dcd ?_))
 refine .load 10 rfl krf sh32 rfl rfl rfl rfl rfl dcd (.blind 11 rfl krf (Blind.move rfl rfl) dcd ?_)
 refine .blind 12 rfl krf (Blind.indexF (m := i6_12) sl32 rfl rfl rlo (row_getD (d := default) om)) dcd ?_
 refine .blind 13 rfl krf (Blind.indexP ar81 rfl rfl (m := 1) rfl om rfl) dcd (.load 14 rfl krf sh5 rfl rfl rfl rfl rfl dcd ?_)
 refine .blind 15 rfl krf (Blind.remI rfl rfl om) dcd ?_
 refine .blind 16 rfl krf (Blind.eql rfl rfl) dcd (.go0 ?_)
 refine .two 1 8 rfl rfl krf ?_ ?_
 refine .ld sh25 ?_
 refine .nil ⟨rfl, ?_⟩
 refine .one 8 rfl krf (.callP ok53 (width_spec (k := ((p.streams.getD i6_12 default).a))) rfl (.keep rfl rfl .nil) dcd rfl ?_)
 refine .nil ⟨rfl, ?_⟩
 refine .one 17 rfl krf (.vl (Y.build pl83 ze83 rfl rfl rfl) ?_)
 refine .nil ⟨rfl, ?_⟩
 refine .one 18 rfl krf ?_
 refine .buildSlice (([(⟨sB, widthN ((p.streams.getD i6_12 default).a), decide (((((p.streams.getD i6_12 default).b : Nat) : Int) % 2) = 1)⟩ : Strm)] : List Strm).map Strm.row) sl25 ze83 rfl rfl rfl rfl rfl (uniform_map (s := 3) (f := Strm.row) (fun _ => rfl)) rfl rfl rfl dcd ?_
 refine .nil ⟨rfl, ?_⟩
 refine .one 19 rfl krf (.appendE ((n305_12 ++ ([(⟨sB, widthN ((p.streams.getD i6_12 default).a), decide (((((p.streams.getD i6_12 default).b : Nat) : Int) % 2) = 1)⟩ : Strm)] : List Strm)).map Strm.row) (n305_12 ++ ([(⟨sB, widthN ((p.streams.getD i6_12 default).a), decide (((((p.streams.getD i6_12 default).b : Nat) : Int) % 2) = 1)⟩ : Strm)] : List Strm)).length sl25 ze83 rfl rfl rfl rfl (app_le omz) (app_map omz) (app_n omz) omz omz dcd dcd ?_)
 refine .nil ⟨rfl, ?_⟩
 refine .one 20 rfl krf ?_
 refine .fa fl27_5 ?_
 refine .nil ⟨rfl, ?_⟩
 refine .one 21 rfl krf (.storeC si25 rfl rfl rfl rfl rfl rfl (nbE rfl) rfl ?_)
 refine .nil ⟨rfl, ?_⟩
 refine .done krf ?_
 exact Le.mk (.c (.c (.c (.c (.nil))))) (.c (.c (.c (.c (.c (.c (.c (.nil))))))))
 refine .callP ok53 (width_spec (k := ((p.streams.getD i6_12 default).a))) rfl (.keep rfl rfl .nil) dcd rfl ?_
 refine .nil ⟨rfl, ?_⟩
 refine .two 1 17 rfl rfl krf ?_ ?_
 refine .ld sh25 ?_
 refine .nil ⟨rfl, ?_⟩
 refine .one 17 rfl krf (.vl (Y.build pl83 ze83 rfl rfl rfl) ?_)
 refine .nil ⟨rfl, ?_⟩
 refine .one 18 rfl krf ?_
 refine .buildSlice (([(⟨sB, widthN ((p.streams.getD i6_12 default).a), decide (((((p.streams.getD i6_12 default).b : Nat) : Int) % 2) = 1)⟩ : Strm)] : List Strm).map Strm.row) sl25 ze83 rfl rfl rfl rfl rfl (uniform_map (s := 3) (f := Strm.row) (fun _ => rfl)) rfl rfl rfl dcd ?_
 refine .nil ⟨rfl, ?_⟩
 refine .one 19 rfl krf (.appendE ((n305_12 ++ ([(⟨sB, widthN ((p.streams.getD i6_12 default).a), decide (((((p.streams.getD i6_12 default).b : Nat) : Int) % 2) = 1)⟩ : Strm)] : List Strm)).map Strm.row) (n305_12 ++ ([(⟨sB, widthN ((p.streams.getD i6_12 default).a), decide (((((p.streams.getD i6_12 default).b : Nat) : Int) % 2) = 1)⟩ : Strm)] : List Strm)).length sl25 ze83 rfl rfl rfl rfl (app_le omz) (app_map omz) (app_n omz) omz omz dcd dcd ?_)
 refine .nil ⟨rfl, ?_⟩
 refine .one 20 rfl krf ?_
 refine .fa fl27_5 ?_
 refine .nil ⟨rfl, ?_⟩
 refine .one 21 rfl krf (.storeC si25 rfl rfl rfl rfl rfl rfl (nbE rfl) rfl ?_)
 refine .nil ⟨rfl, ?_⟩
 refine .done krf ?_
 exact Le.mk (.c (.c (.c (.c (.nil))))) (.c (.c (.c (.c (.c (.c (.c (.nil))))))))
 refine .vl (Y.build pl83 ze83 rfl rfl rfl) ?_
 refine .nil ⟨rfl, ?_⟩
 refine .two 1 18 rfl rfl krf ?_ ?_
 refine .ld sh25 ?_
 refine .nil ⟨rfl, ?_⟩
 refine .one 18 rfl krf ?_
 refine .buildSlice (([(⟨sB, widthN ((p.streams.getD i6_12 default).a), decide (((((p.streams.getD i6_12 default).b : Nat) : Int) % 2) = 1)⟩ : Strm)] : List Strm).map Strm.row) sl25 ze83 rfl rfl rfl rfl rfl (uniform_map (s := 3) (f := Strm.row) (fun _ => rfl)) rfl rfl rfl dcd ?_
 refine .nil ⟨rfl, ?_⟩
 refine .one 19 rfl krf (.appendE ((n305_12 ++ ([(⟨sB, widthN ((p.streams.getD i6_12 default).a), decide (((((p.streams.getD i6_12 default).b : Nat) : Int) % 2) = 1)⟩ : Strm)] : List Strm)).map Strm.row) (n305_12 ++ ([(⟨sB, widthN ((p.streams.getD i6_12 default).a), decide (((((p.streams.getD i6_12 default).b : Nat) : Int) % 2) = 1)⟩ : Strm)] : List Strm)).length sl25 ze83 rfl rfl rfl rfl (app_le omz) (app_map omz) (app_n omz) omz omz dcd dcd ?_)
 refine .nil ⟨rfl, ?_⟩
 refine .one 20 rfl krf ?_
 refine .fa fl27_5 ?_
 refine .nil ⟨rfl, ?_⟩
 refine .one 21 rfl krf (.storeC si25 rfl rfl rfl rfl rfl rfl (nbE rfl) rfl ?_)
 refine .nil ⟨rfl, ?_⟩
 refine .done krf ?_
 exact Le.mk (.c (.c (.c (.c (.nil))))) (.c (.c (.c (.c (.c (.c (.c (.nil))))))))
 refine .buildSlice (([(⟨sB, widthN ((p.streams.getD i6_12 default).a), decide (((((p.streams.getD i6_12 default).b : Nat) : Int) % 2) = 1)⟩ : Strm)] : List Strm).map Strm.row) sl25 ze83 rfl rfl rfl rfl rfl (uniform_map (s := 3) (f := Strm.row) (fun _ => rfl)) rfl rfl rfl dcd ?_
 refine .nil ⟨rfl, ?_⟩
 refine .one 1 rfl krf ?_
 refine .ld sh25 ?_
 refine .nil ⟨rfl, ?_⟩
 refine .one 19 rfl krf (.appendE ((n305_12 ++ ([(⟨sB, widthN ((p.streams.getD i6_12 default).a), decide (((((p.streams.getD i6_12 default).b : Nat) : Int) % 2) = 1)⟩ : Strm)] : List Strm)).map Strm.row) (n305_12 ++ ([(⟨sB, widthN ((p.streams.getD i6_12 default).a), decide (((((p.streams.getD i6_12 default).b : Nat) : Int) % 2) = 1)⟩ : Strm)] : List Strm)).length sl25 ze83 rfl rfl rfl rfl (app_le omz) (app_map omz) (app_n omz) omz omz dcd dcd ?_)
 refine .nil ⟨rfl, ?_⟩
 refine .one 20 rfl krf ?_
 refine .fa fl27_5 ?_
 refine .nil ⟨rfl, ?_⟩
 refine .one 21 rfl krf (.storeC si25 rfl rfl rfl rfl rfl rfl (nbE rfl) rfl ?_)
 refine .nil ⟨rfl, ?_⟩
 refine .done krf ?_
 exact Le.mk (.c (.c (.c (.c (.nil))))) (.c (.c (.c (.c (.c (.c (.c (.nil))))))))
 refine .region ?_
 refine .mv ?_
 refine .vl (Y.addI rfl rfl om) ?_
 refine .an ?_
 refine .nil ?_
 exact ⟨i6_12 + 1, n305_12 ++ ([(⟨sB, widthN ((p.streams.getD i6_12 default).a), decide (((((p.streams.getD i6_12 default).b : Nat) : Int) % 2) = 1)⟩ : Strm)] : List Strm), ⟨om, all_app hs strOK_made, by rw [List.length_append, hsl]; rfl⟩, om, Le.mk (.c (.c (.c (.cons (look_int rfl rlo) (.nil))))) (.c (.cons (look_cells rfl lkc) (.c (.c (.c (.c (.c (.nil))))))))⟩
 refine .exit (.seq (.sr ?_))
 refine .an ?_
 refine .nil (.block ?_)
 refine .loop2 (fun (i7_16 : Nat) (n303_16 : List Int) => ⟨[(1, .fp (Pln.row p) 0), (2, .ptr 102 0 0 0), (3, .ptr 103 0 0 0), (7, vi (i7_16 : Int))], [(102, .cells [.v (.string ByteArray.empty), .v (.slice none 0 0), .v (.slice none 0 0), .v (.slice none 0 0), .v (.slice none 0 0), .v (.slice none 0 0), .v (.slice none 0 0), .v (.slice none 0 0), vi 0, vi 0, .v (.slice none 0 0)]), (103, .cells [.v (.string nB), .slc 401 1 0 n301_3.length, .slc 402 6 0 n302_3.length, .slc 403 1 0 n303_16.length, .slc 404 5 0 n304_8.length, .slc 405 3 0 n305_12.length, .v (.slice none 0 0), .v (.slice none 0 0), vi 0, vi 0, .v (.slice none 0 0)]), (401, .rows 1 (n301_3.map irow)), (402, .rows 6 (n302_3.map Cell.row)), (403, .rows 1 (n303_16.map irow)), (404, .rows 5 (n304_8.map Arr.row)), (405, .rows 3 (n305_12.map Strm.row))]⟩) (fun (i7_16 : Nat) (n303_16 : List Int) => ((i7_16 : Int) ≤ ((p.ins.length : Nat) : Int)) ∧ (∀ m ∈ n303_16, ∃ k, m = widthN k) ∧ (n303_16.length = i7_16)) (fun (i7_16 : Nat) (n303_16 : List Int) => (((p.ins.length : Nat) : Int) - (i7_16 : Int)).toNat) 0 ([] : List Int) (⟨om, fun m h => (by cases h), rfl⟩) (Le.mk (.c (.c (.c (.cons (look_int rfl rlo) (.nil))))) (.c (.cons (look_cells rfl lkc) (.c (.c (.c (.c (.c (.nil))))))))) (fun i7_16 n303_16 hI16 => ?_)
 obtain ⟨hb16, hin, hil⟩ := hI16
 refine .seq (.sr ?_)
 refine .mv ?_
 refine .fa fl36_2 ?_
 refine .ld sh33 ?_
 refine .vl (Y.len (n := p.ins.length) sl33 rfl (congrArg some (List.length_map ..))) (.vl (Y.lss rfl rfl) (.nil ?_))
 refine .condD rfl (fun c98 => ?_) (fun c98 => ?_)
 refine .skip (.seq (.block ?_))
 have hk1 := hk.ins (p.ins.getD i7_16 0) (getD_in om)
 refine .regionHeldJ0 (⟨[(1, .fp (Pln.row p) 0), (2, .ptr 102 0 0 0), (3, .ptr 103 0 0 0), (7, .v (.int .i64 (i7_16 : Int)))], [(102, .cells [.v (.string ByteArray.empty), .v (.slice none 0 0), .v (.slice none 0 0), .v (.slice none 0 0), .v (.slice none 0 0), .v (.slice none 0 0), .v (.slice none 0 0), .v (.slice none 0 0), .v (.int .i64 0), .v (.int .i64 0), .v (.slice none 0 0)]), (103, .cells [.v (.string nB), .slc 401 1 0 n301_3.length, .slc 402 6 0 n302_3.length, .slc 403 1 0 ((n303_16 ++ ([widthN (p.ins.getD i7_16 0)] : List Int)).length), .slc 404 5 0 n304_8.length, .slc 405 3 0 n305_12.length, .v (.slice none 0 0), .v (.slice none 0 0), .v (.int .i64 0), .v (.int .i64 0), .v (.slice none 0 0)]), (401, .rows 1 (n301_3.map irow)), (402, .rows 6 (n302_3.map Cell.row)), (403, .rows 1 ((n303_16 ++ ([widthN (p.ins.getD i7_16 0)] : List Int)).map irow)), (404, .rows 5 (n304_8.map Arr.row)), (405, .rows 3 (n305_12.map Strm.row))]⟩) rfl ?_ ?_
 refine .blind 0 rfl krf (Blind.fieldAddr fl27_3 rfl rfl) dcd (.blind 2 rfl krf (Blind.fieldAddr fl36_2 rfl rfl) dcd (.load 3 rfl krf sh33 rfl rfl rfl rfl rfl dcd ?_))
 refine .blind 4 rfl krf (Blind.move rfl rfl) dcd (.blind 5 rfl krf (Blind.indexF (m := i7_16) sl33 rfl rfl rlo (row_getD (d := 0) om)) dcd ?_)
 refine .load 6 rfl krf sh5 rfl rfl rfl rfl rfl dcd (.go0 ?_)
 refine .two 1 7 rfl rfl krf ?_ ?_
 refine .ld sh22 ?_
 refine .nil ⟨rfl, ?_⟩
 refine .one 7 rfl krf (.callP ok53 (width_spec (k := (p.ins.getD i7_16 0))) rfl (.keep rfl rfl .nil) dcd rfl ?_)
 refine .nil ⟨rfl, ?_⟩
 refine .one 8 rfl krf ?_
 refine .buildSlice (([widthN (p.ins.getD i7_16 0)] : List Int).map irow) sl22 ze3 rfl rfl rfl rfl rfl (uniform_map (s := 1) (f := irow) (fun _ => rfl)) rfl rfl rfl dcd ?_
 refine .nil ⟨rfl, ?_⟩
 refine .one 9 rfl krf (.appendE ((n303_16 ++ ([widthN (p.ins.getD i7_16 0)] : List Int)).map irow) (n303_16 ++ ([widthN (p.ins.getD i7_16 0)] : List Int)).length sl22 ze3 rfl rfl rfl rfl (app_le omz) (app_map omz) (app_n omz) omz omz dcd dcd ?_)
 refine .nil ⟨rfl, ?_⟩
 refine .one 10 rfl krf ?_
 refine .fa fl27_3 ?_
 refine .nil ⟨rfl, ?_⟩
 refine .one 11 rfl krf (.storeC si22 rfl rfl rfl rfl rfl rfl (nbE rfl) rfl ?_)
 refine .nil ⟨rfl, ?_⟩
 refine .done krf ?_
 exact Le.mk (.c (.c (.c (.c (.nil))))) (.c (.c (.c (.c (.c (.c (.c (.nil))))))))
 refine .callP ok53 (width_spec (k := (p.ins.getD i7_16 0))) rfl (.keep rfl rfl .nil) dcd rfl ?_
 refine .nil ⟨rfl, ?_⟩
 refine .two 1 8 rfl rfl krf ?_ ?_
 refine .ld sh22 ?_
 refine .nil ⟨rfl, ?_⟩
 refine .one 8 rfl krf ?_
 refine .buildSlice (([widthN (p.ins.getD i7_16 0)] : List Int).map irow) sl22 ze3 rfl rfl rfl rfl rfl (uniform_map (s := 1) (f := irow) (fun _ => rfl)) rfl rfl rfl dcd ?_
 refine .nil ⟨rfl, ?_⟩
 refine .one 9 rfl krf (.appendE ((n303_16 ++ ([widthN (p.ins.getD i7_16 0)] : List Int)).map irow) (n303_16 ++ ([widthN (p.ins.getD i7_16 0)] : List Int)).length sl22 ze3 rfl rfl rfl rfl (app_le omz) (app_map omz) (app_n omz) omz omz dcd dcd ?_)
 refine .nil ⟨rfl, ?_⟩
 refine .one 10 rfl krf ?_
 refine .fa fl27_3 ?_
 refine .nil ⟨rfl, ?_⟩
 refine .one 11 rfl krf (.storeC si22 rfl rfl rfl rfl rfl rfl (nbE rfl) rfl ?_)
 refine .nil ⟨rfl, ?_⟩
 refine .done krf ?_
 exact Le.mk (.c (.c (.c (.c (.nil))))) (.c (.c (.c (.c (.c (.c (.c (.nil))))))))
 refine .buildSlice (([widthN (p.ins.getD i7_16 0)] : List Int).map irow) sl22 ze3 rfl rfl rfl rfl rfl (uniform_map (s := 1) (f := irow) (fun _ => rfl)) rfl rfl rfl dcd ?_
 refine .nil ⟨rfl, ?_⟩
 refine .one 1 rfl krf ?_
 refine .ld sh22 ?_
 refine .nil ⟨rfl, ?_⟩
 refine .one 9 rfl krf (.appendE ((n303_16 ++ ([widthN (p.ins.getD i7_16 0)] : List Int)).map irow) (n303_16 ++ ([widthN (p.ins.getD i7_16 0)] : List Int)).length sl22 ze3 rfl rfl rfl rfl (app_le omz) (app_map omz) (app_n omz) omz omz dcd dcd ?_)
 refine .nil ⟨rfl, ?_⟩
 refine .one 10 rfl krf ?_
 refine .fa fl27_3 ?_
 refine .nil ⟨rfl, ?_⟩
 refine .one 11 rfl krf (.storeC si22 rfl rfl rfl rfl rfl rfl (nbE rfl) rfl ?_)
 refine .nil ⟨rfl, ?_⟩
 refine .done krf ?_
 exact Le.mk (.c (.c (.c (.c (.nil))))) (.c (.c (.c (.c (.c (.c (.c (.nil))))))))
 refine .region ?_
 refine .mv ?_
 refine .vl (Y.addI rfl rfl om) ?_
 refine .an ?_
 refine .nil ?_
 exact ⟨i7_16 + 1, n303_16 ++ ([widthN (p.ins.getD i7_16 0)] : List Int), ⟨om, all_app hin ⟨_, rfl⟩, by rw [List.length_append, hil]; rfl⟩, om, Le.mk (.c (.c (.c (.cons (look_int rfl rlo) (.nil))))) (.c (.cons (look_cells rfl lkc) (.c (.c (.c (.c (.c (.nil))))))))⟩
 refine .exit (.seq (.seq ?_))
 refine .sh (Sh.fzObj 103 403 3 rfl rfl rfl (len_map om) (Frees.map irow_frees) dcd rfl rfl rfl) (.sh (Sh.fzObj 103 404 4 rfl rfl rfl (len_map om) (Frees.map Arr.row_frees) dcd rfl rfl rfl) (.sh (Sh.fzObj 103 405 5 rfl rfl rfl (len_map om) (Frees.map Strm.row_frees) dcd rfl rfl rfl) (.region ?_)))
 refine .an ?_
 refine .nil (.block ?_)
 refine .loop3 (fun (i8_20 : Nat) (n301_20 : List Int) (n302_20 : List Cell) => ⟨[(1, .fp (Pln.row p) 0), (2, .ptr 102 0 0 0), (3, .ptr 103 0 0 0), (8, vi (i8_20 : Int))], [(102, .cells [.v (.string ByteArray.empty), .v (.slice none 0 0), .v (.slice none 0 0), .v (.slice none 0 0), .v (.slice none 0 0), .v (.slice none 0 0), .v (.slice none 0 0), .v (.slice none 0 0), vi 0, vi 0, .v (.slice none 0 0)]), (103, .cells [.v (.string nB), .slc 401 1 0 n301_20.length, .slc 402 6 0 n302_20.length, .fz 1 (n303_16.map irow), .fz 5 (n304_8.map Arr.row), .fz 3 (n305_12.map Strm.row), .v (.slice none 0 0), .v (.slice none 0 0), vi 0, vi 0, .v (.slice none 0 0)]), (401, .rows 1 (n301_20.map irow)), (402, .rows 6 (n302_20.map Cell.row))]⟩) (fun (i8_20 : Nat) (n301_20 : List Int) (n302_20 : List Cell) => ((i8_20 : Int) ≤ ((p.parts.length : Nat) : Int)) ∧ (Gr (pn n301_20 n302_20 n303_16 n304_8 n305_12)) ∧ (8 ≤ n302_20.length ∧ n302_20.length ≤ 8 + i8_20) ∧ (8 ≤ n301_20.length ∧ n301_20.length ≤ 8 + i8_20)) (fun (i8_20 : Nat) (n301_20 : List Int) (n302_20 : List Cell) => (((p.parts.length : Nat) : Int) - (i8_20 : Int)).toNat) 0 n301_3 n302_3 (⟨om, by rw [hw0, hc0, show i4_3 = 8 by omega]; exact gr0 (fun m h => (hm m h).2) (fun m h => (hs m h).2) hin, by rw [hc0, c0L_len]; omega, by rw [hw0, w0L_len]; omega⟩) (Le.mk (.c (.c (.c (.cons (look_int rfl rlo) (.nil))))) (.c (.cons (look_cells rfl lkc) (.c (.c (.nil)))))) (fun i8_20 n301_20 n302_20 hI20 => ?_)
 obtain ⟨hb20, hGr, hcl, hwl⟩ := hI20
 refine .seq (.sr ?_)
 refine .mv ?_
 refine .fa fl36_3 ?_
 refine .ld sh34 ?_
 refine .vl (Y.len (n := p.parts.length) sl34 rfl (congrArg some (List.length_map ..))) (.vl (Y.lss rfl rfl) (.nil ?_))
 refine .condD rfl (fun c116 => ?_) (fun c116 => ?_)
 refine .skip ?_
 refine .join2 (fun (n301_j21 : List Int) (n302_j21 : List Cell) => ⟨[(1, .fp (Pln.row p) 0), (2, .ptr 102 0 0 0), (3, .ptr 103 0 0 0), (8, vi (i8_20 : Int))], [(102, .cells [.v (.string ByteArray.empty), .v (.slice none 0 0), .v (.slice none 0 0), .v (.slice none 0 0), .v (.slice none 0 0), .v (.slice none 0 0), .v (.slice none 0 0), .v (.slice none 0 0), vi 0, vi 0, .v (.slice none 0 0)]), (103, .cells [.v (.string nB), .slc 401 1 0 n301_j21.length, .slc 402 6 0 n302_j21.length, .fz 1 (n303_16.map irow), .fz 5 (n304_8.map Arr.row), .fz 3 (n305_12.map Strm.row), .v (.slice none 0 0), .v (.slice none 0 0), vi 0, vi 0, .v (.slice none 0 0)]), (401, .rows 1 (n301_j21.map irow)), (402, .rows 6 (n302_j21.map Cell.row))]⟩) (fun (n301_j21 : List Int) (n302_j21 : List Cell) => Gr (pn n301_j21 n302_j21 n303_16 n304_8 n305_12) ∧ (8 ≤ n302_j21.length ∧ n302_j21.length ≤ 8 + (i8_20 + 1)) ∧ (8 ≤ n301_j21.length ∧ n301_j21.length ≤ 8 + (i8_20 + 1))) ?_ (fun n301_j21 n302_j21 hJ21 => ?_)
 refine .block (.seq (.regionHeld [103] [102, 103, 401, 402] rfl ?_))
 refine .loadA 0 rfl krf sh27 rfl rfl rfl (nbE rfl) rfl rfl dcd (.blind 1 rfl krf (Blind.fieldAddr fl36_3 rfl rfl) dcd (.load 2 rfl krf sh34 rfl rfl rfl rfl rfl dcd ?_))
 refine .blind 3 rfl krf (Blind.move rfl rfl) dcd (.blind 4 rfl krf (Blind.indexF (m := i8_20) sl34 rfl rfl rlo (row_getD (d := default) om)) dcd ?_)
 refine .loadA 5 rfl krf sh88 rfl rfl rfl (nbE rfl) rfl rfl dcd (.goL rfl rfl (namesIn.cells rfl rfl rfl namesIn.nil) ?_)
 refine .two 6 10 rfl rfl krf ?_ ?_
 refine .callLV [401, 402] ok54 (part_spec (n := (⟨nB, n301_20, n302_20, n303_16, n304_8, n305_12, [], [], 0, 0, []⟩ : Netlist)) (p := (p.parts.getD i8_20 default)) (by show (n301_20).length ≤ 1048576; omega) (by show 0 < (n301_20).length; omega) (hpp _ (getD_in om)) hGr.ground (by show (n303_16).length ≤ 1048576; omega)) rfl (.agg (.keep rfl rfl (.lend rfl rfl (lend_le om) (lend_eq om) (.lend rfl rfl (lend_le om) (lend_eq om) (.keep rfl rfl (.keep rfl rfl (.keep rfl rfl (.keep rfl rfl (.keep rfl rfl (.keep rfl rfl (.keep rfl rfl (.keep rfl rfl .nil))))))))))) rfl (.keep rfl rfl .nil)) (lend2 rfl (owns_map irow_frees) (lend1 rfl (owns_map Cell.row_frees))) dcd ?_
 rintro _ ⟨cP126, wP126, hP126, rfl, _⟩
 refine ⟨rfl, ⟨⟨trivial, trivial, trivial, (plainr_map irow_plains _), trivial, trivial, trivial⟩, trivial, trivial⟩, ?_⟩
 refine .nil ⟨rfl, ?_⟩
 refine .two 7 10 rfl rfl krf ?_ ?_
 refine .moveX rfl dcd ?_
 refine .nil ⟨rfl, ?_⟩
 refine .blind 9 rfl krf (Blind.extract rfl rfl rfl) dcd ?_
 refine .two 8 10 rfl rfl krf ?_ ?_
 refine .extractU rfl rfl dcd ?_
 refine .nil ⟨rfl, ?_⟩
 refine .one 10 rfl krf (.alloc 109 ze39 rfl rfl dcd ?_)
 refine .nil ⟨rfl, ?_⟩
 refine .one 11 rfl krf (.sh (Sh.freezeX (d := 127) (y := .agg [.v (.int .i64 cP126.kind), .v (.int .i64 cP126.op), .v (.int .i64 cP126.out), .fz 1 (cP126.args.map irow), .v (.int .u64 ((cP126.num : Nat) : Int)), .v (.int .i64 cP126.mem)]) rfl (by show X.ffz (.agg [.v (.int .i64 cP126.kind), .v (.int .i64 cP126.op), .v (.int .i64 cP126.out), .uni 1 (cP126.args.map irow), .v (.int .u64 ((cP126.num : Nat) : Int)), .v (.int .i64 cP126.mem)]) = _; simp only [X.ffz, X.ffzs, X.ffzr_frees (Frees.map irow_frees)])) (.storeC si39 rfl rfl rfl rfl rfl rfl (nbE rfl) rfl ?_))
 refine .nil ⟨rfl, ?_⟩
 refine .one 12 rfl krf ?_
 refine .an ?_
 refine .nil ⟨rfl, ?_⟩
 refine .done krf (.le (st' := ⟨[(1, .fp (Pln.row p) 0), (2, .ptr 102 0 0 0), (3, .ptr 103 0 0 0), (8, vi (i8_20 : Int)), (9, .ptr 109 0 0 0), (10, vi wP126)], [(102, .cells [.v (.string ByteArray.empty), .v (.slice none 0 0), .v (.slice none 0 0), .v (.slice none 0 0), .v (.slice none 0 0), .v (.slice none 0 0), .v (.slice none 0 0), .v (.slice none 0 0), vi 0, vi 0, .v (.slice none 0 0)]), (103, .cells [.v (.string nB), .slc 401 1 0 n301_20.length, .slc 402 6 0 n302_20.length, .fz 1 (n303_16.map irow), .fz 5 (n304_8.map Arr.row), .fz 3 (n305_12.map Strm.row), .v (.slice none 0 0), .v (.slice none 0 0), vi 0, vi 0, .v (.slice none 0 0)]), (109, .cells [vi cP126.kind, vi cP126.op, vi cP126.out, .fz 1 (cP126.args.map irow), .v (.int .u64 ((cP126.num : Nat) : Int)), vi cP126.mem]), (401, .rows 1 (n301_20.map irow)), (402, .rows 6 (n302_20.map Cell.row))]⟩) (Le.mk (.c (.c (.c (.c (.c (.c (.nil))))))) (.c (.c (.c (.c (.c (.nil))))))) (.sr ?_))
 refine .fa fl39_0 ?_
 refine .ld sh3 ?_
 refine .vl (Y.neq rfl rfl) (.nil ?_)
 refine .condD rfl (fun c131 => ?_) (fun c131 => ?_)
 refine .seq (.sr ?_)
 refine .fa fl39_0 ?_
 refine .ld sh3 ?_
 refine .vl (Y.neq rfl rfl) (.nil ?_)
 refine .condD rfl (fun c134 => ?_) (fun c134 => ?_)
 refine .sr ?_
 refine .fa fl27_1 ?_
 refine .ld sh22 ?_
 refine .vl (Y.len (n := n301_20.length) sl22 rfl rfl) ?_
 refine .fa fl39_2 ?_
 refine .storeC si3 rfl rfl rfl rfl rfl rfl (nbE rfl) rfl (.nil (.region ?_))
 refine .fa fl27_1 ?_
 refine .ld sh22 ?_
 refine .mv ?_
 refine .buildSlice (([wP126] : List Int).map irow) sl22 ze3 rfl rfl rfl rfl rfl (uniform_map (s := 1) (f := irow) (fun _ => rfl)) rfl rfl rfl dcd ?_
 refine .appendE ((n301_20 ++ ([wP126] : List Int)).map irow) (n301_20 ++ ([wP126] : List Int)).length sl22 ze3 rfl rfl rfl rfl (app_le omz) (app_map omz) (app_n omz) omz omz dcd dcd ?_
 refine .fa fl27_1 ?_
 refine .storeC si22 rfl rfl rfl rfl rfl rfl (nbE rfl) rfl (.nil (.region ?_))
 refine .fa fl27_2 ?_
 refine .ld sh23 ?_
 refine .vl (Y.loadA sh39 rfl rfl (nbE rfl) rfl rfl) ?_
 refine .buildSlice (([(⟨cP126.kind, cP126.op, ((n301_20.length : Nat) : Int), cP126.args, cP126.num, cP126.mem⟩ : Cell)] : List Cell).map Cell.row) sl23 ze39 rfl rfl rfl rfl rfl (uniform_map (s := 6) (f := Cell.row) (fun _ => rfl)) rfl rfl rfl dcd ?_
 refine .appendE ((n302_20 ++ ([(⟨cP126.kind, cP126.op, ((n301_20.length : Nat) : Int), cP126.args, cP126.num, cP126.mem⟩ : Cell)] : List Cell)).map Cell.row) (n302_20 ++ ([(⟨cP126.kind, cP126.op, ((n301_20.length : Nat) : Int), cP126.args, cP126.num, cP126.mem⟩ : Cell)] : List Cell)).length sl23 ze39 rfl rfl rfl rfl (app_le omz) (app_map omz) (app_n omz) omz omz dcd dcd ?_
 refine .fa fl27_2 ?_
 refine .storeC si23 rfl rfl rfl rfl rfl rfl (nbE rfl) rfl (.nil ?_)
 exact ⟨n301_20 ++ ([wP126] : List Int), n302_20 ++ ([(⟨cP126.kind, cP126.op, ((n301_20.length : Nat) : Int), cP126.args, cP126.num, cP126.mem⟩ : Cell)] : List Cell), by first | exact ⟨hGr.add om (hP126.resolve_left asm) asm, by constructor <;> (simp only [List.length_append, List.length_cons, List.length_nil]; omega), by constructor <;> (simp only [List.length_append, List.length_cons, List.length_nil]; omega)⟩ | exact ⟨hGr.addW om (hP126.resolve_left asm) (Classical.not_not.1 asm), by constructor <;> (simp only [List.length_append, List.length_cons, List.length_nil]; omega), om⟩ | exact ⟨hGr, om, om⟩, Le.mk (.c (.c (.c (.c (.nil))))) (.c (.cons (look_cells rfl lkc) (.c (.c (.nil)))))⟩
 refine .skip (.region ?_)
 refine .fa fl27_2 ?_
 refine .ld sh23 ?_
 refine .vl (Y.loadA sh39 rfl rfl (nbE rfl) rfl rfl) ?_
 refine .buildSlice (([cP126] : List Cell).map Cell.row) sl23 ze39 rfl rfl rfl rfl rfl (uniform_map (s := 6) (f := Cell.row) (fun _ => rfl)) rfl rfl rfl dcd ?_
 refine .appendE ((n302_20 ++ ([cP126] : List Cell)).map Cell.row) (n302_20 ++ ([cP126] : List Cell)).length sl23 ze39 rfl rfl rfl rfl (app_le omz) (app_map omz) (app_n omz) omz omz dcd dcd ?_
 refine .fa fl27_2 ?_
 refine .storeC si23 rfl rfl rfl rfl rfl rfl (nbE rfl) rfl (.nil ?_)
 exact ⟨n301_20, n302_20 ++ ([cP126] : List Cell), by first | exact ⟨hGr.add om (hP126.resolve_left asm) asm, by constructor <;> (simp only [List.length_append, List.length_cons, List.length_nil]; omega), by constructor <;> (simp only [List.length_append, List.length_cons, List.length_nil]; omega)⟩ | exact ⟨hGr.addW om (hP126.resolve_left asm) (Classical.not_not.1 asm), by constructor <;> (simp only [List.length_append, List.length_cons, List.length_nil]; omega), om⟩ | exact ⟨hGr, om, om⟩, Le.mk (.c (.c (.c (.c (.nil))))) (.c (.cons (look_cells rfl lkc) (.c (.c (.nil)))))⟩
 refine .skip ?_
 exact ⟨n301_20, n302_20, by first | exact ⟨hGr.add om (hP126.resolve_left asm) asm, by constructor <;> (simp only [List.length_append, List.length_cons, List.length_nil]; omega), by constructor <;> (simp only [List.length_append, List.length_cons, List.length_nil]; omega)⟩ | exact ⟨hGr.addW om (hP126.resolve_left asm) (Classical.not_not.1 asm), by constructor <;> (simp only [List.length_append, List.length_cons, List.length_nil]; omega), om⟩ | exact ⟨hGr, om, om⟩, Le.mk (.c (.c (.c (.c (.nil))))) (.c (.cons (look_cells rfl lkc) (.c (.c (.nil)))))⟩
 refine .alloc 109 ze39 rfl rfl dcd ?_
 refine .nil ⟨rfl, ?_⟩
 refine .one 8 rfl krf (.extractU rfl rfl dcd ?_)
 refine .nil ⟨rfl, ?_⟩
 refine .one 11 rfl krf (.sh (Sh.freezeX (d := 127) (y := .agg [.v (.int .i64 cP126.kind), .v (.int .i64 cP126.op), .v (.int .i64 cP126.out), .fz 1 (cP126.args.map irow), .v (.int .u64 ((cP126.num : Nat) : Int)), .v (.int .i64 cP126.mem)]) rfl (by show X.ffz (.agg [.v (.int .i64 cP126.kind), .v (.int .i64 cP126.op), .v (.int .i64 cP126.out), .uni 1 (cP126.args.map irow), .v (.int .u64 ((cP126.num : Nat) : Int)), .v (.int .i64 cP126.mem)]) = _; simp only [X.ffz, X.ffzs, X.ffzr_frees (Frees.map irow_frees)])) (.storeC si39 rfl rfl rfl rfl rfl rfl (nbE rfl) rfl ?_))
 refine .nil ⟨rfl, ?_⟩
 refine .one 12 rfl krf ?_
 refine .an ?_
 refine .nil ⟨rfl, ?_⟩
 refine .done krf (.le (st' := ⟨[(1, .fp (Pln.row p) 0), (2, .ptr 102 0 0 0), (3, .ptr 103 0 0 0), (8, vi (i8_20 : Int)), (9, .ptr 109 0 0 0), (10, vi wP126)], [(102, .cells [.v (.string ByteArray.empty), .v (.slice none 0 0), .v (.slice none 0 0), .v (.slice none 0 0), .v (.slice none 0 0), .v (.slice none 0 0), .v (.slice none 0 0), .v (.slice none 0 0), vi 0, vi 0, .v (.slice none 0 0)]), (103, .cells [.v (.string nB), .slc 401 1 0 n301_20.length, .slc 402 6 0 n302_20.length, .fz 1 (n303_16.map irow), .fz 5 (n304_8.map Arr.row), .fz 3 (n305_12.map Strm.row), .v (.slice none 0 0), .v (.slice none 0 0), vi 0, vi 0, .v (.slice none 0 0)]), (109, .cells [vi cP126.kind, vi cP126.op, vi cP126.out, .fz 1 (cP126.args.map irow), .v (.int .u64 ((cP126.num : Nat) : Int)), vi cP126.mem]), (401, .rows 1 (n301_20.map irow)), (402, .rows 6 (n302_20.map Cell.row))]⟩) (Le.mk (.c (.c (.c (.c (.c (.c (.nil))))))) (.c (.c (.c (.c (.c (.nil))))))) (.sr ?_))
 refine .fa fl39_0 ?_
 refine .ld sh3 ?_
 refine .vl (Y.neq rfl rfl) (.nil ?_)
 refine .condD rfl (fun c131 => ?_) (fun c131 => ?_)
 refine .seq (.sr ?_)
 refine .fa fl39_0 ?_
 refine .ld sh3 ?_
 refine .vl (Y.neq rfl rfl) (.nil ?_)
 refine .condD rfl (fun c134 => ?_) (fun c134 => ?_)
 refine .sr ?_
 refine .fa fl27_1 ?_
 refine .ld sh22 ?_
 refine .vl (Y.len (n := n301_20.length) sl22 rfl rfl) ?_
 refine .fa fl39_2 ?_
 refine .storeC si3 rfl rfl rfl rfl rfl rfl (nbE rfl) rfl (.nil (.region ?_))
 refine .fa fl27_1 ?_
 refine .ld sh22 ?_
 refine .mv ?_
 refine .buildSlice (([wP126] : List Int).map irow) sl22 ze3 rfl rfl rfl rfl rfl (uniform_map (s := 1) (f := irow) (fun _ => rfl)) rfl rfl rfl dcd ?_
 refine .appendE ((n301_20 ++ ([wP126] : List Int)).map irow) (n301_20 ++ ([wP126] : List Int)).length sl22 ze3 rfl rfl rfl rfl (app_le omz) (app_map omz) (app_n omz) omz omz dcd dcd ?_
 refine .fa fl27_1 ?_
 refine .storeC si22 rfl rfl rfl rfl rfl rfl (nbE rfl) rfl (.nil (.region ?_))
 refine .fa fl27_2 ?_
 refine .ld sh23 ?_
 refine .vl (Y.loadA sh39 rfl rfl (nbE rfl) rfl rfl) ?_
 refine .buildSlice (([(⟨cP126.kind, cP126.op, ((n301_20.length : Nat) : Int), cP126.args, cP126.num, cP126.mem⟩ : Cell)] : List Cell).map Cell.row) sl23 ze39 rfl rfl rfl rfl rfl (uniform_map (s := 6) (f := Cell.row) (fun _ => rfl)) rfl rfl rfl dcd ?_
 refine .appendE ((n302_20 ++ ([(⟨cP126.kind, cP126.op, ((n301_20.length : Nat) : Int), cP126.args, cP126.num, cP126.mem⟩ : Cell)] : List Cell)).map Cell.row) (n302_20 ++ ([(⟨cP126.kind, cP126.op, ((n301_20.length : Nat) : Int), cP126.args, cP126.num, cP126.mem⟩ : Cell)] : List Cell)).length sl23 ze39 rfl rfl rfl rfl (app_le omz) (app_map omz) (app_n omz) omz omz dcd dcd ?_
 refine .fa fl27_2 ?_
 refine .storeC si23 rfl rfl rfl rfl rfl rfl (nbE rfl) rfl (.nil ?_)
 exact ⟨n301_20 ++ ([wP126] : List Int), n302_20 ++ ([(⟨cP126.kind, cP126.op, ((n301_20.length : Nat) : Int), cP126.args, cP126.num, cP126.mem⟩ : Cell)] : List Cell), by first | exact ⟨hGr.add om (hP126.resolve_left asm) asm, by constructor <;> (simp only [List.length_append, List.length_cons, List.length_nil]; omega), by constructor <;> (simp only [List.length_append, List.length_cons, List.length_nil]; omega)⟩ | exact ⟨hGr.addW om (hP126.resolve_left asm) (Classical.not_not.1 asm), by constructor <;> (simp only [List.length_append, List.length_cons, List.length_nil]; omega), om⟩ | exact ⟨hGr, om, om⟩, Le.mk (.c (.c (.c (.c (.nil))))) (.c (.cons (look_cells rfl lkc) (.c (.c (.nil)))))⟩
 refine .skip (.region ?_)
 refine .fa fl27_2 ?_
 refine .ld sh23 ?_
 refine .vl (Y.loadA sh39 rfl rfl (nbE rfl) rfl rfl) ?_
 refine .buildSlice (([cP126] : List Cell).map Cell.row) sl23 ze39 rfl rfl rfl rfl rfl (uniform_map (s := 6) (f := Cell.row) (fun _ => rfl)) rfl rfl rfl dcd ?_
 refine .appendE ((n302_20 ++ ([cP126] : List Cell)).map Cell.row) (n302_20 ++ ([cP126] : List Cell)).length sl23 ze39 rfl rfl rfl rfl (app_le omz) (app_map omz) (app_n omz) omz omz dcd dcd ?_
 refine .fa fl27_2 ?_
 refine .storeC si23 rfl rfl rfl rfl rfl rfl (nbE rfl) rfl (.nil ?_)
 exact ⟨n301_20, n302_20 ++ ([cP126] : List Cell), by first | exact ⟨hGr.add om (hP126.resolve_left asm) asm, by constructor <;> (simp only [List.length_append, List.length_cons, List.length_nil]; omega), by constructor <;> (simp only [List.length_append, List.length_cons, List.length_nil]; omega)⟩ | exact ⟨hGr.addW om (hP126.resolve_left asm) (Classical.not_not.1 asm), by constructor <;> (simp only [List.length_append, List.length_cons, List.length_nil]; omega), om⟩ | exact ⟨hGr, om, om⟩, Le.mk (.c (.c (.c (.c (.nil))))) (.c (.cons (look_cells rfl lkc) (.c (.c (.nil)))))⟩
 refine .skip ?_
 exact ⟨n301_20, n302_20, by first | exact ⟨hGr.add om (hP126.resolve_left asm) asm, by constructor <;> (simp only [List.length_append, List.length_cons, List.length_nil]; omega), by constructor <;> (simp only [List.length_append, List.length_cons, List.length_nil]; omega)⟩ | exact ⟨hGr.addW om (hP126.resolve_left asm) (Classical.not_not.1 asm), by constructor <;> (simp only [List.length_append, List.length_cons, List.length_nil]; omega), om⟩ | exact ⟨hGr, om, om⟩, Le.mk (.c (.c (.c (.c (.nil))))) (.c (.cons (look_cells rfl lkc) (.c (.c (.nil)))))⟩
 refine .alloc 109 ze39 rfl rfl dcd ?_
 refine .nil ⟨rfl, ?_⟩
 refine .one 7 rfl krf (.moveX rfl dcd ?_)
 refine .nil ⟨rfl, ?_⟩
 refine .blind 9 rfl krf (Blind.extract rfl rfl rfl) dcd (.one 8 rfl krf (.extractU rfl rfl dcd ?_))
 refine .nil ⟨rfl, ?_⟩
 refine .one 11 rfl krf (.sh (Sh.freezeX (d := 127) (y := .agg [.v (.int .i64 cP126.kind), .v (.int .i64 cP126.op), .v (.int .i64 cP126.out), .fz 1 (cP126.args.map irow), .v (.int .u64 ((cP126.num : Nat) : Int)), .v (.int .i64 cP126.mem)]) rfl (by show X.ffz (.agg [.v (.int .i64 cP126.kind), .v (.int .i64 cP126.op), .v (.int .i64 cP126.out), .uni 1 (cP126.args.map irow), .v (.int .u64 ((cP126.num : Nat) : Int)), .v (.int .i64 cP126.mem)]) = _; simp only [X.ffz, X.ffzs, X.ffzr_frees (Frees.map irow_frees)])) (.storeC si39 rfl rfl rfl rfl rfl rfl (nbE rfl) rfl ?_))
 refine .nil ⟨rfl, ?_⟩
 refine .one 12 rfl krf ?_
 refine .an ?_
 refine .nil ⟨rfl, ?_⟩
 refine .done krf (.le (st' := ⟨[(1, .fp (Pln.row p) 0), (2, .ptr 102 0 0 0), (3, .ptr 103 0 0 0), (8, vi (i8_20 : Int)), (9, .ptr 109 0 0 0), (10, vi wP126)], [(102, .cells [.v (.string ByteArray.empty), .v (.slice none 0 0), .v (.slice none 0 0), .v (.slice none 0 0), .v (.slice none 0 0), .v (.slice none 0 0), .v (.slice none 0 0), .v (.slice none 0 0), vi 0, vi 0, .v (.slice none 0 0)]), (103, .cells [.v (.string nB), .slc 401 1 0 n301_20.length, .slc 402 6 0 n302_20.length, .fz 1 (n303_16.map irow), .fz 5 (n304_8.map Arr.row), .fz 3 (n305_12.map Strm.row), .v (.slice none 0 0), .v (.slice none 0 0), vi 0, vi 0, .v (.slice none 0 0)]), (109, .cells [vi cP126.kind, vi cP126.op, vi cP126.out, .fz 1 (cP126.args.map irow), .v (.int .u64 ((cP126.num : Nat) : Int)), vi cP126.mem]), (401, .rows 1 (n301_20.map irow)), (402, .rows 6 (n302_20.map Cell.row))]⟩) (Le.mk (.c (.c (.c (.c (.c (.c (.nil))))))) (.c (.c (.c (.c (.c (.nil))))))) (.sr ?_))
 refine .fa fl39_0 ?_
 refine .ld sh3 ?_
 refine .vl (Y.neq rfl rfl) (.nil ?_)
 refine .condD rfl (fun c131 => ?_) (fun c131 => ?_)
 refine .seq (.sr ?_)
 refine .fa fl39_0 ?_
 refine .ld sh3 ?_
 refine .vl (Y.neq rfl rfl) (.nil ?_)
 refine .condD rfl (fun c134 => ?_) (fun c134 => ?_)
 refine .sr ?_
 refine .fa fl27_1 ?_
 refine .ld sh22 ?_
 refine .vl (Y.len (n := n301_20.length) sl22 rfl rfl) ?_
 refine .fa fl39_2 ?_
 refine .storeC si3 rfl rfl rfl rfl rfl rfl (nbE rfl) rfl (.nil (.region ?_))
 refine .fa fl27_1 ?_
 refine .ld sh22 ?_
 refine .mv ?_
 refine .buildSlice (([wP126] : List Int).map irow) sl22 ze3 rfl rfl rfl rfl rfl (uniform_map (s := 1) (f := irow) (fun _ => rfl)) rfl rfl rfl dcd ?_
 refine .appendE ((n301_20 ++ ([wP126] : List Int)).map irow) (n301_20 ++ ([wP126] : List Int)).length sl22 ze3 rfl rfl rfl rfl (app_le omz) (app_map omz) (app_n omz) omz omz dcd dcd ?_
 refine .fa fl27_1 ?_
 refine .storeC si22 rfl rfl rfl rfl rfl rfl (nbE rfl) rfl (.nil (.region ?_))
 refine .fa fl27_2 ?_
 refine .ld sh23 ?_
 refine .vl (Y.loadA sh39 rfl rfl (nbE rfl) rfl rfl) ?_
 refine .buildSlice (([(⟨cP126.kind, cP126.op, ((n301_20.length : Nat) : Int), cP126.args, cP126.num, cP126.mem⟩ : Cell)] : List Cell).map Cell.row) sl23 ze39 rfl rfl rfl rfl rfl (uniform_map (s := 6) (f := Cell.row) (fun _ => rfl)) rfl rfl rfl dcd ?_
 refine .appendE ((n302_20 ++ ([(⟨cP126.kind, cP126.op, ((n301_20.length : Nat) : Int), cP126.args, cP126.num, cP126.mem⟩ : Cell)] : List Cell)).map Cell.row) (n302_20 ++ ([(⟨cP126.kind, cP126.op, ((n301_20.length : Nat) : Int), cP126.args, cP126.num, cP126.mem⟩ : Cell)] : List Cell)).length sl23 ze39 rfl rfl rfl rfl (app_le omz) (app_map omz) (app_n omz) omz omz dcd dcd ?_
 refine .fa fl27_2 ?_
 refine .storeC si23 rfl rfl rfl rfl rfl rfl (nbE rfl) rfl (.nil ?_)
 exact ⟨n301_20 ++ ([wP126] : List Int), n302_20 ++ ([(⟨cP126.kind, cP126.op, ((n301_20.length : Nat) : Int), cP126.args, cP126.num, cP126.mem⟩ : Cell)] : List Cell), by first | exact ⟨hGr.add om (hP126.resolve_left asm) asm, by constructor <;> (simp only [List.length_append, List.length_cons, List.length_nil]; omega), by constructor <;> (simp only [List.length_append, List.length_cons, List.length_nil]; omega)⟩ | exact ⟨hGr.addW om (hP126.resolve_left asm) (Classical.not_not.1 asm), by constructor <;> (simp only [List.length_append, List.length_cons, List.length_nil]; omega), om⟩ | exact ⟨hGr, om, om⟩, Le.mk (.c (.c (.c (.c (.nil))))) (.c (.cons (look_cells rfl lkc) (.c (.c (.nil)))))⟩
 refine .skip (.region ?_)
 refine .fa fl27_2 ?_
 refine .ld sh23 ?_
 refine .vl (Y.loadA sh39 rfl rfl (nbE rfl) rfl rfl) ?_
 refine .buildSlice (([cP126] : List Cell).map Cell.row) sl23 ze39 rfl rfl rfl rfl rfl (uniform_map (s := 6) (f := Cell.row) (fun _ => rfl)) rfl rfl rfl dcd ?_
 refine .appendE ((n302_20 ++ ([cP126] : List Cell)).map Cell.row) (n302_20 ++ ([cP126] : List Cell)).length sl23 ze39 rfl rfl rfl rfl (app_le omz) (app_map omz) (app_n omz) omz omz dcd dcd ?_
 refine .fa fl27_2 ?_
 refine .storeC si23 rfl rfl rfl rfl rfl rfl (nbE rfl) rfl (.nil ?_)
 exact ⟨n301_20, n302_20 ++ ([cP126] : List Cell), by first | exact ⟨hGr.add om (hP126.resolve_left asm) asm, by constructor <;> (simp only [List.length_append, List.length_cons, List.length_nil]; omega), by constructor <;> (simp only [List.length_append, List.length_cons, List.length_nil]; omega)⟩ | exact ⟨hGr.addW om (hP126.resolve_left asm) (Classical.not_not.1 asm), by constructor <;> (simp only [List.length_append, List.length_cons, List.length_nil]; omega), om⟩ | exact ⟨hGr, om, om⟩, Le.mk (.c (.c (.c (.c (.nil))))) (.c (.cons (look_cells rfl lkc) (.c (.c (.nil)))))⟩
 refine .skip ?_
 exact ⟨n301_20, n302_20, by first | exact ⟨hGr.add om (hP126.resolve_left asm) asm, by constructor <;> (simp only [List.length_append, List.length_cons, List.length_nil]; omega), by constructor <;> (simp only [List.length_append, List.length_cons, List.length_nil]; omega)⟩ | exact ⟨hGr.addW om (hP126.resolve_left asm) (Classical.not_not.1 asm), by constructor <;> (simp only [List.length_append, List.length_cons, List.length_nil]; omega), om⟩ | exact ⟨hGr, om, om⟩, Le.mk (.c (.c (.c (.c (.nil))))) (.c (.cons (look_cells rfl lkc) (.c (.c (.nil)))))⟩
 refine .alloc 109 ze39 rfl rfl dcd ?_
 refine .nil ⟨rfl, ?_⟩
 refine .one 6 rfl krf (.callLV [401, 402] ok54 (part_spec (n := (⟨nB, n301_20, n302_20, n303_16, n304_8, n305_12, [], [], 0, 0, []⟩ : Netlist)) (p := (p.parts.getD i8_20 default)) (by show (n301_20).length ≤ 1048576; omega) (by show 0 < (n301_20).length; omega) (hpp _ (getD_in om)) hGr.ground (by show (n303_16).length ≤ 1048576; omega)) rfl (.agg (.keep rfl rfl (.lend rfl rfl (lend_le om) (lend_eq om) (.lend rfl rfl (lend_le om) (lend_eq om) (.keep rfl rfl (.keep rfl rfl (.keep rfl rfl (.keep rfl rfl (.keep rfl rfl (.keep rfl rfl (.keep rfl rfl (.keep rfl rfl .nil))))))))))) rfl (.keep rfl rfl .nil)) (lend2 rfl (owns_map irow_frees) (lend1 rfl (owns_map Cell.row_frees))) dcd ?_)
 rintro _ ⟨cP126, wP126, hP126, rfl, _⟩
 refine ⟨rfl, ⟨⟨trivial, trivial, trivial, (plainr_map irow_plains _), trivial, trivial, trivial⟩, trivial, trivial⟩, ?_⟩
 refine .nil ⟨rfl, ?_⟩
 refine .one 7 rfl krf (.moveX rfl dcd ?_)
 refine .nil ⟨rfl, ?_⟩
 refine .blind 9 rfl krf (Blind.extract rfl rfl rfl) dcd (.one 8 rfl krf (.extractU rfl rfl dcd ?_))
 refine .nil ⟨rfl, ?_⟩
 refine .one 11 rfl krf (.sh (Sh.freezeX (d := 127) (y := .agg [.v (.int .i64 cP126.kind), .v (.int .i64 cP126.op), .v (.int .i64 cP126.out), .fz 1 (cP126.args.map irow), .v (.int .u64 ((cP126.num : Nat) : Int)), .v (.int .i64 cP126.mem)]) rfl (by show X.ffz (.agg [.v (.int .i64 cP126.kind), .v (.int .i64 cP126.op), .v (.int .i64 cP126.out), .uni 1 (cP126.args.map irow), .v (.int .u64 ((cP126.num : Nat) : Int)), .v (.int .i64 cP126.mem)]) = _; simp only [X.ffz, X.ffzs, X.ffzr_frees (Frees.map irow_frees)])) (.storeC si39 rfl rfl rfl rfl rfl rfl (nbE rfl) rfl ?_))
 refine .nil ⟨rfl, ?_⟩
 refine .one 12 rfl krf ?_
 refine .an ?_
 refine .nil ⟨rfl, ?_⟩
 refine .done krf (.le (st' := ⟨[(1, .fp (Pln.row p) 0), (2, .ptr 102 0 0 0), (3, .ptr 103 0 0 0), (8, vi (i8_20 : Int)), (9, .ptr 109 0 0 0), (10, vi wP126)], [(102, .cells [.v (.string ByteArray.empty), .v (.slice none 0 0), .v (.slice none 0 0), .v (.slice none 0 0), .v (.slice none 0 0), .v (.slice none 0 0), .v (.slice none 0 0), .v (.slice none 0 0), vi 0, vi 0, .v (.slice none 0 0)]), (103, .cells [.v (.string nB), .slc 401 1 0 n301_20.length, .slc 402 6 0 n302_20.length, .fz 1 (n303_16.map irow), .fz 5 (n304_8.map Arr.row), .fz 3 (n305_12.map Strm.row), .v (.slice none 0 0), .v (.slice none 0 0), vi 0, vi 0, .v (.slice none 0 0)]), (109, .cells [vi cP126.kind, vi cP126.op, vi cP126.out, .fz 1 (cP126.args.map irow), .v (.int .u64 ((cP126.num : Nat) : Int)), vi cP126.mem]), (401, .rows 1 (n301_20.map irow)), (402, .rows 6 (n302_20.map Cell.row))]⟩) (Le.mk (.c (.c (.c (.c (.c (.c (.nil))))))) (.c (.c (.c (.c (.c (.nil))))))) (.sr ?_))
 refine .fa fl39_0 ?_
 refine .ld sh3 ?_
 refine .vl (Y.neq rfl rfl) (.nil ?_)
 refine .condD rfl (fun c131 => ?_) (fun c131 => ?_)
 refine .seq (.sr ?_)
 refine .fa fl39_0 ?_
 refine .ld sh3 ?_
 refine .vl (Y.neq rfl rfl) (.nil ?_)
 refine .condD rfl (fun c134 => ?_) (fun c134 => ?_)
 refine .sr ?_
 refine .fa fl27_1 ?_
 refine .ld sh22 ?_
 refine .vl (Y.len (n := n301_20.length) sl22 rfl rfl) ?_
 refine .fa fl39_2 ?_
 refine .storeC si3 rfl rfl rfl rfl rfl rfl (nbE rfl) rfl (.nil (.region ?_))
 refine .fa fl27_1 ?_
 refine .ld sh22 ?_
 refine .mv ?_
 refine .buildSlice (([wP126] : List Int).map irow) sl22 ze3 rfl rfl rfl rfl rfl (uniform_map (s := 1) (f := irow) (fun _ => rfl)) rfl rfl rfl dcd ?_
 refine .appendE ((n301_20 ++ ([wP126] : List Int)).map irow) (n301_20 ++ ([wP126] : List Int)).length sl22 ze3 rfl rfl rfl rfl (app_le omz) (app_map omz) (app_n omz) omz omz dcd dcd ?_
 refine .fa fl27_1 ?_
 refine .storeC si22 rfl rfl rfl rfl rfl rfl (nbE rfl) rfl (.nil (.region ?_))
 refine .fa fl27_2 ?_
 refine .ld sh23 ?_
 refine .vl (Y.loadA sh39 rfl rfl (nbE rfl) rfl rfl) ?_
 refine .buildSlice (([(⟨cP126.kind, cP126.op, ((n301_20.length : Nat) : Int), cP126.args, cP126.num, cP126.mem⟩ : Cell)] : List Cell).map Cell.row) sl23 ze39 rfl rfl rfl rfl rfl (uniform_map (s := 6) (f := Cell.row) (fun _ => rfl)) rfl rfl rfl dcd ?_
 refine .appendE ((n302_20 ++ ([(⟨cP126.kind, cP126.op, ((n301_20.length : Nat) : Int), cP126.args, cP126.num, cP126.mem⟩ : Cell)] : List Cell)).map Cell.row) (n302_20 ++ ([(⟨cP126.kind, cP126.op, ((n301_20.length : Nat) : Int), cP126.args, cP126.num, cP126.mem⟩ : Cell)] : List Cell)).length sl23 ze39 rfl rfl rfl rfl (app_le omz) (app_map omz) (app_n omz) omz omz dcd dcd ?_
 refine .fa fl27_2 ?_
 refine .storeC si23 rfl rfl rfl rfl rfl rfl (nbE rfl) rfl (.nil ?_)
 exact ⟨n301_20 ++ ([wP126] : List Int), n302_20 ++ ([(⟨cP126.kind, cP126.op, ((n301_20.length : Nat) : Int), cP126.args, cP126.num, cP126.mem⟩ : Cell)] : List Cell), by first | exact ⟨hGr.add om (hP126.resolve_left asm) asm, by constructor <;> (simp only [List.length_append, List.length_cons, List.length_nil]; omega), by constructor <;> (simp only [List.length_append, List.length_cons, List.length_nil]; omega)⟩ | exact ⟨hGr.addW om (hP126.resolve_left asm) (Classical.not_not.1 asm), by constructor <;> (simp only [List.length_append, List.length_cons, List.length_nil]; omega), om⟩ | exact ⟨hGr, om, om⟩, Le.mk (.c (.c (.c (.c (.nil))))) (.c (.cons (look_cells rfl lkc) (.c (.c (.nil)))))⟩
 refine .skip (.region ?_)
 refine .fa fl27_2 ?_
 refine .ld sh23 ?_
 refine .vl (Y.loadA sh39 rfl rfl (nbE rfl) rfl rfl) ?_
 refine .buildSlice (([cP126] : List Cell).map Cell.row) sl23 ze39 rfl rfl rfl rfl rfl (uniform_map (s := 6) (f := Cell.row) (fun _ => rfl)) rfl rfl rfl dcd ?_
 refine .appendE ((n302_20 ++ ([cP126] : List Cell)).map Cell.row) (n302_20 ++ ([cP126] : List Cell)).length sl23 ze39 rfl rfl rfl rfl (app_le omz) (app_map omz) (app_n omz) omz omz dcd dcd ?_
 refine .fa fl27_2 ?_
 refine .storeC si23 rfl rfl rfl rfl rfl rfl (nbE rfl) rfl (.nil ?_)
 exact ⟨n301_20, n302_20 ++ ([cP126] : List Cell), by first | exact ⟨hGr.add om (hP126.resolve_left asm) asm, by constructor <;> (simp only [List.length_append, List.length_cons, List.length_nil]; omega), by constructor <;> (simp only [List.length_append, List.length_cons, List.length_nil]; omega)⟩ | exact ⟨hGr.addW om (hP126.resolve_left asm) (Classical.not_not.1 asm), by constructor <;> (simp only [List.length_append, List.length_cons, List.length_nil]; omega), om⟩ | exact ⟨hGr, om, om⟩, Le.mk (.c (.c (.c (.c (.nil))))) (.c (.cons (look_cells rfl lkc) (.c (.c (.nil)))))⟩
 refine .skip ?_
 exact ⟨n301_20, n302_20, by first | exact ⟨hGr.add om (hP126.resolve_left asm) asm, by constructor <;> (simp only [List.length_append, List.length_cons, List.length_nil]; omega), by constructor <;> (simp only [List.length_append, List.length_cons, List.length_nil]; omega)⟩ | exact ⟨hGr.addW om (hP126.resolve_left asm) (Classical.not_not.1 asm), by constructor <;> (simp only [List.length_append, List.length_cons, List.length_nil]; omega), om⟩ | exact ⟨hGr, om, om⟩, Le.mk (.c (.c (.c (.c (.nil))))) (.c (.cons (look_cells rfl lkc) (.c (.c (.nil)))))⟩
 refine .region ?_
 refine .mv ?_
 refine .vl (Y.addI rfl rfl om) ?_
 refine .an ?_
 refine .nil ?_
 exact ⟨i8_20 + 1, n301_j21, n302_j21, ⟨om, hJ21.1, hJ21.2.1, hJ21.2.2⟩, om, Le.mk (.c (.c (.c (.cons (look_int rfl rlo) (.nil))))) (.c (.cons (look_cells rfl lkc) (.c (.c (.nil)))))⟩
 refine .exit ?_
 refine .join1 (fun (n302_j32 : List Cell) => ⟨[(1, .fp (Pln.row p) 0), (2, .ptr 102 0 0 0), (3, .ptr 103 0 0 0)], [(102, .cells [.v (.string ByteArray.empty), .v (.slice none 0 0), .v (.slice none 0 0), .v (.slice none 0 0), .v (.slice none 0 0), .v (.slice none 0 0), .v (.slice none 0 0), .v (.slice none 0 0), vi 0, vi 0, .v (.slice none 0 0)]), (103, .cells [.v (.string nB), .slc 401 1 0 n301_20.length, .slc 402 6 0 n302_j32.length, .fz 1 (n303_16.map irow), .fz 5 (n304_8.map Arr.row), .fz 3 (n305_12.map Strm.row), .v (.slice none 0 0), .v (.slice none 0 0), vi 0, vi 0, .v (.slice none 0 0)]), (401, .rows 1 (n301_20.map irow)), (402, .rows 6 (n302_j32.map Cell.row))]⟩) (fun (n302_j32 : List Cell) => Gr (pn n301_20 n302_j32 n303_16 n304_8 n305_12) ∧ n302_j32.length = n302_20.length) ?_ (fun n302_j32 hJ32 => ?_)
 refine .sr ?_
 refine .an ?_
 refine .nil (.block ?_)
 refine .loop2 (fun (i11_29 : Nat) (n302_29 : List Cell) => ⟨[(1, .fp (Pln.row p) 0), (2, .ptr 102 0 0 0), (3, .ptr 103 0 0 0), (11, vi (i11_29 : Int))], [(102, .cells [.v (.string ByteArray.empty), .v (.slice none 0 0), .v (.slice none 0 0), .v (.slice none 0 0), .v (.slice none 0 0), .v (.slice none 0 0), .v (.slice none 0 0), .v (.slice none 0 0), vi 0, vi 0, .v (.slice none 0 0)]), (103, .cells [.v (.string nB), .slc 401 1 0 n301_20.length, .slc 402 6 0 n302_20.length, .fz 1 (n303_16.map irow), .fz 5 (n304_8.map Arr.row), .fz 3 (n305_12.map Strm.row), .v (.slice none 0 0), .v (.slice none 0 0), vi 0, vi 0, .v (.slice none 0 0)]), (401, .rows 1 (n301_20.map irow)), (402, .rows 6 (n302_29.map Cell.row))]⟩) (fun (i11_29 : Nat) (n302_29 : List Cell) => (n302_29.length = n302_20.length) ∧ (Gr (pn n301_20 n302_29 n303_16 n304_8 n305_12)) ∧ (i11_29 ≤ p.parts.length) ∧ (n302_29.length = n302_20.length)) (fun (i11_29 : Nat) (n302_29 : List Cell) => p.parts.length - i11_29) 0 n302_20 (⟨om, hGr, om, rfl⟩) (Le.mk (.c (.c (.c (.cons (look_int rfl rlo) (.nil))))) (.c (.c (.c (.c (.nil)))))) (fun i11_29 n302_29 hI29 => ?_)
 obtain ⟨hl402, hG2, hb29, hl2⟩ := hI29
 refine .seq (.sr ?_)
 refine .mv ?_
 refine .fa fl36_3 ?_
 refine .ld sh34 ?_
 refine .vl (Y.len (n := p.parts.length) sl34 rfl (congrArg some (List.length_map ..))) (.vl (Y.lss rfl rfl) ?_)
 refine .mv ?_
 refine .splitD (d := 156) rfl (fun c156 => ?_) (fun c156 => ?_)
 refine .gw 156 (Y.move rfl rfl) (.gw 156 (Y.fieldAddr fl27_2 rfl rfl) (.gw 156 (Y.load sh23 rfl rfl rfl rfl) ?_))
 refine .gw 156 (Y.len (n := n302_20.length) sl23 rfl rfl) (.gw 156 (Y.lss rfl rfl) ?_)
 refine .pk ?_
 refine .nil ?_
 refine .condD rfl (fun c162 => ?_) (fun c162 => ?_)
 refine .skip (.seq (.block ?_))
 refine .region ?_
 refine .fa fl36_3 ?_
 refine .ld sh34 ?_
 refine .mv ?_
 refine .vl (Y.indexF (m := i11_29) sl34 rfl rfl rlo (row_getD (d := default) om)) (.vl (Y.loadA sh88 rfl rfl (nbE rfl) rfl rfl) ?_)
 refine .mv ?_
 refine .callO [103, 401, 402] [] ok55 (late_spec (nm := nB) (ws := n301_20) (cs := n302_29) (ins := n303_16) (mems := n304_8) (streams := n305_12) (f0 := 0) (d0 := 0) (p := (p.parts.getD i11_29 default)) (i := i11_29) (cl := n302_20.length) om om om (hpp _ (getD_in om)) om (hG2.lateIn om)) rfl (.named rfl rfl (.keep rfl rfl (.keep rfl rfl .nil))) ⟨rfl, rfl, rfl, trivial⟩ rfl dcd (fun _ h => by cases h) (fun _ h => by cases h) dcd dcd ?_
 rintro r objs' ⟨rfl, rfl⟩ _
 refine ⟨⟨rfl, (by intro ob hob; simp only [List.mem_cons, List.not_mem_nil, or_false] at hob; rcases hob with rfl | rfl | rfl <;> rfl), .inl rfl⟩, ?_⟩
 refine .nil (.region ?_)
 refine .mv ?_
 refine .vl (Y.addI rfl rfl om) ?_
 refine .an ?_
 refine .nil ?_
 exact ⟨i11_29 + 1, lateN n301_20 n302_29 (p.parts.getD i11_29 default) i11_29, ⟨omz, hG2.late om, om, (lateN_len _ _).trans hl2⟩, om, Le.mk (.c (.c (.c (.cons (look_int rfl rlo) (.nil))))) (.c (.c (.c (.c (.nil)))))⟩
 refine .exit ?_
 exact ⟨n302_29, ⟨hG2, hl2⟩, Le.mk (.c (.c (.c (.nil)))) (.c (.cons (look_cells rfl lkc) (.c (.c (.nil)))))⟩
 refine .gz 156 (.gz 156 (.gz 156 ?_))
 refine .gz 156 (.gz 156 ?_)
 refine .pk ?_
 refine .nil (.condF rfl (.exit ?_))
 exact ⟨n302_29, ⟨hG2, hl2⟩, Le.mk (.c (.c (.c (.nil)))) (.c (.cons (look_cells rfl lkc) (.c (.c (.nil)))))⟩
 obtain ⟨hG3, hl3⟩ := hJ32
 refine .seq (.seq (.sh (Sh.nilCell 103 406 1 6 rfl rfl rfl rfl dcd) ?_))
 refine .sh (Sh.nilCell 103 407 1 7 rfl rfl rfl rfl dcd) (.sh (Sh.nilCell 103 410 1 10 rfl rfl rfl rfl dcd) (.region ?_))
 refine .an ?_
 refine .nil (.block ?_)
 refine .loop3 (fun (i12_33 : Nat) (n306_33 : List Int) (n307_33 : List Int) => ⟨[(1, .fp (Pln.row p) 0), (2, .ptr 102 0 0 0), (3, .ptr 103 0 0 0), (12, vi (i12_33 : Int))], [(102, .cells [.v (.string ByteArray.empty), .v (.slice none 0 0), .v (.slice none 0 0), .v (.slice none 0 0), .v (.slice none 0 0), .v (.slice none 0 0), .v (.slice none 0 0), .v (.slice none 0 0), vi 0, vi 0, .v (.slice none 0 0)]), (103, .cells [.v (.string nB), .slc 401 1 0 n301_20.length, .slc 402 6 0 n302_j32.length, .fz 1 (n303_16.map irow), .fz 5 (n304_8.map Arr.row), .fz 3 (n305_12.map Strm.row), .slc 406 1 0 n306_33.length, .slc 407 1 0 n307_33.length, vi 0, vi 0, .slc 410 1 0 0]), (401, .rows 1 (n301_20.map irow)), (402, .rows 6 (n302_j32.map Cell.row)), (406, .rows 1 (n306_33.map irow)), (407, .rows 1 (n307_33.map irow)), (410, .rows 1 (([] : List Int).map irow))]⟩) (fun (i12_33 : Nat) (n306_33 : List Int) (n307_33 : List Int) => ((i12_33 : Int) ≤ ((n305_12.length : Nat) : Int)) ∧ (n306_33.length = i12_33) ∧ (n307_33.length = i12_33) ∧ (∀ j, j < i12_33 → EndOK n301_20 n305_12 n306_33 n307_33 j)) (fun (i12_33 : Nat) (n306_33 : List Int) (n307_33 : List Int) => (((n305_12.length : Nat) : Int) - (i12_33 : Int)).toNat) 0 ([] : List Int) ([] : List Int) (⟨om, rfl, rfl, fun j hj => by omega⟩) (Le.mk (.c (.c (.c (.cons (look_int rfl rlo) (.nil))))) (.c (.cons (look_cells rfl lkc) (.c (.c (.c (.c (.c (.nil))))))))) (fun i12_33 n306_33 n307_33 hI33 => ?_)
 obtain ⟨hb33, hal, hdl, he⟩ := hI33
 refine .seq (.sr ?_)
 refine .mv ?_
 refine .fa fl27_5 ?_
 refine .ld sh25 ?_
 refine .vl (Y.len (n := n305_12.length) sl25 rfl (congrArg some (List.length_map ..))) (.vl (Y.lss rfl rfl) (.nil ?_))
 refine .condD rfl (fun c176 => ?_) (fun c176 => ?_)
 refine .skip ?_
 refine .join1 (fun (n307_j34 : List Int) => ⟨[(1, .fp (Pln.row p) 0), (2, .ptr 102 0 0 0), (3, .ptr 103 0 0 0), (12, vi (i12_33 : Int))], [(102, .cells [.v (.string ByteArray.empty), .v (.slice none 0 0), .v (.slice none 0 0), .v (.slice none 0 0), .v (.slice none 0 0), .v (.slice none 0 0), .v (.slice none 0 0), .v (.slice none 0 0), vi 0, vi 0, .v (.slice none 0 0)]), (103, .cells [.v (.string nB), .slc 401 1 0 n301_20.length, .slc 402 6 0 n302_j32.length, .fz 1 (n303_16.map irow), .fz 5 (n304_8.map Arr.row), .fz 3 (n305_12.map Strm.row), .slc 406 1 0 ((n306_33 ++ ([pickN n301_20 1 ((3 * i12_33) + 1)] : List Int)).length), .slc 407 1 0 ((n307_33 ++ ([-1] : List Int)).length), vi 0, vi 0, .slc 410 1 0 0]), (401, .rows 1 (n301_20.map irow)), (402, .rows 6 (n302_j32.map Cell.row)), (406, .rows 1 ((n306_33 ++ ([pickN n301_20 1 ((3 * i12_33) + 1)] : List Int)).map irow)), (407, .rows 1 (n307_j34.map irow)), (410, .rows 1 (([] : List Int).map irow))]⟩) (fun (n307_j34 : List Int) => (n307_j34.length = (n307_33 ++ ([-1] : List Int)).length) ∧ (LastD n301_20 n305_12 i12_33 n307_33 n307_j34)) ?_ (fun n307_j34 hJx34 => ?_)
 refine .block (.seq ?_)
 refine .regionHeldJ0 (⟨[(1, .fp (Pln.row p) 0), (2, .ptr 102 0 0 0), (3, .ptr 103 0 0 0), (12, .v (.int .i64 (i12_33 : Int)))], [(102, .cells [.v (.string ByteArray.empty), .v (.slice none 0 0), .v (.slice none 0 0), .v (.slice none 0 0), .v (.slice none 0 0), .v (.slice none 0 0), .v (.slice none 0 0), .v (.slice none 0 0), .v (.int .i64 0), .v (.int .i64 0), .v (.slice none 0 0)]), (103, .cells [.v (.string nB), .slc 401 1 0 n301_20.length, .slc 402 6 0 n302_j32.length, .fz 1 (n303_16.map irow), .fz 5 (n304_8.map Arr.row), .fz 3 (n305_12.map Strm.row), .slc 406 1 0 ((n306_33 ++ ([pickN n301_20 1 ((3 * i12_33) + 1)] : List Int)).length), .slc 407 1 0 n307_33.length, .v (.int .i64 0), .v (.int .i64 0), .slc 410 1 0 0]), (401, .rows 1 (n301_20.map irow)), (402, .rows 6 (n302_j32.map Cell.row)), (406, .rows 1 ((n306_33 ++ ([pickN n301_20 1 ((3 * i12_33) + 1)] : List Int)).map irow)), (407, .rows 1 (n307_33.map irow)), (410, .rows 1 (([] : List Int).map irow))]⟩) rfl ?_ ?_
 refine .blind 0 rfl krf (Blind.fieldAddr fl27_6 rfl rfl) dcd (.blind 3 rfl krf (Blind.move rfl rfl) dcd ?_)
 refine .blind 4 rfl krf (Blind.mulI rfl rfl om) dcd (.blind 5 rfl krf (Blind.addI rfl rfl om) dcd (.blind 6 rfl krf (Blind.convK ii3 ii5 rfl (by first | rfl | exact IntWalk.u8_in _ om)) dcd (.go0 ?_)))
 refine .two 1 2 rfl rfl krf ?_ ?_
 refine .ld sh22 ?_
 refine .nil ⟨rfl, ?_⟩
 refine .one 2 rfl krf (.vl (Y.loadA sh27 rfl rfl (nbE rfl) rfl rfl) ?_)
 refine .nil ⟨rfl, ?_⟩
 refine .one 7 rfl krf (.callLP [401, 402, 406, 407, 410] ok56 (pickF_spec (n := (⟨nB, n301_20, n302_j32, n303_16, n304_8, n305_12, n306_33, n307_33, 0, 0, ([] : List Int)⟩ : Netlist)) (w := 1) (k := ((3 * i12_33) + 1)) (by show (n301_20).length ≤ 1048576; omega) om) rfl (.agg (.keep rfl rfl (.lend rfl rfl (lend_le omz) (lend_eq omz) (.lend rfl rfl (lend_le omz) (lend_eq omz) (.keep rfl rfl (.keep rfl rfl (.keep rfl rfl (.lend rfl rfl (lend_le omz) (lend_eq omz) (.lend rfl rfl (lend_le omz) (lend_eq omz) (.keep rfl rfl (.keep rfl rfl (.lend rfl rfl (lend_le omz) (lend_eq omz) .nil))))))))))) rfl (.keep rfl rfl (.keep rfl rfl .nil))) (lend2 rfl (owns_map irow_frees) (lend2 rfl (owns_map Cell.row_frees) (lend2 rfl (owns_map irow_frees) (lend2 rfl (owns_map irow_frees) (lend1 rfl (owns_map irow_frees)))))) dcd rfl trivial ?_)
 refine .nil ⟨rfl, ?_⟩
 refine .one 8 rfl krf ?_
 refine .buildSlice (([pickN n301_20 1 ((3 * i12_33) + 1)] : List Int).map irow) sl22 ze3 rfl rfl rfl rfl rfl (uniform_map (s := 1) (f := irow) (fun _ => rfl)) rfl rfl rfl dcd ?_
 refine .nil ⟨rfl, ?_⟩
 refine .one 9 rfl krf (.appendE ((n306_33 ++ ([pickN n301_20 1 ((3 * i12_33) + 1)] : List Int)).map irow) (n306_33 ++ ([pickN n301_20 1 ((3 * i12_33) + 1)] : List Int)).length sl22 ze3 rfl rfl rfl rfl (app_le omz) (app_map omz) (app_n omz) omz omz dcd dcd ?_)
 refine .nil ⟨rfl, ?_⟩
 refine .one 10 rfl krf ?_
 refine .fa fl27_6 ?_
 refine .nil ⟨rfl, ?_⟩
 refine .one 11 rfl krf (.storeC si22 rfl rfl rfl rfl rfl rfl (nbE rfl) rfl ?_)
 refine .nil ⟨rfl, ?_⟩
 refine .done krf ?_
 exact Le.mk (.c (.c (.c (.c (.nil))))) (.c (.c (.c (.c (.c (.c (.c (.nil))))))))
 refine .vl (Y.loadA sh27 rfl rfl (nbE rfl) rfl rfl) ?_
 refine .nil ⟨rfl, ?_⟩
 refine .two 1 7 rfl rfl krf ?_ ?_
 refine .ld sh22 ?_
 refine .nil ⟨rfl, ?_⟩
 refine .one 7 rfl krf (.callLP [401, 402, 406, 407, 410] ok56 (pickF_spec (n := (⟨nB, n301_20, n302_j32, n303_16, n304_8, n305_12, n306_33, n307_33, 0, 0, ([] : List Int)⟩ : Netlist)) (w := 1) (k := ((3 * i12_33) + 1)) (by show (n301_20).length ≤ 1048576; omega) om) rfl (.agg (.keep rfl rfl (.lend rfl rfl (lend_le omz) (lend_eq omz) (.lend rfl rfl (lend_le omz) (lend_eq omz) (.keep rfl rfl (.keep rfl rfl (.keep rfl rfl (.lend rfl rfl (lend_le omz) (lend_eq omz) (.lend rfl rfl (lend_le omz) (lend_eq omz) (.keep rfl rfl (.keep rfl rfl (.lend rfl rfl (lend_le omz) (lend_eq omz) .nil))))))))))) rfl (.keep rfl rfl (.keep rfl rfl .nil))) (lend2 rfl (owns_map irow_frees) (lend2 rfl (owns_map Cell.row_frees) (lend2 rfl (owns_map irow_frees) (lend2 rfl (owns_map irow_frees) (lend1 rfl (owns_map irow_frees)))))) dcd rfl trivial ?_)
 refine .nil ⟨rfl, ?_⟩
 refine .one 8 rfl krf ?_
 refine .buildSlice (([pickN n301_20 1 ((3 * i12_33) + 1)] : List Int).map irow) sl22 ze3 rfl rfl rfl rfl rfl (uniform_map (s := 1) (f := irow) (fun _ => rfl)) rfl rfl rfl dcd ?_
 refine .nil ⟨rfl, ?_⟩
 refine .one 9 rfl krf (.appendE ((n306_33 ++ ([pickN n301_20 1 ((3 * i12_33) + 1)] : List Int)).map irow) (n306_33 ++ ([pickN n301_20 1 ((3 * i12_33) + 1)] : List Int)).length sl22 ze3 rfl rfl rfl rfl (app_le omz) (app_map omz) (app_n omz) omz omz dcd dcd ?_)
 refine .nil ⟨rfl, ?_⟩
 refine .one 10 rfl krf ?_
 refine .fa fl27_6 ?_
 refine .nil ⟨rfl, ?_⟩
 refine .one 11 rfl krf (.storeC si22 rfl rfl rfl rfl rfl rfl (nbE rfl) rfl ?_)
 refine .nil ⟨rfl, ?_⟩
 refine .done krf ?_
 exact Le.mk (.c (.c (.c (.c (.nil))))) (.c (.c (.c (.c (.c (.c (.c (.nil))))))))
 refine .callLP [401, 402, 406, 407, 410] ok56 (pickF_spec (n := (⟨nB, n301_20, n302_j32, n303_16, n304_8, n305_12, n306_33, n307_33, 0, 0, ([] : List Int)⟩ : Netlist)) (w := 1) (k := ((3 * i12_33) + 1)) (by show (n301_20).length ≤ 1048576; omega) om) rfl (.agg (.keep rfl rfl (.lend rfl rfl (lend_le omz) (lend_eq omz) (.lend rfl rfl (lend_le omz) (lend_eq omz) (.keep rfl rfl (.keep rfl rfl (.keep rfl rfl (.lend rfl rfl (lend_le omz) (lend_eq omz) (.lend rfl rfl (lend_le omz) (lend_eq omz) (.keep rfl rfl (.keep rfl rfl (.lend rfl rfl (lend_le omz) (lend_eq omz) .nil))))))))))) rfl (.keep rfl rfl (.keep rfl rfl .nil))) (lend2 rfl (owns_map irow_frees) (lend2 rfl (owns_map Cell.row_frees) (lend2 rfl (owns_map irow_frees) (lend2 rfl (owns_map irow_frees) (lend1 rfl (owns_map irow_frees)))))) dcd rfl trivial ?_
 refine .nil ⟨rfl, ?_⟩
 refine .two 1 8 rfl rfl krf ?_ ?_
 refine .ld sh22 ?_
 refine .nil ⟨rfl, ?_⟩
 refine .one 8 rfl krf ?_
 refine .buildSlice (([pickN n301_20 1 ((3 * i12_33) + 1)] : List Int).map irow) sl22 ze3 rfl rfl rfl rfl rfl (uniform_map (s := 1) (f := irow) (fun _ => rfl)) rfl rfl rfl dcd ?_
 refine .nil ⟨rfl, ?_⟩
 refine .one 9 rfl krf (.appendE ((n306_33 ++ ([pickN n301_20 1 ((3 * i12_33) + 1)] : List Int)).map irow) (n306_33 ++ ([pickN n301_20 1 ((3 * i12_33) + 1)] : List Int)).length sl22 ze3 rfl rfl rfl rfl (app_le omz) (app_map omz) (app_n omz) omz omz dcd dcd ?_)
 refine .nil ⟨rfl, ?_⟩
 refine .one 10 rfl krf ?_
 refine .fa fl27_6 ?_
 refine .nil ⟨rfl, ?_⟩
 refine .one 11 rfl krf (.storeC si22 rfl rfl rfl rfl rfl rfl (nbE rfl) rfl ?_)
 refine .nil ⟨rfl, ?_⟩
 refine .done krf ?_
 exact Le.mk (.c (.c (.c (.c (.nil))))) (.c (.c (.c (.c (.c (.c (.c (.nil))))))))
 refine .buildSlice (([pickN n301_20 1 ((3 * i12_33) + 1)] : List Int).map irow) sl22 ze3 rfl rfl rfl rfl rfl (uniform_map (s := 1) (f := irow) (fun _ => rfl)) rfl rfl rfl dcd ?_
 refine .nil ⟨rfl, ?_⟩
 refine .one 1 rfl krf ?_
 refine .ld sh22 ?_
 refine .nil ⟨rfl, ?_⟩
 refine .one 9 rfl krf (.appendE ((n306_33 ++ ([pickN n301_20 1 ((3 * i12_33) + 1)] : List Int)).map irow) (n306_33 ++ ([pickN n301_20 1 ((3 * i12_33) + 1)] : List Int)).length sl22 ze3 rfl rfl rfl rfl (app_le omz) (app_map omz) (app_n omz) omz omz dcd dcd ?_)
 refine .nil ⟨rfl, ?_⟩
 refine .one 10 rfl krf ?_
 refine .fa fl27_6 ?_
 refine .nil ⟨rfl, ?_⟩
 refine .one 11 rfl krf (.storeC si22 rfl rfl rfl rfl rfl rfl (nbE rfl) rfl ?_)
 refine .nil ⟨rfl, ?_⟩
 refine .done krf ?_
 exact Le.mk (.c (.c (.c (.c (.nil))))) (.c (.c (.c (.c (.c (.c (.c (.nil))))))))
 refine .le (st' := ⟨[(1, .fp (Pln.row p) 0), (2, .ptr 102 0 0 0), (3, .ptr 103 0 0 0), (12, vi (i12_33 : Int))], [(102, .cells [.v (.string ByteArray.empty), .v (.slice none 0 0), .v (.slice none 0 0), .v (.slice none 0 0), .v (.slice none 0 0), .v (.slice none 0 0), .v (.slice none 0 0), .v (.slice none 0 0), vi 0, vi 0, .v (.slice none 0 0)]), (103, .cells [.v (.string nB), .slc 401 1 0 n301_20.length, .slc 402 6 0 n302_j32.length, .fz 1 (n303_16.map irow), .fz 5 (n304_8.map Arr.row), .fz 3 (n305_12.map Strm.row), .slc 406 1 0 ((n306_33 ++ ([pickN n301_20 1 ((3 * i12_33) + 1)] : List Int)).length), .slc 407 1 0 n307_33.length, vi 0, vi 0, .slc 410 1 0 0]), (401, .rows 1 (n301_20.map irow)), (402, .rows 6 (n302_j32.map Cell.row)), (406, .rows 1 ((n306_33 ++ ([pickN n301_20 1 ((3 * i12_33) + 1)] : List Int)).map irow)), (407, .rows 1 (n307_33.map irow)), (410, .rows 1 (([] : List Int).map irow))]⟩) (Le.mk (.c (.c (.c (.c (.nil))))) (.c (.c (.c (.c (.c (.c (.c (.nil))))))))) (.sr ?_)
 refine .fa fl27_7 ?_
 refine .ld sh22 ?_
 refine .buildSlice (([-1] : List Int).map irow) sl22 ze3 rfl rfl rfl rfl rfl (uniform_map (s := 1) (f := irow) (fun _ => rfl)) rfl rfl rfl dcd ?_
 refine .appendE ((n307_33 ++ ([-1] : List Int)).map irow) (n307_33 ++ ([-1] : List Int)).length sl22 ze3 rfl rfl rfl rfl (app_le omz) (app_map omz) (app_n omz) omz omz dcd dcd ?_
 refine .fa fl27_7 ?_
 refine .storeC si22 rfl rfl rfl rfl rfl rfl (nbE rfl) rfl (.nil ?_)
 refine .le (st' := ⟨[(1, .fp (Pln.row p) 0), (2, .ptr 102 0 0 0), (3, .ptr 103 0 0 0), (12, vi (i12_33 : Int))], [(102, .cells [.v (.string ByteArray.empty), .v (.slice none 0 0), .v (.slice none 0 0), .v (.slice none 0 0), .v (.slice none 0 0), .v (.slice none 0 0), .v (.slice none 0 0), .v (.slice none 0 0), vi 0, vi 0, .v (.slice none 0 0)]), (103, .cells [.v (.string nB), .slc 401 1 0 n301_20.length, .slc 402 6 0 n302_j32.length, .fz 1 (n303_16.map irow), .fz 5 (n304_8.map Arr.row), .fz 3 (n305_12.map Strm.row), .slc 406 1 0 ((n306_33 ++ ([pickN n301_20 1 ((3 * i12_33) + 1)] : List Int)).length), .slc 407 1 0 ((n307_33 ++ ([-1] : List Int)).length), vi 0, vi 0, .slc 410 1 0 0]), (401, .rows 1 (n301_20.map irow)), (402, .rows 6 (n302_j32.map Cell.row)), (406, .rows 1 ((n306_33 ++ ([pickN n301_20 1 ((3 * i12_33) + 1)] : List Int)).map irow)), (407, .rows 1 ((n307_33 ++ ([-1] : List Int)).map irow)), (410, .rows 1 (([] : List Int).map irow))]⟩) (Le.mk (.c (.c (.c (.c (.nil))))) (.c (.c (.c (.c (.c (.c (.c (.nil))))))))) (.sr ?_)
 refine .fa fl27_5 ?_
 refine .ld sh25 ?_
 refine .mv ?_
 refine .vl (Y.indexF (m := i12_33) sl25 rfl rfl rlo (row_getD (d := default) om)) ?_
 refine .fa fl83_2 ?_
 refine .ld sh4 ?_
 refine .nil ?_
 refine .cond rfl (fun c200 => ?_) (fun c200 => ?_)
 refine .regionHeld [103] [102, 103, 401, 402, 406, 407, 410] rfl (.blind 0 rfl krf (Blind.fieldAddr fl27_7 rfl rfl) dcd (.load 1 rfl krf sh22 rfl rfl rfl rfl rfl dcd ?_))
 refine .blind 2 rfl krf (Blind.move rfl rfl) dcd (.loadA 3 rfl krf sh27 rfl rfl rfl (nbE rfl) rfl rfl dcd (.blind 4 rfl krf (Blind.fieldAddr fl27_5 rfl rfl) dcd ?_))
 refine .load 5 rfl krf sh25 rfl rfl rfl rfl rfl dcd (.blind 6 rfl krf (Blind.move rfl rfl) dcd ?_)
 refine .blind 7 rfl krf (Blind.indexF (m := i12_33) sl25 rfl rfl rlo (row_getD (d := default) om)) dcd ?_
 refine .blind 8 rfl krf (Blind.fieldAddr fl83_1 rfl rfl) dcd (.load 9 rfl krf sh3 rfl rfl rfl rfl rfl dcd (.goL rfl rfl (namesIn.cells rfl rfl rfl namesIn.nil) ?_))
 refine .one 10 rfl krf (.callLP [401, 402, 406, 407, 410] ok56 (pickF_spec (n := (⟨nB, n301_20, n302_j32, n303_16, n304_8, n305_12, n306_33 ++ ([pickN n301_20 1 ((3 * i12_33) + 1)] : List Int), n307_33 ++ ([-1] : List Int), 0, 0, ([] : List Int)⟩ : Netlist)) (w := ((n305_12.getD i12_33 default).width)) (k := 255) (by show (n301_20).length ≤ 1048576; omega) om) rfl (.agg (.keep rfl rfl (.lend rfl rfl (lend_le omz) (lend_eq omz) (.lend rfl rfl (lend_le omz) (lend_eq omz) (.keep rfl rfl (.keep rfl rfl (.keep rfl rfl (.lend rfl rfl (lend_le omz) (lend_eq omz) (.lend rfl rfl (lend_le omz) (lend_eq omz) (.keep rfl rfl (.keep rfl rfl (.lend rfl rfl (lend_le omz) (lend_eq omz) .nil))))))))))) rfl (.keep rfl rfl (.keep rfl rfl .nil))) (lend2 rfl (owns_map irow_frees) (lend2 rfl (owns_map Cell.row_frees) (lend2 rfl (owns_map irow_frees) (lend2 rfl (owns_map irow_frees) (lend1 rfl (owns_map irow_frees)))))) dcd rfl trivial ?_)
 refine .nil ⟨rfl, ?_⟩
 refine .one 11 rfl krf (.vl (Y.indexO (m := i12_33) sl22 rfl rfl rlo omz) ?_)
 refine .nil ⟨rfl, ?_⟩
 refine .one 12 rfl krf (.storeE (((n307_33 ++ ([-1] : List Int)).set i12_33 (pickN n301_20 ((n305_12.getD i12_33 default).width) 255)).map irow) si3 rfl rfl rfl rfl rfl rfl rfl (row_getD0 (d := 0) omz) (nbE rfl) (set_map0 rfl) ?_)
 refine .nil ⟨rfl, ?_⟩
 refine .done krf ?_
 exact ⟨(n307_33 ++ ([-1] : List Int)).set i12_33 (pickN n301_20 ((n305_12.getD i12_33 default).width) 255), ⟨omz, by first | exact lastD_in hdl (pickN_ok (hG3.ground.str (by show i12_33 < n305_12.length; omega)).1 _) asm | exact lastD_no hdl (by simpa using asm)⟩, Le.mk (.c (.c (.c (.c (.nil))))) (.c (.c (.c (.c (.c (.c (.c (.nil))))))))⟩
 refine .skip ?_
 exact ⟨n307_33 ++ ([-1] : List Int), ⟨om, by first | exact lastD_in hdl (pickN_ok (hG3.ground.str (by show i12_33 < n305_12.length; omega)).1 _) asm | exact lastD_no hdl (by simpa using asm)⟩, Le.mk (.c (.c (.c (.c (.nil))))) (.c (.c (.c (.c (.c (.c (.c (.nil))))))))⟩
 obtain ⟨hlj34_407, hJ34⟩ := hJx34
 refine .region ?_
 refine .mv ?_
 refine .vl (Y.addI rfl rfl om) ?_
 refine .an ?_
 refine .nil ?_
 exact ⟨i12_33 + 1, n306_33 ++ ([pickN n301_20 1 ((3 * i12_33) + 1)] : List Int), n307_j34, ⟨om, by rw [List.length_append, hal]; rfl, hJ34.1, ends_step hal he (pickN_ok hG3.ground.one _) hJ34⟩, om, Le.mk (.c (.c (.c (.cons (look_int rfl rlo) (.nil))))) (.c (.cons (look_cells rfl lkc) (.c (.c (.c (.c (.c (.nil))))))))⟩
 refine .exit (.seq (.sr ?_))
 refine .an ?_
 refine .nil (.block ?_)
 refine .loop2 (fun (i13_40 : Nat) (n310_40 : List Int) => ⟨[(1, .fp (Pln.row p) 0), (2, .ptr 102 0 0 0), (3, .ptr 103 0 0 0), (13, vi (i13_40 : Int))], [(102, .cells [.v (.string ByteArray.empty), .v (.slice none 0 0), .v (.slice none 0 0), .v (.slice none 0 0), .v (.slice none 0 0), .v (.slice none 0 0), .v (.slice none 0 0), .v (.slice none 0 0), vi 0, vi 0, .v (.slice none 0 0)]), (103, .cells [.v (.string nB), .slc 401 1 0 n301_20.length, .slc 402 6 0 n302_j32.length, .fz 1 (n303_16.map irow), .fz 5 (n304_8.map Arr.row), .fz 3 (n305_12.map Strm.row), .slc 406 1 0 n306_33.length, .slc 407 1 0 n307_33.length, vi 0, vi 0, .slc 410 1 0 n310_40.length]), (401, .rows 1 (n301_20.map irow)), (402, .rows 6 (n302_j32.map Cell.row)), (406, .rows 1 (n306_33.map irow)), (407, .rows 1 (n307_33.map irow)), (410, .rows 1 (n310_40.map irow))]⟩) (fun (i13_40 : Nat) (n310_40 : List Int) => ((i13_40 : Int) ≤ ((p.rets.length : Nat) : Int)) ∧ (∀ m ∈ n310_40, In m n301_20.length) ∧ (n310_40.length = i13_40)) (fun (i13_40 : Nat) (n310_40 : List Int) => (((p.rets.length : Nat) : Int) - (i13_40 : Int)).toNat) 0 ([] : List Int) (⟨om, fun m h => (by cases h), rfl⟩) (Le.mk (.c (.c (.c (.cons (look_int rfl rlo) (.nil))))) (.c (.cons (look_cells rfl lkc) (.c (.c (.c (.c (.c (.nil))))))))) (fun i13_40 n310_40 hI40 => ?_)
 obtain ⟨hb40, hr, hrl⟩ := hI40
 refine .seq (.sr ?_)
 refine .mv ?_
 refine .fa fl36_4 ?_
 refine .ld sh33 ?_
 refine .vl (Y.len (n := p.rets.length) sl33 rfl (congrArg some (List.length_map ..))) (.vl (Y.lss rfl rfl) (.nil ?_))
 refine .condD rfl (fun c217 => ?_) (fun c217 => ?_)
 refine .skip (.seq (.block ?_))
 have hk1 := hk.rets (p.rets.getD i13_40 0) (getD_in om)
 refine .regionHeldJ0 (⟨[(1, .fp (Pln.row p) 0), (2, .ptr 102 0 0 0), (3, .ptr 103 0 0 0), (13, .v (.int .i64 (i13_40 : Int)))], [(102, .cells [.v (.string ByteArray.empty), .v (.slice none 0 0), .v (.slice none 0 0), .v (.slice none 0 0), .v (.slice none 0 0), .v (.slice none 0 0), .v (.slice none 0 0), .v (.slice none 0 0), .v (.int .i64 0), .v (.int .i64 0), .v (.slice none 0 0)]), (103, .cells [.v (.string nB), .slc 401 1 0 n301_20.length, .slc 402 6 0 n302_j32.length, .fz 1 (n303_16.map irow), .fz 5 (n304_8.map Arr.row), .fz 3 (n305_12.map Strm.row), .slc 406 1 0 n306_33.length, .slc 407 1 0 n307_33.length, .v (.int .i64 0), .v (.int .i64 0), .slc 410 1 0 ((n310_40 ++ ([((p.rets.getD i13_40 0 : Nat) : Int) % ((n301_20.length : Nat) : Int)] : List Int)).length)]), (401, .rows 1 (n301_20.map irow)), (402, .rows 6 (n302_j32.map Cell.row)), (406, .rows 1 (n306_33.map irow)), (407, .rows 1 (n307_33.map irow)), (410, .rows 1 ((n310_40 ++ ([((p.rets.getD i13_40 0 : Nat) : Int) % ((n301_20.length : Nat) : Int)] : List Int)).map irow))]⟩) rfl ?_ ?_
 refine .blind 0 rfl krf (Blind.fieldAddr fl27_10 rfl rfl) dcd (.blind 2 rfl krf (Blind.fieldAddr fl36_4 rfl rfl) dcd (.load 3 rfl krf sh33 rfl rfl rfl rfl rfl dcd ?_))
 refine .blind 4 rfl krf (Blind.move rfl rfl) dcd (.blind 5 rfl krf (Blind.indexF (m := i13_40) sl33 rfl rfl rlo (row_getD (d := 0) om)) dcd (.load 6 rfl krf sh5 rfl rfl rfl rfl rfl dcd (.blind 7 rfl krf (Blind.convK ii5 ii3 rfl (by first | rfl | exact IntWalk.i64_in _ om)) dcd ?_)))
 refine .blind 8 rfl krf (Blind.fieldAddr fl27_1 rfl rfl) dcd (.go0 ?_)
 refine .two 1 9 rfl rfl krf ?_ ?_
 refine .ld sh22 ?_
 refine .nil ⟨rfl, ?_⟩
 refine .one 9 rfl krf ?_
 refine .ld sh22 ?_
 refine .nil ⟨rfl, ?_⟩
 refine .one 10 rfl krf (.vl (Y.len (n := n301_20.length) sl22 rfl rfl) ?_)
 refine .nil ⟨rfl, ?_⟩
 refine .one 11 rfl krf (.vl (Y.remI rfl rfl om) ?_)
 refine .nil ⟨rfl, ?_⟩
 refine .one 12 rfl krf ?_
 refine .buildSlice (([((p.rets.getD i13_40 0 : Nat) : Int) % ((n301_20.length : Nat) : Int)] : List Int).map irow) sl22 ze3 rfl rfl rfl rfl rfl (uniform_map (s := 1) (f := irow) (fun _ => rfl)) rfl rfl rfl dcd ?_
 refine .nil ⟨rfl, ?_⟩
 refine .one 13 rfl krf (.appendE ((n310_40 ++ ([((p.rets.getD i13_40 0 : Nat) : Int) % ((n301_20.length : Nat) : Int)] : List Int)).map irow) (n310_40 ++ ([((p.rets.getD i13_40 0 : Nat) : Int) % ((n301_20.length : Nat) : Int)] : List Int)).length sl22 ze3 rfl rfl rfl rfl (app_le omz) (app_map omz) (app_n omz) omz omz dcd dcd ?_)
 refine .nil ⟨rfl, ?_⟩
 refine .one 14 rfl krf ?_
 refine .fa fl27_10 ?_
 refine .nil ⟨rfl, ?_⟩
 refine .one 15 rfl krf (.storeC si22 rfl rfl rfl rfl rfl rfl (nbE rfl) rfl ?_)
 refine .nil ⟨rfl, ?_⟩
 refine .done krf ?_
 exact Le.mk (.c (.c (.c (.c (.nil))))) (.c (.c (.c (.c (.c (.c (.c (.nil))))))))
 refine .ld sh22 ?_
 refine .nil ⟨rfl, ?_⟩
 refine .two 1 10 rfl rfl krf ?_ ?_
 refine .ld sh22 ?_
 refine .nil ⟨rfl, ?_⟩
 refine .one 10 rfl krf (.vl (Y.len (n := n301_20.length) sl22 rfl rfl) ?_)
 refine .nil ⟨rfl, ?_⟩
 refine .one 11 rfl krf (.vl (Y.remI rfl rfl om) ?_)
 refine .nil ⟨rfl, ?_⟩
 refine .one 12 rfl krf ?_
 refine .buildSlice (([((p.rets.getD i13_40 0 : Nat) : Int) % ((n301_20.length : Nat) : Int)] : List Int).map irow) sl22 ze3 rfl rfl rfl rfl rfl (uniform_map (s := 1) (f := irow) (fun _ => rfl)) rfl rfl rfl dcd ?_
 refine .nil ⟨rfl, ?_⟩
 refine .one 13 rfl krf (.appendE ((n310_40 ++ ([((p.rets.getD i13_40 0 : Nat) : Int) % ((n301_20.length : Nat) : Int)] : List Int)).map irow) (n310_40 ++ ([((p.rets.getD i13_40 0 : Nat) : Int) % ((n301_20.length : Nat) : Int)] : List Int)).length sl22 ze3 rfl rfl rfl rfl (app_le omz) (app_map omz) (app_n omz) omz omz dcd dcd ?_)
 refine .nil ⟨rfl, ?_⟩
 refine .one 14 rfl krf ?_
 refine .fa fl27_10 ?_
 refine .nil ⟨rfl, ?_⟩
 refine .one 15 rfl krf (.storeC si22 rfl rfl rfl rfl rfl rfl (nbE rfl) rfl ?_)
 refine .nil ⟨rfl, ?_⟩
 refine .done krf ?_
 exact Le.mk (.c (.c (.c (.c (.nil))))) (.c (.c (.c (.c (.c (.c (.c (.nil))))))))
 refine .vl (Y.len (n := n301_20.length) sl22 rfl rfl) ?_
 refine .nil ⟨rfl, ?_⟩
 refine .blind 11 rfl krf (Blind.remI rfl rfl om) dcd ?_
 refine .two 1 12 rfl rfl krf ?_ ?_
 refine .ld sh22 ?_
 refine .nil ⟨rfl, ?_⟩
 refine .one 12 rfl krf ?_
 refine .buildSlice (([((p.rets.getD i13_40 0 : Nat) : Int) % ((n301_20.length : Nat) : Int)] : List Int).map irow) sl22 ze3 rfl rfl rfl rfl rfl (uniform_map (s := 1) (f := irow) (fun _ => rfl)) rfl rfl rfl dcd ?_
 refine .nil ⟨rfl, ?_⟩
 refine .one 13 rfl krf (.appendE ((n310_40 ++ ([((p.rets.getD i13_40 0 : Nat) : Int) % ((n301_20.length : Nat) : Int)] : List Int)).map irow) (n310_40 ++ ([((p.rets.getD i13_40 0 : Nat) : Int) % ((n301_20.length : Nat) : Int)] : List Int)).length sl22 ze3 rfl rfl rfl rfl (app_le omz) (app_map omz) (app_n omz) omz omz dcd dcd ?_)
 refine .nil ⟨rfl, ?_⟩
 refine .one 14 rfl krf ?_
 refine .fa fl27_10 ?_
 refine .nil ⟨rfl, ?_⟩
 refine .one 15 rfl krf (.storeC si22 rfl rfl rfl rfl rfl rfl (nbE rfl) rfl ?_)
 refine .nil ⟨rfl, ?_⟩
 refine .done krf ?_
 exact Le.mk (.c (.c (.c (.c (.nil))))) (.c (.c (.c (.c (.c (.c (.c (.nil))))))))
 refine .buildSlice (([((p.rets.getD i13_40 0 : Nat) : Int) % ((n301_20.length : Nat) : Int)] : List Int).map irow) sl22 ze3 rfl rfl rfl rfl rfl (uniform_map (s := 1) (f := irow) (fun _ => rfl)) rfl rfl rfl dcd ?_
 refine .nil ⟨rfl, ?_⟩
 refine .one 1 rfl krf ?_
 refine .ld sh22 ?_
 refine .nil ⟨rfl, ?_⟩
 refine .one 13 rfl krf (.appendE ((n310_40 ++ ([((p.rets.getD i13_40 0 : Nat) : Int) % ((n301_20.length : Nat) : Int)] : List Int)).map irow) (n310_40 ++ ([((p.rets.getD i13_40 0 : Nat) : Int) % ((n301_20.length : Nat) : Int)] : List Int)).length sl22 ze3 rfl rfl rfl rfl (app_le omz) (app_map omz) (app_n omz) omz omz dcd dcd ?_)
 refine .nil ⟨rfl, ?_⟩
 refine .one 14 rfl krf ?_
 refine .fa fl27_10 ?_
 refine .nil ⟨rfl, ?_⟩
 refine .one 15 rfl krf (.storeC si22 rfl rfl rfl rfl rfl rfl (nbE rfl) rfl ?_)
 refine .nil ⟨rfl, ?_⟩
 refine .done krf ?_
 exact Le.mk (.c (.c (.c (.c (.nil))))) (.c (.c (.c (.c (.c (.c (.c (.nil))))))))
 refine .region ?_
 refine .mv ?_
 refine .vl (Y.addI rfl rfl om) ?_
 refine .an ?_
 refine .nil ?_
 exact ⟨i13_40 + 1, n310_40 ++ ([((p.rets.getD i13_40 0 : Nat) : Int) % ((n301_20.length : Nat) : Int)] : List Int), ⟨om, all_app hr (mod_in (n := pn n301_20 n302_j32 n303_16 n304_8 n305_12) hG3.ground (by show 0 < n301_20.length; omega)), by rw [List.length_append, hrl]; rfl⟩, om, Le.mk (.c (.c (.c (.cons (look_int rfl rlo) (.nil))))) (.c (.cons (look_cells rfl lkc) (.c (.c (.c (.c (.c (.nil))))))))⟩
 refine .exit (.sr (.vl (Y.loadA sh27 rfl rfl (nbE rfl) rfl rfl) ?_))
 refine .fa fl36_3 ?_
 refine .ld sh34 ?_
 refine .vl (Y.len (n := p.parts.length) sl34 rfl (congrArg some (List.length_map ..))) (.vl (Y.convK ii3 ii5 rfl (by first | rfl | exact IntWalk.u8_in _ om)) (.callLP [401, 402, 406, 407, 410] ok56 (pickF_spec (n := (⟨nB, n301_20, n302_j32, n303_16, n304_8, n305_12, n306_33, n307_33, 0, 0, n310_40⟩ : Netlist)) (w := 1) (k := p.parts.length) (by show (n301_20).length ≤ 1048576; omega) om) rfl (.agg (.keep rfl rfl (.lend rfl rfl (lend_le om) (lend_eq om) (.lend rfl rfl (lend_le om) (lend_eq om) (.keep rfl rfl (.keep rfl rfl (.keep rfl rfl (.lend rfl rfl (lend_le om) (lend_eq om) (.lend rfl rfl (lend_le om) (lend_eq om) (.keep rfl rfl (.keep rfl rfl (.lend rfl rfl (lend_le om) (lend_eq om) .nil))))))))))) rfl (.keep rfl rfl (.keep rfl rfl .nil))) (lend2 rfl (owns_map irow_frees) (lend2 rfl (owns_map Cell.row_frees) (lend2 rfl (owns_map irow_frees) (lend2 rfl (owns_map irow_frees) (lend1 rfl (owns_map irow_frees)))))) dcd rfl trivial ?_))
 refine .fa fl27_8 ?_
 refine .storeC si3 rfl rfl rfl rfl rfl rfl (nbE rfl) rfl (.nil (.sr ?_))
 refine .vl (Y.loadA sh27 rfl rfl (nbE rfl) rfl rfl) ?_
 refine .fa fl36_3 ?_
 refine .ld sh34 ?_
 refine .vl (Y.len (n := p.parts.length) sl34 rfl (congrArg some (List.length_map ..))) (.vl (Y.mulI rfl rfl om) (.vl (Y.addI rfl rfl om) (.vl (Y.conv ii3 ii5 rfl (wrap_u8_nat ((7 * p.parts.length) + 1))) (.callLP [401, 402, 406, 407, 410] ok56 (pickF_spec (n := (⟨nB, n301_20, n302_j32, n303_16, n304_8, n305_12, n306_33, n307_33, pickN n301_20 1 p.parts.length, 0, n310_40⟩ : Netlist)) (w := 1) (k := (((7 * p.parts.length) + 1) % 256)) (by show (n301_20).length ≤ 1048576; omega) om) rfl (.agg (.keep rfl rfl (.lend rfl rfl (lend_le om) (lend_eq om) (.lend rfl rfl (lend_le om) (lend_eq om) (.keep rfl rfl (.keep rfl rfl (.keep rfl rfl (.lend rfl rfl (lend_le om) (lend_eq om) (.lend rfl rfl (lend_le om) (lend_eq om) (.keep rfl rfl (.keep rfl rfl (.lend rfl rfl (lend_le om) (lend_eq om) .nil))))))))))) rfl (.keep rfl rfl (.keep rfl rfl .nil))) (lend2 rfl (owns_map irow_frees) (lend2 rfl (owns_map Cell.row_frees) (lend2 rfl (owns_map irow_frees) (lend2 rfl (owns_map irow_frees) (lend1 rfl (owns_map irow_frees)))))) dcd rfl trivial ?_))))
 refine .fa fl27_9 ?_
 refine .storeC si3 rfl rfl rfl rfl rfl rfl (nbE rfl) rfl (.nil (.seq ?_))
 refine .sh (Sh.fzObj 103 406 6 rfl rfl rfl (len_map om) (Frees.map irow_frees) dcd rfl rfl rfl) (.sh (Sh.fzObj 103 407 7 rfl rfl rfl (len_map om) (Frees.map irow_frees) dcd rfl rfl rfl) (.sh (Sh.fzObj 103 410 10 rfl rfl rfl (len_map om) (Frees.map irow_frees) dcd rfl rfl rfl) ?_))
 refine .region (.vl (Y.loadA sh27 rfl rfl (nbE rfl) rfl rfl) (.storeC si27 rfl rfl rfl rfl rfl rfl (nbE rfl) rfl ?_))
 refine .nil (.ret ?_)
 exact ⟨_, rfl, _, _, _, (Sh.ownA (d := 0) 1 401 rfl rfl rfl (by first | rfl | exact len_map rfl | exact len_map om) rfl dcd).then (Sh.ownA (d := 0) 2 402 rfl rfl rfl (by first | rfl | exact len_map rfl | exact len_map om) rfl dcd), rfl, rfl, (⟨nB, n301_20, n302_j32, n303_16, n304_8, n305_12, n306_33, n307_33, pickN n301_20 1 p.parts.length, pickN n301_20 1 (((7 * p.parts.length) + 1) % 256), n310_40⟩ : Netlist), (hG3.made om om om om om om (fun m h => (hm m h).1) (fun m h => (hs m h).1) om om (fun j hj => he j om) hr (pickN_ok hG3.ground.one _) (pickN_ok hG3.ground.one _)), rfl, rfl⟩
end Go.Proofs.Ytligpghohcfpnaa
/- The walk of TimingWords. -/
namespace Go.Proofs.Ytligpghohcfpnaa
open Go Go.AW Go.Proofs
theorem timingWords_spec {p : Pln} (hk : p.Ok) : ACalls Try.prog 11 [.agg (Pln.row p)] [] [] (fun r o => r = .v (.bool true) ∧ o = []) := by
 refine ACalls.of Try.func11 rfl rfl rfl (n := 35) dcd (nbE rfl) (.sr (.box 101 rfl rfl rfl rfl rfl dcd ?_))
 refine .an ?_
 refine .nil (.seq (.sr ?_))
 refine .callP ok40 (awake48_spec) rfl .nil dcd rfl (.vl (Y.not rfl) ?_)
 refine .mv ?_
 refine .gw 8 (Y.loadA sh36 rfl rfl (nbE rfl) rfl rfl) (.guardRun (d := 8) rfl dcd rfl (.callP ok18 (few_spec (p := p)) rfl (.keep rfl rfl .nil) dcd rfl ?_))
 refine .gw 8 (Y.not rfl) ?_
 refine .pk ?_
 refine .nil ?_
 refine .cond rfl (fun c12 => ?_) (fun c12 => ?_)
 replace c12 : ¬ (p.Few) := by simpa using c12
 refine .sr (.callP ok40 (awake48_spec) rfl .nil dcd rfl ?_)
 refine .an ?_
 refine .nil (.ret ?_)
 exact .rb rfl (rfl)
 replace c12 : p.Few := by simpa using c12
 refine .skip (.sr (.vl (Y.loadA sh36 rfl rfl (nbE rfl) rfl rfl) ?_))
 refine .callV ok19 (made_spec (p := p) asm hk) rfl (.keep rfl rfl .nil) dcd ?_
 rintro _ ⟨nM15, hM15, rfl, _⟩
 refine ⟨rfl, ?_⟩
 refine .alloc 103 ze27 rfl rfl dcd (.sh (Sh.nameN (d := 15) 1 801 nM15.widths.length rfl rfl rfl dcd (len_map rfl)) (.sh (Sh.nameN (d := 15) 2 802 nM15.cells.length rfl rfl rfl dcd (len_map rfl)) ?_))
 refine .storeC si27 rfl rfl rfl rfl rfl rfl (nbE rfl) rfl (.nil (.seq ?_))
 refine .sh (Sh.fzObj 103 801 1 rfl rfl rfl (len_map om) (Frees.map irow_frees) dcd rfl rfl rfl) (.sh (Sh.fzObj 103 802 2 rfl rfl rfl (len_map om) (Frees.map Cell.row_frees) dcd rfl rfl rfl) (.sh (Sh.freezeO 103 rfl rfl) ?_))
 have hs := hM15.small; have hf := hM15.formed; have hFt := hM15.fit; have hAc := hM15.acyclic; have hnc := hM15.ncells; have hnw := hM15.nwidths; have hni := hM15.nins; have hna := hM15.nargs; have hM := hM15.vp.vt
 refine .region (.vl (Y.loadA sh27 rfl rfl (nbE rfl) rfl rfl) (.callV ok43 (words_spec (n := nM15) hM) rfl (.keep rfl rfl .nil) dcd ?_))
 rintro _ ⟨at_18, lo18, st18, dl18, hO18, hA18, hPt18, rfl, _⟩
 refine ⟨rfl, ?_⟩
 refine .mv ?_
 refine .vl (Y.extract rfl rfl rfl) (.vl (Y.extract rfl rfl rfl) (.alloc 104 ze71 rfl rfl dcd ?_))
 refine .storeC si71 rfl rfl rfl rfl rfl rfl (nbE rfl) rfl ?_
 refine .an ?_
 refine .nil (.seq (.sh (Sh.freezeO 104 rfl rfl) ?_))
 refine .regionHeldJ0 (⟨[(2, .v (.bool (decide (dl18 = dl18))))], []⟩) rfl ?_ ?_
 refine .blind 0 rfl krf (Blind.move rfl rfl) dcd (.blind 1 rfl krf (Blind.eql rfl rfl) dcd (.blind 2 rfl krf (Blind.move rfl rfl) dcd ?_))
 refine .loadARun 3 rfl krf rfl dcd rfl sh27 rfl rfl rfl (nbE rfl) rfl rfl dcd (.loadARun 4 rfl krf rfl dcd rfl sh71 rfl rfl rfl (nbE rfl) rfl rfl dcd (.go0 ?_))
 refine .one 5 rfl krf (.guardRun (d := 23) rfl dcd rfl (.callP ok44 (refPath_spec (n := nM15) hM hO18 hA18 hPt18) rfl (.keep rfl rfl (.keep rfl rfl .nil)) dcd rfl ?_))
 refine .nil ⟨rfl, ?_⟩
 refine .one 6 rfl krf ?_
 refine .pk ?_
 refine .nil ⟨rfl, ?_⟩
 refine .one 7 rfl krf ?_
 refine .mv ?_
 refine .nil ⟨rfl, ?_⟩
 refine .blindRun 8 rfl krf rfl dcd rfl (Blind.fieldAddr fl71_0 rfl rfl) dcd ?_
 refine .two 9 10 rfl rfl krf ?_ ?_
 refine .gw 28 (Y.load sh3 rfl rfl rfl rfl) ?_
 refine .nil ⟨rfl, ?_⟩
 refine .one 10 rfl krf (.gw 28 (Y.loadA sh27 rfl rfl (nbE rfl) rfl rfl) ?_)
 refine .nil ⟨rfl, ?_⟩
 refine .one 11 rfl krf (.guardRun (d := 28) rfl dcd rfl (.callP ok45 (refLongest_spec (n := nM15) hM hO18 hA18 hPt18) rfl (.keep rfl rfl .nil) dcd rfl ?_))
 refine .nil ⟨rfl, ?_⟩
 refine .one 12 rfl krf (.gw 28 (Y.eql rfl rfl) ?_)
 refine .nil ⟨rfl, ?_⟩
 refine .one 13 rfl krf ?_
 refine .pk ?_
 refine .nil ⟨rfl, ?_⟩
 refine .one 14 rfl krf ?_
 refine .an ?_
 refine .nil ⟨rfl, ?_⟩
 refine .done krf ?_
 exact Le.mk (.c (.nil)) (.nil)
 refine .gw 28 (Y.loadA sh27 rfl rfl (nbE rfl) rfl rfl) ?_
 refine .nil ⟨rfl, ?_⟩
 refine .two 9 11 rfl rfl krf ?_ ?_
 refine .gw 28 (Y.load sh3 rfl rfl rfl rfl) ?_
 refine .nil ⟨rfl, ?_⟩
 refine .one 11 rfl krf (.guardRun (d := 28) rfl dcd rfl (.callP ok45 (refLongest_spec (n := nM15) hM hO18 hA18 hPt18) rfl (.keep rfl rfl .nil) dcd rfl ?_))
 refine .nil ⟨rfl, ?_⟩
 refine .one 12 rfl krf (.gw 28 (Y.eql rfl rfl) ?_)
 refine .nil ⟨rfl, ?_⟩
 refine .one 13 rfl krf ?_
 refine .pk ?_
 refine .nil ⟨rfl, ?_⟩
 refine .one 14 rfl krf ?_
 refine .an ?_
 refine .nil ⟨rfl, ?_⟩
 refine .done krf ?_
 exact Le.mk (.c (.nil)) (.nil)
 refine .guardRun (d := 28) rfl dcd rfl (.callP ok45 (refLongest_spec (n := nM15) hM hO18 hA18 hPt18) rfl (.keep rfl rfl .nil) dcd rfl ?_)
 refine .nil ⟨rfl, ?_⟩
 refine .one 9 rfl krf (.gw 28 (Y.load sh3 rfl rfl rfl rfl) ?_)
 refine .nil ⟨rfl, ?_⟩
 refine .one 12 rfl krf (.gw 28 (Y.eql rfl rfl) ?_)
 refine .nil ⟨rfl, ?_⟩
 refine .one 13 rfl krf ?_
 refine .pk ?_
 refine .nil ⟨rfl, ?_⟩
 refine .one 14 rfl krf ?_
 refine .an ?_
 refine .nil ⟨rfl, ?_⟩
 refine .done krf ?_
 exact Le.mk (.c (.nil)) (.nil)
 refine .ret ?_
 exact .rb rfl (by simp)
end Go.Proofs.Ytligpghohcfpnaa
