/- Walks through the specification of paths. -/
import Derived.Test.YtligpghohcfpnaaNetx0
import Derived.Test.YtligpghohcfpnaaNetx1
import Derived.Test.YtligpghohcfpnaaNetx2
import Derived.Test.YtligpghohcfpnaaAWx2
import Derived.Test.YtligpghohcfpnaaAWx3
set_option linter.unusedSimpArgs false
set_option linter.unusedVariables false
set_option linter.unusedSectionVars false
set_option maxRecDepth 4000
set_option maxHeartbeats 8000000
namespace Go.Proofs.Ytligpghohcfpnaa
open Go Go.AW Go.Proofs
theorem in83_spec {l : List Int} {x : Int} (_ : l.length ≤ 1000) : ACalls Try.prog 83 [.fz 1 (l.map irow), vi x] [] [] (fun r o => r = .v (.bool (decide (x ∈ l))) ∧ o = []) := by
 refine ACalls.of Try.func83 rfl rfl rfl (n := 18) dcd (nbE rfl) (.sr ?_)
 refine .an ?_
 refine .nil (.seq (.sr ?_))
 refine .an ?_
 refine .nil (.block ?_)
 refine .loop1 (fun (i5_2 : Nat) => ⟨[(0, .fz 1 (l.map irow)), (1, vi x), (5, vi (i5_2 : Int))], []⟩) (fun (i5_2 : Nat) => ((i5_2 : Int) ≤ ((l.length : Nat) : Int)) ∧ (∀ y ∈ l.take i5_2, y ≠ x)) (fun (i5_2 : Nat) => (((l.length : Nat) : Int) - (i5_2 : Int)).toNat) 0 (⟨om, by simp⟩) (Le.mk (.c (.c (.cons (look_int rfl rlo) (.nil)))) (.nil)) (fun i5_2 hI2 => ?_)
 obtain ⟨hb2, hn⟩ := hI2
 refine .seq (.sr ?_)
 refine .mv ?_
 refine .mv ?_
 refine .vl (Y.len (n := l.length) sl22 rfl (congrArg some (List.length_map ..))) (.vl (Y.lss rfl rfl) (.nil ?_))
 refine .condD rfl (fun c9 => ?_) (fun c9 => ?_)
 refine .skip (.seq (.block ?_))
 refine .sr ?_
 refine .mv ?_
 refine .mv ?_
 refine .vl (Y.indexF (m := i5_2) sl22 rfl rfl rlo (row_getD (d := 0) om)) ?_
 refine .ld sh3 ?_
 refine .mv ?_
 refine .vl (Y.eql rfl rfl) (.nil ?_)
 refine .condD rfl (fun c17 => ?_) (fun c17 => ?_)
 refine .sr ?_
 refine .an ?_
 refine .nil (.ret ?_)
 exact .rb rfl ((decide_eq_true (by rw [← (by assumption : l.getD i5_2 0 = x)]; exact getD_mem om)).symm)
 refine .skip (.region ?_)
 refine .mv ?_
 refine .vl (Y.addI rfl rfl oms) ?_
 refine .an ?_
 refine .nil ?_
 exact ⟨i5_2 + 1, ⟨om, by intro y hy; rw [take_one (d := (0 : Int)) om] at hy; rcases List.mem_append.1 hy with h | h; exact hn y h; rw [List.mem_singleton.1 h]; assumption⟩, om, Le.mk (.c (.c (.cons (look_int rfl rlo) (.nil)))) (.nil)⟩
 refine .exit (.sr ?_)
 refine .an ?_
 refine .nil (.ret ?_)
 exact .rb rfl ((decide_eq_false (fun h => by rw [show i5_2 = l.length by omega, List.take_length] at hn; exact hn x h rfl)).symm)
theorem refPath_spec {n : Netlist} {lo at_ st : List Int} {d : Int} (hM : VT n) (hO : Ord n lo) (hA : Arv n at_) (hp : WPath n at_ st d) : ACalls Try.prog 44 [.agg (Netlist.row n), .agg [vi d, .fz 1 (st.map irow)]] [] [] (fun r o => r = .v (.bool true) ∧ o = []) := by
 refine ACalls.of Try.func44 rfl rfl rfl (n := 106) dcd (nbE rfl) ?_
 have hs := hM.small; have hf := hM.formed; have hnc := hM.ncells; have hnw := hM.nwidths; have hna := hM.nargs; have hnr := hM.nrets; have hns := hM.nstreams; have hac := hf.nactive; have hda := hf.ndata; have hpos := hp.pos; have hplen := hp.len; have hwd := hf.nwidths
 refine .sr (.box 102 rfl rfl rfl rfl rfl dcd (.box 103 rfl rfl rfl rfl rfl dcd ?_))
 refine .an ?_
 refine .nil (.seq (.seq ?_))
 refine .sh (Sh.freezeO 102 rfl rfl) (.sh (Sh.freezeO 103 rfl rfl) (.region ?_))
 refine .fa fl71_1 ?_
 refine .ld sh22 ?_
 refine .vl (Y.len (n := st.length) sl22 rfl (congrArg some (List.length_map ..))) (.vl (Y.eql rfl rfl) (.nil ?_))
 refine .condD rfl (fun c14 => ?_) (fun c14 => ?_)
 exfalso; omega
 refine .skip (.sr (.vl (Y.loadA sh27 rfl rfl (nbE rfl) rfl rfl) ?_))
 refine .callV ok38 (drivers_spec (n := n) hs hf) rfl (.keep rfl rfl .nil) dcd ?_
 rintro _ ⟨dl16, hdl16, rfl, _⟩
 refine ⟨rfl, ?_⟩
 refine .assignX rfl dcd (.sh (Sh.freezeE (d := 5) (dl16.map irow) rfl (by first | rfl | exact rep_map rfl) (Frees.map irow_frees)) (.nil ?_))
 refine .sr ?_
 refine .an ?_
 refine .nil (.seq (.sr ?_))
 refine .an ?_
 refine .nil (.block ?_)
 refine .loop2 (fun (t6_6 : Int) (i7_6 : Nat) => ⟨[(2, .fp (Netlist.row n) 0), (3, .fp [vi d, .fz 1 (st.map irow)] 0), (5, .fz 1 (dl16.map irow)), (6, vi t6_6), (7, vi (i7_6 : Int))], []⟩) (fun (t6_6 : Int) (i7_6 : Nat) => ((i7_6 : Int) ≤ ((st.length : Nat) : Int)) ∧ ((i7_6 = 0 → t6_6 = 0) ∧ (0 < i7_6 → t6_6 = at_.getD (st.getD (i7_6 - 1) 0).toNat 0))) (fun (t6_6 : Int) (i7_6 : Nat) => (((st.length : Nat) : Int) - (i7_6 : Int)).toNat) 0 0 (⟨om, ⟨fun _ => rfl, fun h => by omega⟩⟩) (Le.mk (.c (.c (.c (.cons (look_int rfl rlo) (.cons (look_int rfl rlo) (.nil)))))) (.nil)) (fun t6_6 i7_6 hI6 => ?_)
 obtain ⟨hb6, hsum⟩ := hI6
 refine .seq (.sr ?_)
 refine .mv ?_
 refine .fa fl71_1 ?_
 refine .ld sh22 ?_
 refine .vl (Y.len (n := st.length) sl22 rfl (congrArg some (List.length_map ..))) (.vl (Y.lss rfl rfl) (.nil ?_))
 refine .condD rfl (fun c21 => ?_) (fun c21 => ?_)
 refine .skip (.seq (.block ?_))
 refine .sr ?_
 refine .fa fl71_1 ?_
 refine .ld sh22 ?_
 refine .mv ?_
 refine .vl (Y.indexF (m := i7_6) sl22 rfl rfl rlo (row_getD (d := 0) om)) ?_
 refine .ld sh3 ?_
 refine .an ?_
 refine .nil (.seq (.seq ?_))
 have hin := hp.stin i7_6 om; have hdr := hdl16.drv _ hin; have hX := hp.sum hf (j := i7_6) om hdr; have hdr1 := hdr.1; have hin1 := hin; unfold In at hin1; have hdll := hdl16.len
 have hX0 : i7_6 = 0 → dly n (n.cells.getD ((dl16.getD ((st.getD i7_6 0).toNat) 0).toNat) default) = at_.getD (st.getD 0 0).toNat 0 ∧ ¬ (Comb (n.cells.getD ((dl16.getD ((st.getD i7_6 0).toNat) 0).toNat) default).kind ∧ (n.cells.getD ((dl16.getD ((st.getD i7_6 0).toNat) 0).toNat) default).kind ≠ 1) := hX.1
 have hXk : 0 < i7_6 → at_.getD (st.getD (i7_6 - 1) 0).toNat 0 + dly n (n.cells.getD ((dl16.getD ((st.getD i7_6 0).toNat) 0).toNat) default) = at_.getD (st.getD i7_6 0).toNat 0 ∧ Comb (n.cells.getD ((dl16.getD ((st.getD i7_6 0).toNat) 0).toNat) default).kind ∧ st.getD (i7_6 - 1) 0 ∈ (n.cells.getD ((dl16.getD ((st.getD i7_6 0).toNat) 0).toNat) default).args := hX.2
 have hi1 : ((i7_6 : Int) - 1).toNat = i7_6 - 1 := by omega
 have hna9 := hna (n.cells.getD ((dl16.getD ((st.getD i7_6 0).toNat) 0).toNat) default) (getD_in om)
 refine .region ?_
 refine .mv ?_
 refine .vl (Y.lss rfl rfl) ?_
 refine .mv ?_
 refine .splitD (d := 31) rfl (fun c31 => ?_) (fun c31 => ?_)
 exfalso; omega
 refine .gw 31 (Y.move rfl rfl) (.gw 31 (Y.fieldAddr fl27_1 rfl rfl) (.gw 31 (Y.load sh22 rfl rfl rfl rfl) ?_))
 refine .gw 31 (Y.len (n := n.widths.length) sl22 rfl (congrArg some (List.length_map ..))) (.gw 31 (Y.geq rfl rfl) ?_)
 refine .pk ?_
 refine .nil ?_
 refine .condD rfl (fun c37 => ?_) (fun c37 => ?_)
 exfalso; omega
 refine .skip (.seq (.regionHeld0 rfl ?_))
 refine .blind 0 rfl krf (Blind.fieldAddr fl27_2 rfl rfl) dcd (.load 1 rfl krf sh23 rfl rfl rfl rfl rfl dcd (.blind 2 rfl krf (Blind.move rfl rfl) dcd ?_))
 refine .blind 3 rfl krf (Blind.move rfl rfl) dcd (.blind 4 rfl krf (Blind.indexF (m := (st.getD i7_6 0).toNat) sl22 rfl rfl om (row_getD (d := 0) om)) dcd (.load 5 rfl krf sh3 rfl rfl rfl rfl rfl dcd (.blind 6 rfl krf (Blind.indexF (m := (dl16.getD ((st.getD i7_6 0).toNat) 0).toNat) sl23 rfl rfl om (row_getD (d := default) om)) dcd ?_)))
 refine .loadA 7 rfl krf sh39 rfl rfl rfl (nbE rfl) rfl rfl dcd (.go0 (.one 8 rfl krf ?_))
 refine .alloc 109 ze39 rfl rfl dcd ?_
 refine .nil ⟨rfl, ?_⟩
 refine .one 9 rfl krf (.storeC si39 rfl rfl rfl rfl rfl rfl (nbE rfl) rfl ?_)
 refine .nil ⟨rfl, ?_⟩
 refine .done krf ?_
 refine .join2 (fun (n61_j14 : Bool) (n77_j14 : Bool) => ⟨[(2, .fp (Netlist.row n) 0), (3, .fp [vi d, .fz 1 (st.map irow)] 0), (5, .fz 1 (dl16.map irow)), (6, vi t6_6), (7, vi (i7_6 : Int)), (9, .fp [vi ((n.cells.getD ((dl16.getD ((st.getD i7_6 0).toNat) 0).toNat) default).kind), vi ((n.cells.getD ((dl16.getD ((st.getD i7_6 0).toNat) 0).toNat) default).op), vi ((n.cells.getD ((dl16.getD ((st.getD i7_6 0).toNat) 0).toNat) default).out), .fz 1 (((n.cells.getD ((dl16.getD ((st.getD i7_6 0).toNat) 0).toNat) default).args).map irow), .v (.int .u64 (((n.cells.getD ((dl16.getD ((st.getD i7_6 0).toNat) 0).toNat) default).num : Nat) : Int)), vi ((n.cells.getD ((dl16.getD ((st.getD i7_6 0).toNat) 0).toNat) default).mem)] 0), (32, vi (st.getD i7_6 0)), (33, .fp (Netlist.row n) 1), (34, .fz 1 (n.widths.map irow)), (35, vi ((n.widths.length : Nat) : Int)), (36, .v (.bool (decide (((n.widths.length : Nat) : Int) ≤ (st.getD i7_6 0))))), (59, vi (i7_6 : Int)), (60, .v (.bool (decide (0 < (i7_6 : Int))))), (61, .v (.bool n61_j14)), (77, .v (.bool n77_j14))], []⟩) (fun (n61_j14 : Bool) (n77_j14 : Bool) => True) ?_ (fun n61_j14 n77_j14 hJ14 => ?_)
 refine .seq (.sh (Sh.freezeO 109 rfl rfl) (.regionHeld0 rfl ?_))
 refine .blind 0 rfl krf (Blind.move rfl rfl) dcd (.blind 1 rfl krf (Blind.eql rfl rfl) dcd (.blind 2 rfl krf (Blind.move rfl rfl) dcd ?_))
 refine .splitD (d := 48) rfl (fun c48 => ?_) (fun c48 => ?_)
 refine .blindRun 3 rfl krf rfl dcd rfl (Blind.fieldAddr fl39_0 rfl rfl) dcd (.loadRun 4 rfl krf rfl dcd rfl sh3 rfl rfl rfl rfl rfl dcd (.go0 ?_))
 refine .one 5 rfl krf (.guardRun (d := 48) rfl dcd rfl (.callP ok22 (refComb_spec (w := ((n.cells.getD ((dl16.getD ((st.getD i7_6 0).toNat) 0).toNat) default).kind))) rfl (.keep rfl rfl .nil) dcd rfl ?_))
 refine .nil ⟨rfl, ?_⟩
 refine .one 6 rfl krf ?_
 refine .pk ?_
 refine .nil ⟨rfl, ?_⟩
 refine .one 7 rfl krf ?_
 refine .mv ?_
 refine .nil ⟨rfl, ?_⟩
 refine .splitD (d := 53) rfl (fun c53 => ?_) (fun c53 => ?_)
 refine .one 8 rfl krf (.gw 53 (Y.fieldAddr fl39_0 rfl rfl) ?_)
 refine .nil ⟨rfl, ?_⟩
 refine .one 9 rfl krf (.gw 53 (Y.load sh3 rfl rfl rfl rfl) ?_)
 refine .nil ⟨rfl, ?_⟩
 refine .one 10 rfl krf (.gw 53 (Y.neq rfl rfl) ?_)
 refine .nil ⟨rfl, ?_⟩
 refine .one 11 rfl krf ?_
 refine .pk ?_
 refine .nil ⟨rfl, ?_⟩
 refine .one 12 rfl krf ?_
 refine .mv ?_
 refine .nil ⟨rfl, ?_⟩
 refine .splitD (d := 58) rfl (fun c58 => ?_) (fun c58 => ?_)
 exfalso; exact (hX0 om).2 ⟨c53, c58⟩
 refine .one 13 rfl krf (.gw 58 (Y.move rfl rfl) ?_)
 refine .nil ⟨rfl, ?_⟩
 refine .one 14 rfl krf (.gw 58 (Y.gtr rfl rfl) ?_)
 refine .nil ⟨rfl, ?_⟩
 refine .one 15 rfl krf (.gw 58 (Y.move rfl rfl) ?_)
 refine .nil ⟨rfl, ?_⟩
 refine .splitD (d := 61) rfl (fun c61 => ?_) (fun c61 => ?_)
 exfalso; omega
 refine .skipOp 16 rfl krf rfl dcd dcd rfl rfl (.skipOp 17 rfl krf rfl dcd dcd rfl rfl (.skipOp 18 rfl krf rfl dcd dcd rfl rfl ?_))
 refine .skipOp 19 rfl krf rfl dcd dcd rfl rfl (.skipOp 20 rfl krf rfl dcd dcd rfl rfl (.skipOp 21 rfl krf rfl dcd dcd rfl rfl ?_))
 refine .skipOp 22 rfl krf rfl dcd dcd rfl rfl (.skipOp 23 rfl krf rfl dcd dcd rfl rfl (.skipOp 24 rfl krf rfl dcd dcd rfl rfl ?_))
 refine .skipOp 25 rfl krf rfl dcd dcd rfl rfl (.skipOp 26 rfl krf rfl dcd dcd rfl rfl (.skipOp 27 rfl krf rfl dcd dcd rfl rfl ?_))
 refine .skipOp 28 rfl krf rfl dcd dcd rfl rfl (.skipOp 29 rfl krf rfl dcd dcd rfl rfl (.skipOp 30 rfl krf rfl dcd dcd rfl rfl ?_))
 refine .one 31 rfl krf (.gw 58 (Y.pick rfl rfl rfl) ?_)
 refine .nil ⟨rfl, ?_⟩
 refine .one 32 rfl krf ?_
 refine .pk ?_
 refine .nil ⟨rfl, ?_⟩
 refine .done krf (.condF rfl (.skip ?_))
 exact ⟨false, false, trivial, Le.mk (.c (.c (.c (.c (.c (.c (.c (.c (.c (.c (.c (.c (.c (.cons (look_bool rfl rls) (.cons (look_bool rfl rls) (.nil)))))))))))))))) (.nil)⟩
 refine .skipOp 8 rfl krf rfl dcd dcd rfl rfl (.skipOp 9 rfl krf rfl dcd dcd rfl rfl (.skipOp 10 rfl krf rfl dcd dcd rfl rfl ?_))
 refine .one 11 rfl krf ?_
 refine .pk ?_
 refine .nil ⟨rfl, ?_⟩
 refine .one 12 rfl krf ?_
 refine .mv ?_
 refine .nil ⟨rfl, ?_⟩
 refine .one 13 rfl krf (.gw 58 (Y.move rfl rfl) ?_)
 refine .nil ⟨rfl, ?_⟩
 refine .one 14 rfl krf (.gw 58 (Y.gtr rfl rfl) ?_)
 refine .nil ⟨rfl, ?_⟩
 refine .one 15 rfl krf (.gw 58 (Y.move rfl rfl) ?_)
 refine .nil ⟨rfl, ?_⟩
 refine .splitD (d := 61) rfl (fun c61 => ?_) (fun c61 => ?_)
 exfalso; omega
 refine .skipOp 16 rfl krf rfl dcd dcd rfl rfl (.skipOp 17 rfl krf rfl dcd dcd rfl rfl (.skipOp 18 rfl krf rfl dcd dcd rfl rfl ?_))
 refine .skipOp 19 rfl krf rfl dcd dcd rfl rfl (.skipOp 20 rfl krf rfl dcd dcd rfl rfl (.skipOp 21 rfl krf rfl dcd dcd rfl rfl ?_))
 refine .skipOp 22 rfl krf rfl dcd dcd rfl rfl (.skipOp 23 rfl krf rfl dcd dcd rfl rfl (.skipOp 24 rfl krf rfl dcd dcd rfl rfl ?_))
 refine .skipOp 25 rfl krf rfl dcd dcd rfl rfl (.skipOp 26 rfl krf rfl dcd dcd rfl rfl (.skipOp 27 rfl krf rfl dcd dcd rfl rfl ?_))
 refine .skipOp 28 rfl krf rfl dcd dcd rfl rfl (.skipOp 29 rfl krf rfl dcd dcd rfl rfl (.skipOp 30 rfl krf rfl dcd dcd rfl rfl ?_))
 refine .one 31 rfl krf (.gw 58 (Y.pick rfl rfl rfl) ?_)
 refine .nil ⟨rfl, ?_⟩
 refine .one 32 rfl krf ?_
 refine .pk ?_
 refine .nil ⟨rfl, ?_⟩
 refine .done krf (.condF rfl (.skip ?_))
 exact ⟨false, false, trivial, Le.mk (.c (.c (.c (.c (.c (.c (.c (.c (.c (.c (.c (.c (.c (.cons (look_bool rfl rls) (.cons (look_bool rfl rls) (.nil)))))))))))))))) (.nil)⟩
 refine .skipOp 3 rfl krf rfl dcd dcd rfl rfl (.skipOp 4 rfl krf rfl dcd dcd rfl rfl (.skipOp 5 rfl krf rfl dcd dcd rfl rfl ?_))
 refine .blind 6 rfl krf (Blind.pick rfl rfl rfl) dcd (.blind 7 rfl krf (Blind.move rfl rfl) dcd (.skipOp 8 rfl krf rfl dcd dcd rfl rfl ?_))
 refine .skipOp 9 rfl krf rfl dcd dcd rfl rfl (.skipOp 10 rfl krf rfl dcd dcd rfl rfl (.blind 11 rfl krf (Blind.pick rfl rfl rfl) dcd ?_))
 refine .blind 12 rfl krf (Blind.move rfl rfl) dcd (.blindRun 13 rfl krf rfl dcd rfl (Blind.move rfl rfl) dcd (.blindRun 14 rfl krf rfl dcd rfl (Blind.gtr rfl rfl) dcd ?_))
 refine .blindRun 15 rfl krf rfl dcd rfl (Blind.move rfl rfl) dcd ?_
 refine .splitD (d := 61) rfl (fun c61 => ?_) (fun c61 => ?_)
 refine .blindRun 16 rfl krf rfl dcd rfl (Blind.fieldAddr fl39_0 rfl rfl) dcd (.loadRun 17 rfl krf rfl dcd rfl sh3 rfl rfl rfl rfl rfl dcd (.go0 ?_))
 refine .one 18 rfl krf (.guardRun (d := 61) rfl dcd rfl (.callP ok22 (refComb_spec (w := ((n.cells.getD ((dl16.getD ((st.getD i7_6 0).toNat) 0).toNat) default).kind))) rfl (.keep rfl rfl .nil) dcd rfl ?_))
 refine .nil ⟨rfl, ?_⟩
 refine .one 19 rfl krf (.gw 61 (Y.move rfl rfl) ?_)
 refine .nil ⟨rfl, ?_⟩
 refine .splitD (d := 65) rfl (fun c65 => ?_) (fun c65 => ?_)
 refine .blindRun 20 rfl krf rfl dcd rfl (Blind.fieldAddr fl39_3 rfl rfl) dcd (.blindRun 22 rfl krf rfl dcd rfl (Blind.fieldAddr fl71_1 rfl rfl) dcd (.blindRun 24 rfl krf rfl dcd rfl (Blind.move rfl rfl) dcd ?_))
 refine .blindRun 25 rfl krf rfl dcd rfl (Blind.subI rfl rfl om) dcd ?_
 refine .two 21 23 rfl rfl krf ?_ ?_
 refine .gw 65 (Y.load sh22 rfl rfl rfl rfl) ?_
 refine .nil ⟨rfl, ?_⟩
 refine .one 23 rfl krf (.gw 65 (Y.load sh22 rfl rfl rfl rfl) ?_)
 refine .nil ⟨rfl, ?_⟩
 refine .one 26 rfl krf (.gw 65 (Y.indexF (m := ((i7_6 : Int) - 1).toNat) sl22 rfl rfl om (row_getD (d := 0) om)) ?_)
 refine .nil ⟨rfl, ?_⟩
 refine .one 27 rfl krf (.gw 65 (Y.load sh3 rfl rfl rfl rfl) ?_)
 refine .nil ⟨rfl, ?_⟩
 refine .one 28 rfl krf (.guardRun (d := 65) rfl dcd rfl (.callP ok83 (in83_spec (l := ((n.cells.getD ((dl16.getD ((st.getD i7_6 0).toNat) 0).toNat) default).args)) (x := (st.getD (((i7_6 : Int) - 1).toNat) 0)) om) rfl (.keep rfl rfl (.keep rfl rfl .nil)) dcd rfl ?_))
 refine .nil ⟨rfl, ?_⟩
 refine .one 29 rfl krf (.gw 61 (Y.pick rfl rfl rfl) ?_)
 refine .nil ⟨rfl, ?_⟩
 refine .one 30 rfl krf (.gw 61 (Y.not rfl) ?_)
 refine .nil ⟨rfl, ?_⟩
 refine .one 31 rfl krf (.gw 58 (Y.pick rfl rfl rfl) ?_)
 refine .nil ⟨rfl, ?_⟩
 refine .one 32 rfl krf ?_
 refine .pk ?_
 refine .nil ⟨rfl, ?_⟩
 refine .done krf ?_
 refine .cond rfl (fun c78 => ?_) (fun c78 => ?_)
 exfalso; first | (cases c78; done) | (have h := (hXk om).2.2; rw [hi1] at c78; exact absurd h (by simpa using c78))
 replace c78 : (st.getD (((i7_6 : Int) - 1).toNat) 0) ∈ ((n.cells.getD ((dl16.getD ((st.getD i7_6 0).toNat) 0).toNat) default).args) := by simpa using c78
 refine .skip ?_
 exact ⟨true, (!decide ((st.getD (((i7_6 : Int) - 1).toNat) 0) ∈ ((n.cells.getD ((dl16.getD ((st.getD i7_6 0).toNat) 0).toNat) default).args))), trivial, Le.mk (.c (.c (.c (.c (.c (.c (.c (.c (.c (.c (.c (.c (.c (.cons (look_bool rfl rls) (.cons (look_bool rfl rls) (.nil)))))))))))))))) (.nil)⟩
 refine .gw 65 (Y.load sh22 rfl rfl rfl rfl) ?_
 refine .nil ⟨rfl, ?_⟩
 refine .blindRun 26 rfl krf rfl dcd rfl (Blind.indexF (m := ((i7_6 : Int) - 1).toNat) sl22 rfl rfl om (row_getD (d := 0) om)) dcd ?_
 refine .two 21 27 rfl rfl krf ?_ ?_
 refine .gw 65 (Y.load sh22 rfl rfl rfl rfl) ?_
 refine .nil ⟨rfl, ?_⟩
 refine .one 27 rfl krf (.gw 65 (Y.load sh3 rfl rfl rfl rfl) ?_)
 refine .nil ⟨rfl, ?_⟩
 refine .one 28 rfl krf (.guardRun (d := 65) rfl dcd rfl (.callP ok83 (in83_spec (l := ((n.cells.getD ((dl16.getD ((st.getD i7_6 0).toNat) 0).toNat) default).args)) (x := (st.getD (((i7_6 : Int) - 1).toNat) 0)) om) rfl (.keep rfl rfl (.keep rfl rfl .nil)) dcd rfl ?_))
 refine .nil ⟨rfl, ?_⟩
 refine .one 29 rfl krf (.gw 61 (Y.pick rfl rfl rfl) ?_)
 refine .nil ⟨rfl, ?_⟩
 refine .one 30 rfl krf (.gw 61 (Y.not rfl) ?_)
 refine .nil ⟨rfl, ?_⟩
 refine .one 31 rfl krf (.gw 58 (Y.pick rfl rfl rfl) ?_)
 refine .nil ⟨rfl, ?_⟩
 refine .one 32 rfl krf ?_
 refine .pk ?_
 refine .nil ⟨rfl, ?_⟩
 refine .done krf ?_
 refine .cond rfl (fun c78 => ?_) (fun c78 => ?_)
 exfalso; first | (cases c78; done) | (have h := (hXk om).2.2; rw [hi1] at c78; exact absurd h (by simpa using c78))
 replace c78 : (st.getD (((i7_6 : Int) - 1).toNat) 0) ∈ ((n.cells.getD ((dl16.getD ((st.getD i7_6 0).toNat) 0).toNat) default).args) := by simpa using c78
 refine .skip ?_
 exact ⟨true, (!decide ((st.getD (((i7_6 : Int) - 1).toNat) 0) ∈ ((n.cells.getD ((dl16.getD ((st.getD i7_6 0).toNat) 0).toNat) default).args))), trivial, Le.mk (.c (.c (.c (.c (.c (.c (.c (.c (.c (.c (.c (.c (.c (.cons (look_bool rfl rls) (.cons (look_bool rfl rls) (.nil)))))))))))))))) (.nil)⟩
 refine .gw 65 (Y.load sh3 rfl rfl rfl rfl) ?_
 refine .nil ⟨rfl, ?_⟩
 refine .one 21 rfl krf (.gw 65 (Y.load sh22 rfl rfl rfl rfl) ?_)
 refine .nil ⟨rfl, ?_⟩
 refine .one 28 rfl krf (.guardRun (d := 65) rfl dcd rfl (.callP ok83 (in83_spec (l := ((n.cells.getD ((dl16.getD ((st.getD i7_6 0).toNat) 0).toNat) default).args)) (x := (st.getD (((i7_6 : Int) - 1).toNat) 0)) om) rfl (.keep rfl rfl (.keep rfl rfl .nil)) dcd rfl ?_))
 refine .nil ⟨rfl, ?_⟩
 refine .one 29 rfl krf (.gw 61 (Y.pick rfl rfl rfl) ?_)
 refine .nil ⟨rfl, ?_⟩
 refine .one 30 rfl krf (.gw 61 (Y.not rfl) ?_)
 refine .nil ⟨rfl, ?_⟩
 refine .one 31 rfl krf (.gw 58 (Y.pick rfl rfl rfl) ?_)
 refine .nil ⟨rfl, ?_⟩
 refine .one 32 rfl krf ?_
 refine .pk ?_
 refine .nil ⟨rfl, ?_⟩
 refine .done krf ?_
 refine .cond rfl (fun c78 => ?_) (fun c78 => ?_)
 exfalso; first | (cases c78; done) | (have h := (hXk om).2.2; rw [hi1] at c78; exact absurd h (by simpa using c78))
 replace c78 : (st.getD (((i7_6 : Int) - 1).toNat) 0) ∈ ((n.cells.getD ((dl16.getD ((st.getD i7_6 0).toNat) 0).toNat) default).args) := by simpa using c78
 refine .skip ?_
 exact ⟨true, (!decide ((st.getD (((i7_6 : Int) - 1).toNat) 0) ∈ ((n.cells.getD ((dl16.getD ((st.getD i7_6 0).toNat) 0).toNat) default).args))), trivial, Le.mk (.c (.c (.c (.c (.c (.c (.c (.c (.c (.c (.c (.c (.c (.cons (look_bool rfl rls) (.cons (look_bool rfl rls) (.nil)))))))))))))))) (.nil)⟩
 exfalso; exact c65 (hXk om).2.1
 exfalso; omega
 have hr14 := hA.rng hM hO hin; have h14 : t6_6 + dly n (n.cells.getD ((dl16.getD ((st.getD i7_6 0).toNat) 0).toNat) default) = at_.getD (st.getD i7_6 0).toNat 0 := by (rcases Nat.eq_zero_or_pos i7_6 with h | h; (have h1 := (hX0 h).1; have h2 := hsum.1 h; rw [h] at h1 ⊢; omega); (have h1 := (hXk h).1; have h2 := hsum.2 h; omega))
 refine .region ?_
 refine .mv ?_
 refine .vl (Y.loadA sh27 rfl rfl (nbE rfl) rfl rfl) (.vl (Y.loadA sh39 rfl rfl (nbE rfl) rfl rfl) (.callP ok42 (refDelay_spec (n := n) (c := (n.cells.getD ((dl16.getD ((st.getD i7_6 0).toNat) 0).toNat) default)) hf.wides (hf.cells _ om) (hna _ (getD_in om))) rfl (.keep rfl rfl (.keep rfl rfl .nil)) dcd rfl ?_))
 refine .vl (Y.addI rfl rfl oms) ?_
 refine .an ?_
 refine .nil (.region ?_)
 refine .mv ?_
 refine .vl (Y.addI rfl rfl oms) ?_
 refine .an ?_
 refine .nil ?_
 exact ⟨t6_6 + (dly n (n.cells.getD ((dl16.getD ((st.getD i7_6 0).toNat) 0).toNat) default)), i7_6 + 1, ⟨om, ⟨fun h => by omega, fun _ => by rw [Nat.add_sub_cancel]; exact h14⟩⟩, om, Le.mk (.c (.c (.c (.cons (look_int rfl rlo) (.cons (look_int rfl rlo) (.nil)))))) (.nil)⟩
 refine .exit (.seq ?_)
 have hi15 : (((st.length : Nat) : Int) - 1).toNat = st.length - 1 := by omega
 have h15 : In (st.getD (((st.length : Nat) : Int) - 1).toNat 0) n.widths.length := by (rw [hi15]; exact hp.stin _ om)
 have h15i := h15; unfold In at h15i; have h15r := hA.rng hM hO h15; obtain ⟨a15, ha15, hd15⟩ := hp.end_; rw [← hi15] at ha15 hd15; have hai := allL_in hf ha15
 have hs15 : t6_6 = at_.getD (st.getD (((st.length : Nat) : Int) - 1).toNat 0).toNat 0 := by (rw [hi15, hsum.2 om, show i7_6 = st.length by omega])
 refine .regionHeld0 rfl (.loadA 0 rfl krf sh27 rfl rfl rfl (nbE rfl) rfl rfl dcd (.blind 2 rfl krf (Blind.fieldAddr fl71_1 rfl rfl) dcd ?_))
 refine .load 3 rfl krf sh22 rfl rfl rfl rfl rfl dcd (.blind 4 rfl krf (Blind.fieldAddr fl71_1 rfl rfl) dcd (.load 5 rfl krf sh22 rfl rfl rfl rfl rfl dcd ?_))
 refine .blind 6 rfl krf (Blind.len (n := st.length) sl22 rfl (congrArg some (List.length_map ..))) dcd (.blind 7 rfl krf (Blind.subI rfl rfl om) dcd (.blind 8 rfl krf (Blind.indexF (m := (((st.length : Nat) : Int) - 1).toNat) sl22 rfl rfl om (row_getD (d := 0) om)) dcd ?_))
 refine .load 9 rfl krf sh3 rfl rfl rfl rfl rfl dcd (.go0 (.one 1 rfl krf ?_))
 refine .callV ok84 (refEnds_spec (n := n) hM) rfl (.keep rfl rfl .nil) dcd ?_
 rintro _ ⟨en85, hEN85, rfl, _⟩
 refine ⟨rfl, ?_⟩
 refine .nil ⟨rfl, ?_⟩
 refine .one 10 rfl krf ?_
 have henl := hEN85.len
 refine .vl (Y.indexF (m := (st.getD ((((st.length : Nat) : Int) - 1).toNat) 0).toNat) sl22 rfl rfl oms (row_getD (d := 0) oms)) ?_
 refine .nil ⟨rfl, ?_⟩
 refine .one 11 rfl krf ?_
 refine .ld sh3 ?_
 refine .nil ⟨rfl, ?_⟩
 refine .one 12 rfl krf ?_
 refine .an ?_
 refine .nil ⟨rfl, ?_⟩
 refine .done krf (.seq ?_)
 have hen := hEN85.cmp _ ha15; have hen1 := (hEN85.lo _ h15).2; have hen2 : en85.getD (st.getD (((st.length : Nat) : Int) - 1).toNat 0).toNat 0 ≤ a15 := by (rcases hEN85.snd _ h15 with h | h; (rw [h]; have := hai.2.1; simp only at this; omega); (have h1 := hp.max _ h; simp only at h1; omega))
 simp only at hen hai
 refine .region ?_
 refine .mv ?_
 refine .vl (Y.geq rfl rfl) ?_
 refine .mv ?_
 refine .splitD (d := 98) rfl (fun c98 => ?_) (fun c98 => ?_)
 refine .gw 98 (Y.fieldAddr fl71_0 rfl rfl) (.gw 98 (Y.load sh3 rfl rfl rfl rfl) (.gw 98 (Y.move rfl rfl) ?_))
 refine .gw 98 (Y.move rfl rfl) (.gw 98 (Y.addI rfl rfl om) (.gw 98 (Y.eql rfl rfl) ?_))
 refine .pk ?_
 refine .an ?_
 refine .nil (.ret ?_)
 exact ⟨_, _, rfl, rfl, by rw [decide_eq_true (show d = t6_6 + en85.getD (st.getD (((st.length : Nat) : Int) - 1).toNat 0).toNat 0 by omega)]; rfl, rfl⟩
 exfalso; omega
end Go.Proofs.Ytligpghohcfpnaa
/- Walks through delays. -/
namespace Go.Proofs.Ytligpghohcfpnaa
open Go Go.AW Go.Proofs
theorem len64_spec {x : Int} (h0 : 0 ≤ x) (h1 : x < 256) : ACalls Try.prog 129 [.v (.int .u64 x)] [] [] (fun r o => r = (vi ((lev (x.toNat + 1) : Nat) : Int)) ∧ o = []) := by
 refine ACalls.of Try.func129 rfl rfl rfl (n := 25) dcd (nbE rfl) ?_
 have hl8 := len8_size
 refine .sr ?_
 refine .an ?_
 refine .nil (.seq (.sr ?_))
 refine .mv ?_
 refine .vl (Y.geq rfl rfl) (.nil ?_)
 refine .condD rfl (fun c4 => ?_) (fun c4 => ?_)
 exfalso; omega
 refine .skip (.seq (.sr ?_))
 refine .mv ?_
 refine .vl (Y.geq rfl rfl) (.nil ?_)
 refine .condD rfl (fun c8 => ?_) (fun c8 => ?_)
 exfalso; omega
 refine .skip (.seq (.sr ?_))
 refine .mv ?_
 refine .vl (Y.geq rfl rfl) (.nil ?_)
 refine .condD rfl (fun c14 => ?_) (fun c14 => ?_)
 exfalso; omega
 refine .skip (.sr ?_)
 have hsb := sbyte_le len8 x.toNat
 refine .mv ?_
 refine .mv ?_
 refine .vl (Y.convK ii37 ii5 rfl (by first | rfl | exact IntWalk.u8_in _ om)) (.vl (Y.indexSb (b := len8) (m := (x).toNat) un9 rfl rfl om om) (.vl (Y.convK ii5 ii3 rfl (by first | rfl | exact IntWalk.i64_in _ om)) (.vl (Y.addI rfl rfl oms) ?_)))
 refine .an ?_
 refine .nil (.ret ?_)
 exact .ri rfl (by rw [len8_at om]; omega)
theorem len_spec {x : Int} (h0 : 0 ≤ x) (h1 : x < 256) : ACalls Try.prog 109 [.v (.int .u64 x)] [] [] (fun r o => r = (vi ((lev (x.toNat + 1) : Nat) : Int)) ∧ o = []) := by
 refine ACalls.of Try.func109 rfl rfl rfl (n := 8) dcd (nbE rfl) (.sr ?_)
 refine .an ?_
 refine .nil (.seq (.condF rfl ?_))
 refine .skip (.sr ?_)
 refine .mv ?_
 refine .callP ok129 (len64_spec (x := x) (om) (om)) rfl (.keep rfl rfl .nil) dcd rfl ?_
 refine .an ?_
 refine .nil (.ret ?_)
 exact .ri rfl (rfl)
theorem levels_spec {x : Int} (h0 : 0 ≤ x) (h1 : x ≤ 256) : ACalls Try.prog 76 [vi x] [] [] (fun r o => r = (vi ((lev x.toNat : Nat) : Int)) ∧ o = []) := by
 refine ACalls.of Try.func76 rfl rfl rfl (n := 9) dcd (nbE rfl) (.sr ?_)
 refine .an ?_
 refine .nil (.seq (.sr ?_))
 refine .mv ?_
 refine .vl (Y.lss rfl rfl) (.nil ?_)
 refine .condD rfl (fun c4 => ?_) (fun c4 => ?_)
 refine .sr ?_
 refine .an ?_
 refine .nil (.ret ?_)
 exact .ri rfl (by unfold lev; rw [if_pos om]; rfl)
 refine .skip (.sr ?_)
 refine .mv ?_
 refine .vl (Y.subI rfl rfl oms) (.vl (Y.conv ii3 ii130 rfl (u64_toNat _ om)) (.callP ok109 (len_spec (x := (((x - 1).toNat : Nat) : Int)) (om) (om)) rfl (.keep rfl rfl .nil) dcd rfl ?_))
 refine .an ?_
 refine .nil (.ret ?_)
 exact .ri rfl (by rw [show ((((x - 1).toNat : Nat) : Int).toNat + 1) = x.toNat by omega])
end Go.Proofs.Ytligpghohcfpnaa
/- The walk of library.Of. -/
namespace Go.Proofs.Ytligpghohcfpnaa
open Go Go.AW Go.Proofs
theorem of_spec {op x : Int} (hp : Plain op) (h0 : 1 ≤ x) (h1 : x ≤ 64) : ACalls Try.prog 75 [vi op, vi x] [] [] (fun r o => ∃ c : Int, r = .tup [.agg [vi 0, vi x, vi (uDelay op x.toNat), vi 0, vi 0, vi c], vi 0] ∧ o = []) := by
 refine ACalls.of Try.func75 rfl rfl rfl (n := 184) dcd (nbE rfl) ?_
 have hp2 := hp; unfold Plain Bin Seq Unary at hp2; have hlv := lev_lt (n := x.toNat) om; have hlv2 := lev_lt (n := (x + 1).toNat) om; have hle : (x + 1).toNat = x.toNat + 1 := om; have hm1 := mul_rng h0 h1 hlv; have hm2 := mul_rng h0 h1 hlv2
 refine .sr (.alloc 104 ze106 rfl rfl dcd ?_)
 refine .an ?_
 refine .nil (.seq (.sr ?_))
 refine .mv ?_
 refine .vl (Y.leq rfl rfl) ?_
 refine .mv ?_
 refine .splitD (d := 12) rfl (fun c12 => ?_) (fun c12 => ?_)
 refine .gz 12 (.gz 12 ?_)
 refine .pk ?_
 refine .nil (.condT rfl (.sr ?_))
 refine .vl (Y.build pl106 ze106 rfl rfl rfl) (.storeC si106 rfl rfl rfl rfl rfl rfl (nbE rfl) rfl ?_)
 refine .an ?_
 refine .nil (.ret ?_)
 first | (exfalso; omega) | exact ⟨_, _, rfl, rfl, 0, by rw [show uDelay op x.toNat = 0 by (try rw [hle]); unfold uDelay; (repeat' split) <;> omega]; rfl, rfl⟩
 refine .gw 12 (Y.move rfl rfl) (.gw 12 (Y.geq rfl rfl) ?_)
 refine .pk ?_
 refine .nil ?_
 refine .condD rfl (fun c15 => ?_) (fun c15 => ?_)
 refine .sr (.vl (Y.build pl106 ze106 rfl rfl rfl) (.storeC si106 rfl rfl rfl rfl rfl rfl (nbE rfl) rfl ?_))
 refine .an ?_
 refine .nil (.ret ?_)
 first | (exfalso; omega) | exact ⟨_, _, rfl, rfl, 0, by rw [show uDelay op x.toNat = 0 by (try rw [hle]); unfold uDelay; (repeat' split) <;> omega]; rfl, rfl⟩
 refine .skip (.seq (.sr ?_))
 refine .mv ?_
 refine .vl (Y.lss rfl rfl) ?_
 refine .mv ?_
 refine .splitD (d := 19) rfl (fun c19 => ?_) (fun c19 => ?_)
 refine .gz 19 (.gz 19 ?_)
 refine .pk ?_
 refine .nil (.condT rfl (.sr ?_))
 refine .vl (Y.build pl106 ze106 rfl rfl rfl) (.storeC si106 rfl rfl rfl rfl rfl rfl (nbE rfl) rfl ?_)
 refine .an ?_
 refine .nil (.ret ?_)
 first | (exfalso; omega) | exact ⟨_, _, rfl, rfl, 0, by rw [show uDelay op x.toNat = 0 by (try rw [hle]); unfold uDelay; (repeat' split) <;> omega]; rfl, rfl⟩
 refine .gw 19 (Y.move rfl rfl) (.gw 19 (Y.gtr rfl rfl) ?_)
 refine .pk ?_
 refine .nil ?_
 refine .condD rfl (fun c22 => ?_) (fun c22 => ?_)
 refine .sr (.vl (Y.build pl106 ze106 rfl rfl rfl) (.storeC si106 rfl rfl rfl rfl rfl rfl (nbE rfl) rfl ?_))
 refine .an ?_
 refine .nil (.ret ?_)
 first | (exfalso; omega) | exact ⟨_, _, rfl, rfl, 0, by rw [show uDelay op x.toNat = 0 by (try rw [hle]); unfold uDelay; (repeat' split) <;> omega]; rfl, rfl⟩
 refine .skip (.sr ?_)
 refine .mv ?_
 refine .mv ?_
 refine .callP ok76 (levels_spec (x := x) (om) (om)) rfl (.keep rfl rfl .nil) dcd rfl ?_
 refine .mv ?_
 refine .vl (Y.addI rfl rfl oms) (.callP ok76 (levels_spec (x := (x + 1)) (om) (om)) rfl (.keep rfl rfl .nil) dcd rfl ?_)
 refine .an ?_
 refine .an ?_
 refine .an ?_
 refine .nil (.sr ?_)
 refine .mv ?_
 refine .vl (Y.build pl106 ze106 rfl rfl rfl) (.alloc 109 ze106 rfl rfl dcd (.storeC si106 rfl rfl rfl rfl rfl rfl (nbE rfl) rfl ?_))
 refine .nil (.seq (.sr ?_))
 refine .mv ?_
 refine .nil (.block (.seq ?_))
 refine .sr (.vl (Y.eql rfl rfl) ?_)
 refine .an ?_
 refine .nil ?_
 refine .condKD rfl (fun c33 => ?_) (fun c33 => ?_)
 refine .skip (.condT rfl (.region ?_))
 refine .mv ?_
 refine .fa fl106_2 ?_
 refine .storeC si3 rfl rfl rfl rfl rfl rfl (nbE rfl) rfl ?_
 refine .fa fl106_5 ?_
 refine .storeC si3 rfl rfl rfl rfl rfl rfl (nbE rfl) rfl (.nil (.sr ?_))
 refine .vl (Y.loadA sh106 rfl rfl (nbE rfl) rfl rfl) (.storeC si106 rfl rfl rfl rfl rfl rfl (nbE rfl) rfl ?_)
 refine .an ?_
 refine .nil (.ret ?_)
 first | (exfalso; omega) | exact ⟨_, _, rfl, rfl, x, by rw [show uDelay op x.toNat = 20 by (try rw [hle]); unfold uDelay; (repeat' split) <;> omega]; rfl, rfl⟩
 refine .sr (.vl (Y.eql rfl rfl) ?_)
 refine .an ?_
 refine .nil ?_
 refine .condKD rfl (fun c33 => ?_) (fun c33 => ?_)
 refine .skip (.condT rfl (.region ?_))
 refine .mv ?_
 refine .fa fl106_2 ?_
 refine .storeC si3 rfl rfl rfl rfl rfl rfl (nbE rfl) rfl ?_
 refine .fa fl106_5 ?_
 refine .storeC si3 rfl rfl rfl rfl rfl rfl (nbE rfl) rfl (.nil (.sr ?_))
 refine .vl (Y.loadA sh106 rfl rfl (nbE rfl) rfl rfl) (.storeC si106 rfl rfl rfl rfl rfl rfl (nbE rfl) rfl ?_)
 refine .an ?_
 refine .nil (.ret ?_)
 first | (exfalso; omega) | exact ⟨_, _, rfl, rfl, x, by rw [show uDelay op x.toNat = 20 by (try rw [hle]); unfold uDelay; (repeat' split) <;> omega]; rfl, rfl⟩
 refine .region (.vl (Y.eql rfl rfl) ?_)
 refine .an ?_
 refine .nil ?_
 refine .condKD rfl (fun c33 => ?_) (fun c33 => ?_)
 refine .region ?_
 refine .mv ?_
 refine .fa fl106_2 ?_
 refine .storeC si3 rfl rfl rfl rfl rfl rfl (nbE rfl) rfl ?_
 refine .fa fl106_5 ?_
 refine .storeC si3 rfl rfl rfl rfl rfl rfl (nbE rfl) rfl (.nil (.sr ?_))
 refine .vl (Y.loadA sh106 rfl rfl (nbE rfl) rfl rfl) (.storeC si106 rfl rfl rfl rfl rfl rfl (nbE rfl) rfl ?_)
 refine .an ?_
 refine .nil (.ret ?_)
 first | (exfalso; omega) | exact ⟨_, _, rfl, rfl, x, by rw [show uDelay op x.toNat = 20 by (try rw [hle]); unfold uDelay; (repeat' split) <;> omega]; rfl, rfl⟩
 refine .sr (.vl (Y.eql rfl rfl) ?_)
 refine .an ?_
 refine .nil ?_
 refine .condD rfl (fun c40 => ?_) (fun c40 => ?_)
 refine .region ?_
 refine .mv ?_
 refine .vl (Y.mulI rfl rfl om) (.vl (Y.addI rfl rfl oms) ?_)
 refine .mv ?_
 refine .vl (Y.mulI rfl rfl om) ?_
 refine .mv ?_
 refine .vl (Y.mulI rfl rfl om) ?_
 refine .mv ?_
 refine .vl (Y.mulI rfl rfl om) (.vl (Y.addI rfl rfl oms) ?_)
 refine .fa fl106_2 ?_
 refine .storeC si3 rfl rfl rfl rfl rfl rfl (nbE rfl) rfl ?_
 refine .fa fl106_5 ?_
 refine .storeC si3 rfl rfl rfl rfl rfl rfl (nbE rfl) rfl (.nil (.sr ?_))
 refine .vl (Y.loadA sh106 rfl rfl (nbE rfl) rfl rfl) (.storeC si106 rfl rfl rfl rfl rfl rfl (nbE rfl) rfl ?_)
 refine .an ?_
 refine .nil (.ret ?_)
 first | (exfalso; omega) | exact ⟨_, _, rfl, rfl, (3 * x) + ((3 * x) * ((lev x.toNat : Nat) : Int)), by rw [show uDelay op x.toNat = 40 + (40 * ((lev x.toNat : Nat) : Int)) by (try rw [hle]); unfold uDelay; (repeat' split) <;> omega]; rfl, rfl⟩
 refine .sr (.vl (Y.eql rfl rfl) ?_)
 refine .an ?_
 refine .nil ?_
 refine .condD rfl (fun c54 => ?_) (fun c54 => ?_)
 refine .region ?_
 refine .mv ?_
 refine .vl (Y.mulI rfl rfl om) (.vl (Y.addI rfl rfl oms) ?_)
 refine .mv ?_
 refine .vl (Y.mulI rfl rfl om) ?_
 refine .mv ?_
 refine .vl (Y.mulI rfl rfl om) ?_
 refine .mv ?_
 refine .vl (Y.mulI rfl rfl om) (.vl (Y.addI rfl rfl oms) ?_)
 refine .fa fl106_2 ?_
 refine .storeC si3 rfl rfl rfl rfl rfl rfl (nbE rfl) rfl ?_
 refine .fa fl106_5 ?_
 refine .storeC si3 rfl rfl rfl rfl rfl rfl (nbE rfl) rfl (.nil (.sr ?_))
 refine .vl (Y.loadA sh106 rfl rfl (nbE rfl) rfl rfl) (.storeC si106 rfl rfl rfl rfl rfl rfl (nbE rfl) rfl ?_)
 refine .an ?_
 refine .nil (.ret ?_)
 first | (exfalso; omega) | exact ⟨_, _, rfl, rfl, (4 * x) + ((3 * x) * ((lev x.toNat : Nat) : Int)), by rw [show uDelay op x.toNat = 50 + (40 * ((lev x.toNat : Nat) : Int)) by (try rw [hle]); unfold uDelay; (repeat' split) <;> omega]; rfl, rfl⟩
 refine .seq (.sr (.vl (Y.eql rfl rfl) ?_))
 refine .an ?_
 refine .nil ?_
 refine .condKD rfl (fun c68 => ?_) (fun c68 => ?_)
 refine .skip (.condT rfl (.region ?_))
 refine .mv ?_
 refine .vl (Y.mulI rfl rfl om) (.vl (Y.addI rfl rfl oms) ?_)
 refine .mv ?_
 refine .vl (Y.mulI rfl rfl om) ?_
 refine .fa fl106_2 ?_
 refine .storeC si3 rfl rfl rfl rfl rfl rfl (nbE rfl) rfl ?_
 refine .fa fl106_5 ?_
 refine .storeC si3 rfl rfl rfl rfl rfl rfl (nbE rfl) rfl (.nil (.sr ?_))
 refine .vl (Y.loadA sh106 rfl rfl (nbE rfl) rfl rfl) (.storeC si106 rfl rfl rfl rfl rfl rfl (nbE rfl) rfl ?_)
 refine .an ?_
 refine .nil (.ret ?_)
 first | (exfalso; omega) | exact ⟨_, _, rfl, rfl, 2 * x, by rw [show uDelay op x.toNat = 30 + (20 * ((lev x.toNat : Nat) : Int)) by (try rw [hle]); unfold uDelay; (repeat' split) <;> omega]; rfl, rfl⟩
 refine .region (.vl (Y.eql rfl rfl) ?_)
 refine .an ?_
 refine .nil ?_
 refine .condKD rfl (fun c68 => ?_) (fun c68 => ?_)
 refine .region ?_
 refine .mv ?_
 refine .vl (Y.mulI rfl rfl om) (.vl (Y.addI rfl rfl oms) ?_)
 refine .mv ?_
 refine .vl (Y.mulI rfl rfl om) ?_
 refine .fa fl106_2 ?_
 refine .storeC si3 rfl rfl rfl rfl rfl rfl (nbE rfl) rfl ?_
 refine .fa fl106_5 ?_
 refine .storeC si3 rfl rfl rfl rfl rfl rfl (nbE rfl) rfl (.nil (.sr ?_))
 refine .vl (Y.loadA sh106 rfl rfl (nbE rfl) rfl rfl) (.storeC si106 rfl rfl rfl rfl rfl rfl (nbE rfl) rfl ?_)
 refine .an ?_
 refine .nil (.ret ?_)
 first | (exfalso; omega) | exact ⟨_, _, rfl, rfl, 2 * x, by rw [show uDelay op x.toNat = 30 + (20 * ((lev x.toNat : Nat) : Int)) by (try rw [hle]); unfold uDelay; (repeat' split) <;> omega]; rfl, rfl⟩
 refine .seq (.sr (.vl (Y.eql rfl rfl) ?_))
 refine .an ?_
 refine .nil ?_
 refine .condKD rfl (fun c78 => ?_) (fun c78 => ?_)
 refine .skip (.condT rfl (.region ?_))
 refine .mv ?_
 refine .vl (Y.mulI rfl rfl om) (.vl (Y.addI rfl rfl oms) ?_)
 refine .mv ?_
 refine .vl (Y.mulI rfl rfl om) ?_
 refine .mv ?_
 refine .vl (Y.mulI rfl rfl om) ?_
 refine .mv ?_
 refine .vl (Y.mulI rfl rfl om) (.vl (Y.addI rfl rfl oms) ?_)
 refine .fa fl106_2 ?_
 refine .storeC si3 rfl rfl rfl rfl rfl rfl (nbE rfl) rfl ?_
 refine .fa fl106_5 ?_
 refine .storeC si3 rfl rfl rfl rfl rfl rfl (nbE rfl) rfl (.nil (.sr ?_))
 refine .vl (Y.loadA sh106 rfl rfl (nbE rfl) rfl rfl) (.storeC si106 rfl rfl rfl rfl rfl rfl (nbE rfl) rfl ?_)
 refine .an ?_
 refine .nil (.ret ?_)
 first | (exfalso; omega) | exact ⟨_, _, rfl, rfl, (4 * x) + ((3 * x) * ((lev (x + 1).toNat : Nat) : Int)), by rw [show uDelay op x.toNat = 40 + (40 * ((lev (x + 1).toNat : Nat) : Int)) by (try rw [hle]); unfold uDelay; (repeat' split) <;> omega]; rfl, rfl⟩
 refine .region (.vl (Y.eql rfl rfl) ?_)
 refine .an ?_
 refine .nil ?_
 refine .condKD rfl (fun c78 => ?_) (fun c78 => ?_)
 refine .region ?_
 refine .mv ?_
 refine .vl (Y.mulI rfl rfl om) (.vl (Y.addI rfl rfl oms) ?_)
 refine .mv ?_
 refine .vl (Y.mulI rfl rfl om) ?_
 refine .mv ?_
 refine .vl (Y.mulI rfl rfl om) ?_
 refine .mv ?_
 refine .vl (Y.mulI rfl rfl om) (.vl (Y.addI rfl rfl oms) ?_)
 refine .fa fl106_2 ?_
 refine .storeC si3 rfl rfl rfl rfl rfl rfl (nbE rfl) rfl ?_
 refine .fa fl106_5 ?_
 refine .storeC si3 rfl rfl rfl rfl rfl rfl (nbE rfl) rfl (.nil (.sr ?_))
 refine .vl (Y.loadA sh106 rfl rfl (nbE rfl) rfl rfl) (.storeC si106 rfl rfl rfl rfl rfl rfl (nbE rfl) rfl ?_)
 refine .an ?_
 refine .nil (.ret ?_)
 first | (exfalso; omega) | exact ⟨_, _, rfl, rfl, (4 * x) + ((3 * x) * ((lev (x + 1).toNat : Nat) : Int)), by rw [show uDelay op x.toNat = 40 + (40 * ((lev (x + 1).toNat : Nat) : Int)) by (try rw [hle]); unfold uDelay; (repeat' split) <;> omega]; rfl, rfl⟩
 refine .seq (.sr (.vl (Y.eql rfl rfl) ?_))
 refine .an ?_
 refine .nil ?_
 refine .condKD rfl (fun c93 => ?_) (fun c93 => ?_)
 refine .skip (.condT rfl (.region ?_))
 refine .mv ?_
 refine .vl (Y.mulI rfl rfl om) (.vl (Y.addI rfl rfl oms) ?_)
 refine .mv ?_
 refine .vl (Y.mulI rfl rfl om) ?_
 refine .mv ?_
 refine .vl (Y.mulI rfl rfl om) ?_
 refine .mv ?_
 refine .vl (Y.mulI rfl rfl om) (.vl (Y.addI rfl rfl oms) (.vl (Y.addI rfl rfl oms) ?_))
 refine .fa fl106_2 ?_
 refine .storeC si3 rfl rfl rfl rfl rfl rfl (nbE rfl) rfl ?_
 refine .fa fl106_5 ?_
 refine .storeC si3 rfl rfl rfl rfl rfl rfl (nbE rfl) rfl (.nil (.sr ?_))
 refine .vl (Y.loadA sh106 rfl rfl (nbE rfl) rfl rfl) (.storeC si106 rfl rfl rfl rfl rfl rfl (nbE rfl) rfl ?_)
 refine .an ?_
 refine .nil (.ret ?_)
 first | (exfalso; omega) | exact ⟨_, _, rfl, rfl, ((4 * x) + ((3 * x) * ((lev (x + 1).toNat : Nat) : Int))) + 2, by rw [show uDelay op x.toNat = 50 + (40 * ((lev (x + 1).toNat : Nat) : Int)) by (try rw [hle]); unfold uDelay; (repeat' split) <;> omega]; rfl, rfl⟩
 refine .region (.vl (Y.eql rfl rfl) ?_)
 refine .an ?_
 refine .nil ?_
 refine .condKD rfl (fun c93 => ?_) (fun c93 => ?_)
 refine .region ?_
 refine .mv ?_
 refine .vl (Y.mulI rfl rfl om) (.vl (Y.addI rfl rfl oms) ?_)
 refine .mv ?_
 refine .vl (Y.mulI rfl rfl om) ?_
 refine .mv ?_
 refine .vl (Y.mulI rfl rfl om) ?_
 refine .mv ?_
 refine .vl (Y.mulI rfl rfl om) (.vl (Y.addI rfl rfl oms) (.vl (Y.addI rfl rfl oms) ?_))
 refine .fa fl106_2 ?_
 refine .storeC si3 rfl rfl rfl rfl rfl rfl (nbE rfl) rfl ?_
 refine .fa fl106_5 ?_
 refine .storeC si3 rfl rfl rfl rfl rfl rfl (nbE rfl) rfl (.nil (.sr ?_))
 refine .vl (Y.loadA sh106 rfl rfl (nbE rfl) rfl rfl) (.storeC si106 rfl rfl rfl rfl rfl rfl (nbE rfl) rfl ?_)
 refine .an ?_
 refine .nil (.ret ?_)
 first | (exfalso; omega) | exact ⟨_, _, rfl, rfl, ((4 * x) + ((3 * x) * ((lev (x + 1).toNat : Nat) : Int))) + 2, by rw [show uDelay op x.toNat = 50 + (40 * ((lev (x + 1).toNat : Nat) : Int)) by (try rw [hle]); unfold uDelay; (repeat' split) <;> omega]; rfl, rfl⟩
 refine .sr (.vl (Y.eql rfl rfl) ?_)
 refine .an ?_
 refine .nil ?_
 refine .condD rfl (fun c109 => ?_) (fun c109 => ?_)
 refine .region ?_
 refine .mv ?_
 refine .vl (Y.mulI rfl rfl om) (.vl (Y.addI rfl rfl oms) ?_)
 refine .fa fl106_2 ?_
 refine .storeC si3 rfl rfl rfl rfl rfl rfl (nbE rfl) rfl ?_
 refine .fa fl106_5 ?_
 refine .storeC si3 rfl rfl rfl rfl rfl rfl (nbE rfl) rfl (.nil (.sr ?_))
 refine .vl (Y.loadA sh106 rfl rfl (nbE rfl) rfl rfl) (.storeC si106 rfl rfl rfl rfl rfl rfl (nbE rfl) rfl ?_)
 refine .an ?_
 refine .nil (.ret ?_)
 first | (exfalso; omega) | exact ⟨_, _, rfl, rfl, (3 * x) + 1, by rw [show uDelay op x.toNat = 50 by (try rw [hle]); unfold uDelay; (repeat' split) <;> omega]; rfl, rfl⟩
 refine .seq (.sr (.vl (Y.eql rfl rfl) ?_))
 refine .an ?_
 refine .nil ?_
 refine .condKD rfl (fun c116 => ?_) (fun c116 => ?_)
 refine .skip (.condT rfl (.region ?_))
 refine .mv ?_
 refine .vl (Y.mulI rfl rfl om) (.vl (Y.addI rfl rfl oms) ?_)
 refine .mv ?_
 refine .vl (Y.mulI rfl rfl om) ?_
 refine .mv ?_
 refine .vl (Y.mulI rfl rfl om) ?_
 refine .mv ?_
 refine .vl (Y.mulI rfl rfl om) (.vl (Y.addI rfl rfl oms) ?_)
 refine .fa fl106_2 ?_
 refine .storeC si3 rfl rfl rfl rfl rfl rfl (nbE rfl) rfl ?_
 refine .fa fl106_5 ?_
 refine .storeC si3 rfl rfl rfl rfl rfl rfl (nbE rfl) rfl (.nil (.sr ?_))
 refine .vl (Y.loadA sh106 rfl rfl (nbE rfl) rfl rfl) (.storeC si106 rfl rfl rfl rfl rfl rfl (nbE rfl) rfl ?_)
 refine .an ?_
 refine .nil (.ret ?_)
 first | (exfalso; omega) | exact ⟨_, _, rfl, rfl, (2 * x) + ((3 * x) * ((lev x.toNat : Nat) : Int)), by rw [show uDelay op x.toNat = 30 + (40 * ((lev x.toNat : Nat) : Int)) by (try rw [hle]); unfold uDelay; (repeat' split) <;> omega]; rfl, rfl⟩
 refine .region (.vl (Y.eql rfl rfl) ?_)
 refine .an ?_
 refine .nil ?_
 refine .condKD rfl (fun c116 => ?_) (fun c116 => ?_)
 refine .region ?_
 refine .mv ?_
 refine .vl (Y.mulI rfl rfl om) (.vl (Y.addI rfl rfl oms) ?_)
 refine .mv ?_
 refine .vl (Y.mulI rfl rfl om) ?_
 refine .mv ?_
 refine .vl (Y.mulI rfl rfl om) ?_
 refine .mv ?_
 refine .vl (Y.mulI rfl rfl om) (.vl (Y.addI rfl rfl oms) ?_)
 refine .fa fl106_2 ?_
 refine .storeC si3 rfl rfl rfl rfl rfl rfl (nbE rfl) rfl ?_
 refine .fa fl106_5 ?_
 refine .storeC si3 rfl rfl rfl rfl rfl rfl (nbE rfl) rfl (.nil (.sr ?_))
 refine .vl (Y.loadA sh106 rfl rfl (nbE rfl) rfl rfl) (.storeC si106 rfl rfl rfl rfl rfl rfl (nbE rfl) rfl ?_)
 refine .an ?_
 refine .nil (.ret ?_)
 first | (exfalso; omega) | exact ⟨_, _, rfl, rfl, (2 * x) + ((3 * x) * ((lev x.toNat : Nat) : Int)), by rw [show uDelay op x.toNat = 30 + (40 * ((lev x.toNat : Nat) : Int)) by (try rw [hle]); unfold uDelay; (repeat' split) <;> omega]; rfl, rfl⟩
 refine .sr (.vl (Y.eql rfl rfl) ?_)
 refine .an ?_
 refine .nil ?_
 refine .condD rfl (fun c131 => ?_) (fun c131 => ?_)
 refine .region ?_
 refine .mv ?_
 refine .vl (Y.mulI rfl rfl om) (.vl (Y.addI rfl rfl oms) ?_)
 refine .mv ?_
 refine .vl (Y.mulI rfl rfl om) ?_
 refine .mv ?_
 refine .vl (Y.mulI rfl rfl om) ?_
 refine .mv ?_
 refine .vl (Y.mulI rfl rfl om) (.vl (Y.addI rfl rfl oms) ?_)
 refine .fa fl106_2 ?_
 refine .storeC si3 rfl rfl rfl rfl rfl rfl (nbE rfl) rfl ?_
 refine .fa fl106_5 ?_
 refine .storeC si3 rfl rfl rfl rfl rfl rfl (nbE rfl) rfl (.nil (.sr ?_))
 refine .vl (Y.loadA sh106 rfl rfl (nbE rfl) rfl rfl) (.storeC si106 rfl rfl rfl rfl rfl rfl (nbE rfl) rfl ?_)
 refine .an ?_
 refine .nil (.ret ?_)
 first | (exfalso; omega) | exact ⟨_, _, rfl, rfl, (4 * x) + ((3 * x) * ((lev x.toNat : Nat) : Int)), by rw [show uDelay op x.toNat = 50 + (40 * ((lev x.toNat : Nat) : Int)) by (try rw [hle]); unfold uDelay; (repeat' split) <;> omega]; rfl, rfl⟩
 refine .sr (.vl (Y.eql rfl rfl) ?_)
 refine .an ?_
 refine .nil ?_
 refine .condD rfl (fun c145 => ?_) (fun c145 => ?_)
 refine .region ?_
 refine .mv ?_
 refine .vl (Y.addI rfl rfl oms) (.vl (Y.quoI rfl rfl om) (.vl (Y.addI rfl rfl oms) ?_))
 refine .mv ?_
 refine .vl (Y.mulI rfl rfl om) ?_
 refine .mv ?_
 refine .vl (Y.mulI rfl rfl om) ?_
 refine .fa fl106_0 ?_
 refine .storeC si3 rfl rfl rfl rfl rfl rfl (nbE rfl) rfl ?_
 refine .fa fl106_3 ?_
 refine .storeC si3 rfl rfl rfl rfl rfl rfl (nbE rfl) rfl ?_
 refine .fa fl106_4 ?_
 refine .storeC si3 rfl rfl rfl rfl rfl rfl (nbE rfl) rfl ?_
 refine .fa fl106_5 ?_
 refine .storeC si3 rfl rfl rfl rfl rfl rfl (nbE rfl) rfl (.nil (.sr ?_))
 refine .vl (Y.loadA sh106 rfl rfl (nbE rfl) rfl rfl) (.storeC si106 rfl rfl rfl rfl rfl rfl (nbE rfl) rfl ?_)
 refine .an ?_
 refine .nil (.ret ?_)
 first | (exfalso; omega) | exact ⟨_, _, rfl, rfl, (6 * x) * x, by rw [show uDelay op x.toNat = 0 by (try rw [hle]); unfold uDelay; (repeat' split) <;> omega]; rfl, rfl⟩
 refine .seq (.sr (.vl (Y.eql rfl rfl) ?_))
 refine .an ?_
 refine .nil ?_
 refine .condKD rfl (fun c159 => ?_) (fun c159 => ?_)
 refine .skip (.condT rfl (.sr ?_))
 refine .mv ?_
 refine .vl (Y.addI rfl rfl oms) (.vl (Y.subI rfl rfl oms) ?_)
 refine .fa fl106_0 ?_
 refine .storeC si3 rfl rfl rfl rfl rfl rfl (nbE rfl) rfl (.nil (.region ?_))
 refine .mv ?_
 refine .vl (Y.addI rfl rfl oms) (.vl (Y.quoI rfl rfl om) (.vl (Y.addI rfl rfl oms) ?_))
 refine .mv ?_
 refine .vl (Y.addI rfl rfl oms) (.vl (Y.quoI rfl rfl om) (.vl (Y.addI rfl rfl oms) ?_))
 refine .mv ?_
 refine .vl (Y.mulI rfl rfl om) ?_
 refine .mv ?_
 refine .vl (Y.mulI rfl rfl om) ?_
 refine .fa fl106_3 ?_
 refine .storeC si3 rfl rfl rfl rfl rfl rfl (nbE rfl) rfl ?_
 refine .fa fl106_4 ?_
 refine .storeC si3 rfl rfl rfl rfl rfl rfl (nbE rfl) rfl ?_
 refine .fa fl106_5 ?_
 refine .storeC si3 rfl rfl rfl rfl rfl rfl (nbE rfl) rfl (.nil (.sr ?_))
 refine .vl (Y.loadA sh106 rfl rfl (nbE rfl) rfl rfl) (.storeC si106 rfl rfl rfl rfl rfl rfl (nbE rfl) rfl ?_)
 refine .an ?_
 refine .nil (.ret ?_)
 first | (exfalso; omega) | exact ⟨_, _, rfl, rfl, (8 * x) * x, by rw [show uDelay op x.toNat = 0 by (try rw [hle]); unfold uDelay; (repeat' split) <;> omega]; rfl, rfl⟩
 refine .sr (.vl (Y.eql rfl rfl) ?_)
 refine .an ?_
 refine .nil ?_
 refine .condKD rfl (fun c159 => ?_) (fun c159 => ?_)
 refine .skip (.condT rfl (.sr ?_))
 refine .mv ?_
 refine .vl (Y.addI rfl rfl oms) (.vl (Y.subI rfl rfl oms) ?_)
 refine .fa fl106_0 ?_
 refine .storeC si3 rfl rfl rfl rfl rfl rfl (nbE rfl) rfl (.nil (.region ?_))
 refine .mv ?_
 refine .vl (Y.addI rfl rfl oms) (.vl (Y.quoI rfl rfl om) (.vl (Y.addI rfl rfl oms) ?_))
 refine .mv ?_
 refine .vl (Y.addI rfl rfl oms) (.vl (Y.quoI rfl rfl om) (.vl (Y.addI rfl rfl oms) ?_))
 refine .mv ?_
 refine .vl (Y.mulI rfl rfl om) ?_
 refine .mv ?_
 refine .vl (Y.mulI rfl rfl om) ?_
 refine .fa fl106_3 ?_
 refine .storeC si3 rfl rfl rfl rfl rfl rfl (nbE rfl) rfl ?_
 refine .fa fl106_4 ?_
 refine .storeC si3 rfl rfl rfl rfl rfl rfl (nbE rfl) rfl ?_
 refine .fa fl106_5 ?_
 refine .storeC si3 rfl rfl rfl rfl rfl rfl (nbE rfl) rfl (.nil (.sr ?_))
 refine .vl (Y.loadA sh106 rfl rfl (nbE rfl) rfl rfl) (.storeC si106 rfl rfl rfl rfl rfl rfl (nbE rfl) rfl ?_)
 refine .an ?_
 refine .nil (.ret ?_)
 first | (exfalso; omega) | exact ⟨_, _, rfl, rfl, (8 * x) * x, by rw [show uDelay op x.toNat = 0 by (try rw [hle]); unfold uDelay; (repeat' split) <;> omega]; rfl, rfl⟩
 refine .sr (.vl (Y.eql rfl rfl) ?_)
 refine .an ?_
 refine .nil ?_
 refine .condKD rfl (fun c159 => ?_) (fun c159 => ?_)
 refine .skip (.condT rfl (.sr ?_))
 refine .mv ?_
 refine .vl (Y.addI rfl rfl oms) (.vl (Y.subI rfl rfl oms) ?_)
 refine .fa fl106_0 ?_
 refine .storeC si3 rfl rfl rfl rfl rfl rfl (nbE rfl) rfl (.nil (.region ?_))
 refine .mv ?_
 refine .vl (Y.addI rfl rfl oms) (.vl (Y.quoI rfl rfl om) (.vl (Y.addI rfl rfl oms) ?_))
 refine .mv ?_
 refine .vl (Y.addI rfl rfl oms) (.vl (Y.quoI rfl rfl om) (.vl (Y.addI rfl rfl oms) ?_))
 refine .mv ?_
 refine .vl (Y.mulI rfl rfl om) ?_
 refine .mv ?_
 refine .vl (Y.mulI rfl rfl om) ?_
 refine .fa fl106_3 ?_
 refine .storeC si3 rfl rfl rfl rfl rfl rfl (nbE rfl) rfl ?_
 refine .fa fl106_4 ?_
 refine .storeC si3 rfl rfl rfl rfl rfl rfl (nbE rfl) rfl ?_
 refine .fa fl106_5 ?_
 refine .storeC si3 rfl rfl rfl rfl rfl rfl (nbE rfl) rfl (.nil (.sr ?_))
 refine .vl (Y.loadA sh106 rfl rfl (nbE rfl) rfl rfl) (.storeC si106 rfl rfl rfl rfl rfl rfl (nbE rfl) rfl ?_)
 refine .an ?_
 refine .nil (.ret ?_)
 first | (exfalso; omega) | exact ⟨_, _, rfl, rfl, (8 * x) * x, by rw [show uDelay op x.toNat = 0 by (try rw [hle]); unfold uDelay; (repeat' split) <;> omega]; rfl, rfl⟩
 refine .region (.vl (Y.eql rfl rfl) ?_)
 refine .an ?_
 refine .nil ?_
 refine .condKD rfl (fun c159 => ?_) (fun c159 => ?_)
 refine .sr ?_
 refine .mv ?_
 refine .vl (Y.addI rfl rfl oms) (.vl (Y.subI rfl rfl oms) ?_)
 refine .fa fl106_0 ?_
 refine .storeC si3 rfl rfl rfl rfl rfl rfl (nbE rfl) rfl (.nil (.region ?_))
 refine .mv ?_
 refine .vl (Y.addI rfl rfl oms) (.vl (Y.quoI rfl rfl om) (.vl (Y.addI rfl rfl oms) ?_))
 refine .mv ?_
 refine .vl (Y.addI rfl rfl oms) (.vl (Y.quoI rfl rfl om) (.vl (Y.addI rfl rfl oms) ?_))
 refine .mv ?_
 refine .vl (Y.mulI rfl rfl om) ?_
 refine .mv ?_
 refine .vl (Y.mulI rfl rfl om) ?_
 refine .fa fl106_3 ?_
 refine .storeC si3 rfl rfl rfl rfl rfl rfl (nbE rfl) rfl ?_
 refine .fa fl106_4 ?_
 refine .storeC si3 rfl rfl rfl rfl rfl rfl (nbE rfl) rfl ?_
 refine .fa fl106_5 ?_
 refine .storeC si3 rfl rfl rfl rfl rfl rfl (nbE rfl) rfl (.nil (.sr ?_))
 refine .vl (Y.loadA sh106 rfl rfl (nbE rfl) rfl rfl) (.storeC si106 rfl rfl rfl rfl rfl rfl (nbE rfl) rfl ?_)
 refine .an ?_
 refine .nil (.ret ?_)
 first | (exfalso; omega) | exact ⟨_, _, rfl, rfl, (8 * x) * x, by rw [show uDelay op x.toNat = 0 by (try rw [hle]); unfold uDelay; (repeat' split) <;> omega]; rfl, rfl⟩
 refine .skip (.sr (.vl (Y.loadA sh106 rfl rfl (nbE rfl) rfl rfl) ?_))
 refine .storeC si106 rfl rfl rfl rfl rfl rfl (nbE rfl) rfl ?_
 refine .an ?_
 refine .nil (.ret ?_)
 first | (exfalso; omega) | exact ⟨_, _, rfl, rfl, 0, by rw [show uDelay op x.toNat = 0 by (try rw [hle]); unfold uDelay; (repeat' split) <;> omega]; rfl, rfl⟩
end Go.Proofs.Ytligpghohcfpnaa
/- The walk of Cell. -/
namespace Go.Proofs.Ytligpghohcfpnaa
open Go Go.AW Go.Proofs
theorem tcell_spec {n : Netlist} {c : Cell} (hw : ∀ w ∈ n.widths, Wide w) (hok : CellOK n c) (ha : c.args.length ≤ 200) (hwl : n.widths.length ≤ 1000) : ACalls Try.prog 41 [.agg (Netlist.row n), .agg (Cell.row c)] [] [] (fun r o => r = (vi (dly n c)) ∧ o = []) := by
 refine ACalls.of Try.func41 rfl rfl rfl (n := 49) dcd (nbE rfl) (.sr (.box 102 rfl rfl rfl rfl rfl dcd ?_))
 refine .box 103 rfl rfl rfl rfl rfl dcd ?_
 refine .an ?_
 refine .nil (.seq (.seq ?_))
 refine .sh (Sh.freezeO 102 rfl rfl) (.sh (Sh.freezeO 103 rfl rfl) (.region ?_))
 refine .fa fl39_0 ?_
 refine .ld sh3 ?_
 refine .nil (.block (.sr ?_))
 refine .vl (Y.eql rfl rfl) ?_
 refine .an ?_
 refine .nil ?_
 refine .condD rfl (fun c10 => ?_) (fun c10 => ?_)
 refine .sr ?_
 refine .an ?_
 refine .nil (.ret ?_)
 exact .ri rfl (by unfold dly; rw [if_pos asm])
 refine .sr (.vl (Y.eql rfl rfl) ?_)
 refine .an ?_
 refine .nil ?_
 refine .condD rfl (fun c12 => ?_) (fun c12 => ?_)
 refine .seq ?_
 have h5 := op_len hok asm; have h5i := h5.1; unfold In at h5i; have h5w := wd_rng hw h5.1; have h5a := hok.1 (c.args.getD 0 0) (getD_mem om); have h5v := wd_rng hw h5a; have h5j := h5a; unfold In at h5j
 refine .region ?_
 refine .fa fl27_1 ?_
 refine .ld sh22 ?_
 refine .fa fl39_2 ?_
 refine .ld sh3 ?_
 refine .vl (Y.indexF (m := (c.out).toNat) sl22 rfl rfl om (row_getD (d := 0) om)) ?_
 refine .ld sh3 ?_
 refine .an ?_
 refine .nil ?_
 refine .join1 (fun (w5_j8 : Int) => ⟨[(3, .fp (Cell.row c) 0), (5, vi w5_j8)], []⟩) (fun (w5_j8 : Int) => w5_j8 = (if Cmp c.op then n.av c 0 else n.wd c.out)) ?_ (fun w5_j8 hJ8 => ?_)
 refine .sr ?_
 refine .fa fl39_1 ?_
 refine .ld sh3 ?_
 refine .callP ok74 (isCompare_spec (w := c.op)) rfl (.keep rfl rfl .nil) dcd rfl (.nil ?_)
 refine .condD rfl (fun c22 => ?_) (fun c22 => ?_)
 refine .regionS rfl krf (.val (Y.fieldAddr fl27_1 rfl rfl) dcd (.val (Y.load sh22 rfl rfl rfl rfl) dcd ?_))
 refine .val (Y.fieldAddr fl39_3 rfl rfl) dcd (.val (Y.load sh22 rfl rfl rfl rfl) dcd ?_)
 refine .val (Y.indexF (m := 0) sl22 rfl rfl rlo (row_getD (d := 0) om)) dcd (.val (Y.load sh3 rfl rfl rfl rfl) dcd (.val (Y.indexF (m := (c.args.getD 0 0).toNat) sl22 rfl rfl om (row_getD (d := 0) om)) dcd ?_))
 refine .val (Y.load sh3 rfl rfl rfl rfl) dcd (.val (Y.assign rfl rfl) dcd (.nil ?_))
 exact ⟨n.widths.getD ((c.args.getD 0 0).toNat) 0, by rw [if_pos asm]; rfl, Le.mk (.c (.cons (look_int rfl rlo) (.nil))) (.nil)⟩
 refine .skip ?_
 exact ⟨n.widths.getD ((c.out).toNat) 0, by rw [if_neg asm]; rfl, Le.mk (.c (.cons (look_int rfl rlo) (.nil))) (.nil)⟩
 have h8 : 1 ≤ w5_j8 ∧ w5_j8 ≤ 64 := by (rw [hJ8]; split <;> assumption)
 refine .sr ?_
 refine .fa fl39_1 ?_
 refine .ld sh3 ?_
 refine .mv ?_
 refine .callV ok75 (of_spec (op := c.op) (x := w5_j8) h5.2.1 h8.1 h8.2) rfl (.keep rfl rfl (.keep rfl rfl .nil)) dcd ?_
 rintro _ ⟨ar35, rfl, _⟩
 refine ⟨rfl, ?_⟩
 refine .mv ?_
 refine .vl (Y.extract rfl rfl rfl) (.vl (Y.extract rfl rfl rfl) (.alloc 106 ze106 rfl rfl dcd ?_))
 refine .storeC si106 rfl rfl rfl rfl rfl rfl (nbE rfl) rfl ?_
 refine .an ?_
 refine .nil (.sr ?_)
 refine .fa fl106_2 ?_
 refine .ld sh3 ?_
 refine .an ?_
 refine .nil (.ret ?_)
 exact .ri rfl (by unfold dly; rw [if_neg om, if_pos asm, hJ8])
 refine .sr (.vl (Y.eql rfl rfl) ?_)
 refine .an ?_
 refine .nil ?_
 refine .condD rfl (fun c40 => ?_) (fun c40 => ?_)
 refine .seq ?_
 have h11 := lev_lt (n := (((c.args.length : Nat) : Int) / 2).toNat) om
 refine .region ?_
 refine .fa fl39_3 ?_
 refine .ld sh22 ?_
 refine .vl (Y.len (n := c.args.length) sl22 rfl (congrArg some (List.length_map ..))) (.vl (Y.quoI rfl rfl om) (.callP ok76 (levels_spec (x := (((c.args.length : Nat) : Int) / 2)) (om) (om)) rfl (.keep rfl rfl .nil) dcd rfl (.vl (Y.mulI rfl rfl om) (.vl (Y.addI rfl rfl oms) ?_))))
 refine .an ?_
 refine .nil (.ret ?_)
 exact .ri rfl (by unfold dly; rw [if_neg om, if_neg om, if_pos asm, show (((c.args.length : Nat) : Int) / 2).toNat = c.args.length / 2 by omega])
 refine .skip (.sr ?_)
 refine .an ?_
 refine .nil (.ret ?_)
 exact .ri rfl (by unfold dly; rw [if_neg om, if_neg om, if_neg om])
end Go.Proofs.Ytligpghohcfpnaa
/- Walks of Arrivals, drivers, Reverse. -/
namespace Go.Proofs.Ytligpghohcfpnaa
open Go Go.AW Go.Proofs
theorem arrivals_spec {n : Netlist} (hM : VT n) : ACalls Try.prog 46 [.agg (Netlist.row n)] [] [] (fun r o => ∃ l at_ : List Int, Ord n l ∧ Arv n at_ ∧ r = .tup [.uni 1 (at_.map irow), vi 0] ∧ o = []) := by
 refine ACalls.of Try.func46 rfl rfl rfl (n := 67) dcd (nbE rfl) ?_
 have hs := hM.small; have hf := hM.formed; have hnc := hM.ncells; have hnw := hM.nwidths; have hna := hM.nargs; have hnr := hM.nrets; have hns := hM.nstreams; have hac := hf.nactive; have hda := hf.ndata; have hni := hM.nins; have hFt := hM.fit; have hAc := hM.acyclic
 refine .sr (.box 101 rfl rfl rfl rfl rfl dcd ?_)
 refine .an ?_
 refine .an ?_
 refine .nil (.seq (.sh (Sh.freezeO 101 rfl rfl) ?_))
 refine .region (.vl (Y.loadA sh27 rfl rfl (nbE rfl) rfl rfl) (.callV ok20 (order_spec (n := n) hs om) rfl (.keep rfl rfl .nil) dcd ?_))
 rintro _ ⟨l15, e15, ho15, rfl, _⟩
 refine ⟨rfl, ?_⟩
 refine .moveX rfl dcd (.extractU rfl rfl dcd (.vl (Y.extract rfl rfl rfl) ?_))
 refine .assignX rfl dcd (.sh (Sh.freezeE (d := 4) (l15.map irow) rfl (by first | rfl | exact rep_map rfl) (Frees.map irow_frees)) ?_)
 refine .an ?_
 refine .nil (.seq (.seq ?_))
 obtain ⟨hO, hO2⟩ := ho15.ok hf hFt hAc; have hol := hO.len
 refine .region ?_
 refine .mv ?_
 refine .vl (Y.neq rfl rfl) (.nil ?_)
 refine .condD rfl (fun c19 => ?_) (fun c19 => ?_)
 exact absurd hO2 c19
 refine .skip (.sr ?_)
 refine .fa fl27_1 ?_
 refine .ld sh22 ?_
 refine .vl (Y.len (n := n.widths.length) sl22 rfl (congrArg some (List.length_map ..))) (.makeSlice (n := n.widths.length) sl22 ze3 rfl rfl rfl rfl om om dcd ?_)
 refine .assignX rfl dcd (.sh (Sh.adoptE (d := 6) (n := n.widths.length) 106 ((List.replicate n.widths.length 0).map irow) rfl (by first | rfl | exact rep_map rfl) (len_map (by simp)) dcd) (.nil ?_))
 refine .seq (.sr ?_)
 refine .mv ?_
 refine .vl (Y.len (n := l15.length) sl22 rfl (congrArg some (List.length_map ..))) ?_
 refine .mv ?_
 refine .nil (.block ?_)
 refine .loop2 (fun (n27_6 : Nat) (out6_6 : List Int) => ⟨[(1, .fp (Netlist.row n) 0), (6, .slc 106 1 0 n.widths.length), (25, .fz 1 (l15.map irow)), (26, vi ((l15.length : Nat) : Int)), (27, vi (n27_6 : Int))], [(106, .rows 1 (out6_6.map irow))]⟩) (fun (n27_6 : Nat) (out6_6 : List Int) => (out6_6.length = n.widths.length) ∧ ((n27_6 : Int) ≤ ((l15.length : Nat) : Int)) ∧ (ArrK n l15 n27_6 out6_6)) (fun (n27_6 : Nat) (out6_6 : List Int) => (((l15.length : Nat) : Int) - (n27_6 : Int)).toNat) 0 (List.replicate n.widths.length 0) (⟨omd, omd, ArrK.init⟩) (Le.mk (.c (.c (.c (.c (.cons (look_int rfl rlo) (.nil)))))) (.c (.nil))) (fun n27_6 out6_6 hI6 => ?_)
 obtain ⟨hl106, hb6, hA⟩ := hI6
 refine .sr (.vl (Y.lss rfl rfl) (.nil ?_))
 refine .seq ?_
 refine .condD rfl (fun c28 => ?_) (fun c28 => ?_)
 refine .skip ?_
 refine .join1 (fun (out6_j18 : List Int) => ⟨[(1, .fp (Netlist.row n) 0), (6, .slc 106 1 0 n.widths.length), (25, .fz 1 (l15.map irow)), (26, vi ((l15.length : Nat) : Int)), (27, vi (n27_6 : Int))], [(106, .rows 1 (out6_j18.map irow))]⟩) (fun (out6_j18 : List Int) => (out6_j18.length = n.widths.length) ∧ (ArrK n l15 (n27_6 + 1) out6_j18)) ?_ (fun out6_j18 hJx18 => ?_)
 refine .block (.sr ?_)
 refine .vl (Y.indexF (m := n27_6) sl22 rfl rfl rlo (row_getD (d := 0) om)) ?_
 refine .ld sh3 ?_
 refine .an ?_
 refine .nil (.seq ?_)
 have h8 := hO.rng (l15.getD n27_6 0) (getD_mem om)
 refine .region ?_
 refine .fa fl27_2 ?_
 refine .ld sh23 ?_
 refine .mv ?_
 refine .vl (Y.indexF (m := (l15.getD n27_6 0).toNat) sl23 rfl rfl om (row_getD (d := default) om)) ?_
 refine .vl (Y.loadA sh39 rfl rfl (nbE rfl) rfl rfl) (.alloc 109 ze39 rfl rfl dcd (.storeC si39 rfl rfl rfl rfl rfl rfl (nbE rfl) rfl ?_))
 refine .nil (.seq (.seq ?_))
 have h9 := hna (n.cells.getD (l15.getD n27_6 0).toNat default) (getD_in om); have h9c := hf.cells (l15.getD n27_6 0).toNat om; have h9o := out_or hf (j := (l15.getD n27_6 0).toNat) om
 refine .region ?_
 refine .fa fl39_2 ?_
 refine .ld sh3 ?_
 refine .vl (Y.lss rfl rfl) (.nil ?_)
 refine .condD rfl (fun c38 => ?_) (fun c38 => ?_)
 refine .exit ?_
 exact ⟨out6_6, ⟨om, by first | exact hA.set17 hf hO om asm hJ17 | exact hA.skip hO om (out_neg hf om asm)⟩, Le.mk (.c (.c (.c (.c (.c (.nil)))))) (.c (.nil))⟩
 refine .skip (.sr ?_)
 refine .an ?_
 refine .nil ?_
 refine .join1 (fun (t10_j17 : Int) => ⟨[(1, .fp (Netlist.row n) 0), (6, .slc 106 1 0 n.widths.length), (9, .ptr 109 0 0 0), (10, vi t10_j17), (25, .fz 1 (l15.map irow)), (26, vi ((l15.length : Nat) : Int)), (27, vi (n27_6 : Int))], [(106, .rows 1 (out6_6.map irow)), (109, .cells [vi ((n.cells.getD ((l15.getD n27_6 0).toNat) default).kind), vi ((n.cells.getD ((l15.getD n27_6 0).toNat) default).op), vi ((n.cells.getD ((l15.getD n27_6 0).toNat) default).out), .fz 1 (((n.cells.getD ((l15.getD n27_6 0).toNat) default).args).map irow), .v (.int .u64 (((n.cells.getD ((l15.getD n27_6 0).toNat) default).num : Nat) : Int)), vi ((n.cells.getD ((l15.getD n27_6 0).toNat) default).mem)])]⟩) (fun (t10_j17 : Int) => t10_j17 = (if Comb (n.cells.getD (l15.getD n27_6 0).toNat default).kind then maxA out6_6 (n.cells.getD (l15.getD n27_6 0).toNat default).args else 0)) ?_ (fun t10_j17 hJ17 => ?_)
 refine .sr ?_
 refine .fa fl39_0 ?_
 refine .ld sh3 ?_
 refine .callP ok21 (comb_spec (w := ((n.cells.getD ((l15.getD n27_6 0).toNat) default).kind))) rfl (.keep rfl rfl .nil) dcd rfl (.nil ?_)
 refine .condD rfl (fun c41 => ?_) (fun c41 => ?_)
 refine .sr ?_
 refine .fa fl39_3 ?_
 refine .ld sh22 ?_
 refine .vl (Y.len (n := ((n.cells.getD ((l15.getD n27_6 0).toNat) default).args).length) sl22 rfl (congrArg some (List.length_map ..))) ?_
 refine .mv ?_
 refine .nil (.block ?_)
 refine .loop2 (fun (t10_13 : Int) (n45_13 : Nat) => ⟨[(1, .fp (Netlist.row n) 0), (6, .slc 106 1 0 n.widths.length), (9, .ptr 109 0 0 0), (10, vi t10_13), (25, .fz 1 (l15.map irow)), (26, vi ((l15.length : Nat) : Int)), (27, vi (n27_6 : Int)), (43, .fz 1 (((n.cells.getD ((l15.getD n27_6 0).toNat) default).args).map irow)), (44, vi ((((n.cells.getD ((l15.getD n27_6 0).toNat) default).args).length : Nat) : Int)), (45, vi (n45_13 : Int))], [(106, .rows 1 (out6_6.map irow)), (109, .cells [vi ((n.cells.getD ((l15.getD n27_6 0).toNat) default).kind), vi ((n.cells.getD ((l15.getD n27_6 0).toNat) default).op), vi ((n.cells.getD ((l15.getD n27_6 0).toNat) default).out), .fz 1 (((n.cells.getD ((l15.getD n27_6 0).toNat) default).args).map irow), .v (.int .u64 (((n.cells.getD ((l15.getD n27_6 0).toNat) default).num : Nat) : Int)), vi ((n.cells.getD ((l15.getD n27_6 0).toNat) default).mem)])]⟩) (fun (t10_13 : Int) (n45_13 : Nat) => ((n45_13 : Int) ≤ ((((n.cells.getD ((l15.getD n27_6 0).toNat) default).args).length : Nat) : Int)) ∧ (t10_13 = maxA out6_6 ((n.cells.getD (l15.getD n27_6 0).toNat default).args.take n45_13))) (fun (t10_13 : Int) (n45_13 : Nat) => (((((n.cells.getD ((l15.getD n27_6 0).toNat) default).args).length : Nat) : Int) - (n45_13 : Int)).toNat) 0 0 (⟨om, rfl⟩) (Le.mk (.c (.c (.c (.cons (look_int rfl rlo) (.c (.c (.c (.c (.c (.cons (look_int rfl rlo) (.nil))))))))))) (.c (.c (.nil)))) (fun t10_13 n45_13 hI13 => ?_)
 obtain ⟨hb13, ht⟩ := hI13
 refine .sr (.vl (Y.lss rfl rfl) (.nil ?_))
 refine .seq ?_
 refine .condD rfl (fun c46 => ?_) (fun c46 => ?_)
 refine .skip (.seq (.block ?_))
 refine .sr (.vl (Y.indexF (m := n45_13) sl22 rfl rfl rlo (row_getD (d := 0) om)) ?_)
 refine .ld sh3 ?_
 refine .an ?_
 refine .nil ?_
 have h15 := h9c.1 ((n.cells.getD (l15.getD n27_6 0).toNat default).args.getD n45_13 0) (getD_mem om); unfold In at h15
 refine .region ?_
 refine .mv ?_
 refine .mv ?_
 refine .mv ?_
 refine .vl (Y.indexO (m := (((n.cells.getD ((l15.getD n27_6 0).toNat) default).args).getD n45_13 0).toNat) sl22 rfl rfl om om) (.vl (Y.load sh3 rfl (row_getD0 (d := 0) om) rfl rfl) (.vl (Y.max rfl rfl rfl) ?_))
 refine .an ?_
 refine .nil (.region ?_)
 refine .vl (Y.addI rfl rfl oms) ?_
 refine .mv ?_
 refine .nil ?_
 exact ⟨if (out6_6.getD ((((n.cells.getD ((l15.getD n27_6 0).toNat) default).args).getD n45_13 0).toNat) 0) > t10_13 then (out6_6.getD ((((n.cells.getD ((l15.getD n27_6 0).toNat) default).args).getD n45_13 0).toNat) 0) else t10_13, n45_13 + 1, ⟨om, maxA_ife ht om⟩, om, Le.mk (.c (.c (.c (.cons (look_int rfl rlo) (.c (.c (.c (.c (.c (.cons (look_int rfl rlo) (.nil))))))))))) (.c (.c (.nil)))⟩
 refine .exit ?_
 exact ⟨t10_13, by first | (rw [if_pos asm, ht, show n45_13 = (n.cells.getD (l15.getD n27_6 0).toNat default).args.length by omega, List.take_length]) | rw [if_neg asm], Le.mk (.c (.c (.c (.cons (look_int rfl rlo) (.c (.c (.c (.nil)))))))) (.c (.c (.nil)))⟩
 refine .skip ?_
 exact ⟨0, by first | (rw [if_pos asm, ht, show n45_13 = (n.cells.getD (l15.getD n27_6 0).toNat default).args.length by omega, List.take_length]) | rw [if_neg asm], Le.mk (.c (.c (.c (.cons (look_int rfl rlo) (.c (.c (.c (.nil)))))))) (.c (.c (.nil)))⟩
 have h17 := hA.in17 hM hO om hJ17; have h17d := hM.dly (i := (l15.getD n27_6 0).toNat) om
 refine .regionHeld [109] [106, 109] rfl (.blind 0 rfl krf (Blind.move rfl rfl) dcd (.blind 1 rfl krf (Blind.fieldAddr fl39_2 rfl rfl) dcd ?_))
 refine .load 2 rfl krf sh3 rfl rfl rfl rfl rfl dcd (.blind 3 rfl krf (Blind.move rfl rfl) dcd (.loadA 4 rfl krf sh27 rfl rfl rfl (nbE rfl) rfl rfl dcd ?_))
 refine .loadA 5 rfl krf sh39 rfl rfl rfl (nbE rfl) rfl rfl dcd (.goL rfl rfl (namesIn.cells rfl rfl rfl namesIn.nil) (.one 6 rfl krf ?_))
 refine .callP ok41 (tcell_spec (n := n) (c := (n.cells.getD ((l15.getD n27_6 0).toNat) default)) hf.wides (hf.cells _ om) (hna _ (getD_in om)) om) rfl (.keep rfl rfl (.keep rfl rfl .nil)) dcd rfl ?_
 refine .nil ⟨rfl, ?_⟩
 refine .one 7 rfl krf (.vl (Y.addI rfl rfl oms) ?_)
 refine .nil ⟨rfl, ?_⟩
 refine .one 8 rfl krf (.vl (Y.indexO (m := ((n.cells.getD ((l15.getD n27_6 0).toNat) default).out).toNat) sl22 rfl rfl om om) ?_)
 refine .nil ⟨rfl, ?_⟩
 refine .one 9 rfl krf (.storeE ((out6_6.set (((n.cells.getD ((l15.getD n27_6 0).toNat) default).out).toNat) (t10_j17 + (dly n (n.cells.getD ((l15.getD n27_6 0).toNat) default)))).map irow) si3 rfl rfl rfl rfl rfl rfl rfl (row_getD0 (d := 0) om) (nbE rfl) (set_map0 rfl) ?_)
 refine .nil ⟨rfl, ?_⟩
 refine .done krf ?_
 exact ⟨out6_6.set (((n.cells.getD ((l15.getD n27_6 0).toNat) default).out).toNat) (t10_j17 + (dly n (n.cells.getD ((l15.getD n27_6 0).toNat) default))), ⟨omd, by first | exact hA.set17 hf hO om asm hJ17 | exact hA.skip hO om (out_neg hf om asm)⟩, Le.mk (.c (.c (.c (.c (.c (.nil)))))) (.c (.nil))⟩
 obtain ⟨hlj18_106, hJ18⟩ := hJx18
 refine .region (.vl (Y.addI rfl rfl oms) ?_)
 refine .mv ?_
 refine .nil ?_
 exact ⟨n27_6 + 1, out6_j18, ⟨om, om, hJ18⟩, om, Le.mk (.c (.c (.c (.c (.cons (look_int rfl rlo) (.nil)))))) (.c (.nil))⟩
 refine .exit (.sr ?_)
 refine .mv ?_
 refine .an ?_
 refine .sh (Sh.detach (d := 2) (o := 106) rfl rfl (len_map om) dcd) ?_
 refine .an ?_
 refine .nil (.ret ?_)
 exact ⟨_, _, rfl, rfl, l15, out6_6, hO, hA.done hO om, rfl, rfl⟩
end Go.Proofs.Ytligpghohcfpnaa
/- Walks of drivers and Reverse. -/
namespace Go.Proofs.Ytligpghohcfpnaa
open Go Go.AW Go.Proofs
theorem driversC_spec {n : Netlist} (hM : VT n) : ACalls Try.prog 81 [.agg (Netlist.row n)] [] [] (fun r o => ∃ cs : List Cell, DrvC n cs ∧ r = .uni 6 (cs.map Cell.row) ∧ o = []) := by
 refine ACalls.of Try.func81 rfl rfl rfl (n := 27) dcd (nbE rfl) ?_
 have hs := hM.small; have hf := hM.formed; have hnc := hM.ncells; have hnw := hM.nwidths; have hna := hM.nargs; have hnr := hM.nrets; have hns := hM.nstreams; have hac := hf.nactive; have hda := hf.ndata
 refine .sr (.box 101 rfl rfl rfl rfl rfl dcd ?_)
 refine .an ?_
 refine .nil (.seq (.sh (Sh.freezeO 101 rfl rfl) ?_))
 refine .region ?_
 refine .fa fl27_1 ?_
 refine .ld sh22 ?_
 refine .vl (Y.len (n := n.widths.length) sl22 rfl (congrArg some (List.length_map ..))) (.makeSlice (n := n.widths.length) sl23 ze39 rfl rfl rfl rfl om om dcd ?_)
 refine .sh (Sh.reZ (d := 9) (z' := Cell.row (⟨0, 0, 0, [], 0, 0⟩ : Cell)) rfl rfl rfl (.same (.same (.same (.nilfz (.same (.same .nil))))))) (.assignX rfl dcd (.sh (Sh.adoptE (d := 3) (n := (List.replicate n.widths.length (⟨0, 0, 0, [], 0, 0⟩ : Cell)).length) 103 ((List.replicate n.widths.length (⟨0, 0, 0, [], 0, 0⟩ : Cell)).map Cell.row) rfl (by first | rfl | exact rep_map rfl) (len_map rfl) dcd) ?_))
 refine .nil (.seq (.sr ?_))
 refine .fa fl27_2 ?_
 refine .ld sh23 ?_
 refine .vl (Y.len (n := n.cells.length) sl23 rfl (congrArg some (List.length_map ..))) ?_
 refine .mv ?_
 refine .nil (.block ?_)
 refine .loop2 (fun (n13_3 : Nat) (out3_3 : List Cell) => ⟨[(3, .slc 103 6 0 ((List.replicate n.widths.length (⟨0, 0, 0, [], 0, 0⟩ : Cell)).length)), (11, .fz 6 (n.cells.map Cell.row)), (12, vi ((n.cells.length : Nat) : Int)), (13, vi (n13_3 : Int))], [(103, .rows 6 (out3_3.map Cell.row))]⟩) (fun (n13_3 : Nat) (out3_3 : List Cell) => (out3_3.length = (List.replicate n.widths.length (⟨0, 0, 0, [], 0, 0⟩ : Cell)).length) ∧ ((n13_3 : Int) ≤ ((n.cells.length : Nat) : Int)) ∧ (DrvCK n n13_3 out3_3)) (fun (n13_3 : Nat) (out3_3 : List Cell) => (((n.cells.length : Nat) : Int) - (n13_3 : Int)).toNat) 0 (List.replicate n.widths.length (⟨0, 0, 0, [], 0, 0⟩ : Cell)) (⟨om, om, DrvCK.init⟩) (Le.mk (.c (.c (.c (.cons (look_int rfl rlo) (.nil))))) (.c (.nil))) (fun n13_3 out3_3 hI3 => ?_)
 obtain ⟨hl103, hb3, hD⟩ := hI3
 refine .sr (.vl (Y.lss rfl rfl) (.nil ?_))
 refine .seq ?_
 refine .condD rfl (fun c14 => ?_) (fun c14 => ?_)
 refine .skip ?_
 refine .join1 (fun (out3_j7 : List Cell) => ⟨[(3, .slc 103 6 0 ((List.replicate n.widths.length (⟨0, 0, 0, [], 0, 0⟩ : Cell)).length)), (11, .fz 6 (n.cells.map Cell.row)), (12, vi ((n.cells.length : Nat) : Int)), (13, vi (n13_3 : Int))], [(103, .rows 6 (out3_j7.map Cell.row))]⟩) (fun (out3_j7 : List Cell) => (out3_j7.length = (List.replicate n.widths.length (⟨0, 0, 0, [], 0, 0⟩ : Cell)).length) ∧ (DrvCK n (n13_3 + 1) out3_j7)) ?_ (fun out3_j7 hJx7 => ?_)
 refine .block (.sr ?_)
 refine .vl (Y.indexF (m := n13_3) sl23 rfl rfl rlo (row_getD (d := default) om)) ?_
 refine .vl (Y.loadA sh39 rfl rfl (nbE rfl) rfl rfl) (.alloc 105 ze39 rfl rfl dcd (.storeC si39 rfl rfl rfl rfl rfl rfl (nbE rfl) rfl ?_))
 refine .nil (.seq ?_)
 have h5 := out_or hf (j := n13_3) om; have h5l := hD.len
 refine .region ?_
 refine .fa fl39_2 ?_
 refine .ld sh3 ?_
 refine .vl (Y.geq rfl rfl) (.nil ?_)
 refine .condD rfl (fun c19 => ?_) (fun c19 => ?_)
 refine .region ?_
 refine .mv ?_
 refine .fa fl39_2 ?_
 refine .ld sh3 ?_
 refine .vl (Y.loadA sh39 rfl rfl (nbE rfl) rfl rfl) (.vl (Y.indexO (m := ((n.cells.getD n13_3 default).out).toNat) sl23 rfl rfl oms oms) (.storeE ((out3_3.set (((n.cells.getD n13_3 default).out).toNat) (n.cells.getD n13_3 default)).map Cell.row) si39 rfl rfl rfl rfl rfl rfl rfl (row_getD0 (d := default) oms) (nbE rfl) (set_map0 rfl) (.nil ?_)))
 exact ⟨out3_3.set (((n.cells.getD n13_3 default).out).toNat) (n.cells.getD n13_3 default), ⟨omd, by first | exact hD.set hf om asm | exact hD.skip hf om asm⟩, Le.mk (.c (.c (.c (.c (.nil))))) (.c (.nil))⟩
 refine .skip ?_
 exact ⟨out3_3, ⟨om, by first | exact hD.set hf om asm | exact hD.skip hf om asm⟩, Le.mk (.c (.c (.c (.c (.nil))))) (.c (.nil))⟩
 obtain ⟨hlj7_103, hJ7⟩ := hJx7
 refine .region (.vl (Y.addI rfl rfl oms) ?_)
 refine .mv ?_
 refine .nil ?_
 exact ⟨n13_3 + 1, out3_j7, ⟨om, om, hJ7⟩, om, Le.mk (.c (.c (.c (.cons (look_int rfl rlo) (.nil))))) (.c (.nil))⟩
 refine .exit (.sr ?_)
 refine .mv ?_
 refine .an ?_
 refine .sh (Sh.detach (d := 2) (o := 103) rfl rfl (len_map om) dcd) ?_
 refine .nil (.ret ?_)
 exact ⟨_, _, rfl, rfl, out3_3, hD.done om, rfl, rfl⟩
theorem reverse_spec {l : List Int} (hl : l.length ≤ 17592186043904) : ACalls Try.prog 82 [.slc 0 1 0 l.length] [.rows 1 (l.map irow)] [0] (fun r o => r = .tup [] ∧ o = [.rows 1 (l.reverse.map irow)]) := by
 refine ACalls.of Try.func82 rfl rfl rfl (n := 28) dcd (nbE rfl) (.sr ?_)
 refine .mv ?_
 refine .vl (Y.len (n := l.length) sl22 rfl rfl) (.vl (Y.subI rfl rfl oms) ?_)
 refine .an ?_
 refine .an ?_
 refine .nil (.block ?_)
 refine .loop3 (fun (i2_1 : Int) (j3_1 : Int) (m_1 : List Int) => ⟨[(0, .slc 0 1 0 l.length), (2, vi i2_1), (3, vi j3_1)], [(0, .rows 1 (m_1.map irow))]⟩) (fun (i2_1 : Int) (j3_1 : Int) (m_1 : List Int) => (m_1.length = l.length) ∧ (Rvs l m_1 i2_1 j3_1)) (fun (i2_1 : Int) (j3_1 : Int) (m_1 : List Int) => (j3_1 - i2_1).toNat) 0 (((l.length : Nat) : Int) - 1) l (⟨om, Rvs.init l⟩) (Le.mk (.c (.cons (look_int rfl rlo) (.cons (look_int rfl rlo) (.nil)))) (.c (.nil))) (fun i2_1 j3_1 m_1 hI1 => ?_)
 obtain ⟨hl0, hR⟩ := hI1
 refine .seq (.sr ?_)
 refine .mv ?_
 refine .mv ?_
 refine .vl (Y.lss rfl rfl) (.nil ?_)
 refine .condD rfl (fun c9 => ?_) (fun c9 => ?_)
 refine .skip (.seq (.block ?_))
 have h3 := hR.sum; have h3b := hR.i0; have h3c := hR.len
 refine .regionAny rfl (.blind 0 rfl krf (Blind.move rfl rfl) dcd (.blind 1 rfl krf (Blind.move rfl rfl) dcd ?_))
 refine .blind 2 rfl krf (Blind.move rfl rfl) dcd (.blind 3 rfl krf (Blind.move rfl rfl) dcd (.quietN (n := 3) [4, 5, 6, 7, 8, 9, 10, 11, 12] [13, 14, 15] 13 rfl krf ?_))
 refine .cn 4 rfl (Y.move rfl rfl) (.cn 5 rfl (Y.move rfl rfl) ?_)
 refine .cn 6 rfl (Y.indexO (m := (j3_1).toNat) sl22 rfl rfl om om) (.cn 7 rfl (Y.load sh3 rfl (row_getD0 (d := 0) om) rfl rfl) ?_)
 refine .cn 8 rfl (Y.move rfl rfl) (.cn 9 rfl (Y.move rfl rfl) ?_)
 refine .cn 10 rfl (Y.indexO (m := (i2_1).toNat) sl22 rfl rfl om om) (.cn 11 rfl (Y.load sh3 rfl (row_getD0 (d := 0) om) rfl rfl) (.cn 12 rfl (Y.indexO (m := (i2_1).toNat) sl22 rfl rfl om om) ?_))
 refine .nil (.one 13 rfl krf ?_)
 refine .storeE ((m_1.set ((i2_1).toNat) (m_1.getD ((j3_1).toNat) 0)).map irow) si3 rfl rfl rfl rfl rfl rfl rfl (row_getD0 (d := 0) om) (nbE rfl) (set_map0 rfl) ?_
 refine .nil ⟨rfl, ?_⟩
 refine .quietN (n := 1) [14] [15] 15 rfl krf (.cn 14 rfl (Y.indexO (m := (j3_1).toNat) sl22 rfl rfl om om) ?_)
 refine .nil (.one 15 rfl krf ?_)
 refine .storeE (((m_1.set ((i2_1).toNat) (m_1.getD ((j3_1).toNat) 0)).set ((j3_1).toNat) (m_1.getD ((i2_1).toNat) 0)).map irow) si3 rfl rfl rfl rfl rfl rfl rfl (row_getD0 (d := 0) oms) (nbE rfl) (set_map0 rfl) ?_
 refine .nil ⟨rfl, ?_⟩
 refine .done krf (.region ?_)
 refine .mv ?_
 refine .vl (Y.addI rfl rfl oms) ?_
 refine .mv ?_
 refine .vl (Y.subI rfl rfl oms) ?_
 refine .an ?_
 refine .an ?_
 refine .nil ?_
 exact ⟨i2_1 + 1, j3_1 - 1, (m_1.set ((i2_1).toNat) (m_1.getD ((j3_1).toNat) 0)).set ((j3_1).toNat) (m_1.getD ((i2_1).toNat) 0), ⟨omd, hR.step asm⟩, om, Le.mk (.c (.cons (look_int rfl rlo) (.cons (look_int rfl rlo) (.nil)))) (.c (.nil))⟩
 refine .exit ?_
 exact ⟨_, _, rfl, rfl, rfl, by rw [hR.done om]⟩
end Go.Proofs.Ytligpghohcfpnaa
/- Walks of iterators. -/
namespace Go.Proofs.Ytligpghohcfpnaa
open Go Go.AW Go.Proofs
theorem port_spec {k : Int} : ACalls Try.prog 131 [vi k] [] [] (fun r o => r = .v (.bool (decide (Port k))) ∧ o = []) := by
 refine ACalls.of Try.func131 rfl rfl rfl (n := 13) dcd (nbE rfl) (.sr ?_)
 refine .an ?_
 refine .nil (.sr ?_)
 refine .mv ?_
 refine .vl (Y.eql rfl rfl) ?_
 refine .mv ?_
 refine .splitD (d := 5) rfl (fun c5 => ?_) (fun c5 => ?_)
 refine .gz 5 (.gz 5 ?_)
 refine .pk ?_
 refine .mv ?_
 refine .gz 9 (.gz 9 ?_)
 refine .pk ?_
 refine .an ?_
 refine .nil (.ret ?_)
 exact .rb rfl (dt (by (simp only [Port]) <;> (first | omega | grind)))
 refine .gw 5 (Y.move rfl rfl) (.gw 5 (Y.eql rfl rfl) ?_)
 refine .pk ?_
 refine .mv ?_
 refine .splitD (d := 9) rfl (fun c9 => ?_) (fun c9 => ?_)
 refine .gz 9 (.gz 9 ?_)
 refine .pk ?_
 refine .an ?_
 refine .nil (.ret ?_)
 exact .rb rfl (dt (by (simp only [Port]) <;> (first | omega | grind)))
 refine .gw 9 (Y.move rfl rfl) (.gw 9 (Y.eql rfl rfl) ?_)
 refine .pk ?_
 refine .an ?_
 refine .nil (.ret ?_)
 exact .rb rfl (dd (by (simp only [Port]) <;> (first | omega | grind)))
theorem ends_it {n : Netlist} (hM : VT n) : ItCalls Try.prog 130 [.fp (Netlist.row n) 0] (endL n) := by
 refine ItCalls.of Try.func130 rfl rfl (n := 67) rfl (nbE rfl) (fun yc ix hgood => ?_) rfl
 have hs := hM.small; have hf := hM.formed; have hnc := hM.ncells; have hnw := hM.nwidths; have hna := hM.nargs; have hnr := hM.nrets; have hns := hM.nstreams; have hac := hf.nactive; have hda := hf.ndata
 refine AWpI.seq (AWpI.region ?_)
 refine .an ?_
 refine .nil (AWpI.seq (AWpI.seq ?_))
 refine AWpI.region ?_
 refine .fa fl27_2 ?_
 refine .ld sh23 ?_
 refine .vl (Y.len (n := n.cells.length) sl23 rfl (congrArg some (List.length_map ..))) ?_
 refine .mv ?_
 refine .nil (AWpI.block ?_)
 refine AWpI.loop3 (fun (ports3_2 : Bool) (n13_2 : Nat) (ix_2 : List (Int × Int)) => (ix_2, ⟨[(0, yc.v), (1, .fp (Netlist.row n) 0), (3, .v (.bool ports3_2)), (11, .fz 6 (n.cells.map Cell.row)), (12, .v (.int .i64 ((n.cells.length : Nat) : Int))), (13, .v (.int .i64 (n13_2 : Int)))], []⟩)) (fun (ports3_2 : Bool) (n13_2 : Nat) (ix_2 : List (Int × Int)) => ((n13_2 : Int) ≤ ((n.cells.length : Nat) : Int)) ∧ (ix_2 = ix ++ portL n n13_2) ∧ (ports3_2 = hasPort n n13_2)) (fun (ports3_2 : Bool) (n13_2 : Nat) (ix_2 : List (Int × Int)) => (((n.cells.length : Nat) : Int) - (n13_2 : Int)).toNat) false 0 ix (⟨om, by simp [portL], rfl⟩) (⟨rfl, Le.mk (.c (.c (.cons (look_bool rfl rls) (.c (.c (.cons (look_int rfl rlo) (.nil))))))) (.nil)⟩) (fun ports3_2 n13_2 ix_2 hI2 => ?_)
 obtain ⟨hb2, hx, hp⟩ := hI2
 refine AWpI.seq (AWpI.region (.vl (Y.lss rfl rfl) ?_))
 refine .nil (AWpI.seq ?_)
 refine AWpI.condD rfl (fun c14 => ?_) (fun c14 => ?_)
 refine AWpI.skip ?_
 refine AWpI.join2 (fun (ports3_j11 : Bool) (ix_j11 : List (Int × Int)) => (ix_j11, ⟨[(0, yc.v), (1, .fp (Netlist.row n) 0), (3, .v (.bool ports3_j11)), (11, .fz 6 (n.cells.map Cell.row)), (12, .v (.int .i64 ((n.cells.length : Nat) : Int))), (13, .v (.int .i64 (n13_2 : Int)))], []⟩)) (fun (ports3_j11 : Bool) (ix_j11 : List (Int × Int)) => ix_j11 = ix ++ portL n (n13_2 + 1) ∧ ports3_j11 = hasPort n (n13_2 + 1)) ?_ (fun ports3_j11 ix_j11 hJ11 => ?_)
 refine AWpI.block (AWpI.seq (AWpI.region ?_))
 refine .vl (Y.indexF (m := n13_2) sl23 rfl rfl rlo (row_getD (d := default) om)) ?_
 refine .vl (Y.loadA sh39 rfl rfl (nbE rfl) rfl rfl) (.alloc 105 ze39 rfl rfl dcd (.storeC si39 rfl rfl rfl rfl rfl rfl (nbE rfl) rfl ?_))
 refine .nil (AWpI.seq (AWpI.seq ?_))
 refine AWpI.region ?_
 refine .fa fl39_0 ?_
 refine .ld sh3 ?_
 refine .callP ok131 (port_spec (k := ((n.cells.getD n13_2 default).kind))) rfl (.keep rfl rfl .nil) dcd rfl (.vl (Y.not rfl) (.nil ?_))
 refine AWpI.cond rfl (fun c20 => ?_) (fun c20 => ?_)
 replace c20 : ¬ (Port ((n.cells.getD n13_2 default).kind)) := by simpa using c20
 refine AWpI.exit ?_
 exact ⟨ports3_2, ix_2, by first | exact port_no hx hp om asm | exact port_yes hx7 om om asm, ⟨rfl, Le.mk (.c (.c (.cons (look_bool rfl rls) (.c (.c (.c (.nil))))))) (.nil)⟩⟩
 replace c20 : Port ((n.cells.getD n13_2 default).kind) := by simpa using c20
 refine AWpI.skip (AWpI.seq (AWpI.region ?_))
 refine .an ?_
 refine .nil (AWpI.seq ?_)
 have h6 := hna (n.cells.getD n13_2 default) (getD_in om)
 refine AWpI.region ?_
 refine .fa fl39_3 ?_
 refine .ld sh22 ?_
 refine .vl (Y.len (n := ((n.cells.getD n13_2 default).args).length) sl22 rfl (congrArg some (List.length_map ..))) ?_
 refine .mv ?_
 refine .nil (AWpI.block ?_)
 refine AWpI.loop2 (fun (n24_7 : Nat) (ix_7 : List (Int × Int)) => (ix_7, ⟨[(0, yc.v), (1, .fp (Netlist.row n) 0), (3, .v (.bool true)), (11, .fz 6 (n.cells.map Cell.row)), (12, .v (.int .i64 ((n.cells.length : Nat) : Int))), (13, .v (.int .i64 (n13_2 : Int))), (22, .fz 1 (((n.cells.getD n13_2 default).args).map irow)), (23, .v (.int .i64 ((((n.cells.getD n13_2 default).args).length : Nat) : Int))), (24, .v (.int .i64 (n24_7 : Int)))], []⟩)) (fun (n24_7 : Nat) (ix_7 : List (Int × Int)) => ((n24_7 : Int) ≤ ((((n.cells.getD n13_2 default).args).length : Nat) : Int)) ∧ (ix_7 = (ix ++ portL n n13_2) ++ ((n.cells.getD n13_2 default).args.take n24_7).map (fun w => (w, (20 : Int))))) (fun (n24_7 : Nat) (ix_7 : List (Int × Int)) => (((((n.cells.getD n13_2 default).args).length : Nat) : Int) - (n24_7 : Int)).toNat) 0 ix_2 (⟨om, by rw [hx]; simp⟩) (⟨rfl, Le.mk (.c (.c (.c (.c (.c (.c (.c (.c (.cons (look_int rfl rlo) (.nil)))))))))) (.nil)⟩) (fun n24_7 ix_7 hI7 => ?_)
 obtain ⟨hb7, hx7⟩ := hI7
 refine AWpI.seq (AWpI.region (.vl (Y.lss rfl rfl) ?_))
 refine .nil (AWpI.seq ?_)
 refine AWpI.condD rfl (fun c25 => ?_) (fun c25 => ?_)
 refine AWpI.skip (AWpI.seq (AWpI.block ?_))
 refine AWpI.seq (AWpI.region ?_)
 refine .vl (Y.indexF (m := n24_7) sl22 rfl rfl rlo (row_getD (d := 0) om)) ?_
 refine .ld sh3 ?_
 refine .an ?_
 refine .nil (AWpI.seq (AWpI.regionY ?_))
 refine AOpsI.op ?_
 refine .mv ?_
 refine .nil (AOpsI.op ?_)
 refine .mv ?_
 refine .nil (AOpsI.yield rfl rfl (hgood _ (by first | exact end_port om asm om | exact end_frz (by rw [show n.cells.length = n13_2 by omega]; rw [← hp]; assumption) | exact end_oth om asm)) dcd (AOpsI.op ?_))
 refine .vl (Y.not rfl) (.nil (AOpsI.nil ?_))
 refine AWpI.condF rfl (AWpI.skip (AWpI.region ?_))
 refine .vl (Y.addI rfl rfl oms) ?_
 refine .mv ?_
 refine .nil ?_
 exact ⟨n24_7 + 1, ix_7 ++ [(((n.cells.getD n13_2 default).args).getD n24_7 0, 20)], ⟨om, by rw [hx7, take_one (d := (0 : Int)) om, List.map_append, List.append_assoc]; rfl⟩, om, ⟨rfl, Le.mk (.c (.c (.c (.c (.c (.c (.c (.c (.cons (look_int rfl rlo) (.nil)))))))))) (.nil)⟩⟩
 refine AWpI.exit ?_
 exact ⟨true, ix_7, by first | exact port_no hx hp om asm | exact port_yes hx7 om om asm, ⟨rfl, Le.mk (.c (.c (.cons (look_bool rfl rls) (.c (.c (.c (.nil))))))) (.nil)⟩⟩
 refine AWpI.region (.vl (Y.addI rfl rfl oms) ?_)
 refine .mv ?_
 refine .nil ?_
 exact ⟨ports3_j11, n13_2 + 1, ix_j11, ⟨om, hJ11.1, hJ11.2⟩, om, ⟨rfl, Le.mk (.c (.c (.cons (look_bool rfl rls) (.c (.c (.cons (look_int rfl rlo) (.nil))))))) (.nil)⟩⟩
 refine AWpI.exit ?_
 refine AWpI.join1 (fun (ix_j13 : List (Int × Int)) => (ix_j13, ⟨[(0, yc.v), (1, .fp (Netlist.row n) 0)], []⟩)) (fun (ix_j13 : List (Int × Int)) => ix_j13 = ix ++ (portL n n.cells.length ++ frzE n (hasPort n n.cells.length) 20)) ?_ (fun ix_j13 hJ13 => ?_)
 refine AWpI.seq (AWpI.regionY (AOpsI.op ?_))
 refine .mv ?_
 refine .nil (AOpsI.op ?_)
 refine .mv ?_
 refine .nil ?_
 refine AOpsI.split (d := 35) rfl (fun c35 => ?_) (fun c35 => ?_)
 refine AOpsI.op (.gw 35 (Y.move rfl rfl) (.nil ?_))
 refine AOpsI.op (.gw 35 (Y.fieldAddr fl27_8 rfl rfl) (.nil ?_))
 refine AOpsI.op (.gw 35 (Y.load sh3 rfl rfl rfl rfl) (.nil ?_))
 refine AOpsI.guardRun (d := 35) rfl dcd rfl (AOpsI.yield rfl rfl (hgood _ (by first | exact end_port om asm om | exact end_frz (by rw [show n.cells.length = n13_2 by omega]; rw [← hp]; assumption) | exact end_oth om asm)) dcd (AOpsI.op ?_))
 refine .gw 35 (Y.not rfl) (.nil (AOpsI.op ?_))
 refine .pk ?_
 refine .nil (AOpsI.nil (AWpI.condF rfl ?_))
 refine AWpI.skip ?_
 exact ⟨ix_2 ++ [(n.freeze, 20)], by rw [show n.cells.length = n13_2 by omega, ← hp, hx]; first | (rw [show ports3_2 = true by assumption]; simp [frzE]) | (rw [show ports3_2 = false by assumption]; simp [frzE]), ⟨rfl, Le.mk (.c (.c (.nil))) (.nil)⟩⟩
 refine AOpsI.op (.gz 35 (.nil ?_))
 refine AOpsI.op (.gz 35 (.nil ?_))
 refine AOpsI.op (.gz 35 (.nil ?_))
 refine AOpsI.op (.gz 35 (.nil ?_))
 refine AOpsI.op (.gz 35 (.nil ?_))
 refine AOpsI.op ?_
 refine .pk ?_
 refine .nil (AOpsI.nil (AWpI.condF rfl ?_))
 refine AWpI.skip ?_
 exact ⟨ix_2, by rw [show n.cells.length = n13_2 by omega, ← hp, hx]; first | (rw [show ports3_2 = true by assumption]; simp [frzE]) | (rw [show ports3_2 = false by assumption]; simp [frzE]), ⟨rfl, Le.mk (.c (.c (.nil))) (.nil)⟩⟩
 refine AWpI.seq ?_
 have hrl := rest_len hf hnr hns
 refine AWpI.region ?_
 refine .fa fl27_9 ?_
 refine .ld sh3 ?_
 refine .buildSlice (([n.done] : List Int).map irow) sl22 ze3 rfl rfl rfl rfl rfl (uniform_map (s := 1) (f := irow) (fun _ => rfl)) rfl rfl rfl dcd ?_
 refine .fa fl27_10 ?_
 refine .ld sh22 ?_
 refine .fa fl27_6 ?_
 refine .ld sh22 ?_
 refine .fa fl27_7 ?_
 refine .ld sh22 ?_
 refine .sh (Sh.freezeE (d := 44) (([n.done] : List Int).map irow) rfl (by first | rfl | exact rep_map rfl) (Frees.map irow_frees)) ?_
 refine .buildSlice (([([n.done] : List Int), n.rets, n.active, n.data] : List (List Int)).map lrow) sl92 ze22 rfl rfl rfl rfl rfl (uniform_map (s := 1) (f := lrow) (fun _ => rfl)) rfl rfl rfl dcd ?_
 refine .sh (Sh.freezeE (d := 51) (([([n.done] : List Int), n.rets, n.active, n.data] : List (List Int)).map lrow) rfl (by first | rfl | exact rep_map rfl) (Frees.map lrow_frees)) (.callP ok72 (concat_spec (ls := ([([n.done] : List Int), n.rets, n.active, n.data] : List (List Int))) (by simp) (by simp; omega)) rfl (.keep rfl rfl .nil) dcd rfl (.vl (Y.len (n := (([([n.done] : List Int), n.rets, n.active, n.data] : List (List Int)).flatten).length) sl22 rfl (congrArg some (List.length_map ..))) ?_))
 refine .mv ?_
 refine .nil (AWpI.block (AWpI.sh (Sh.freezeE (d := 52) ((([([n.done] : List Int), n.rets, n.active, n.data] : List (List Int)).flatten).map irow) rfl (by first | rfl | exact rep_map rfl) (Frees.map irow_frees)) ?_))
 refine AWpI.loop2 (fun (n54_14 : Nat) (ix_14 : List (Int × Int)) => (ix_14, ⟨[(0, yc.v), (52, .fz 1 ((([([n.done] : List Int), n.rets, n.active, n.data] : List (List Int)).flatten).map irow)), (53, .v (.int .i64 (((([([n.done] : List Int), n.rets, n.active, n.data] : List (List Int)).flatten).length : Nat) : Int))), (54, .v (.int .i64 (n54_14 : Int)))], []⟩)) (fun (n54_14 : Nat) (ix_14 : List (Int × Int)) => ((n54_14 : Int) ≤ (((([([n.done] : List Int), n.rets, n.active, n.data] : List (List Int)).flatten).length : Nat) : Int)) ∧ (ix_14 = (ix ++ (portL n n.cells.length ++ frzE n (hasPort n n.cells.length) 20)) ++ othL (([([n.done] : List Int), n.rets, n.active, n.data] : List (List Int)).flatten) n54_14)) (fun (n54_14 : Nat) (ix_14 : List (Int × Int)) => ((((([([n.done] : List Int), n.rets, n.active, n.data] : List (List Int)).flatten).length : Nat) : Int) - (n54_14 : Int)).toNat) 0 ix_j13 (⟨om, by rw [hJ13]; simp [othL]⟩) (⟨rfl, Le.mk (.c (.c (.c (.cons (look_int rfl rlo) (.nil))))) (.nil)⟩) (fun n54_14 ix_14 hI14 => ?_)
 obtain ⟨hb14, hx14⟩ := hI14
 refine AWpI.seq (AWpI.region (.vl (Y.lss rfl rfl) ?_))
 refine .nil (AWpI.seq ?_)
 refine AWpI.condD rfl (fun c55 => ?_) (fun c55 => ?_)
 refine AWpI.skip ?_
 refine AWpI.join1 (fun (ix_j17 : List (Int × Int)) => (ix_j17, ⟨[(0, yc.v), (52, .fz 1 ((([([n.done] : List Int), n.rets, n.active, n.data] : List (List Int)).flatten).map irow)), (53, .v (.int .i64 (((([([n.done] : List Int), n.rets, n.active, n.data] : List (List Int)).flatten).length : Nat) : Int))), (54, .v (.int .i64 (n54_14 : Int)))], []⟩)) (fun (ix_j17 : List (Int × Int)) => ix_j17 = (ix ++ (portL n n.cells.length ++ frzE n (hasPort n n.cells.length) 20)) ++ othL (([([n.done] : List Int), n.rets, n.active, n.data] : List (List Int)).flatten) (n54_14 + 1)) ?_ (fun ix_j17 hJ17 => ?_)
 refine AWpI.block (AWpI.seq (AWpI.region ?_))
 refine .vl (Y.indexF (m := n54_14) sl22 rfl rfl rlo (row_getD (d := 0) om)) ?_
 refine .ld sh3 ?_
 refine .an ?_
 refine .nil (AWpI.seq (AWpI.regionY ?_))
 refine AOpsI.op ?_
 refine .mv ?_
 refine .nil (AOpsI.op (.vl (Y.geq rfl rfl) ?_))
 refine .nil (AOpsI.op ?_)
 refine .mv ?_
 refine .nil ?_
 refine AOpsI.splitD (d := 60) rfl (fun c60 => ?_) (fun c60 => ?_)
 refine AOpsI.op (.gw 60 (Y.move rfl rfl) (.nil ?_))
 refine AOpsI.op (.gw 60 (Y.move rfl rfl) (.nil ?_))
 refine AOpsI.guardRun (d := 60) rfl dcd rfl (AOpsI.yield rfl rfl (hgood _ (by first | exact end_port om asm om | exact end_frz (by rw [show n.cells.length = n13_2 by omega]; rw [← hp]; assumption) | exact end_oth om asm)) dcd (AOpsI.op ?_))
 refine .gw 60 (Y.not rfl) (.nil (AOpsI.op ?_))
 refine .pk ?_
 refine .nil (AOpsI.nil (AWpI.condF rfl ?_))
 refine AWpI.skip ?_
 exact ⟨ix_14 ++ [((([([n.done] : List Int), n.rets, n.active, n.data] : List (List Int)).flatten).getD n54_14 0, 0)], by first | (rw [othL_succ om, if_pos asm, hx14]; simp only [List.append_assoc]) | (rw [othL_succ om, if_neg asm, hx14]; simp), ⟨rfl, Le.mk (.c (.c (.c (.c (.nil))))) (.nil)⟩⟩
 refine AOpsI.op (.gz 60 (.nil ?_))
 refine AOpsI.op (.gz 60 (.nil ?_))
 refine AOpsI.op (.gz 60 (.nil ?_))
 refine AOpsI.op (.gz 60 (.nil ?_))
 refine AOpsI.op ?_
 refine .pk ?_
 refine .nil (AOpsI.nil (AWpI.condF rfl ?_))
 refine AWpI.skip ?_
 exact ⟨ix_14, by first | (rw [othL_succ om, if_pos asm, hx14]; simp only [List.append_assoc]) | (rw [othL_succ om, if_neg asm, hx14]; simp), ⟨rfl, Le.mk (.c (.c (.c (.c (.nil))))) (.nil)⟩⟩
 refine AWpI.region (.vl (Y.addI rfl rfl oms) ?_)
 refine .mv ?_
 refine .nil ?_
 exact ⟨n54_14 + 1, ix_j17, ⟨om, hJ17⟩, om, ⟨rfl, Le.mk (.c (.c (.c (.cons (look_int rfl rlo) (.nil))))) (.nil)⟩⟩
 refine AWpI.exit ?_
 exact ⟨.inl rfl, by show ix_14 = _; rw [hx14, show n54_14 = (([([n.done] : List Int), n.rets, n.active, n.data] : List (List Int)).flatten).length by omega]; simp [endL]⟩
theorem ends_spec {n : Netlist} : ACalls Try.prog 112 [.agg (Netlist.row n)] [] [] (fun r o => r = .clo (.func 130) [] [.fp (Netlist.row n) 0] ∧ o = []) := by
 refine ACalls.of Try.func112 rfl rfl rfl (n := 4) dcd (nbE rfl) (.sr (.box 101 rfl rfl rfl rfl rfl dcd ?_))
 refine .an ?_
 refine .nil (.sr (.sh (Sh.freezeO 101 rfl rfl) ?_))
 refine .vl (Y.makeFunc rfl rfl rfl rfl) ?_
 refine .an ?_
 refine .nil (.ret ?_)
 exact ⟨_, _, rfl, rfl, rfl, rfl⟩
theorem all_it {n : Netlist} (hM : VT n) : ItCalls Try.prog 111 [.fp (Netlist.row n) 0] (allL n) := by
 refine ItCalls.of Try.func111 rfl rfl (n := 45) rfl (nbE rfl) (fun yc ix hgood => ?_) rfl
 have hs := hM.small; have hf := hM.formed; have hnc := hM.ncells; have hnw := hM.nwidths; have hna := hM.nargs; have hnr := hM.nrets; have hns := hM.nstreams; have hac := hf.nactive; have hda := hf.ndata
 refine AWpI.seq (AWpI.region ?_)
 refine .an ?_
 refine .nil (AWpI.seq (AWpI.seq ?_))
 refine AWpI.region ?_
 refine .fa fl27_2 ?_
 refine .ld sh23 ?_
 refine .vl (Y.len (n := n.cells.length) sl23 rfl (congrArg some (List.length_map ..))) ?_
 refine .mv ?_
 refine .nil (AWpI.block ?_)
 refine AWpI.loop3 (fun (regs3_2 : Bool) (n9_2 : Nat) (ix_2 : List (Int × Int)) => (ix_2, ⟨[(0, yc.v), (1, .fp (Netlist.row n) 0), (3, .v (.bool regs3_2)), (7, .fz 6 (n.cells.map Cell.row)), (8, .v (.int .i64 ((n.cells.length : Nat) : Int))), (9, .v (.int .i64 (n9_2 : Int)))], []⟩)) (fun (regs3_2 : Bool) (n9_2 : Nat) (ix_2 : List (Int × Int)) => ((n9_2 : Int) ≤ ((n.cells.length : Nat) : Int)) ∧ (ix_2 = ix ++ regL n n9_2) ∧ (regs3_2 = hasReg n n9_2)) (fun (regs3_2 : Bool) (n9_2 : Nat) (ix_2 : List (Int × Int)) => (((n.cells.length : Nat) : Int) - (n9_2 : Int)).toNat) false 0 ix (⟨om, by simp [regL], rfl⟩) (⟨rfl, Le.mk (.c (.c (.cons (look_bool rfl rls) (.c (.c (.cons (look_int rfl rlo) (.nil))))))) (.nil)⟩) (fun regs3_2 n9_2 ix_2 hI2 => ?_)
 obtain ⟨hb2, hx, hp⟩ := hI2
 refine AWpI.seq (AWpI.region (.vl (Y.lss rfl rfl) ?_))
 refine .nil (AWpI.seq ?_)
 refine AWpI.condD rfl (fun c10 => ?_) (fun c10 => ?_)
 refine AWpI.skip ?_
 refine AWpI.join2 (fun (regs3_j7 : Bool) (ix_j7 : List (Int × Int)) => (ix_j7, ⟨[(0, yc.v), (1, .fp (Netlist.row n) 0), (3, .v (.bool regs3_j7)), (7, .fz 6 (n.cells.map Cell.row)), (8, .v (.int .i64 ((n.cells.length : Nat) : Int))), (9, .v (.int .i64 (n9_2 : Int)))], []⟩)) (fun (regs3_j7 : Bool) (ix_j7 : List (Int × Int)) => ix_j7 = ix ++ regL n (n9_2 + 1) ∧ regs3_j7 = hasReg n (n9_2 + 1)) ?_ (fun regs3_j7 ix_j7 hJ7 => ?_)
 refine AWpI.block (AWpI.seq (AWpI.region ?_))
 refine .vl (Y.indexF (m := n9_2) sl23 rfl rfl rlo (row_getD (d := default) om)) ?_
 refine .vl (Y.loadA sh39 rfl rfl (nbE rfl) rfl rfl) (.alloc 105 ze39 rfl rfl dcd (.storeC si39 rfl rfl rfl rfl rfl rfl (nbE rfl) rfl ?_))
 refine .nil (AWpI.seq (AWpI.seq ?_))
 refine AWpI.region ?_
 refine .fa fl39_0 ?_
 refine .ld sh3 ?_
 refine .vl (Y.neq rfl rfl) (.nil ?_)
 refine AWpI.condD rfl (fun c15 => ?_) (fun c15 => ?_)
 refine AWpI.exit ?_
 exact ⟨regs3_2, ix_2, by first | exact reg_no hx hp om asm | exact reg_yes hx om asm, ⟨rfl, Le.mk (.c (.c (.cons (look_bool rfl rls) (.c (.c (.c (.nil))))))) (.nil)⟩⟩
 replace c15 := Classical.not_not.1 c15
 refine AWpI.skip (AWpI.seq (AWpI.region ?_))
 refine .an ?_
 refine .nil (AWpI.seq ?_)
 have h6 := reg_len hf (i := n9_2) om asm
 refine AWpI.regionY (AOpsI.op ?_)
 refine .mv ?_
 refine .nil (AOpsI.op ?_)
 refine .fa fl39_3 ?_
 refine .nil (AOpsI.op ?_)
 refine .ld sh22 ?_
 refine .nil (AOpsI.op ?_)
 refine .vl (Y.indexF (m := 0) sl22 rfl rfl rlo (row_getD (d := 0) om)) ?_
 refine .nil (AOpsI.op ?_)
 refine .ld sh3 ?_
 refine .nil (AOpsI.yield rfl rfl (hgood _ (by first | exact all_reg1 om asm | exact all_reg2 om asm | exact all_frz (by rw [show n.cells.length = n9_2 by omega]; rw [← hp]; assumption))) dcd (AOpsI.op ?_))
 refine .vl (Y.not rfl) (.nil (AOpsI.op ?_))
 refine .mv ?_
 refine .nil (AOpsI.op (.gw 23 (Y.move rfl rfl) ?_))
 refine .nil (AOpsI.op (.gw 23 (Y.fieldAddr fl39_3 rfl rfl) ?_))
 refine .nil (AOpsI.op (.gw 23 (Y.load sh22 rfl rfl rfl rfl) ?_))
 refine .nil (AOpsI.op ?_)
 refine .gw 23 (Y.indexF (m := 1) sl22 rfl rfl rlo (row_getD (d := 0) om)) ?_
 refine .nil (AOpsI.op (.gw 23 (Y.load sh3 rfl rfl rfl rfl) ?_))
 refine .nil (AOpsI.guardRun (d := 23) rfl dcd rfl (AOpsI.yield rfl rfl (hgood _ (by first | exact all_reg1 om asm | exact all_reg2 om asm | exact all_frz (by rw [show n.cells.length = n9_2 by omega]; rw [← hp]; assumption))) dcd ?_))
 refine AOpsI.op (.gw 23 (Y.not rfl) (.nil ?_))
 refine AOpsI.op ?_
 refine .pk ?_
 refine .nil (AOpsI.nil (AWpI.condF rfl ?_))
 refine AWpI.skip ?_
 exact ⟨true, (ix_2 ++ [(((n.cells.getD n9_2 default).args).getD 0 0, 100)]) ++ [(((n.cells.getD n9_2 default).args).getD 1 0, 60)], by first | exact reg_no hx hp om asm | exact reg_yes hx om asm, ⟨rfl, Le.mk (.c (.c (.cons (look_bool rfl rls) (.c (.c (.c (.nil))))))) (.nil)⟩⟩
 refine AWpI.region (.vl (Y.addI rfl rfl oms) ?_)
 refine .mv ?_
 refine .nil ?_
 exact ⟨regs3_j7, n9_2 + 1, ix_j7, ⟨om, hJ7.1, hJ7.2⟩, om, ⟨rfl, Le.mk (.c (.c (.cons (look_bool rfl rls) (.c (.c (.cons (look_int rfl rlo) (.nil))))))) (.nil)⟩⟩
 refine AWpI.exit ?_
 refine AWpI.join1 (fun (ix_j9 : List (Int × Int)) => (ix_j9, ⟨[(0, yc.v), (1, .fp (Netlist.row n) 0)], []⟩)) (fun (ix_j9 : List (Int × Int)) => ix_j9 = ix ++ (regL n n.cells.length ++ frzE n (hasReg n n.cells.length) 100)) ?_ (fun ix_j9 hJ9 => ?_)
 refine AWpI.seq (AWpI.regionY (AOpsI.op ?_))
 refine .mv ?_
 refine .nil (AOpsI.op ?_)
 refine .mv ?_
 refine .nil ?_
 refine AOpsI.split (d := 34) rfl (fun c34 => ?_) (fun c34 => ?_)
 refine AOpsI.op (.gw 34 (Y.move rfl rfl) (.nil ?_))
 refine AOpsI.op (.gw 34 (Y.fieldAddr fl27_8 rfl rfl) (.nil ?_))
 refine AOpsI.op (.gw 34 (Y.load sh3 rfl rfl rfl rfl) (.nil ?_))
 refine AOpsI.guardRun (d := 34) rfl dcd rfl (AOpsI.yield rfl rfl (hgood _ (by first | exact all_reg1 om asm | exact all_reg2 om asm | exact all_frz (by rw [show n.cells.length = n9_2 by omega]; rw [← hp]; assumption))) dcd (AOpsI.op ?_))
 refine .gw 34 (Y.not rfl) (.nil (AOpsI.op ?_))
 refine .pk ?_
 refine .nil (AOpsI.nil (AWpI.condF rfl ?_))
 refine AWpI.skip ?_
 exact ⟨ix_2 ++ [(n.freeze, 100)], by rw [show n.cells.length = n9_2 by omega, ← hp, hx]; first | (rw [show regs3_2 = true by assumption]; simp [frzE]) | (rw [show regs3_2 = false by assumption]; simp [frzE]), ⟨rfl, Le.mk (.c (.c (.nil))) (.nil)⟩⟩
 refine AOpsI.op (.gz 34 (.nil ?_))
 refine AOpsI.op (.gz 34 (.nil ?_))
 refine AOpsI.op (.gz 34 (.nil ?_))
 refine AOpsI.op (.gz 34 (.nil ?_))
 refine AOpsI.op (.gz 34 (.nil ?_))
 refine AOpsI.op ?_
 refine .pk ?_
 refine .nil (AOpsI.nil (AWpI.condF rfl ?_))
 refine AWpI.skip ?_
 exact ⟨ix_2, by rw [show n.cells.length = n9_2 by omega, ← hp, hx]; first | (rw [show regs3_2 = true by assumption]; simp [frzE]) | (rw [show regs3_2 = false by assumption]; simp [frzE]), ⟨rfl, Le.mk (.c (.c (.nil))) (.nil)⟩⟩
 refine AWpI.regionY (AOpsI.op (.vl (Y.loadA sh27 rfl rfl (nbE rfl) rfl rfl) ?_))
 refine .nil (AOpsI.op (.callP ok112 (ends_spec (n := n)) rfl (.keep rfl rfl .nil) dcd rfl ?_))
 refine .nil (AOpsI.op ?_)
 refine .mv ?_
 refine .nil ?_
 refine AOpsI.callIt rfl ok130 (ends_it (n := n) hM) rfl (fun e he => hgood e (end_all he)) dcd ?_
 refine AOpsI.nil ?_
 exact ⟨.inl rfl, by show ix_j9 ++ endL n = _; rw [hJ9]; simp [allL]⟩
theorem all_spec2 {n : Netlist} : ACalls Try.prog 80 [.agg (Netlist.row n)] [] [] (fun r o => r = .clo (.func 111) [] [.fp (Netlist.row n) 0] ∧ o = []) := by
 refine ACalls.of Try.func80 rfl rfl rfl (n := 4) dcd (nbE rfl) (.sr (.box 101 rfl rfl rfl rfl rfl dcd ?_))
 refine .an ?_
 refine .nil (.sr (.sh (Sh.freezeO 101 rfl rfl) ?_))
 refine .vl (Y.makeFunc rfl rfl rfl rfl) ?_
 refine .an ?_
 refine .nil (.ret ?_)
 exact ⟨_, _, rfl, rfl, rfl, rfl⟩
end Go.Proofs.Ytligpghohcfpnaa
/- The walk of Words. -/
namespace Go.Proofs.Ytligpghohcfpnaa
open Go Go.AW Go.Proofs
theorem words_spec {n : Netlist} (hM : VT n) : ACalls Try.prog 43 [.agg (Netlist.row n)] [] [] (fun r o => ∃ (at_ l st : List Int) (d : Int), Ord n l ∧ Arv n at_ ∧ WPath n at_ st d ∧ r = .tup [.agg [vi d, .fz 1 (st.map irow)], vi 0] ∧ o = []) := by
 refine ACalls.ofM Try.func43 rfl rfl rfl (n := 93) dcd (nbE rfl) ?_
 have hs := hM.small; have hf := hM.formed; have hnc := hM.ncells; have hnw := hM.nwidths; have hna := hM.nargs; have hnr := hM.nrets; have hns := hM.nstreams; have hac := hf.nactive; have hda := hf.ndata
 refine AWpM.seqP (.region (.box 101 rfl rfl rfl rfl rfl dcd ?_))
 refine .alloc 102 ze71 rfl rfl dcd ?_
 refine .an ?_
 refine .nil (AWpM.seqP (.sh (Sh.freezeO 101 rfl rfl) ?_))
 refine .region (.vl (Y.loadA sh27 rfl rfl (nbE rfl) rfl rfl) (.callV ok46 (arrivals_spec (n := n) hM) rfl (.keep rfl rfl .nil) dcd ?_))
 rintro _ ⟨lo16, at_16, hO16, hA16, rfl, _⟩
 refine ⟨rfl, ?_⟩
 refine .moveX rfl dcd (.extractU rfl rfl dcd (.vl (Y.extract rfl rfl rfl) ?_))
 refine .alloc 104 ze22 rfl rfl dcd (.sh (Sh.freezeE (d := 17) (at_16.map irow) rfl (by first | rfl | exact rep_map rfl) (Frees.map irow_frees)) (.storeC si22 rfl rfl rfl rfl rfl rfl (nbE rfl) rfl ?_))
 refine .an ?_
 refine .nil (AWpM.seqP (.seq ?_))
 refine .sh (Sh.freezeO 104 rfl rfl) (.region ?_)
 refine .mv ?_
 refine .vl (Y.neq rfl rfl) (.nil (.condF rfl ?_))
 refine .skip (AWpM.seqP (.region ?_))
 refine .vl (Y.build pl71 ze71 rfl rfl rfl) (.alloc 106 ze71 rfl rfl dcd (.alloc 107 ze3 rfl rfl dcd ?_))
 refine .storeC si71 rfl rfl rfl rfl rfl rfl (nbE rfl) rfl (.storeC si3 rfl rfl rfl rfl rfl rfl (nbE rfl) rfl (.nil ?_))
 refine AWpM.seq (AWpM.seqP (.region ?_))
 refine .vl (Y.loadA sh27 rfl rfl (nbE rfl) rfl rfl) (.callP ok80 (all_spec2 (n := n)) rfl (.keep rfl rfl .nil) dcd rfl (.nil ?_))
 refine AWpM.block ?_
 refine AWpM.rangeFunc (p1 := 26) (p2 := 27) [106, 107] (fun i => [(106, .cells [.v (.int .i64 ((foldW at_16 i).1)), .v (.slice none 0 0)]), (107, .cells [.v (.int .i64 ((foldW at_16 i).2))])]) (fun x => x ∈ allL n) [(4, .fp [.fz 1 (at_16.map irow)] 0), (6, .ptr 106 0 0 0), (7, .ptr 107 0 0 0)] rfl ok111 (all_it (n := n) hM) rfl dcd dcd dcd (.c (.c (.c (.nil)))) rfl (.c (.c (.nil))) (fun _ => rfl) (fun i o ob h => by exact look_all2 (p := RObj [106, 107]) (by exact RObj.cells (by exact ⟨trivial, trivial, trivial⟩) rfl) (by exact RObj.cells (by exact ⟨trivial, trivial⟩) rfl) h) (fun l i x hgi hgx => ?_) (fun y h => h) ?_
 have hin := allL_in hf hgx; have hrn := hA16.rng hM hO16 hin.1; have hi1 := hin.1; have hal := hA16.len; unfold In at hi1
 refine AWpR.seq (AWpR.region ?_)
 refine .an ?_
 refine .nil (AWpR.region ?_)
 refine .an ?_
 refine .nil (AWpR.block (AWpR.seq ?_))
 refine AWpR.regionHeld [106, 107] [106, 107] rfl (.load 0 rfl krf sh3 rfl rfl rfl rfl rfl dcd (.blind 1 rfl krf (Blind.lss rfl rfl) dcd ?_))
 refine .blind 2 rfl krf (Blind.move rfl rfl) dcd ?_
 refine .splitD (d := 30) rfl (fun c30 => ?_) (fun c30 => ?_)
 refine .skipOp 3 rfl krf rfl dcd dcd rfl rfl (.skipOp 4 rfl krf rfl dcd dcd rfl rfl (.skipOp 5 rfl krf rfl dcd dcd rfl rfl ?_))
 refine .skipOp 6 rfl krf rfl dcd dcd rfl rfl (.skipOp 7 rfl krf rfl dcd dcd rfl rfl (.skipOp 8 rfl krf rfl dcd dcd rfl rfl ?_))
 refine .skipOp 9 rfl krf rfl dcd dcd rfl rfl (.skipOp 10 rfl krf rfl dcd dcd rfl rfl (.skipOp 11 rfl krf rfl dcd dcd rfl rfl ?_))
 refine .blind 12 rfl krf (Blind.pick rfl rfl rfl) dcd (.goL rfl rfl (namesIn.cells rfl rfl rfl (namesIn.cells rfl rfl rfl namesIn.nil)) (.done krf ?_))
 refine AWpR.condT rfl (AWpR.region ?_)
 refine .ld sh22 ?_
 refine .mv ?_
 refine .vl (Y.indexF (m := (x.1).toNat) sl22 rfl rfl om (row_getD (d := 0) om)) ?_
 refine .ld sh3 ?_
 refine .mv ?_
 refine .vl (Y.addI rfl rfl oms) ?_
 refine .mv ?_
 refine .fa fl71_0 ?_
 refine .storeC si3 rfl rfl rfl rfl rfl rfl (nbE rfl) rfl (.storeC si3 rfl rfl rfl rfl rfl rfl (nbE rfl) rfl (.nil ?_))
 have hs : foldW at_16 (i ++ [x]) = ((at_16.getD ((x.1).toNat) 0) + x.2, x.1) := by (rw [foldW_snoc]; unfold stW; rw [if_pos om])
 refine ⟨rfl, ?_⟩
 show SubL _ ([(106, .cells [.v (.int .i64 ((foldW at_16 (i ++ [x])).1)), .v (.slice none 0 0)]), (107, .cells [.v (.int .i64 ((foldW at_16 (i ++ [x])).2))])] : List (Nat × Go.AW.Obj))
 rw [hs]; exact .c (.c .nil)
 refine .loadRun 3 rfl krf rfl dcd rfl sh22 rfl rfl rfl rfl rfl dcd (.blindRun 4 rfl krf rfl dcd rfl (Blind.move rfl rfl) dcd ?_)
 refine .blindRun 5 rfl krf rfl dcd rfl (Blind.indexF (m := (x.1).toNat) sl22 rfl rfl om (row_getD (d := 0) om)) dcd ?_
 refine .loadRun 6 rfl krf rfl dcd rfl sh3 rfl rfl rfl rfl rfl dcd (.blindRun 7 rfl krf rfl dcd rfl (Blind.move rfl rfl) dcd ?_)
 refine .blindRun 8 rfl krf rfl dcd rfl (Blind.addI rfl rfl om) dcd ?_
 refine .blindRun 9 rfl krf rfl dcd rfl (Blind.fieldAddr fl71_0 rfl rfl) dcd (.loadRun 10 rfl krf rfl dcd rfl sh3 rfl rfl rfl rfl rfl dcd (.blindRun 11 rfl krf rfl dcd rfl (Blind.gtr rfl rfl) dcd ?_))
 refine .blind 12 rfl krf (Blind.pick rfl rfl rfl) dcd (.goL rfl rfl (namesIn.cells rfl rfl rfl (namesIn.cells rfl rfl rfl namesIn.nil)) (.done krf ?_))
 refine AWpR.condD rfl (fun c40 => ?_) (fun c40 => ?_)
 refine AWpR.region ?_
 refine .ld sh22 ?_
 refine .mv ?_
 refine .vl (Y.indexF (m := (x.1).toNat) sl22 rfl rfl om (row_getD (d := 0) om)) ?_
 refine .ld sh3 ?_
 refine .mv ?_
 refine .vl (Y.addI rfl rfl oms) ?_
 refine .mv ?_
 refine .fa fl71_0 ?_
 refine .storeC si3 rfl rfl rfl rfl rfl rfl (nbE rfl) rfl (.storeC si3 rfl rfl rfl rfl rfl rfl (nbE rfl) rfl (.nil ?_))
 have hs : foldW at_16 (i ++ [x]) = ((at_16.getD ((x.1).toNat) 0) + x.2, x.1) := by (rw [foldW_snoc]; unfold stW; rw [if_pos om])
 refine ⟨rfl, ?_⟩
 show SubL _ ([(106, .cells [.v (.int .i64 ((foldW at_16 (i ++ [x])).1)), .v (.slice none 0 0)]), (107, .cells [.v (.int .i64 ((foldW at_16 (i ++ [x])).2))])] : List (Nat × Go.AW.Obj))
 rw [hs]; exact .c (.c .nil)
 refine AWpR.skip ?_
 have hs : foldW at_16 (i ++ [x]) = foldW at_16 i := by (rw [foldW_snoc]; unfold stW; rw [if_neg om])
 refine ⟨rfl, ?_⟩
 show SubL _ ([(106, .cells [.v (.int .i64 ((foldW at_16 (i ++ [x])).1)), .v (.slice none 0 0)]), (107, .cells [.v (.int .i64 ((foldW at_16 (i ++ [x])).2))])] : List (Nat × Go.AW.Obj))
 rw [hs]; exact .c (.c .nil)
 refine AWpM.of (.seq ?_)
 have hW := foldW_latest (at_ := at_16) (L := allL n) (fun e h => (allL_in hf h).1.1)
 obtain ⟨e9, he9, hs9⟩ := hW.some (List.ne_nil_of_mem (done_end hf))
 have h9 := allL_in hf he9; have h91 : (foldW at_16 (allL n)).2 = e9.1 := by rw [hs9]
 have hal := hA16.len
 refine .region (.vl (Y.loadA sh27 rfl rfl (nbE rfl) rfl rfl) (.callV ok81 (driversC_spec (n := n) hM) rfl (.keep rfl rfl .nil) dcd ?_))
 rintro _ ⟨cs50, hcs50, rfl, _⟩
 refine ⟨rfl, ?_⟩
 refine .assignX rfl dcd (.sh (Sh.freezeE (d := 10) (cs50.map Cell.row) rfl (by first | rfl | exact rep_map rfl) (Frees.map Cell.row_frees)) (.nil ?_))
 refine .join1 (fun (n201_j22 : List Int) => ⟨[(2, .ptr 102 0 0 0), (6, .ptr 106 0 0 0)], [(102, .cells [vi 0, .v (.slice none 0 0)]), (106, .cells [vi ((foldW at_16 (allL n)).1), .slc 301 1 0 n201_j22.length]), (301, .rows 1 (n201_j22.map irow))]⟩) (fun (n201_j22 : List Int) => PD n at_16 e9.1 n201_j22) ?_ (fun n201_j22 hJ22 => ?_)
 refine .block (.sh (Sh.nilCell 106 301 1 1 rfl rfl rfl rfl dcd) ?_)
 refine .loop2 (fun (last7_0_11 : Int) (n201_11 : List Int) => ⟨[(2, .ptr 102 0 0 0), (4, .fp [.fz 1 (at_16.map irow)] 0), (6, .ptr 106 0 0 0), (7, .ptr 107 0 0 0), (10, .fz 6 (cs50.map Cell.row))], [(102, .cells [vi 0, .v (.slice none 0 0)]), (106, .cells [vi ((foldW at_16 (allL n)).1), .slc 301 1 0 n201_11.length]), (107, .cells [vi last7_0_11]), (301, .rows 1 (n201_11.map irow))]⟩) (fun (last7_0_11 : Int) (n201_11 : List Int) => (PP n lo16 at_16 e9.1 n201_11 last7_0_11)) (fun (last7_0_11 : Int) (n201_11 : List Int) => n.cells.length + 1 - n201_11.length) ((foldW at_16 (allL n)).2) ([] : List Int) (by (rw [h91]; exact PP.init hf hO16 h9.1)) (Le.mk (.c (.c (.c (.c (.c (.nil)))))) (.c (.cons (look_cells rfl lkc) (.cons (look_cells rfl lkc) (.c (.nil)))))) (fun last7_0_11 n201_11 hI11 => ?_)
 have hP := hI11
 refine .seq (.sr ?_)
 refine .ld sh3 ?_
 refine .vl (Y.geq rfl rfl) (.nil ?_)
 refine .condD rfl (fun c52 => ?_) (fun c52 => ?_)
 refine .skip (.block (.seq ?_))
 have h12 := hP.lt hf asm; have h12i := hP.in_ asm; unfold In at h12i; have h12c := hcs50.len; have h12a := hP.args hf hcs50 asm; have hcl := hP.alen hM hcs50 asm
 refine .region ?_
 refine .fa fl71_1 ?_
 refine .ld sh22 ?_
 refine .ld sh3 ?_
 refine .buildSlice (([last7_0_11] : List Int).map irow) sl22 ze3 rfl rfl rfl rfl rfl (uniform_map (s := 1) (f := irow) (fun _ => rfl)) rfl rfl rfl dcd ?_
 refine .appendE ((n201_11 ++ ([last7_0_11] : List Int)).map irow) (n201_11 ++ ([last7_0_11] : List Int)).length sl22 ze3 rfl rfl rfl rfl (app_le oms) (app_map oms) (app_n oms) oms oms dcd dcd ?_
 refine .fa fl71_1 ?_
 refine .storeC si22 rfl rfl rfl rfl rfl rfl (nbE rfl) rfl (.nil (.sr ?_))
 refine .mv ?_
 refine .ld sh3 ?_
 refine .vl (Y.indexF (m := (last7_0_11).toNat) sl23 rfl rfl om (row_getD (d := default) om)) ?_
 refine .vl (Y.loadA sh39 rfl rfl (nbE rfl) rfl rfl) (.alloc 111 ze39 rfl rfl dcd (.storeC si39 rfl rfl rfl rfl rfl rfl (nbE rfl) rfl ?_))
 refine .nil (.sr (.storeC si3 rfl rfl rfl rfl rfl rfl (nbE rfl) rfl ?_))
 refine .nil (.seq (.sr ?_))
 refine .fa fl39_0 ?_
 refine .ld sh3 ?_
 refine .callP ok21 (comb_spec (w := ((cs50.getD ((last7_0_11).toNat) default).kind))) rfl (.keep rfl rfl .nil) dcd rfl (.vl (Y.not rfl) (.nil ?_))
 refine .cond rfl (fun c66 => ?_) (fun c66 => ?_)
 replace c66 : ¬ (Comb ((cs50.getD ((last7_0_11).toNat) default).kind)) := by simpa using c66
 refine .exit ?_
 exact ⟨n201_11 ++ ([last7_0_11] : List Int), by first | exact hP.done om | exact hP.stop hf hA16 hcs50 asm asm, Le.mk (.c (.c (.nil))) (.c (.cons (look_cells rfl lkc) (.c (.nil))))⟩
 replace c66 : Comb ((cs50.getD ((last7_0_11).toNat) default).kind) := by simpa using c66
 refine .skip (.sr ?_)
 refine .fa fl39_3 ?_
 refine .ld sh22 ?_
 refine .vl (Y.len (n := ((cs50.getD ((last7_0_11).toNat) default).args).length) sl22 rfl (congrArg some (List.length_map ..))) ?_
 refine .mv ?_
 refine .nil (.block ?_)
 refine .loop2 (fun (n70_17 : Nat) (last7_0_17 : Int) => ⟨[(2, .ptr 102 0 0 0), (4, .fp [.fz 1 (at_16.map irow)] 0), (6, .ptr 106 0 0 0), (7, .ptr 107 0 0 0), (10, .fz 6 (cs50.map Cell.row)), (68, .fz 1 (((cs50.getD ((last7_0_11).toNat) default).args).map irow)), (69, vi ((((cs50.getD ((last7_0_11).toNat) default).args).length : Nat) : Int)), (70, vi (n70_17 : Int))], [(102, .cells [vi 0, .v (.slice none 0 0)]), (106, .cells [vi ((foldW at_16 (allL n)).1), .slc 301 1 0 ((n201_11 ++ ([last7_0_11] : List Int)).length)]), (107, .cells [vi last7_0_17]), (301, .rows 1 ((n201_11 ++ ([last7_0_11] : List Int)).map irow))]⟩) (fun (n70_17 : Nat) (last7_0_17 : Int) => ((n70_17 : Int) ≤ ((((cs50.getD ((last7_0_11).toNat) default).args).length : Nat) : Int)) ∧ (Best at_16 ((cs50.getD last7_0_11.toNat default).args.take n70_17) last7_0_17)) (fun (n70_17 : Nat) (last7_0_17 : Int) => (((((cs50.getD ((last7_0_11).toNat) default).args).length : Nat) : Int) - (n70_17 : Int)).toNat) 0 (-1) (⟨om, Best.nil⟩) (Le.mk (.c (.c (.c (.c (.c (.c (.c (.cons (look_int rfl rlo) (.nil))))))))) (.c (.c (.cons (look_cells rfl lkc) (.c (.nil)))))) (fun n70_17 last7_0_17 hI17 => ?_)
 obtain ⟨hb17, hB⟩ := hI17
 refine .sr (.vl (Y.lss rfl rfl) (.nil ?_))
 refine .seq ?_
 refine .condD rfl (fun c71 => ?_) (fun c71 => ?_)
 refine .skip ?_
 refine .join1 (fun (last7_0_j21 : Int) => ⟨[(2, .ptr 102 0 0 0), (4, .fp [.fz 1 (at_16.map irow)] 0), (6, .ptr 106 0 0 0), (7, .ptr 107 0 0 0), (10, .fz 6 (cs50.map Cell.row)), (68, .fz 1 (((cs50.getD ((last7_0_11).toNat) default).args).map irow)), (69, vi ((((cs50.getD ((last7_0_11).toNat) default).args).length : Nat) : Int)), (70, vi (n70_17 : Int))], [(102, .cells [vi 0, .v (.slice none 0 0)]), (106, .cells [vi ((foldW at_16 (allL n)).1), .slc 301 1 0 ((n201_11 ++ ([last7_0_11] : List Int)).length)]), (107, .cells [vi last7_0_j21]), (301, .rows 1 ((n201_11 ++ ([last7_0_11] : List Int)).map irow))]⟩) (fun (last7_0_j21 : Int) => Best at_16 ((cs50.getD last7_0_11.toNat default).args.take (n70_17 + 1)) last7_0_j21) ?_ (fun last7_0_j21 hJ21 => ?_)
 refine .block (.seq ?_)
 have h18 := h12a ((cs50.getD last7_0_11.toNat default).args.getD n70_17 0) (getD_mem om); unfold In at h18; have h19 : last7_0_17 < 0 ∨ (0 ≤ last7_0_17 ∧ last7_0_17 < (n.widths.length : Int)) := by (rcases Int.lt_or_le last7_0_17 0 with h | h; exact .inl h; exact .inr (h12a _ (hB.in_ h)))
 refine .region (.vl (Y.indexF (m := n70_17) sl22 rfl rfl rlo (row_getD (d := 0) om)) ?_)
 refine .ld sh3 ?_
 refine .an ?_
 refine .nil (.seq (.regionS rfl krf ?_))
 refine .val (Y.load sh3 rfl rfl rfl rfl) dcd (.val (Y.lss rfl rfl) dcd (.val (Y.move rfl rfl) dcd ?_))
 refine .splitD (d := 76) rfl (fun c76 => ?_) (fun c76 => ?_)
 refine .guardSkipV (d := 76) rfl dcd dcd rfl rfl (.guardSkipV (d := 76) rfl dcd dcd rfl rfl (.guardSkipV (d := 76) rfl dcd dcd rfl rfl ?_))
 refine .guardSkipV (d := 76) rfl dcd dcd rfl rfl (.guardSkipV (d := 76) rfl dcd dcd rfl rfl (.guardSkipV (d := 76) rfl dcd dcd rfl rfl ?_))
 refine .guardSkipV (d := 76) rfl dcd dcd rfl rfl (.guardSkipV (d := 76) rfl dcd dcd rfl rfl (.guardSkipV (d := 76) rfl dcd dcd rfl rfl ?_))
 refine .val (Y.pick rfl rfl rfl) dcd (.nil (.condT rfl ?_))
 refine .region ?_
 refine .mv ?_
 refine .storeC si3 rfl rfl rfl rfl rfl rfl (nbE rfl) rfl (.nil ?_)
 exact ⟨((cs50.getD ((last7_0_11).toNat) default).args).getD n70_17 0, by first | exact hB.step om (fun x hx => (h12a x hx).1) om | exact hB.keep om om, Le.mk (.c (.c (.c (.c (.c (.c (.c (.c (.nil))))))))) (.c (.c (.cons (look_cells rfl lkc) (.c (.nil)))))⟩
 refine .guardRun (d := 76) rfl dcd rfl (.val (Y.load sh22 rfl rfl rfl rfl) dcd (.guardRun (d := 76) rfl dcd rfl ?_))
 refine .val (Y.move rfl rfl) dcd (.guardRun (d := 76) rfl dcd rfl ?_)
 refine .val (Y.indexF (m := (((cs50.getD ((last7_0_11).toNat) default).args).getD n70_17 0).toNat) sl22 rfl rfl om (row_getD (d := 0) om)) dcd ?_
 refine .guardRun (d := 76) rfl dcd rfl (.val (Y.load sh3 rfl rfl rfl rfl) dcd (.guardRun (d := 76) rfl dcd rfl ?_))
 refine .val (Y.load sh22 rfl rfl rfl rfl) dcd (.guardRun (d := 76) rfl dcd rfl (.val (Y.load sh3 rfl rfl rfl rfl) dcd ?_))
 refine .guardRun (d := 76) rfl dcd rfl (.val (Y.indexF (m := (last7_0_17).toNat) sl22 rfl rfl om (row_getD (d := 0) om)) dcd ?_)
 refine .guardRun (d := 76) rfl dcd rfl (.val (Y.load sh3 rfl rfl rfl rfl) dcd (.guardRun (d := 76) rfl dcd rfl ?_))
 refine .val (Y.gtr rfl rfl) dcd (.val (Y.pick rfl rfl rfl) dcd (.nil ?_))
 refine .condD rfl (fun c86 => ?_) (fun c86 => ?_)
 refine .region ?_
 refine .mv ?_
 refine .storeC si3 rfl rfl rfl rfl rfl rfl (nbE rfl) rfl (.nil ?_)
 exact ⟨((cs50.getD ((last7_0_11).toNat) default).args).getD n70_17 0, by first | exact hB.step om (fun x hx => (h12a x hx).1) om | exact hB.keep om om, Le.mk (.c (.c (.c (.c (.c (.c (.c (.c (.nil))))))))) (.c (.c (.cons (look_cells rfl lkc) (.c (.nil)))))⟩
 refine .skip ?_
 exact ⟨last7_0_17, by first | exact hB.step om (fun x hx => (h12a x hx).1) om | exact hB.keep om om, Le.mk (.c (.c (.c (.c (.c (.c (.c (.c (.nil))))))))) (.c (.c (.cons (look_cells rfl lkc) (.c (.nil)))))⟩
 refine .region (.vl (Y.addI rfl rfl oms) ?_)
 refine .mv ?_
 refine .nil ?_
 exact ⟨n70_17 + 1, last7_0_j21, ⟨om, hJ21⟩, om, Le.mk (.c (.c (.c (.c (.c (.c (.c (.cons (look_int rfl rlo) (.nil))))))))) (.c (.c (.cons (look_cells rfl lkc) (.c (.nil)))))⟩
 refine .exit ?_
 exact ⟨last7_0_17, n201_11 ++ ([last7_0_11] : List Int), hP.go hf hO16 hA16 (fun w hw => (hA16.rng hM hO16 hw).1) hcs50 asm asm (k := n70_17) om hB, by (simp only [List.length_append, List.length_cons, List.length_nil]; omega), Le.mk (.c (.c (.c (.c (.c (.nil)))))) (.c (.cons (look_cells rfl lkc) (.cons (look_cells rfl lkc) (.c (.nil)))))⟩
 refine .exit ?_
 exact ⟨n201_11, by first | exact hP.done om | exact hP.stop hf hA16 hcs50 asm asm, Le.mk (.c (.c (.nil))) (.c (.cons (look_cells rfl lkc) (.c (.nil))))⟩
 refine .seq ?_
 have h22 := hJ22.len
 refine .region ?_
 refine .fa fl71_1 ?_
 refine .ld sh22 ?_
 refine .callO [301] [] ok82 (reverse_spec (l := n201_j22) om) rfl (.named rfl rfl .nil) ⟨rfl, trivial⟩ rfl dcd (fun _ h => by cases h) (fun _ h => by cases h) dcd dcd ?_
 rintro r objs' ⟨rfl, rfl⟩ _
 refine ⟨⟨rfl, (by intro ob hob; simp only [List.mem_cons, List.not_mem_nil, or_false] at hob; rcases hob with rfl; rfl), .inl rfl⟩, ?_⟩
 refine .nil (.seq ?_)
 refine .sh (Sh.fzObj 106 301 1 rfl rfl rfl (len_map oms) (Frees.map irow_frees) dcd rfl rfl rfl) ?_
 refine .region (.vl (Y.loadA sh71 rfl rfl (nbE rfl) rfl rfl) (.storeC si71 rfl rfl rfl rfl rfl rfl (nbE rfl) rfl ?_))
 refine .an ?_
 refine .nil (.ret ?_)
 exact ⟨_, _, rfl, rfl, at_16, lo16, _, _, hO16, hA16, hJ22.rev (a := e9.2) he9 (by rw [hs9]) hW.max, rfl, rfl⟩
end Go.Proofs.Ytligpghohcfpnaa
/- The walk of the example. -/
namespace Go.Proofs.Ytligpghohcfpnaa
open Go Go.AW Go.Proofs
theorem awake48_spec  : ACalls Try.prog 40 [] [] [] (fun r o => r = .v (.bool true) ∧ o = []) := by
 refine ACalls.of Try.func40 rfl rfl rfl (n := 28) dcd (Nat.zero_le _) (.sr ?_)
 refine .an ?_
 refine .nil (.sr ?_)
 refine .buildSlice (([1, 1] : List Int).map irow) sl22 ze3 rfl rfl rfl rfl rfl (uniform_map (s := 1) (f := irow) (fun _ => rfl)) rfl rfl rfl dcd ?_
 refine .buildSlice (([1, 0] : List Int).map irow) sl22 ze3 rfl rfl rfl rfl rfl (uniform_map (s := 1) (f := irow) (fun _ => rfl)) rfl rfl rfl dcd ?_
 refine .sh (Sh.freezeE (d := 5) (([1, 0] : List Int).map irow) rfl (by first | rfl | exact rep_map rfl) (Frees.map irow_frees)) (.vl (Y.build pl39 ze39 rfl rfl rfl) (.vl (Y.build pl39 ze39 rfl rfl rfl) ?_))
 refine .sh (Sh.fzA (d := 7) 1 3 rfl rfl) ?_
 refine .buildSlice (([(⟨4, 0, 0, ([1, 0] : List Int), 0, 0⟩ : Cell), (⟨1, 0, 1, ([] : List Int), 0, 0⟩ : Cell)] : List Cell).map Cell.row) sl23 ze39 rfl rfl rfl rfl rfl (uniform_map (s := 6) (f := Cell.row) (fun _ => rfl)) rfl rfl rfl dcd ?_
 refine .sh (Sh.freezeE (d := 8) (([(⟨4, 0, 0, ([1, 0] : List Int), 0, 0⟩ : Cell), (⟨1, 0, 1, ([] : List Int), 0, 0⟩ : Cell)] : List Cell).map Cell.row) rfl (by first | rfl | exact rep_map rfl) (Frees.map Cell.row_frees)) (.sh (Sh.freezeE (d := 4) (([1, 1] : List Int).map irow) rfl (by first | rfl | exact rep_map rfl) (Frees.map irow_frees)) (.vl (Y.build pl27 ze27 rfl rfl rfl) ?_))
 refine .sh (Sh.fzA (d := 9) 1 3 rfl rfl) (.sh (Sh.fzA (d := 9) 5 4 rfl rfl) (.sh (Sh.fzA (d := 9) 3 5 rfl rfl) ?_))
 refine .sh (Sh.fzA (d := 9) 1 6 rfl rfl) (.sh (Sh.fzA (d := 9) 1 7 rfl rfl) (.sh (Sh.fzA (d := 9) 1 10 rfl rfl) ?_))
 refine .alloc 101 ze27 rfl rfl dcd (.storeC si27 rfl rfl rfl rfl rfl rfl (nbE rfl) rfl (.nil ?_))
 refine .sr (.vl (Y.loadA sh27 rfl rfl (nbE rfl) rfl rfl) ?_)
 refine .callV ok43 (words_spec (n := (⟨ByteArray.empty, ([1, 1] : List Int), ([(⟨4, 0, 0, ([1, 0] : List Int), 0, 0⟩ : Cell), (⟨1, 0, 1, ([] : List Int), 0, 0⟩ : Cell)] : List Cell), ([] : List Int), ([] : List Arr), ([] : List Strm), ([] : List Int), ([] : List Int), 1, 0, ([] : List Int)⟩ : Netlist)) nA_vt) rfl (.keep rfl rfl .nil) dcd ?_
 rintro _ ⟨at_12, lo12, st12, dl12, hO12, hA12, hPt12, rfl, _⟩
 refine ⟨rfl, ?_⟩
 refine .mv ?_
 refine .vl (Y.extract rfl rfl rfl) (.vl (Y.extract rfl rfl rfl) (.alloc 102 ze71 rfl rfl dcd ?_))
 refine .storeC si71 rfl rfl rfl rfl rfl rfl (nbE rfl) rfl ?_
 refine .an ?_
 refine .nil (.seq ?_)
 have hp := nA_path hA12 hPt12
 refine .region ?_
 refine .mv ?_
 refine .vl (Y.eql rfl rfl) ?_
 refine .mv ?_
 refine .gw 17 (Y.fieldAddr fl71_0 rfl rfl) (.gw 17 (Y.load sh3 rfl rfl rfl rfl) (.gw 17 (Y.eql rfl rfl) ?_))
 refine .pk ?_
 refine .mv ?_
 refine .splitD (d := 22) rfl (fun c22 => ?_) (fun c22 => ?_)
 refine .gw 22 (Y.fieldAddr fl71_1 rfl rfl) (.gw 22 (Y.load sh22 rfl rfl rfl rfl) (.gw 22 (Y.len (n := st12.length) sl22 rfl (congrArg some (List.length_map ..))) ?_))
 refine .gw 22 (Y.eql rfl rfl) ?_
 refine .pk ?_
 refine .an ?_
 refine .nil (.ret ?_)
 exact .rb rfl (decide_eq_true om)
 refine .gz 22 (.gz 22 (.gz 22 ?_))
 refine .gz 22 ?_
 refine .pk ?_
 refine .an ?_
 refine .nil (.ret ?_)
 exact .rb rfl (absurd hp.1 c22)
end Go.Proofs.Ytligpghohcfpnaa
/- Walks through the parts of plans. -/
namespace Go.Proofs.Ytligpghohcfpnaa
open Go Go.AW Go.Proofs
theorem operator_spec {n : Netlist} {p : Prt} (hn : n.widths.length ≤ 1048576) (h0 : 0 < n.widths.length) (hp : p.Ok) (hg : Ground n) (hi : n.ins.length ≤ 1048576) : ACalls Try.prog 91 [.agg (Netlist.prow n), .agg (Prt.row p)] [] [] (fun r o => ∃ c w, PartP n c w ∧ r = .tup [.agg (Cell.orow c), vi w] ∧ o = []) := by
 refine ACalls.ofS Try.func91 rfl rfl rfl (n := 96) dcd (nbE rfl) ?_
 have hp1 := hp.kind; have hp2 := hp.op; have hp3 := hp.width; have hp4 := hp.a; have hp5 := hp.b; have hp6 := hp.d; have hp7 := hp.num; have hm1 := Nat.mod_lt p.a h0; have hm2 := Nat.mod_lt p.b h0
 refine .sr (.box 102 rfl rfl rfl rfl rfl dcd (.box 103 rfl rfl rfl rfl rfl dcd ?_))
 refine .alloc 104 ze39 rfl rfl dcd ?_
 refine .an ?_
 refine .nil (.seq (.sh (Sh.freezeO 102 rfl rfl) ?_))
 refine .sh (Sh.freezeO 103 rfl rfl) (.region ?_)
 refine .buildSlice (([2, 3, 9, 10, 11, 12, 13, 14, 15, 16, 17, 18, 19, 20, 21, 22, 23, 24] : List Int).map irow) sl22 ze3 rfl rfl rfl rfl rfl (uniform_map (s := 1) (f := irow) (fun _ => rfl)) rfl rfl rfl dcd ?_
 refine .assignX rfl dcd (.sh (Sh.freezeE (d := 6) (([2, 3, 9, 10, 11, 12, 13, 14, 15, 16, 17, 18, 19, 20, 21, 22, 23, 24] : List Int).map irow) rfl (by first | rfl | exact rep_map rfl) (Frees.map irow_frees)) (.nil ?_))
 refine .le (st' := ⟨[(2, .fp (Netlist.prow n) 0), (3, .fp (Prt.row p) 0), (4, .ptr 104 0 0 0), (6, .fz 1 (([2, 3, 9, 10, 11, 12, 13, 14, 15, 16, 17, 18, 19, 20, 21, 22, 23, 24] : List Int).map irow))], [(104, .cells [vi 0, vi 0, vi 0, .v (.slice none 0 0), .v (.int .u64 0), vi 0])]⟩) (Le.mk (.c (.c (.c (.c (.nil))))) (.c (.nil))) (.sr ?_)
 refine .mv ?_
 refine .fa fl88_1 ?_
 refine .ld sh5 ?_
 refine .vl (Y.convK ii5 ii3 rfl (by first | rfl | exact IntWalk.i64_in _ om)) ?_
 refine .mv ?_
 refine .vl (Y.len (n := ([2, 3, 9, 10, 11, 12, 13, 14, 15, 16, 17, 18, 19, 20, 21, 22, 23, 24] : List Int).length) sl22 rfl (congrArg some (List.length_map ..))) (.vl (Y.remI rfl rfl oms) (.vl (Y.indexF (m := p.op % (([2, 3, 9, 10, 11, 12, 13, 14, 15, 16, 17, 18, 19, 20, 21, 22, 23, 24] : List Int).length)) sl22 rfl rfl rlo (row_getD (d := 0) oms)) ?_))
 refine .ld sh3 ?_
 refine .an ?_
 refine .nil (.sr ?_)
 refine .fa fl88_2 ?_
 refine .ld sh5 ?_
 refine .callP ok53 (width_spec (k := p.width)) rfl (.keep rfl rfl .nil) dcd rfl ?_
 refine .an ?_
 refine .nil (.sr ?_)
 refine .mv ?_
 refine .vl (Y.build pl39 ze39 rfl rfl rfl) (.alloc 109 ze39 rfl rfl dcd (.storeC si39 rfl rfl rfl rfl rfl rfl (nbE rfl) rfl ?_))
 refine .nil (.seq (.block ?_))
 refine .sr ?_
 refine .mv ?_
 refine .vl (Y.eql rfl rfl) ?_
 refine .an ?_
 refine .nil ?_
 refine .condD rfl (fun c42 => ?_) (fun c42 => ?_)
 refine .regionHeld0 rfl (.loadA 0 rfl krf sh27 rfl rfl rfl (nbE rfl) rfl rfl dcd (.blind 1 rfl krf (Blind.fieldAddr fl88_3 rfl rfl) dcd ?_))
 refine .blind 2 rfl krf (Blind.indexP ar86 rfl rfl (m := 0) rfl om rfl) dcd (.load 3 rfl krf sh5 rfl rfl rfl rfl rfl dcd (.loadA 5 rfl krf sh27 rfl rfl rfl (nbE rfl) rfl rfl dcd ?_))
 refine .blind 6 rfl krf (Blind.move rfl rfl) dcd (.blind 7 rfl krf (Blind.fieldAddr fl88_3 rfl rfl) dcd (.blind 8 rfl krf (Blind.indexP ar86 rfl rfl (m := 1) rfl om rfl) dcd ?_))
 refine .load 9 rfl krf sh5 rfl rfl rfl rfl rfl dcd (.loadA 11 rfl krf sh27 rfl rfl rfl (nbE rfl) rfl rfl dcd (.blind 12 rfl krf (Blind.move rfl rfl) dcd ?_))
 refine .blind 13 rfl krf (Blind.fieldAddr fl88_3 rfl rfl) dcd (.blind 14 rfl krf (Blind.indexP ar86 rfl rfl (m := 2) rfl om rfl) dcd (.load 15 rfl krf sh5 rfl rfl rfl rfl rfl dcd ?_))
 refine .go0 (.one 4 rfl krf (.callP ok56 (pick_spec (n := (⟨n.name, n.widths, n.cells, n.ins, n.mems, n.streams, [], [], n.freeze, n.done, []⟩ : Netlist)) (w := 1) (k := p.a) (by show (n.widths).length ≤ 1048576; omega) om) rfl (.keep rfl rfl (.keep rfl rfl (.keep rfl rfl .nil))) dcd rfl ?_))
 refine .nil ⟨rfl, ?_⟩
 refine .one 10 rfl krf (.callP ok56 (pick_spec (n := (⟨n.name, n.widths, n.cells, n.ins, n.mems, n.streams, [], [], n.freeze, n.done, []⟩ : Netlist)) (w := (widthN p.width)) (k := p.b) (by show (n.widths).length ≤ 1048576; omega) om) rfl (.keep rfl rfl (.keep rfl rfl (.keep rfl rfl .nil))) dcd rfl ?_)
 refine .nil ⟨rfl, ?_⟩
 refine .one 16 rfl krf (.callP ok56 (pick_spec (n := (⟨n.name, n.widths, n.cells, n.ins, n.mems, n.streams, [], [], n.freeze, n.done, []⟩ : Netlist)) (w := (widthN p.width)) (k := p.d) (by show (n.widths).length ≤ 1048576; omega) om) rfl (.keep rfl rfl (.keep rfl rfl (.keep rfl rfl .nil))) dcd rfl ?_)
 refine .nil ⟨rfl, ?_⟩
 refine .one 17 rfl krf ?_
 refine .buildSlice (([pickN n.widths 1 p.a, pickN n.widths (widthN p.width) p.b, pickN n.widths (widthN p.width) p.d] : List Int).map irow) sl22 ze3 rfl rfl rfl rfl rfl (uniform_map (s := 1) (f := irow) (fun _ => rfl)) rfl rfl rfl dcd ?_
 refine .nil ⟨rfl, ?_⟩
 refine .one 18 rfl krf ?_
 refine .fa fl39_3 ?_
 refine .nil ⟨rfl, ?_⟩
 refine .one 19 rfl krf (.sh (Sh.adoptE (d := 62) (n := ([pickN n.widths 1 p.a, pickN n.widths (widthN p.width) p.b, pickN n.widths (widthN p.width) p.d] : List Int).length) 162 (([pickN n.widths 1 p.a, pickN n.widths (widthN p.width) p.b, pickN n.widths (widthN p.width) p.d] : List Int).map irow) rfl (by first | rfl | exact rep_map rfl) (len_map rfl) dcd) (.storeC si22 rfl rfl rfl rfl rfl rfl (nbE rfl) rfl ?_))
 refine .nil ⟨rfl, ?_⟩
 refine .done krf (.le (st' := ⟨[(4, .ptr 104 0 0 0), (8, vi (widthN p.width)), (9, .ptr 109 0 0 0)], [(104, .cells [vi 0, vi 0, vi 0, .v (.slice none 0 0), .v (.int .u64 0), vi 0]), (109, .cells [vi 2, vi (([2, 3, 9, 10, 11, 12, 13, 14, 15, 16, 17, 18, 19, 20, 21, 22, 23, 24] : List Int).getD (p.op % (([2, 3, 9, 10, 11, 12, 13, 14, 15, 16, 17, 18, 19, 20, 21, 22, 23, 24] : List Int).length)) 0), vi 0, .slc 162 1 0 (([pickN n.widths 1 p.a, pickN n.widths (widthN p.width) p.b, pickN n.widths (widthN p.width) p.d] : List Int).length), .v (.int .u64 0), vi 0]), (162, .rows 1 (([pickN n.widths 1 p.a, pickN n.widths (widthN p.width) p.b, pickN n.widths (widthN p.width) p.d] : List Int).map irow))]⟩) (Le.mk (.c (.c (.c (.nil)))) (.c (.c (.c (.nil))))) ?_)
 refine .sr (.vl (Y.loadA sh39 rfl rfl (nbE rfl) rfl rfl) ?_)
 refine .mv ?_
 refine .storeC si39 rfl rfl rfl rfl rfl rfl (nbE rfl) rfl ?_
 refine .an ?_
 refine .nil (.ret ?_)
 exact ⟨_, rfl, _, _, _, Sh.ownT (d := 0) 3 162 rfl rfl rfl rfl (by first | rfl | exact len_map rfl | exact len_map om) rfl dcd, rfl, rfl, (⟨2, ([2, 3, 9, 10, 11, 12, 13, 14, 15, 16, 17, 18, 19, 20, 21, 22, 23, 24] : List Int).getD (p.op % (([2, 3, 9, 10, 11, 12, 13, 14, 15, 16, 17, 18, 19, 20, 21, 22, 23, 24] : List Int).length)) 0, 0, ([pickN n.widths 1 p.a, pickN n.widths (widthN p.width) p.b, pickN n.widths (widthN p.width) p.d] : List Int), 0, 0⟩ : Cell), _, op_sel hg c42, rfl, rfl⟩
 refine .sr ?_
 refine .mv ?_
 refine .callP ok118 (unary_spec (w := (([2, 3, 9, 10, 11, 12, 13, 14, 15, 16, 17, 18, 19, 20, 21, 22, 23, 24] : List Int).getD (p.op % (([2, 3, 9, 10, 11, 12, 13, 14, 15, 16, 17, 18, 19, 20, 21, 22, 23, 24] : List Int).length)) 0))) rfl (.keep rfl rfl .nil) dcd rfl ?_
 refine .an ?_
 refine .nil ?_
 refine .condD rfl (fun c64 => ?_) (fun c64 => ?_)
 refine .sr ?_
 refine .fa fl88_3 ?_
 refine .vl (Y.indexP ar86 rfl rfl (m := 0) rfl om rfl) ?_
 refine .ld sh5 ?_
 refine .vl (Y.convK ii5 ii3 rfl (by first | rfl | exact IntWalk.i64_in _ om)) ?_
 refine .fa fl27_1 ?_
 refine .ld sh22 ?_
 refine .vl (Y.len (n := n.widths.length) sl22 rfl (congrArg some (List.length_map ..))) (.vl (Y.remI rfl rfl oms) ?_)
 refine .an ?_
 refine .nil ?_
 refine .join1 (fun (w8_j15 : Int) => ⟨[(4, .ptr 104 0 0 0), (8, vi w8_j15), (9, .ptr 109 0 0 0), (10, vi (((p.a : Nat) : Int) % ((n.widths.length : Nat) : Int)))], [(104, .cells [vi 0, vi 0, vi 0, .v (.slice none 0 0), .v (.int .u64 0), vi 0]), (109, .cells [vi 2, vi (([2, 3, 9, 10, 11, 12, 13, 14, 15, 16, 17, 18, 19, 20, 21, 22, 23, 24] : List Int).getD (p.op % (([2, 3, 9, 10, 11, 12, 13, 14, 15, 16, 17, 18, 19, 20, 21, 22, 23, 24] : List Int).length)) 0), vi 0, .v (.slice none 0 0), .v (.int .u64 0), vi 0])]⟩) (fun (w8_j15 : Int) => (((([2, 3, 9, 10, 11, 12, 13, 14, 15, 16, 17, 18, 19, 20, 21, 22, 23, 24] : List Int).getD (p.op % (([2, 3, 9, 10, 11, 12, 13, 14, 15, 16, 17, 18, 19, 20, 21, 22, 23, 24] : List Int).length)) 0) = 24) ∧ (w8_j15 = (if (n.widths.getD (p.a % n.widths.length) 0) < (widthN p.width) then (n.widths.getD (p.a % n.widths.length) 0) else (widthN p.width)))) ∨ ((¬ ((([2, 3, 9, 10, 11, 12, 13, 14, 15, 16, 17, 18, 19, 20, 21, 22, 23, 24] : List Int).getD (p.op % (([2, 3, 9, 10, 11, 12, 13, 14, 15, 16, 17, 18, 19, 20, 21, 22, 23, 24] : List Int).length)) 0) = 24)) ∧ (w8_j15 = (if (n.widths.getD (p.a % n.widths.length) 0) > (widthN p.width) then (n.widths.getD (p.a % n.widths.length) 0) else (widthN p.width))))) ?_ (fun w8_j15 hJ15 => ?_)
 refine .sr ?_
 refine .mv ?_
 refine .vl (Y.eql rfl rfl) (.nil ?_)
 refine .condD rfl (fun c76 => ?_) (fun c76 => ?_)
 refine .region ?_
 refine .mv ?_
 refine .fa fl27_1 ?_
 refine .ld sh22 ?_
 refine .mv ?_
 refine .vl (Y.indexF (m := p.a % n.widths.length) sl22 rfl rfl rlo (row_getD (d := 0) om)) ?_
 refine .ld sh3 ?_
 refine .vl (Y.min rfl rfl rfl) ?_
 refine .an ?_
 refine .nil ?_
 exact ⟨if (n.widths.getD (p.a % n.widths.length) 0) < (widthN p.width) then (n.widths.getD (p.a % n.widths.length) 0) else (widthN p.width), .inl ⟨c76, rfl⟩, Le.mk (.c (.cons (look_int rfl rlo) (.c (.c (.nil))))) (.c (.c (.nil)))⟩
 refine .region ?_
 refine .mv ?_
 refine .fa fl27_1 ?_
 refine .ld sh22 ?_
 refine .mv ?_
 refine .vl (Y.indexF (m := p.a % n.widths.length) sl22 rfl rfl rlo (row_getD (d := 0) om)) ?_
 refine .ld sh3 ?_
 refine .vl (Y.max rfl rfl rfl) ?_
 refine .an ?_
 refine .nil ?_
 exact ⟨if (n.widths.getD (p.a % n.widths.length) 0) > (widthN p.width) then (n.widths.getD (p.a % n.widths.length) 0) else (widthN p.width), .inr (⟨c76, rfl⟩), Le.mk (.c (.cons (look_int rfl rlo) (.c (.c (.nil))))) (.c (.c (.nil)))⟩
 refine .region ?_
 refine .mv ?_
 refine .buildSlice (([((p.a : Nat) : Int) % ((n.widths.length : Nat) : Int)] : List Int).map irow) sl22 ze3 rfl rfl rfl rfl rfl (uniform_map (s := 1) (f := irow) (fun _ => rfl)) rfl rfl rfl dcd ?_
 refine .fa fl39_3 ?_
 refine .sh (Sh.adoptE (d := 92) (n := ([((p.a : Nat) : Int) % ((n.widths.length : Nat) : Int)] : List Int).length) 192 (([((p.a : Nat) : Int) % ((n.widths.length : Nat) : Int)] : List Int).map irow) rfl (by first | rfl | exact rep_map rfl) (len_map rfl) dcd) (.storeC si22 rfl rfl rfl rfl rfl rfl (nbE rfl) rfl (.nil ?_))
 refine .le (st' := ⟨[(4, .ptr 104 0 0 0), (8, vi w8_j15), (9, .ptr 109 0 0 0)], [(104, .cells [vi 0, vi 0, vi 0, .v (.slice none 0 0), .v (.int .u64 0), vi 0]), (109, .cells [vi 2, vi (([2, 3, 9, 10, 11, 12, 13, 14, 15, 16, 17, 18, 19, 20, 21, 22, 23, 24] : List Int).getD (p.op % (([2, 3, 9, 10, 11, 12, 13, 14, 15, 16, 17, 18, 19, 20, 21, 22, 23, 24] : List Int).length)) 0), vi 0, .slc 192 1 0 (([((p.a : Nat) : Int) % ((n.widths.length : Nat) : Int)] : List Int).length), .v (.int .u64 0), vi 0]), (192, .rows 1 (([((p.a : Nat) : Int) % ((n.widths.length : Nat) : Int)] : List Int).map irow))]⟩) (Le.mk (.c (.c (.c (.nil)))) (.c (.c (.c (.nil))))) ?_
 refine .sr (.vl (Y.loadA sh39 rfl rfl (nbE rfl) rfl rfl) ?_)
 refine .mv ?_
 refine .storeC si39 rfl rfl rfl rfl rfl rfl (nbE rfl) rfl ?_
 refine .an ?_
 refine .nil (.ret ?_)
 exact ⟨_, rfl, _, _, _, Sh.ownT (d := 0) 3 192 rfl rfl rfl rfl (by first | rfl | exact len_map rfl | exact len_map om) rfl dcd, rfl, rfl, (⟨2, ([2, 3, 9, 10, 11, 12, 13, 14, 15, 16, 17, 18, 19, 20, 21, 22, 23, 24] : List Int).getD (p.op % (([2, 3, 9, 10, 11, 12, 13, 14, 15, 16, 17, 18, 19, 20, 21, 22, 23, 24] : List Int).length)) 0, 0, ([((p.a : Nat) : Int) % ((n.widths.length : Nat) : Int)] : List Int), 0, 0⟩ : Cell), _, op_un hg h0 c64 hJ15, rfl, rfl⟩
 refine .seq (.regionHeld0 rfl (.loadA 0 rfl krf sh27 rfl rfl rfl (nbE rfl) rfl rfl dcd ?_))
 refine .blind 1 rfl krf (Blind.move rfl rfl) dcd (.blind 2 rfl krf (Blind.fieldAddr fl88_3 rfl rfl) dcd (.blind 3 rfl krf (Blind.indexP ar86 rfl rfl (m := 0) rfl om rfl) dcd ?_))
 refine .load 4 rfl krf sh5 rfl rfl rfl rfl rfl dcd (.loadA 6 rfl krf sh27 rfl rfl rfl (nbE rfl) rfl rfl dcd (.blind 7 rfl krf (Blind.move rfl rfl) dcd ?_))
 refine .blind 8 rfl krf (Blind.fieldAddr fl88_3 rfl rfl) dcd (.blind 9 rfl krf (Blind.indexP ar86 rfl rfl (m := 1) rfl om rfl) dcd (.load 10 rfl krf sh5 rfl rfl rfl rfl rfl dcd ?_))
 refine .go0 (.one 5 rfl krf ?_)
 refine .callP ok56 (pick_spec (n := (⟨n.name, n.widths, n.cells, n.ins, n.mems, n.streams, [], [], n.freeze, n.done, []⟩ : Netlist)) (w := (widthN p.width)) (k := p.a) (by show (n.widths).length ≤ 1048576; omega) om) rfl (.keep rfl rfl (.keep rfl rfl (.keep rfl rfl .nil))) dcd rfl ?_
 refine .nil ⟨rfl, ?_⟩
 refine .one 11 rfl krf (.callP ok56 (pick_spec (n := (⟨n.name, n.widths, n.cells, n.ins, n.mems, n.streams, [], [], n.freeze, n.done, []⟩ : Netlist)) (w := (widthN p.width)) (k := p.b) (by show (n.widths).length ≤ 1048576; omega) om) rfl (.keep rfl rfl (.keep rfl rfl (.keep rfl rfl .nil))) dcd rfl ?_)
 refine .nil ⟨rfl, ?_⟩
 refine .one 12 rfl krf ?_
 refine .buildSlice (([pickN n.widths (widthN p.width) p.a, pickN n.widths (widthN p.width) p.b] : List Int).map irow) sl22 ze3 rfl rfl rfl rfl rfl (uniform_map (s := 1) (f := irow) (fun _ => rfl)) rfl rfl rfl dcd ?_
 refine .nil ⟨rfl, ?_⟩
 refine .one 13 rfl krf ?_
 refine .fa fl39_3 ?_
 refine .nil ⟨rfl, ?_⟩
 refine .one 14 rfl krf (.sh (Sh.adoptE (d := 38) (n := ([pickN n.widths (widthN p.width) p.a, pickN n.widths (widthN p.width) p.b] : List Int).length) 138 (([pickN n.widths (widthN p.width) p.a, pickN n.widths (widthN p.width) p.b] : List Int).map irow) rfl (by first | rfl | exact rep_map rfl) (len_map rfl) dcd) (.storeC si22 rfl rfl rfl rfl rfl rfl (nbE rfl) rfl ?_))
 refine .nil ⟨rfl, ?_⟩
 refine .done krf (.le (st' := ⟨[(4, .ptr 104 0 0 0), (7, vi (([2, 3, 9, 10, 11, 12, 13, 14, 15, 16, 17, 18, 19, 20, 21, 22, 23, 24] : List Int).getD (p.op % (([2, 3, 9, 10, 11, 12, 13, 14, 15, 16, 17, 18, 19, 20, 21, 22, 23, 24] : List Int).length)) 0)), (8, vi (widthN p.width)), (9, .ptr 109 0 0 0)], [(104, .cells [vi 0, vi 0, vi 0, .v (.slice none 0 0), .v (.int .u64 0), vi 0]), (109, .cells [vi 2, vi (([2, 3, 9, 10, 11, 12, 13, 14, 15, 16, 17, 18, 19, 20, 21, 22, 23, 24] : List Int).getD (p.op % (([2, 3, 9, 10, 11, 12, 13, 14, 15, 16, 17, 18, 19, 20, 21, 22, 23, 24] : List Int).length)) 0), vi 0, .slc 138 1 0 (([pickN n.widths (widthN p.width) p.a, pickN n.widths (widthN p.width) p.b] : List Int).length), .v (.int .u64 0), vi 0]), (138, .rows 1 (([pickN n.widths (widthN p.width) p.a, pickN n.widths (widthN p.width) p.b] : List Int).map irow))]⟩) (Le.mk (.c (.c (.c (.c (.nil))))) (.c (.c (.c (.nil))))) (.sr ?_))
 refine .mv ?_
 refine .callP ok77 (refIsCompare_spec (w := (([2, 3, 9, 10, 11, 12, 13, 14, 15, 16, 17, 18, 19, 20, 21, 22, 23, 24] : List Int).getD (p.op % (([2, 3, 9, 10, 11, 12, 13, 14, 15, 16, 17, 18, 19, 20, 21, 22, 23, 24] : List Int).length)) 0))) rfl (.keep rfl rfl .nil) dcd rfl (.nil ?_)
 refine .condD rfl (fun c41 => ?_) (fun c41 => ?_)
 refine .region ?_
 refine .an ?_
 refine .nil (.le (st' := ⟨[(4, .ptr 104 0 0 0), (8, vi 1), (9, .ptr 109 0 0 0)], [(104, .cells [vi 0, vi 0, vi 0, .v (.slice none 0 0), .v (.int .u64 0), vi 0]), (109, .cells [vi 2, vi (([2, 3, 9, 10, 11, 12, 13, 14, 15, 16, 17, 18, 19, 20, 21, 22, 23, 24] : List Int).getD (p.op % (([2, 3, 9, 10, 11, 12, 13, 14, 15, 16, 17, 18, 19, 20, 21, 22, 23, 24] : List Int).length)) 0), vi 0, .slc 138 1 0 (([pickN n.widths (widthN p.width) p.a, pickN n.widths (widthN p.width) p.b] : List Int).length), .v (.int .u64 0), vi 0]), (138, .rows 1 (([pickN n.widths (widthN p.width) p.a, pickN n.widths (widthN p.width) p.b] : List Int).map irow))]⟩) (Le.mk (.c (.c (.c (.nil)))) (.c (.c (.c (.nil))))) ?_)
 refine .sr (.vl (Y.loadA sh39 rfl rfl (nbE rfl) rfl rfl) ?_)
 refine .mv ?_
 refine .storeC si39 rfl rfl rfl rfl rfl rfl (nbE rfl) rfl ?_
 refine .an ?_
 refine .nil (.ret ?_)
 exact ⟨_, rfl, _, _, _, Sh.ownT (d := 0) 3 138 rfl rfl rfl rfl (by first | rfl | exact len_map rfl | exact len_map om) rfl dcd, rfl, rfl, (⟨2, ([2, 3, 9, 10, 11, 12, 13, 14, 15, 16, 17, 18, 19, 20, 21, 22, 23, 24] : List Int).getD (p.op % (([2, 3, 9, 10, 11, 12, 13, 14, 15, 16, 17, 18, 19, 20, 21, 22, 23, 24] : List Int).length)) 0, 0, ([pickN n.widths (widthN p.width) p.a, pickN n.widths (widthN p.width) p.b] : List Int), 0, 0⟩ : Cell), _, op_two hg (ops_in _) c42 c64 (.inl ⟨c41, rfl⟩), rfl, rfl⟩
 refine .skip (.le (st' := ⟨[(4, .ptr 104 0 0 0), (8, vi (widthN p.width)), (9, .ptr 109 0 0 0)], [(104, .cells [vi 0, vi 0, vi 0, .v (.slice none 0 0), .v (.int .u64 0), vi 0]), (109, .cells [vi 2, vi (([2, 3, 9, 10, 11, 12, 13, 14, 15, 16, 17, 18, 19, 20, 21, 22, 23, 24] : List Int).getD (p.op % (([2, 3, 9, 10, 11, 12, 13, 14, 15, 16, 17, 18, 19, 20, 21, 22, 23, 24] : List Int).length)) 0), vi 0, .slc 138 1 0 (([pickN n.widths (widthN p.width) p.a, pickN n.widths (widthN p.width) p.b] : List Int).length), .v (.int .u64 0), vi 0]), (138, .rows 1 (([pickN n.widths (widthN p.width) p.a, pickN n.widths (widthN p.width) p.b] : List Int).map irow))]⟩) (Le.mk (.c (.c (.c (.nil)))) (.c (.c (.c (.nil))))) ?_)
 refine .sr (.vl (Y.loadA sh39 rfl rfl (nbE rfl) rfl rfl) ?_)
 refine .mv ?_
 refine .storeC si39 rfl rfl rfl rfl rfl rfl (nbE rfl) rfl ?_
 refine .an ?_
 refine .nil (.ret ?_)
 exact ⟨_, rfl, _, _, _, Sh.ownT (d := 0) 3 138 rfl rfl rfl rfl (by first | rfl | exact len_map rfl | exact len_map om) rfl dcd, rfl, rfl, (⟨2, ([2, 3, 9, 10, 11, 12, 13, 14, 15, 16, 17, 18, 19, 20, 21, 22, 23, 24] : List Int).getD (p.op % (([2, 3, 9, 10, 11, 12, 13, 14, 15, 16, 17, 18, 19, 20, 21, 22, 23, 24] : List Int).length)) 0, 0, ([pickN n.widths (widthN p.width) p.a, pickN n.widths (widthN p.width) p.b] : List Int), 0, 0⟩ : Cell), _, op_two hg (ops_in _) c42 c64 (.inr ⟨c41, rfl⟩), rfl, rfl⟩
theorem part_spec {n : Netlist} {p : Prt} (hn : n.widths.length ≤ 1048576) (h0 : 0 < n.widths.length) (hp : p.Ok) (hg : Ground n) (hi : n.ins.length ≤ 1048576) : ACalls Try.prog 54 [.agg (Netlist.prow n), .agg (Prt.row p)] [] [] (fun r o => ∃ c w, PartP n c w ∧ r = .tup [.agg (Cell.orow c), vi w] ∧ o = []) := by
 refine ACalls.ofS Try.func54 rfl rfl rfl (n := 208) dcd (nbE rfl) ?_
 have hp1 := hp.kind; have hp2 := hp.op; have hp3 := hp.width; have hp4 := hp.a; have hp5 := hp.b; have hp6 := hp.d; have hp7 := hp.num; have hm1 := Nat.mod_lt p.a h0; have hm2 := Nat.mod_lt p.b h0
 refine .sr (.box 102 rfl rfl rfl rfl rfl dcd (.box 103 rfl rfl rfl rfl rfl dcd ?_))
 refine .alloc 104 ze39 rfl rfl dcd ?_
 refine .an ?_
 refine .nil (.seq (.sh (Sh.freezeO 102 rfl rfl) ?_))
 refine .sh (Sh.freezeO 103 rfl rfl) (.region ?_)
 refine .fa fl88_2 ?_
 refine .ld sh5 ?_
 refine .callP ok53 (width_spec (k := p.width)) rfl (.keep rfl rfl .nil) dcd rfl ?_
 refine .an ?_
 refine .nil (.sr ?_)
 refine .fa fl88_0 ?_
 refine .ld sh5 ?_
 refine .vl (Y.remI rfl rfl oms) (.vl (Y.convK ii5 ii3 rfl (by first | rfl | exact IntWalk.i64_in _ om)) (.vl (Y.addI rfl rfl oms) ?_))
 refine .vl (Y.build pl39 ze39 rfl rfl rfl) (.alloc 107 ze39 rfl rfl dcd (.storeC si39 rfl rfl rfl rfl rfl rfl (nbE rfl) rfl ?_))
 refine .nil (.seq (.regionS rfl krf ?_))
 refine .val (Y.fieldAddr fl88_3 rfl rfl) dcd (.val (Y.indexP ar86 rfl rfl (m := 0) rfl om rfl) dcd (.val (Y.load sh5 rfl rfl rfl rfl) dcd ?_))
 refine .val (Y.fieldAddr fl88_3 rfl rfl) dcd (.val (Y.indexP ar86 rfl rfl (m := 1) rfl om rfl) dcd (.val (Y.load sh5 rfl rfl rfl rfl) dcd ?_))
 refine .val (Y.fieldAddr fl88_3 rfl rfl) dcd (.val (Y.indexP ar86 rfl rfl (m := 2) rfl om rfl) dcd (.val (Y.load sh5 rfl rfl rfl rfl) dcd ?_))
 refine .val (Y.assign rfl rfl) dcd (.val (Y.assign rfl rfl) dcd (.val (Y.assign rfl rfl) dcd ?_))
 refine .nil (.le (st' := ⟨[(2, .fp (Netlist.prow n) 0), (3, .fp (Prt.row p) 0), (4, .ptr 104 0 0 0), (6, vi (widthN p.width)), (7, .ptr 107 0 0 0), (8, .v (.int .u8 ((p.a : Nat) : Int))), (9, .v (.int .u8 ((p.b : Nat) : Int))), (10, .v (.int .u8 ((p.d : Nat) : Int)))], [(104, .cells [vi 0, vi 0, vi 0, .v (.slice none 0 0), .v (.int .u64 0), vi 0]), (107, .cells [vi (1 + (((p.kind : Nat) : Int) % 10)), vi 0, vi (-1), .v (.slice none 0 0), .v (.int .u64 0), vi 0])]⟩) (Le.mk (.c (.c (.c (.c (.c (.c (.c (.c (.nil))))))))) (.c (.c (.nil)))) ?_)
 refine .seq (.sr ?_)
 refine .fa fl39_0 ?_
 refine .ld sh3 ?_
 refine .nil (.block (.sr ?_))
 refine .vl (Y.eql rfl rfl) ?_
 refine .an ?_
 refine .nil ?_
 refine .condD rfl (fun c67 => ?_) (fun c67 => ?_)
 refine .region ?_
 refine .mv ?_
 refine .fa fl88_4 ?_
 refine .ld sh37 ?_
 refine .callP ok26 (rfit_spec (w := (widthN p.width)) (x := p.num) (om)) rfl (.keep rfl rfl (.keep rfl rfl .nil)) dcd rfl ?_
 refine .fa fl39_4 ?_
 refine .storeC si37 rfl rfl rfl rfl rfl rfl (nbE rfl) rfl (.nil ?_)
 refine .le (st' := ⟨[(4, .ptr 104 0 0 0), (6, vi (widthN p.width)), (7, .ptr 107 0 0 0)], [(104, .cells [vi 0, vi 0, vi 0, .v (.slice none 0 0), .v (.int .u64 0), vi 0]), (107, .cells [vi (1 + (((p.kind : Nat) : Int) % 10)), vi 0, vi (-1), .v (.slice none 0 0), .v (.int .u64 ((fitN (widthN p.width) p.num : Nat) : Int)), vi 0])]⟩) (Le.mk (.c (.c (.c (.nil)))) (.c (.c (.nil)))) ?_
 refine .sr (.vl (Y.loadA sh39 rfl rfl (nbE rfl) rfl rfl) ?_)
 refine .mv ?_
 refine .storeC si39 rfl rfl rfl rfl rfl rfl (nbE rfl) rfl ?_
 refine .an ?_
 refine .nil (.sh (Sh.nilCell 104 399 1 3 rfl rfl rfl rfl dcd) (.ret ?_))
 exact ⟨_, rfl, _, _, _, Sh.ownT (d := 0) 3 399 rfl rfl rfl rfl (by first | rfl | exact len_map rfl | exact len_map om) rfl dcd, rfl, rfl, (⟨1 + (((p.kind : Nat) : Int) % 10), 0, -1, ([] : List Int), fitN (widthN p.width) p.num, 0⟩ : Cell), _, pt_const hg om, rfl, rfl⟩
 refine .sr (.vl (Y.eql rfl rfl) ?_)
 refine .an ?_
 refine .nil ?_
 refine .condD rfl (fun c74 => ?_) (fun c74 => ?_)
 refine .sr (.vl (Y.loadA sh27 rfl rfl (nbE rfl) rfl rfl) (.vl (Y.loadA sh88 rfl rfl (nbE rfl) rfl rfl) ?_))
 refine .callV ok91 (operator_spec (n := n) (p := p) hn h0 hp hg hi) rfl (.keep rfl rfl (.keep rfl rfl .nil)) dcd ?_
 rintro _ ⟨cO78, wO78, hO78, rfl, _⟩
 refine ⟨rfl, ?_⟩
 refine .extractU rfl rfl dcd (.vl (Y.extract rfl rfl rfl) (.sh (Sh.nameN (d := 79) 3 2083 cO78.args.length rfl rfl rfl dcd (len_map rfl)) ?_))
 refine .storeC si39 rfl rfl rfl rfl rfl rfl (nbE rfl) rfl ?_
 refine .an ?_
 refine .nil (.ret ?_)
 exact ⟨_, rfl, _, _, _, Sh.ownT (d := 0) 3 2083 rfl rfl rfl rfl (by first | rfl | exact len_map rfl | exact len_map om) rfl dcd, rfl, rfl, cO78, _, hO78, rfl, rfl⟩
 refine .sr (.vl (Y.eql rfl rfl) ?_)
 refine .an ?_
 refine .nil ?_
 refine .condD rfl (fun c81 => ?_) (fun c81 => ?_)
 refine .regionHeld0 rfl (.loadA 0 rfl krf sh27 rfl rfl rfl (nbE rfl) rfl rfl dcd (.blind 1 rfl krf (Blind.move rfl rfl) dcd ?_))
 refine .loadA 3 rfl krf sh27 rfl rfl rfl (nbE rfl) rfl rfl dcd (.blind 4 rfl krf (Blind.move rfl rfl) dcd (.blind 5 rfl krf (Blind.move rfl rfl) dcd ?_))
 refine .loadA 7 rfl krf sh27 rfl rfl rfl (nbE rfl) rfl rfl dcd (.blind 8 rfl krf (Blind.move rfl rfl) dcd (.loadA 10 rfl krf sh27 rfl rfl rfl (nbE rfl) rfl rfl dcd ?_))
 refine .blind 11 rfl krf (Blind.move rfl rfl) dcd (.blind 12 rfl krf (Blind.fieldAddr fl88_1 rfl rfl) dcd (.load 13 rfl krf sh5 rfl rfl rfl rfl rfl dcd ?_))
 refine .go0 (.one 2 rfl krf (.callP ok56 (pick_spec (n := (⟨n.name, n.widths, n.cells, n.ins, n.mems, n.streams, [], [], n.freeze, n.done, []⟩ : Netlist)) (w := 1) (k := p.a) (by show (n.widths).length ≤ 1048576; omega) om) rfl (.keep rfl rfl (.keep rfl rfl (.keep rfl rfl .nil))) dcd rfl ?_))
 refine .nil ⟨rfl, ?_⟩
 refine .one 6 rfl krf (.callP ok56 (pick_spec (n := (⟨n.name, n.widths, n.cells, n.ins, n.mems, n.streams, [], [], n.freeze, n.done, []⟩ : Netlist)) (w := (widthN p.width)) (k := p.b) (by show (n.widths).length ≤ 1048576; omega) om) rfl (.keep rfl rfl (.keep rfl rfl (.keep rfl rfl .nil))) dcd rfl ?_)
 refine .nil ⟨rfl, ?_⟩
 refine .one 9 rfl krf (.callP ok56 (pick_spec (n := (⟨n.name, n.widths, n.cells, n.ins, n.mems, n.streams, [], [], n.freeze, n.done, []⟩ : Netlist)) (w := 1) (k := p.d) (by show (n.widths).length ≤ 1048576; omega) om) rfl (.keep rfl rfl (.keep rfl rfl (.keep rfl rfl .nil))) dcd rfl ?_)
 refine .nil ⟨rfl, ?_⟩
 refine .one 14 rfl krf (.callP ok56 (pick_spec (n := (⟨n.name, n.widths, n.cells, n.ins, n.mems, n.streams, [], [], n.freeze, n.done, []⟩ : Netlist)) (w := (widthN p.width)) (k := p.op) (by show (n.widths).length ≤ 1048576; omega) om) rfl (.keep rfl rfl (.keep rfl rfl (.keep rfl rfl .nil))) dcd rfl ?_)
 refine .nil ⟨rfl, ?_⟩
 refine .one 15 rfl krf ?_
 refine .buildSlice (([pickN n.widths 1 p.a, pickN n.widths (widthN p.width) p.b, pickN n.widths 1 p.d, pickN n.widths (widthN p.width) p.op] : List Int).map irow) sl22 ze3 rfl rfl rfl rfl rfl (uniform_map (s := 1) (f := irow) (fun _ => rfl)) rfl rfl rfl dcd ?_
 refine .nil ⟨rfl, ?_⟩
 refine .one 16 rfl krf ?_
 refine .fa fl39_3 ?_
 refine .nil ⟨rfl, ?_⟩
 refine .one 17 rfl krf (.sh (Sh.adoptE (d := 98) (n := ([pickN n.widths 1 p.a, pickN n.widths (widthN p.width) p.b, pickN n.widths 1 p.d, pickN n.widths (widthN p.width) p.op] : List Int).length) 198 (([pickN n.widths 1 p.a, pickN n.widths (widthN p.width) p.b, pickN n.widths 1 p.d, pickN n.widths (widthN p.width) p.op] : List Int).map irow) rfl (by first | rfl | exact rep_map rfl) (len_map rfl) dcd) (.storeC si22 rfl rfl rfl rfl rfl rfl (nbE rfl) rfl ?_))
 refine .nil ⟨rfl, ?_⟩
 refine .done krf (.le (st' := ⟨[(4, .ptr 104 0 0 0), (6, vi (widthN p.width)), (7, .ptr 107 0 0 0)], [(104, .cells [vi 0, vi 0, vi 0, .v (.slice none 0 0), .v (.int .u64 0), vi 0]), (107, .cells [vi (1 + (((p.kind : Nat) : Int) % 10)), vi 0, vi (-1), .slc 198 1 0 (([pickN n.widths 1 p.a, pickN n.widths (widthN p.width) p.b, pickN n.widths 1 p.d, pickN n.widths (widthN p.width) p.op] : List Int).length), .v (.int .u64 0), vi 0]), (198, .rows 1 (([pickN n.widths 1 p.a, pickN n.widths (widthN p.width) p.b, pickN n.widths 1 p.d, pickN n.widths (widthN p.width) p.op] : List Int).map irow))]⟩) (Le.mk (.c (.c (.c (.nil)))) (.c (.c (.c (.nil))))) ?_)
 refine .sr (.vl (Y.loadA sh39 rfl rfl (nbE rfl) rfl rfl) ?_)
 refine .mv ?_
 refine .storeC si39 rfl rfl rfl rfl rfl rfl (nbE rfl) rfl ?_
 refine .an ?_
 refine .nil (.ret ?_)
 exact ⟨_, rfl, _, _, _, Sh.ownT (d := 0) 3 198 rfl rfl rfl rfl (by first | rfl | exact len_map rfl | exact len_map om) rfl dcd, rfl, rfl, (⟨1 + (((p.kind : Nat) : Int) % 10), 0, -1, ([pickN n.widths 1 p.a, pickN n.widths (widthN p.width) p.b, pickN n.widths 1 p.d, pickN n.widths (widthN p.width) p.op] : List Int), 0, 0⟩ : Cell), _, pt_mux hg om, rfl, rfl⟩
 refine .sr (.vl (Y.eql rfl rfl) ?_)
 refine .an ?_
 refine .nil ?_
 refine .condD rfl (fun c100 => ?_) (fun c100 => ?_)
 refine .sr ?_
 refine .mv ?_
 refine .fa fl88_4 ?_
 refine .ld sh37 ?_
 refine .callP ok26 (rfit_spec (w := (widthN p.width)) (x := p.num) (om)) rfl (.keep rfl rfl (.keep rfl rfl .nil)) dcd rfl ?_
 refine .fa fl39_4 ?_
 refine .storeC si37 rfl rfl rfl rfl rfl rfl (nbE rfl) rfl (.nil ?_)
 refine .le (st' := ⟨[(2, .fp (Netlist.prow n) 0), (4, .ptr 104 0 0 0), (6, vi (widthN p.width)), (7, .ptr 107 0 0 0), (8, .v (.int .u8 ((p.a : Nat) : Int))), (9, .v (.int .u8 ((p.b : Nat) : Int)))], [(104, .cells [vi 0, vi 0, vi 0, .v (.slice none 0 0), .v (.int .u64 0), vi 0]), (107, .cells [vi (1 + (((p.kind : Nat) : Int) % 10)), vi 0, vi (-1), .v (.slice none 0 0), .v (.int .u64 ((fitN (widthN p.width) p.num : Nat) : Int)), vi 0])]⟩) (Le.mk (.c (.c (.c (.c (.c (.c (.nil))))))) (.c (.c (.nil)))) ?_
 refine .regionHeld0 rfl (.loadA 0 rfl krf sh27 rfl rfl rfl (nbE rfl) rfl rfl dcd (.blind 1 rfl krf (Blind.move rfl rfl) dcd ?_))
 refine .loadA 3 rfl krf sh27 rfl rfl rfl (nbE rfl) rfl rfl dcd (.blind 4 rfl krf (Blind.move rfl rfl) dcd (.blind 5 rfl krf (Blind.move rfl rfl) dcd ?_))
 refine .go0 (.one 2 rfl krf (.callP ok56 (pick_spec (n := (⟨n.name, n.widths, n.cells, n.ins, n.mems, n.streams, [], [], n.freeze, n.done, []⟩ : Netlist)) (w := 1) (k := p.a) (by show (n.widths).length ≤ 1048576; omega) om) rfl (.keep rfl rfl (.keep rfl rfl (.keep rfl rfl .nil))) dcd rfl ?_))
 refine .nil ⟨rfl, ?_⟩
 refine .one 6 rfl krf (.callP ok56 (pick_spec (n := (⟨n.name, n.widths, n.cells, n.ins, n.mems, n.streams, [], [], n.freeze, n.done, []⟩ : Netlist)) (w := (widthN p.width)) (k := p.b) (by show (n.widths).length ≤ 1048576; omega) om) rfl (.keep rfl rfl (.keep rfl rfl (.keep rfl rfl .nil))) dcd rfl ?_)
 refine .nil ⟨rfl, ?_⟩
 refine .one 7 rfl krf ?_
 refine .buildSlice (([pickN n.widths 1 p.a, pickN n.widths (widthN p.width) p.b] : List Int).map irow) sl22 ze3 rfl rfl rfl rfl rfl (uniform_map (s := 1) (f := irow) (fun _ => rfl)) rfl rfl rfl dcd ?_
 refine .nil ⟨rfl, ?_⟩
 refine .one 8 rfl krf ?_
 refine .fa fl39_3 ?_
 refine .nil ⟨rfl, ?_⟩
 refine .one 9 rfl krf (.sh (Sh.adoptE (d := 114) (n := ([pickN n.widths 1 p.a, pickN n.widths (widthN p.width) p.b] : List Int).length) 214 (([pickN n.widths 1 p.a, pickN n.widths (widthN p.width) p.b] : List Int).map irow) rfl (by first | rfl | exact rep_map rfl) (len_map rfl) dcd) (.storeC si22 rfl rfl rfl rfl rfl rfl (nbE rfl) rfl ?_))
 refine .nil ⟨rfl, ?_⟩
 refine .done krf (.le (st' := ⟨[(4, .ptr 104 0 0 0), (6, vi (widthN p.width)), (7, .ptr 107 0 0 0)], [(104, .cells [vi 0, vi 0, vi 0, .v (.slice none 0 0), .v (.int .u64 0), vi 0]), (107, .cells [vi (1 + (((p.kind : Nat) : Int) % 10)), vi 0, vi (-1), .slc 214 1 0 (([pickN n.widths 1 p.a, pickN n.widths (widthN p.width) p.b] : List Int).length), .v (.int .u64 ((fitN (widthN p.width) p.num : Nat) : Int)), vi 0]), (214, .rows 1 (([pickN n.widths 1 p.a, pickN n.widths (widthN p.width) p.b] : List Int).map irow))]⟩) (Le.mk (.c (.c (.c (.nil)))) (.c (.c (.c (.nil))))) ?_)
 refine .sr (.vl (Y.loadA sh39 rfl rfl (nbE rfl) rfl rfl) ?_)
 refine .mv ?_
 refine .storeC si39 rfl rfl rfl rfl rfl rfl (nbE rfl) rfl ?_
 refine .an ?_
 refine .nil (.ret ?_)
 exact ⟨_, rfl, _, _, _, Sh.ownT (d := 0) 3 214 rfl rfl rfl rfl (by first | rfl | exact len_map rfl | exact len_map om) rfl dcd, rfl, rfl, (⟨1 + (((p.kind : Nat) : Int) % 10), 0, -1, ([pickN n.widths 1 p.a, pickN n.widths (widthN p.width) p.b] : List Int), fitN (widthN p.width) p.num, 0⟩ : Cell), _, pt_reg hg om, rfl, rfl⟩
 refine .sr (.vl (Y.eql rfl rfl) ?_)
 refine .an ?_
 refine .nil ?_
 refine .condD rfl (fun c116 => ?_) (fun c116 => ?_)
 refine .sr ?_
 refine .fa fl88_1 ?_
 refine .ld sh5 ?_
 refine .vl (Y.remI rfl rfl oms) (.vl (Y.convK ii5 ii3 rfl (by first | rfl | exact IntWalk.i64_in _ om)) (.vl (Y.addI rfl rfl oms) ?_))
 refine .fa fl39_1 ?_
 refine .storeC si3 rfl rfl rfl rfl rfl rfl (nbE rfl) rfl (.nil (.sr ?_))
 refine .fa fl88_4 ?_
 refine .ld sh37 ?_
 refine .vl (Y.remN (a := p.num) (b := 4) rfl rfl om) (.vl (Y.addN (a := 1) (b := (p.num % 4)) rfl rfl) ?_)
 refine .fa fl39_4 ?_
 refine .storeC si37 rfl rfl rfl rfl rfl rfl (nbE rfl) rfl (.nil ?_)
 refine .le (st' := ⟨[(2, .fp (Netlist.prow n) 0), (4, .ptr 104 0 0 0), (6, vi (widthN p.width)), (7, .ptr 107 0 0 0), (8, .v (.int .u8 ((p.a : Nat) : Int))), (9, .v (.int .u8 ((p.b : Nat) : Int)))], [(104, .cells [vi 0, vi 0, vi 0, .v (.slice none 0 0), .v (.int .u64 0), vi 0]), (107, .cells [vi (1 + (((p.kind : Nat) : Int) % 10)), vi (4 + (((p.op : Nat) : Int) % 5)), vi (-1), .v (.slice none 0 0), .v (.int .u64 (((1 + (p.num % 4)) % 18446744073709551616 : Nat) : Int)), vi 0])]⟩) (Le.mk (.c (.c (.c (.c (.c (.c (.nil))))))) (.c (.c (.nil)))) ?_
 refine .regionHeld0 rfl (.loadA 0 rfl krf sh27 rfl rfl rfl (nbE rfl) rfl rfl dcd (.blind 1 rfl krf (Blind.move rfl rfl) dcd ?_))
 refine .blind 2 rfl krf (Blind.move rfl rfl) dcd (.loadA 4 rfl krf sh27 rfl rfl rfl (nbE rfl) rfl rfl dcd (.blind 5 rfl krf (Blind.move rfl rfl) dcd ?_))
 refine .blind 6 rfl krf (Blind.move rfl rfl) dcd (.go0 (.one 3 rfl krf ?_))
 refine .callP ok56 (pick_spec (n := (⟨n.name, n.widths, n.cells, n.ins, n.mems, n.streams, [], [], n.freeze, n.done, []⟩ : Netlist)) (w := (widthN p.width)) (k := p.a) (by show (n.widths).length ≤ 1048576; omega) om) rfl (.keep rfl rfl (.keep rfl rfl (.keep rfl rfl .nil))) dcd rfl ?_
 refine .nil ⟨rfl, ?_⟩
 refine .one 7 rfl krf (.callP ok56 (pick_spec (n := (⟨n.name, n.widths, n.cells, n.ins, n.mems, n.streams, [], [], n.freeze, n.done, []⟩ : Netlist)) (w := (widthN p.width)) (k := p.b) (by show (n.widths).length ≤ 1048576; omega) om) rfl (.keep rfl rfl (.keep rfl rfl (.keep rfl rfl .nil))) dcd rfl ?_)
 refine .nil ⟨rfl, ?_⟩
 refine .one 8 rfl krf ?_
 refine .buildSlice (([pickN n.widths (widthN p.width) p.a, pickN n.widths (widthN p.width) p.b] : List Int).map irow) sl22 ze3 rfl rfl rfl rfl rfl (uniform_map (s := 1) (f := irow) (fun _ => rfl)) rfl rfl rfl dcd ?_
 refine .nil ⟨rfl, ?_⟩
 refine .one 9 rfl krf ?_
 refine .fa fl39_3 ?_
 refine .nil ⟨rfl, ?_⟩
 refine .one 10 rfl krf (.sh (Sh.adoptE (d := 137) (n := ([pickN n.widths (widthN p.width) p.a, pickN n.widths (widthN p.width) p.b] : List Int).length) 237 (([pickN n.widths (widthN p.width) p.a, pickN n.widths (widthN p.width) p.b] : List Int).map irow) rfl (by first | rfl | exact rep_map rfl) (len_map rfl) dcd) (.storeC si22 rfl rfl rfl rfl rfl rfl (nbE rfl) rfl ?_))
 refine .nil ⟨rfl, ?_⟩
 refine .done krf (.le (st' := ⟨[(4, .ptr 104 0 0 0), (6, vi (widthN p.width)), (7, .ptr 107 0 0 0)], [(104, .cells [vi 0, vi 0, vi 0, .v (.slice none 0 0), .v (.int .u64 0), vi 0]), (107, .cells [vi (1 + (((p.kind : Nat) : Int) % 10)), vi (4 + (((p.op : Nat) : Int) % 5)), vi (-1), .slc 237 1 0 (([pickN n.widths (widthN p.width) p.a, pickN n.widths (widthN p.width) p.b] : List Int).length), .v (.int .u64 (((1 + (p.num % 4)) % 18446744073709551616 : Nat) : Int)), vi 0]), (237, .rows 1 (([pickN n.widths (widthN p.width) p.a, pickN n.widths (widthN p.width) p.b] : List Int).map irow))]⟩) (Le.mk (.c (.c (.c (.nil)))) (.c (.c (.c (.nil))))) ?_)
 refine .sr (.vl (Y.loadA sh39 rfl rfl (nbE rfl) rfl rfl) ?_)
 refine .mv ?_
 refine .storeC si39 rfl rfl rfl rfl rfl rfl (nbE rfl) rfl ?_
 refine .an ?_
 refine .nil (.ret ?_)
 exact ⟨_, rfl, _, _, _, Sh.ownT (d := 0) 3 237 rfl rfl rfl rfl (by first | rfl | exact len_map rfl | exact len_map om) rfl dcd, rfl, rfl, (⟨1 + (((p.kind : Nat) : Int) % 10), 4 + (((p.op : Nat) : Int) % 5), -1, ([pickN n.widths (widthN p.width) p.a, pickN n.widths (widthN p.width) p.b] : List Int), (1 + (p.num % 4)) % 18446744073709551616, 0⟩ : Cell), _, pt_unit hg om om om, rfl, rfl⟩
 refine .seq (.sr (.vl (Y.eql rfl rfl) ?_))
 refine .an ?_
 refine .nil ?_
 refine .condKD rfl (fun c139 => ?_) (fun c139 => ?_)
 refine .skip (.condT rfl (.seq ?_))
 refine .sr ?_
 refine .fa fl27_4 ?_
 refine .ld sh24 ?_
 refine .vl (Y.len (n := n.mems.length) sl24 rfl (congrArg some (List.length_map ..))) (.vl (Y.eql rfl rfl) (.nil ?_))
 refine .condD rfl (fun c145 => ?_) (fun c145 => ?_)
 refine .sr (.vl (Y.build pl39 ze39 rfl rfl rfl) (.storeC si39 rfl rfl rfl rfl rfl rfl (nbE rfl) rfl ?_))
 refine .an ?_
 refine .nil (.sh (Sh.nilCell 104 399 1 3 rfl rfl rfl rfl dcd) (.ret ?_))
 exact ⟨_, rfl, _, _, _, Sh.ownT (d := 0) 3 399 rfl rfl rfl rfl (by first | rfl | exact len_map rfl | exact len_map om) rfl dcd, rfl, rfl, (⟨0, 0, 0, ([] : List Int), 0, 0⟩ : Cell), _, pt_none hg, rfl, rfl⟩
 refine .skip (.sr ?_)
 refine .fa fl88_1 ?_
 refine .ld sh5 ?_
 refine .vl (Y.convK ii5 ii3 rfl (by first | rfl | exact IntWalk.i64_in _ om)) ?_
 refine .fa fl27_4 ?_
 refine .ld sh24 ?_
 refine .vl (Y.len (n := n.mems.length) sl24 rfl (congrArg some (List.length_map ..))) (.vl (Y.remI rfl rfl oms) ?_)
 refine .fa fl39_5 ?_
 refine .storeC si3 rfl rfl rfl rfl rfl rfl (nbE rfl) rfl (.nil (.seq ?_))
 have hmm : p.op % n.mems.length < n.mems.length := Nat.mod_lt _ om
 refine .region ?_
 refine .fa fl27_4 ?_
 refine .ld sh24 ?_
 refine .fa fl39_5 ?_
 refine .ld sh3 ?_
 refine .vl (Y.indexF (m := p.op % n.mems.length) sl24 rfl rfl rlo (row_getD (d := default) om)) ?_
 refine .fa fl48_1 ?_
 refine .ld sh3 ?_
 refine .an ?_
 refine .nil (.le (st' := ⟨[(2, .fp (Netlist.prow n) 0), (4, .ptr 104 0 0 0), (6, vi ((n.mems.getD (p.op % n.mems.length) default).width)), (7, .ptr 107 0 0 0), (8, .v (.int .u8 ((p.a : Nat) : Int))), (9, .v (.int .u8 ((p.b : Nat) : Int))), (10, .v (.int .u8 ((p.d : Nat) : Int)))], [(104, .cells [vi 0, vi 0, vi 0, .v (.slice none 0 0), .v (.int .u64 0), vi 0]), (107, .cells [vi (1 + (((p.kind : Nat) : Int) % 10)), vi 0, vi (-1), .v (.slice none 0 0), .v (.int .u64 0), vi (((p.op : Nat) : Int) % ((n.mems.length : Nat) : Int))])]⟩) (Le.mk (.c (.c (.c (.c (.c (.c (.c (.nil)))))))) (.c (.c (.nil)))) ?_)
 refine .seq (.regionHeld0 rfl (.loadA 0 rfl krf sh27 rfl rfl rfl (nbE rfl) rfl rfl dcd ?_))
 refine .blind 1 rfl krf (Blind.move rfl rfl) dcd (.blind 3 rfl krf (Blind.move rfl rfl) dcd ?_)
 refine .blind 4 rfl krf (Blind.convK ii5 ii3 rfl (by first | rfl | exact IntWalk.i64_in _ om)) dcd ?_
 refine .blind 5 rfl krf (Blind.fieldAddr fl27_1 rfl rfl) dcd (.load 6 rfl krf sh22 rfl rfl rfl rfl rfl dcd (.blind 7 rfl krf (Blind.len (n := n.widths.length) sl22 rfl (congrArg some (List.length_map ..))) dcd ?_))
 refine .blind 8 rfl krf (Blind.remI rfl rfl om) dcd ?_
 refine .go0 (.one 2 rfl krf (.callP ok56 (pick_spec (n := (⟨n.name, n.widths, n.cells, n.ins, n.mems, n.streams, [], [], n.freeze, n.done, []⟩ : Netlist)) (w := 1) (k := p.a) (by show (n.widths).length ≤ 1048576; omega) om) rfl (.keep rfl rfl (.keep rfl rfl (.keep rfl rfl .nil))) dcd rfl ?_))
 refine .nil ⟨rfl, ?_⟩
 refine .one 9 rfl krf ?_
 refine .buildSlice (([pickN n.widths 1 p.a, ((p.b : Nat) : Int) % ((n.widths.length : Nat) : Int)] : List Int).map irow) sl22 ze3 rfl rfl rfl rfl rfl (uniform_map (s := 1) (f := irow) (fun _ => rfl)) rfl rfl rfl dcd ?_
 refine .nil ⟨rfl, ?_⟩
 refine .one 10 rfl krf ?_
 refine .fa fl39_3 ?_
 refine .nil ⟨rfl, ?_⟩
 refine .one 11 rfl krf (.sh (Sh.adoptE (d := 171) (n := ([pickN n.widths 1 p.a, ((p.b : Nat) : Int) % ((n.widths.length : Nat) : Int)] : List Int).length) 271 (([pickN n.widths 1 p.a, ((p.b : Nat) : Int) % ((n.widths.length : Nat) : Int)] : List Int).map irow) rfl (by first | rfl | exact rep_map rfl) (len_map rfl) dcd) (.storeC si22 rfl rfl rfl rfl rfl rfl (nbE rfl) rfl ?_))
 refine .nil ⟨rfl, ?_⟩
 refine .done krf (.le (st' := ⟨[(2, .fp (Netlist.prow n) 0), (4, .ptr 104 0 0 0), (6, vi ((n.mems.getD (p.op % n.mems.length) default).width)), (7, .ptr 107 0 0 0), (10, .v (.int .u8 ((p.d : Nat) : Int)))], [(104, .cells [vi 0, vi 0, vi 0, .v (.slice none 0 0), .v (.int .u64 0), vi 0]), (107, .cells [vi (1 + (((p.kind : Nat) : Int) % 10)), vi 0, vi (-1), .slc 271 1 0 (([pickN n.widths 1 p.a, ((p.b : Nat) : Int) % ((n.widths.length : Nat) : Int)] : List Int).length), .v (.int .u64 0), vi (((p.op : Nat) : Int) % ((n.mems.length : Nat) : Int))]), (271, .rows 1 (([pickN n.widths 1 p.a, ((p.b : Nat) : Int) % ((n.widths.length : Nat) : Int)] : List Int).map irow))]⟩) (Le.mk (.c (.c (.c (.c (.c (.nil)))))) (.c (.c (.c (.nil))))) (.sr ?_))
 refine .fa fl39_0 ?_
 refine .ld sh3 ?_
 refine .vl (Y.eql rfl rfl) (.nil ?_)
 refine .condD rfl (fun c175 => ?_) (fun c175 => ?_)
 refine .regionHeldJ0 (⟨[(4, .ptr 104 0 0 0), (6, .v (.int .i64 ((n.mems.getD (p.op % n.mems.length) default).width))), (7, .ptr 107 0 0 0)], [(104, .cells [.v (.int .i64 0), .v (.int .i64 0), .v (.int .i64 0), .v (.slice none 0 0), .v (.int .u64 0), .v (.int .i64 0)]), (107, .cells [.v (.int .i64 (1 + (((p.kind : Nat) : Int) % 10))), .v (.int .i64 0), .v (.int .i64 (-1)), .slc 271 1 0 ((([pickN n.widths 1 p.a, ((p.b : Nat) : Int) % ((n.widths.length : Nat) : Int)] : List Int) ++ ([pickN n.widths ((n.mems.getD (p.op % n.mems.length) default).width) p.d] : List Int)).length), .v (.int .u64 0), .v (.int .i64 (((p.op : Nat) : Int) % ((n.mems.length : Nat) : Int)))]), (271, .rows 1 ((([pickN n.widths 1 p.a, ((p.b : Nat) : Int) % ((n.widths.length : Nat) : Int)] : List Int) ++ ([pickN n.widths ((n.mems.getD (p.op % n.mems.length) default).width) p.d] : List Int)).map irow))]⟩) rfl ?_ ?_
 refine .blind 0 rfl krf (Blind.fieldAddr fl39_3 rfl rfl) dcd (.loadA 2 rfl krf sh27 rfl rfl rfl (nbE rfl) rfl rfl dcd (.blind 3 rfl krf (Blind.move rfl rfl) dcd ?_))
 refine .blind 4 rfl krf (Blind.move rfl rfl) dcd (.go0 ?_)
 refine .two 1 5 rfl rfl krf ?_ ?_
 refine .ld sh22 ?_
 refine .nil ⟨rfl, ?_⟩
 refine .one 5 rfl krf (.callP ok56 (pick_spec (n := (⟨n.name, n.widths, n.cells, n.ins, n.mems, n.streams, [], [], n.freeze, n.done, []⟩ : Netlist)) (w := ((n.mems.getD (p.op % n.mems.length) default).width)) (k := p.d) (by show (n.widths).length ≤ 1048576; omega) om) rfl (.keep rfl rfl (.keep rfl rfl (.keep rfl rfl .nil))) dcd rfl ?_)
 refine .nil ⟨rfl, ?_⟩
 refine .one 6 rfl krf ?_
 refine .buildSlice (([pickN n.widths ((n.mems.getD (p.op % n.mems.length) default).width) p.d] : List Int).map irow) sl22 ze3 rfl rfl rfl rfl rfl (uniform_map (s := 1) (f := irow) (fun _ => rfl)) rfl rfl rfl dcd ?_
 refine .nil ⟨rfl, ?_⟩
 refine .one 7 rfl krf (.appendE ((([pickN n.widths 1 p.a, ((p.b : Nat) : Int) % ((n.widths.length : Nat) : Int)] : List Int) ++ ([pickN n.widths ((n.mems.getD (p.op % n.mems.length) default).width) p.d] : List Int)).map irow) (([pickN n.widths 1 p.a, ((p.b : Nat) : Int) % ((n.widths.length : Nat) : Int)] : List Int) ++ ([pickN n.widths ((n.mems.getD (p.op % n.mems.length) default).width) p.d] : List Int)).length sl22 ze3 rfl rfl rfl rfl (app_le oms) (app_map oms) (app_n oms) oms oms dcd dcd ?_)
 refine .nil ⟨rfl, ?_⟩
 refine .one 8 rfl krf ?_
 refine .fa fl39_3 ?_
 refine .nil ⟨rfl, ?_⟩
 refine .one 9 rfl krf (.storeC si22 rfl rfl rfl rfl rfl rfl (nbE rfl) rfl ?_)
 refine .nil ⟨rfl, ?_⟩
 refine .done krf ?_
 exact Le.mk (.c (.c (.c (.nil)))) (.c (.c (.c (.nil))))
 refine .callP ok56 (pick_spec (n := (⟨n.name, n.widths, n.cells, n.ins, n.mems, n.streams, [], [], n.freeze, n.done, []⟩ : Netlist)) (w := ((n.mems.getD (p.op % n.mems.length) default).width)) (k := p.d) (by show (n.widths).length ≤ 1048576; omega) om) rfl (.keep rfl rfl (.keep rfl rfl (.keep rfl rfl .nil))) dcd rfl ?_
 refine .nil ⟨rfl, ?_⟩
 refine .two 1 6 rfl rfl krf ?_ ?_
 refine .ld sh22 ?_
 refine .nil ⟨rfl, ?_⟩
 refine .one 6 rfl krf ?_
 refine .buildSlice (([pickN n.widths ((n.mems.getD (p.op % n.mems.length) default).width) p.d] : List Int).map irow) sl22 ze3 rfl rfl rfl rfl rfl (uniform_map (s := 1) (f := irow) (fun _ => rfl)) rfl rfl rfl dcd ?_
 refine .nil ⟨rfl, ?_⟩
 refine .one 7 rfl krf (.appendE ((([pickN n.widths 1 p.a, ((p.b : Nat) : Int) % ((n.widths.length : Nat) : Int)] : List Int) ++ ([pickN n.widths ((n.mems.getD (p.op % n.mems.length) default).width) p.d] : List Int)).map irow) (([pickN n.widths 1 p.a, ((p.b : Nat) : Int) % ((n.widths.length : Nat) : Int)] : List Int) ++ ([pickN n.widths ((n.mems.getD (p.op % n.mems.length) default).width) p.d] : List Int)).length sl22 ze3 rfl rfl rfl rfl (app_le oms) (app_map oms) (app_n oms) oms oms dcd dcd ?_)
 refine .nil ⟨rfl, ?_⟩
 refine .one 8 rfl krf ?_
 refine .fa fl39_3 ?_
 refine .nil ⟨rfl, ?_⟩
 refine .one 9 rfl krf (.storeC si22 rfl rfl rfl rfl rfl rfl (nbE rfl) rfl ?_)
 refine .nil ⟨rfl, ?_⟩
 refine .done krf ?_
 exact Le.mk (.c (.c (.c (.nil)))) (.c (.c (.c (.nil))))
 refine .buildSlice (([pickN n.widths ((n.mems.getD (p.op % n.mems.length) default).width) p.d] : List Int).map irow) sl22 ze3 rfl rfl rfl rfl rfl (uniform_map (s := 1) (f := irow) (fun _ => rfl)) rfl rfl rfl dcd ?_
 refine .nil ⟨rfl, ?_⟩
 refine .one 1 rfl krf ?_
 refine .ld sh22 ?_
 refine .nil ⟨rfl, ?_⟩
 refine .one 7 rfl krf (.appendE ((([pickN n.widths 1 p.a, ((p.b : Nat) : Int) % ((n.widths.length : Nat) : Int)] : List Int) ++ ([pickN n.widths ((n.mems.getD (p.op % n.mems.length) default).width) p.d] : List Int)).map irow) (([pickN n.widths 1 p.a, ((p.b : Nat) : Int) % ((n.widths.length : Nat) : Int)] : List Int) ++ ([pickN n.widths ((n.mems.getD (p.op % n.mems.length) default).width) p.d] : List Int)).length sl22 ze3 rfl rfl rfl rfl (app_le oms) (app_map oms) (app_n oms) oms oms dcd dcd ?_)
 refine .nil ⟨rfl, ?_⟩
 refine .one 8 rfl krf ?_
 refine .fa fl39_3 ?_
 refine .nil ⟨rfl, ?_⟩
 refine .one 9 rfl krf (.storeC si22 rfl rfl rfl rfl rfl rfl (nbE rfl) rfl ?_)
 refine .nil ⟨rfl, ?_⟩
 refine .done krf ?_
 exact Le.mk (.c (.c (.c (.nil)))) (.c (.c (.c (.nil))))
 refine .le (st' := ⟨[(4, .ptr 104 0 0 0), (6, vi ((n.mems.getD (p.op % n.mems.length) default).width)), (7, .ptr 107 0 0 0)], [(104, .cells [vi 0, vi 0, vi 0, .v (.slice none 0 0), .v (.int .u64 0), vi 0]), (107, .cells [vi (1 + (((p.kind : Nat) : Int) % 10)), vi 0, vi (-1), .slc 271 1 0 ((([pickN n.widths 1 p.a, ((p.b : Nat) : Int) % ((n.widths.length : Nat) : Int)] : List Int) ++ ([pickN n.widths ((n.mems.getD (p.op % n.mems.length) default).width) p.d] : List Int)).length), .v (.int .u64 0), vi (((p.op : Nat) : Int) % ((n.mems.length : Nat) : Int))]), (271, .rows 1 ((([pickN n.widths 1 p.a, ((p.b : Nat) : Int) % ((n.widths.length : Nat) : Int)] : List Int) ++ ([pickN n.widths ((n.mems.getD (p.op % n.mems.length) default).width) p.d] : List Int)).map irow))]⟩) (Le.mk (.c (.c (.c (.nil)))) (.c (.c (.c (.nil))))) ?_
 refine .sr (.vl (Y.loadA sh39 rfl rfl (nbE rfl) rfl rfl) ?_)
 refine .mv ?_
 refine .storeC si39 rfl rfl rfl rfl rfl rfl (nbE rfl) rfl ?_
 refine .an ?_
 refine .nil (.ret ?_)
 exact ⟨_, rfl, _, _, _, Sh.ownT (d := 0) 3 271 rfl rfl rfl rfl (by first | rfl | exact len_map rfl | exact len_map om) rfl dcd, rfl, rfl, (⟨1 + (((p.kind : Nat) : Int) % 10), 0, -1, ([pickN n.widths 1 p.a, ((p.b : Nat) : Int) % ((n.widths.length : Nat) : Int)] : List Int) ++ ([pickN n.widths ((n.mems.getD (p.op % n.mems.length) default).width) p.d] : List Int), 0, ((p.op : Nat) : Int) % ((n.mems.length : Nat) : Int)⟩ : Cell), _, pt_write hg h0 om om, rfl, rfl⟩
 refine .skip (.le (st' := ⟨[(4, .ptr 104 0 0 0), (6, vi ((n.mems.getD (p.op % n.mems.length) default).width)), (7, .ptr 107 0 0 0)], [(104, .cells [vi 0, vi 0, vi 0, .v (.slice none 0 0), .v (.int .u64 0), vi 0]), (107, .cells [vi (1 + (((p.kind : Nat) : Int) % 10)), vi 0, vi (-1), .slc 271 1 0 (([pickN n.widths 1 p.a, ((p.b : Nat) : Int) % ((n.widths.length : Nat) : Int)] : List Int).length), .v (.int .u64 0), vi (((p.op : Nat) : Int) % ((n.mems.length : Nat) : Int))]), (271, .rows 1 (([pickN n.widths 1 p.a, ((p.b : Nat) : Int) % ((n.widths.length : Nat) : Int)] : List Int).map irow))]⟩) (Le.mk (.c (.c (.c (.nil)))) (.c (.c (.c (.nil))))) ?_)
 refine .sr (.vl (Y.loadA sh39 rfl rfl (nbE rfl) rfl rfl) ?_)
 refine .mv ?_
 refine .storeC si39 rfl rfl rfl rfl rfl rfl (nbE rfl) rfl ?_
 refine .an ?_
 refine .nil (.ret ?_)
 exact ⟨_, rfl, _, _, _, Sh.ownT (d := 0) 3 271 rfl rfl rfl rfl (by first | rfl | exact len_map rfl | exact len_map om) rfl dcd, rfl, rfl, (⟨1 + (((p.kind : Nat) : Int) % 10), 0, -1, ([pickN n.widths 1 p.a, ((p.b : Nat) : Int) % ((n.widths.length : Nat) : Int)] : List Int), 0, ((p.op : Nat) : Int) % ((n.mems.length : Nat) : Int)⟩ : Cell), _, pt_read hg h0 om om, rfl, rfl⟩
 refine .region (.vl (Y.eql rfl rfl) ?_)
 refine .an ?_
 refine .nil ?_
 refine .condKD rfl (fun c139 => ?_) (fun c139 => ?_)
 refine .seq (.sr ?_)
 refine .fa fl27_4 ?_
 refine .ld sh24 ?_
 refine .vl (Y.len (n := n.mems.length) sl24 rfl (congrArg some (List.length_map ..))) (.vl (Y.eql rfl rfl) (.nil ?_))
 refine .condD rfl (fun c145 => ?_) (fun c145 => ?_)
 refine .sr (.vl (Y.build pl39 ze39 rfl rfl rfl) (.storeC si39 rfl rfl rfl rfl rfl rfl (nbE rfl) rfl ?_))
 refine .an ?_
 refine .nil (.sh (Sh.nilCell 104 399 1 3 rfl rfl rfl rfl dcd) (.ret ?_))
 exact ⟨_, rfl, _, _, _, Sh.ownT (d := 0) 3 399 rfl rfl rfl rfl (by first | rfl | exact len_map rfl | exact len_map om) rfl dcd, rfl, rfl, (⟨0, 0, 0, ([] : List Int), 0, 0⟩ : Cell), _, pt_none hg, rfl, rfl⟩
 refine .skip (.sr ?_)
 refine .fa fl88_1 ?_
 refine .ld sh5 ?_
 refine .vl (Y.convK ii5 ii3 rfl (by first | rfl | exact IntWalk.i64_in _ om)) ?_
 refine .fa fl27_4 ?_
 refine .ld sh24 ?_
 refine .vl (Y.len (n := n.mems.length) sl24 rfl (congrArg some (List.length_map ..))) (.vl (Y.remI rfl rfl oms) ?_)
 refine .fa fl39_5 ?_
 refine .storeC si3 rfl rfl rfl rfl rfl rfl (nbE rfl) rfl (.nil (.seq ?_))
 have hmm : p.op % n.mems.length < n.mems.length := Nat.mod_lt _ om
 refine .region ?_
 refine .fa fl27_4 ?_
 refine .ld sh24 ?_
 refine .fa fl39_5 ?_
 refine .ld sh3 ?_
 refine .vl (Y.indexF (m := p.op % n.mems.length) sl24 rfl rfl rlo (row_getD (d := default) om)) ?_
 refine .fa fl48_1 ?_
 refine .ld sh3 ?_
 refine .an ?_
 refine .nil (.le (st' := ⟨[(2, .fp (Netlist.prow n) 0), (4, .ptr 104 0 0 0), (6, vi ((n.mems.getD (p.op % n.mems.length) default).width)), (7, .ptr 107 0 0 0), (8, .v (.int .u8 ((p.a : Nat) : Int))), (9, .v (.int .u8 ((p.b : Nat) : Int))), (10, .v (.int .u8 ((p.d : Nat) : Int)))], [(104, .cells [vi 0, vi 0, vi 0, .v (.slice none 0 0), .v (.int .u64 0), vi 0]), (107, .cells [vi (1 + (((p.kind : Nat) : Int) % 10)), vi 0, vi (-1), .v (.slice none 0 0), .v (.int .u64 0), vi (((p.op : Nat) : Int) % ((n.mems.length : Nat) : Int))])]⟩) (Le.mk (.c (.c (.c (.c (.c (.c (.c (.nil)))))))) (.c (.c (.nil)))) ?_)
 refine .seq (.regionHeld0 rfl (.loadA 0 rfl krf sh27 rfl rfl rfl (nbE rfl) rfl rfl dcd ?_))
 refine .blind 1 rfl krf (Blind.move rfl rfl) dcd (.blind 3 rfl krf (Blind.move rfl rfl) dcd ?_)
 refine .blind 4 rfl krf (Blind.convK ii5 ii3 rfl (by first | rfl | exact IntWalk.i64_in _ om)) dcd ?_
 refine .blind 5 rfl krf (Blind.fieldAddr fl27_1 rfl rfl) dcd (.load 6 rfl krf sh22 rfl rfl rfl rfl rfl dcd (.blind 7 rfl krf (Blind.len (n := n.widths.length) sl22 rfl (congrArg some (List.length_map ..))) dcd ?_))
 refine .blind 8 rfl krf (Blind.remI rfl rfl om) dcd ?_
 refine .go0 (.one 2 rfl krf (.callP ok56 (pick_spec (n := (⟨n.name, n.widths, n.cells, n.ins, n.mems, n.streams, [], [], n.freeze, n.done, []⟩ : Netlist)) (w := 1) (k := p.a) (by show (n.widths).length ≤ 1048576; omega) om) rfl (.keep rfl rfl (.keep rfl rfl (.keep rfl rfl .nil))) dcd rfl ?_))
 refine .nil ⟨rfl, ?_⟩
 refine .one 9 rfl krf ?_
 refine .buildSlice (([pickN n.widths 1 p.a, ((p.b : Nat) : Int) % ((n.widths.length : Nat) : Int)] : List Int).map irow) sl22 ze3 rfl rfl rfl rfl rfl (uniform_map (s := 1) (f := irow) (fun _ => rfl)) rfl rfl rfl dcd ?_
 refine .nil ⟨rfl, ?_⟩
 refine .one 10 rfl krf ?_
 refine .fa fl39_3 ?_
 refine .nil ⟨rfl, ?_⟩
 refine .one 11 rfl krf (.sh (Sh.adoptE (d := 171) (n := ([pickN n.widths 1 p.a, ((p.b : Nat) : Int) % ((n.widths.length : Nat) : Int)] : List Int).length) 271 (([pickN n.widths 1 p.a, ((p.b : Nat) : Int) % ((n.widths.length : Nat) : Int)] : List Int).map irow) rfl (by first | rfl | exact rep_map rfl) (len_map rfl) dcd) (.storeC si22 rfl rfl rfl rfl rfl rfl (nbE rfl) rfl ?_))
 refine .nil ⟨rfl, ?_⟩
 refine .done krf (.le (st' := ⟨[(2, .fp (Netlist.prow n) 0), (4, .ptr 104 0 0 0), (6, vi ((n.mems.getD (p.op % n.mems.length) default).width)), (7, .ptr 107 0 0 0), (10, .v (.int .u8 ((p.d : Nat) : Int)))], [(104, .cells [vi 0, vi 0, vi 0, .v (.slice none 0 0), .v (.int .u64 0), vi 0]), (107, .cells [vi (1 + (((p.kind : Nat) : Int) % 10)), vi 0, vi (-1), .slc 271 1 0 (([pickN n.widths 1 p.a, ((p.b : Nat) : Int) % ((n.widths.length : Nat) : Int)] : List Int).length), .v (.int .u64 0), vi (((p.op : Nat) : Int) % ((n.mems.length : Nat) : Int))]), (271, .rows 1 (([pickN n.widths 1 p.a, ((p.b : Nat) : Int) % ((n.widths.length : Nat) : Int)] : List Int).map irow))]⟩) (Le.mk (.c (.c (.c (.c (.c (.nil)))))) (.c (.c (.c (.nil))))) (.sr ?_))
 refine .fa fl39_0 ?_
 refine .ld sh3 ?_
 refine .vl (Y.eql rfl rfl) (.nil ?_)
 refine .condD rfl (fun c175 => ?_) (fun c175 => ?_)
 refine .regionHeldJ0 (⟨[(4, .ptr 104 0 0 0), (6, .v (.int .i64 ((n.mems.getD (p.op % n.mems.length) default).width))), (7, .ptr 107 0 0 0)], [(104, .cells [.v (.int .i64 0), .v (.int .i64 0), .v (.int .i64 0), .v (.slice none 0 0), .v (.int .u64 0), .v (.int .i64 0)]), (107, .cells [.v (.int .i64 (1 + (((p.kind : Nat) : Int) % 10))), .v (.int .i64 0), .v (.int .i64 (-1)), .slc 271 1 0 ((([pickN n.widths 1 p.a, ((p.b : Nat) : Int) % ((n.widths.length : Nat) : Int)] : List Int) ++ ([pickN n.widths ((n.mems.getD (p.op % n.mems.length) default).width) p.d] : List Int)).length), .v (.int .u64 0), .v (.int .i64 (((p.op : Nat) : Int) % ((n.mems.length : Nat) : Int)))]), (271, .rows 1 ((([pickN n.widths 1 p.a, ((p.b : Nat) : Int) % ((n.widths.length : Nat) : Int)] : List Int) ++ ([pickN n.widths ((n.mems.getD (p.op % n.mems.length) default).width) p.d] : List Int)).map irow))]⟩) rfl ?_ ?_
 refine .blind 0 rfl krf (Blind.fieldAddr fl39_3 rfl rfl) dcd (.loadA 2 rfl krf sh27 rfl rfl rfl (nbE rfl) rfl rfl dcd (.blind 3 rfl krf (Blind.move rfl rfl) dcd ?_))
 refine .blind 4 rfl krf (Blind.move rfl rfl) dcd (.go0 ?_)
 refine .two 1 5 rfl rfl krf ?_ ?_
 refine .ld sh22 ?_
 refine .nil ⟨rfl, ?_⟩
 refine .one 5 rfl krf (.callP ok56 (pick_spec (n := (⟨n.name, n.widths, n.cells, n.ins, n.mems, n.streams, [], [], n.freeze, n.done, []⟩ : Netlist)) (w := ((n.mems.getD (p.op % n.mems.length) default).width)) (k := p.d) (by show (n.widths).length ≤ 1048576; omega) om) rfl (.keep rfl rfl (.keep rfl rfl (.keep rfl rfl .nil))) dcd rfl ?_)
 refine .nil ⟨rfl, ?_⟩
 refine .one 6 rfl krf ?_
 refine .buildSlice (([pickN n.widths ((n.mems.getD (p.op % n.mems.length) default).width) p.d] : List Int).map irow) sl22 ze3 rfl rfl rfl rfl rfl (uniform_map (s := 1) (f := irow) (fun _ => rfl)) rfl rfl rfl dcd ?_
 refine .nil ⟨rfl, ?_⟩
 refine .one 7 rfl krf (.appendE ((([pickN n.widths 1 p.a, ((p.b : Nat) : Int) % ((n.widths.length : Nat) : Int)] : List Int) ++ ([pickN n.widths ((n.mems.getD (p.op % n.mems.length) default).width) p.d] : List Int)).map irow) (([pickN n.widths 1 p.a, ((p.b : Nat) : Int) % ((n.widths.length : Nat) : Int)] : List Int) ++ ([pickN n.widths ((n.mems.getD (p.op % n.mems.length) default).width) p.d] : List Int)).length sl22 ze3 rfl rfl rfl rfl (app_le oms) (app_map oms) (app_n oms) oms oms dcd dcd ?_)
 refine .nil ⟨rfl, ?_⟩
 refine .one 8 rfl krf ?_
 refine .fa fl39_3 ?_
 refine .nil ⟨rfl, ?_⟩
 refine .one 9 rfl krf (.storeC si22 rfl rfl rfl rfl rfl rfl (nbE rfl) rfl ?_)
 refine .nil ⟨rfl, ?_⟩
 refine .done krf ?_
 exact Le.mk (.c (.c (.c (.nil)))) (.c (.c (.c (.nil))))
 refine .callP ok56 (pick_spec (n := (⟨n.name, n.widths, n.cells, n.ins, n.mems, n.streams, [], [], n.freeze, n.done, []⟩ : Netlist)) (w := ((n.mems.getD (p.op % n.mems.length) default).width)) (k := p.d) (by show (n.widths).length ≤ 1048576; omega) om) rfl (.keep rfl rfl (.keep rfl rfl (.keep rfl rfl .nil))) dcd rfl ?_
 refine .nil ⟨rfl, ?_⟩
 refine .two 1 6 rfl rfl krf ?_ ?_
 refine .ld sh22 ?_
 refine .nil ⟨rfl, ?_⟩
 refine .one 6 rfl krf ?_
 refine .buildSlice (([pickN n.widths ((n.mems.getD (p.op % n.mems.length) default).width) p.d] : List Int).map irow) sl22 ze3 rfl rfl rfl rfl rfl (uniform_map (s := 1) (f := irow) (fun _ => rfl)) rfl rfl rfl dcd ?_
 refine .nil ⟨rfl, ?_⟩
 refine .one 7 rfl krf (.appendE ((([pickN n.widths 1 p.a, ((p.b : Nat) : Int) % ((n.widths.length : Nat) : Int)] : List Int) ++ ([pickN n.widths ((n.mems.getD (p.op % n.mems.length) default).width) p.d] : List Int)).map irow) (([pickN n.widths 1 p.a, ((p.b : Nat) : Int) % ((n.widths.length : Nat) : Int)] : List Int) ++ ([pickN n.widths ((n.mems.getD (p.op % n.mems.length) default).width) p.d] : List Int)).length sl22 ze3 rfl rfl rfl rfl (app_le oms) (app_map oms) (app_n oms) oms oms dcd dcd ?_)
 refine .nil ⟨rfl, ?_⟩
 refine .one 8 rfl krf ?_
 refine .fa fl39_3 ?_
 refine .nil ⟨rfl, ?_⟩
 refine .one 9 rfl krf (.storeC si22 rfl rfl rfl rfl rfl rfl (nbE rfl) rfl ?_)
 refine .nil ⟨rfl, ?_⟩
 refine .done krf ?_
 exact Le.mk (.c (.c (.c (.nil)))) (.c (.c (.c (.nil))))
 refine .buildSlice (([pickN n.widths ((n.mems.getD (p.op % n.mems.length) default).width) p.d] : List Int).map irow) sl22 ze3 rfl rfl rfl rfl rfl (uniform_map (s := 1) (f := irow) (fun _ => rfl)) rfl rfl rfl dcd ?_
 refine .nil ⟨rfl, ?_⟩
 refine .one 1 rfl krf ?_
 refine .ld sh22 ?_
 refine .nil ⟨rfl, ?_⟩
 refine .one 7 rfl krf (.appendE ((([pickN n.widths 1 p.a, ((p.b : Nat) : Int) % ((n.widths.length : Nat) : Int)] : List Int) ++ ([pickN n.widths ((n.mems.getD (p.op % n.mems.length) default).width) p.d] : List Int)).map irow) (([pickN n.widths 1 p.a, ((p.b : Nat) : Int) % ((n.widths.length : Nat) : Int)] : List Int) ++ ([pickN n.widths ((n.mems.getD (p.op % n.mems.length) default).width) p.d] : List Int)).length sl22 ze3 rfl rfl rfl rfl (app_le oms) (app_map oms) (app_n oms) oms oms dcd dcd ?_)
 refine .nil ⟨rfl, ?_⟩
 refine .one 8 rfl krf ?_
 refine .fa fl39_3 ?_
 refine .nil ⟨rfl, ?_⟩
 refine .one 9 rfl krf (.storeC si22 rfl rfl rfl rfl rfl rfl (nbE rfl) rfl ?_)
 refine .nil ⟨rfl, ?_⟩
 refine .done krf ?_
 exact Le.mk (.c (.c (.c (.nil)))) (.c (.c (.c (.nil))))
 refine .le (st' := ⟨[(4, .ptr 104 0 0 0), (6, vi ((n.mems.getD (p.op % n.mems.length) default).width)), (7, .ptr 107 0 0 0)], [(104, .cells [vi 0, vi 0, vi 0, .v (.slice none 0 0), .v (.int .u64 0), vi 0]), (107, .cells [vi (1 + (((p.kind : Nat) : Int) % 10)), vi 0, vi (-1), .slc 271 1 0 ((([pickN n.widths 1 p.a, ((p.b : Nat) : Int) % ((n.widths.length : Nat) : Int)] : List Int) ++ ([pickN n.widths ((n.mems.getD (p.op % n.mems.length) default).width) p.d] : List Int)).length), .v (.int .u64 0), vi (((p.op : Nat) : Int) % ((n.mems.length : Nat) : Int))]), (271, .rows 1 ((([pickN n.widths 1 p.a, ((p.b : Nat) : Int) % ((n.widths.length : Nat) : Int)] : List Int) ++ ([pickN n.widths ((n.mems.getD (p.op % n.mems.length) default).width) p.d] : List Int)).map irow))]⟩) (Le.mk (.c (.c (.c (.nil)))) (.c (.c (.c (.nil))))) ?_
 refine .sr (.vl (Y.loadA sh39 rfl rfl (nbE rfl) rfl rfl) ?_)
 refine .mv ?_
 refine .storeC si39 rfl rfl rfl rfl rfl rfl (nbE rfl) rfl ?_
 refine .an ?_
 refine .nil (.ret ?_)
 exact ⟨_, rfl, _, _, _, Sh.ownT (d := 0) 3 271 rfl rfl rfl rfl (by first | rfl | exact len_map rfl | exact len_map om) rfl dcd, rfl, rfl, (⟨1 + (((p.kind : Nat) : Int) % 10), 0, -1, ([pickN n.widths 1 p.a, ((p.b : Nat) : Int) % ((n.widths.length : Nat) : Int)] : List Int) ++ ([pickN n.widths ((n.mems.getD (p.op % n.mems.length) default).width) p.d] : List Int), 0, ((p.op : Nat) : Int) % ((n.mems.length : Nat) : Int)⟩ : Cell), _, pt_write hg h0 om om, rfl, rfl⟩
 refine .skip (.le (st' := ⟨[(4, .ptr 104 0 0 0), (6, vi ((n.mems.getD (p.op % n.mems.length) default).width)), (7, .ptr 107 0 0 0)], [(104, .cells [vi 0, vi 0, vi 0, .v (.slice none 0 0), .v (.int .u64 0), vi 0]), (107, .cells [vi (1 + (((p.kind : Nat) : Int) % 10)), vi 0, vi (-1), .slc 271 1 0 (([pickN n.widths 1 p.a, ((p.b : Nat) : Int) % ((n.widths.length : Nat) : Int)] : List Int).length), .v (.int .u64 0), vi (((p.op : Nat) : Int) % ((n.mems.length : Nat) : Int))]), (271, .rows 1 (([pickN n.widths 1 p.a, ((p.b : Nat) : Int) % ((n.widths.length : Nat) : Int)] : List Int).map irow))]⟩) (Le.mk (.c (.c (.c (.nil)))) (.c (.c (.c (.nil))))) ?_)
 refine .sr (.vl (Y.loadA sh39 rfl rfl (nbE rfl) rfl rfl) ?_)
 refine .mv ?_
 refine .storeC si39 rfl rfl rfl rfl rfl rfl (nbE rfl) rfl ?_
 refine .an ?_
 refine .nil (.ret ?_)
 exact ⟨_, rfl, _, _, _, Sh.ownT (d := 0) 3 271 rfl rfl rfl rfl (by first | rfl | exact len_map rfl | exact len_map om) rfl dcd, rfl, rfl, (⟨1 + (((p.kind : Nat) : Int) % 10), 0, -1, ([pickN n.widths 1 p.a, ((p.b : Nat) : Int) % ((n.widths.length : Nat) : Int)] : List Int), 0, ((p.op : Nat) : Int) % ((n.mems.length : Nat) : Int)⟩ : Cell), _, pt_read hg h0 om om, rfl, rfl⟩
 refine .sr (.vl (Y.eql rfl rfl) ?_)
 refine .an ?_
 refine .nil ?_
 refine .condD rfl (fun c185 => ?_) (fun c185 => ?_)
 refine .seq (.sr ?_)
 refine .fa fl27_3 ?_
 refine .ld sh22 ?_
 refine .vl (Y.len (n := n.ins.length) sl22 rfl (congrArg some (List.length_map ..))) (.vl (Y.eql rfl rfl) (.nil ?_))
 refine .condD rfl (fun c190 => ?_) (fun c190 => ?_)
 refine .sr (.vl (Y.build pl39 ze39 rfl rfl rfl) (.storeC si39 rfl rfl rfl rfl rfl rfl (nbE rfl) rfl ?_))
 refine .an ?_
 refine .nil (.sh (Sh.nilCell 104 399 1 3 rfl rfl rfl rfl dcd) (.ret ?_))
 exact ⟨_, rfl, _, _, _, Sh.ownT (d := 0) 3 399 rfl rfl rfl rfl (by first | rfl | exact len_map rfl | exact len_map om) rfl dcd, rfl, rfl, (⟨0, 0, 0, ([] : List Int), 0, 0⟩ : Cell), _, pt_none hg, rfl, rfl⟩
 refine .skip (.sr ?_)
 refine .fa fl88_4 ?_
 refine .ld sh37 ?_
 refine .fa fl27_3 ?_
 refine .ld sh22 ?_
 refine .vl (Y.len (n := n.ins.length) sl22 rfl (congrArg some (List.length_map ..))) (.vl (Y.convK ii3 ii37 rfl (by first | rfl | exact IntWalk.u64_in _ om)) (.vl (Y.remN (a := p.num) (b := n.ins.length) rfl rfl om) ?_))
 refine .fa fl39_4 ?_
 refine .storeC si37 rfl rfl rfl rfl rfl rfl (nbE rfl) rfl (.nil ?_)
 have hmm : p.num % n.ins.length < n.ins.length := Nat.mod_lt _ om
 refine .region ?_
 refine .fa fl27_3 ?_
 refine .ld sh22 ?_
 refine .fa fl39_4 ?_
 refine .ld sh37 ?_
 refine .vl (Y.indexF (m := p.num % n.ins.length) sl22 rfl rfl rlo (row_getD (d := 0) om)) ?_
 refine .ld sh3 ?_
 refine .an ?_
 refine .nil (.le (st' := ⟨[(4, .ptr 104 0 0 0), (6, vi (n.ins.getD (p.num % n.ins.length) 0)), (7, .ptr 107 0 0 0)], [(104, .cells [vi 0, vi 0, vi 0, .v (.slice none 0 0), .v (.int .u64 0), vi 0]), (107, .cells [vi (1 + (((p.kind : Nat) : Int) % 10)), vi 0, vi (-1), .v (.slice none 0 0), .v (.int .u64 ((p.num % n.ins.length : Nat) : Int)), vi 0])]⟩) (Le.mk (.c (.c (.c (.nil)))) (.c (.c (.nil)))) ?_)
 refine .sr (.vl (Y.loadA sh39 rfl rfl (nbE rfl) rfl rfl) ?_)
 refine .mv ?_
 refine .storeC si39 rfl rfl rfl rfl rfl rfl (nbE rfl) rfl ?_
 refine .an ?_
 refine .nil (.sh (Sh.nilCell 104 399 1 3 rfl rfl rfl rfl dcd) (.ret ?_))
 exact ⟨_, rfl, _, _, _, Sh.ownT (d := 0) 3 399 rfl rfl rfl rfl (by first | rfl | exact len_map rfl | exact len_map om) rfl dcd, rfl, rfl, (⟨1 + (((p.kind : Nat) : Int) % 10), 0, -1, ([] : List Int), p.num % n.ins.length, 0⟩ : Cell), _, pt_input hg om om hi, rfl, rfl⟩
 refine .seq (.sr ?_)
 refine .fa fl27_5 ?_
 refine .ld sh25 ?_
 refine .vl (Y.len (n := n.streams.length) sl25 rfl (congrArg some (List.length_map ..))) (.vl (Y.eql rfl rfl) (.nil ?_))
 refine .condD rfl (fun c34 => ?_) (fun c34 => ?_)
 refine .sr (.vl (Y.build pl39 ze39 rfl rfl rfl) (.storeC si39 rfl rfl rfl rfl rfl rfl (nbE rfl) rfl ?_))
 refine .an ?_
 refine .nil (.sh (Sh.nilCell 104 399 1 3 rfl rfl rfl rfl dcd) (.ret ?_))
 exact ⟨_, rfl, _, _, _, Sh.ownT (d := 0) 3 399 rfl rfl rfl rfl (by first | rfl | exact len_map rfl | exact len_map om) rfl dcd, rfl, rfl, (⟨0, 0, 0, ([] : List Int), 0, 0⟩ : Cell), _, pt_none hg, rfl, rfl⟩
 refine .skip (.sr ?_)
 refine .fa fl88_1 ?_
 refine .ld sh5 ?_
 refine .vl (Y.convK ii5 ii3 rfl (by first | rfl | exact IntWalk.i64_in _ om)) ?_
 refine .fa fl27_5 ?_
 refine .ld sh25 ?_
 refine .vl (Y.len (n := n.streams.length) sl25 rfl (congrArg some (List.length_map ..))) (.vl (Y.remI rfl rfl oms) ?_)
 refine .fa fl39_5 ?_
 refine .storeC si3 rfl rfl rfl rfl rfl rfl (nbE rfl) rfl (.nil (.seq ?_))
 have hmm : p.op % n.streams.length < n.streams.length := Nat.mod_lt _ om
 refine .region ?_
 refine .fa fl27_5 ?_
 refine .ld sh25 ?_
 refine .fa fl39_5 ?_
 refine .ld sh3 ?_
 refine .vl (Y.indexF (m := p.op % n.streams.length) sl25 rfl rfl rlo (row_getD (d := default) om)) ?_
 refine .fa fl83_1 ?_
 refine .ld sh3 ?_
 refine .an ?_
 refine .nil (.le (st' := ⟨[(2, .fp (Netlist.prow n) 0), (4, .ptr 104 0 0 0), (6, vi ((n.streams.getD (p.op % n.streams.length) default).width)), (7, .ptr 107 0 0 0)], [(104, .cells [vi 0, vi 0, vi 0, .v (.slice none 0 0), .v (.int .u64 0), vi 0]), (107, .cells [vi (1 + (((p.kind : Nat) : Int) % 10)), vi 0, vi (-1), .v (.slice none 0 0), .v (.int .u64 0), vi (((p.op : Nat) : Int) % ((n.streams.length : Nat) : Int))])]⟩) (Le.mk (.c (.c (.c (.c (.nil))))) (.c (.c (.nil)))) ?_)
 refine .join1 (fun (c7_0_j11 : Nat) => ⟨[(4, .ptr 104 0 0 0), (6, vi ((n.streams.getD (p.op % n.streams.length) default).width)), (7, .ptr 107 0 0 0)], [(104, .cells [vi 0, vi 0, vi 0, .v (.slice none 0 0), .v (.int .u64 0), vi 0]), (107, .cells [vi (c7_0_j11 : Int), vi 0, vi (-1), .v (.slice none 0 0), .v (.int .u64 0), vi (((p.op : Nat) : Int) % ((n.streams.length : Nat) : Int))])]⟩) (fun (c7_0_j11 : Nat) => (((1 + (((p.kind : Nat) : Int) % 10)) = 10) ∧ (((n.streams.getD (p.op % n.streams.length) default).out) = true) ∧ (c7_0_j11 = 9)) ∨ (((1 + (((p.kind : Nat) : Int) % 10)) = 10) ∧ (((n.streams.getD (p.op % n.streams.length) default).out) = false) ∧ (c7_0_j11 = (1 + (p.kind % 10)))) ∨ ((¬ ((1 + (((p.kind : Nat) : Int) % 10)) = 10)) ∧ (c7_0_j11 = (1 + (p.kind % 10))))) ?_ (fun c7_0_j11 hJ11 => ?_)
 refine .sr ?_
 refine .fa fl39_0 ?_
 refine .ld sh3 ?_
 refine .vl (Y.eql rfl rfl) ?_
 refine .mv ?_
 refine .splitD (d := 54) rfl (fun c54 => ?_) (fun c54 => ?_)
 refine .gw 54 (Y.fieldAddr fl27_5 rfl rfl) (.gw 54 (Y.load sh25 rfl rfl rfl rfl) (.gw 54 (Y.fieldAddr fl39_5 rfl rfl) ?_))
 refine .gw 54 (Y.load sh3 rfl rfl rfl rfl) (.gw 54 (Y.indexF (m := p.op % n.streams.length) sl25 rfl rfl rlo (row_getD (d := default) om)) ?_)
 refine .gw 54 (Y.fieldAddr fl83_2 rfl rfl) (.gw 54 (Y.load sh4 rfl rfl rfl rfl) ?_)
 refine .pk ?_
 refine .nil ?_
 refine .cond rfl (fun c62 => ?_) (fun c62 => ?_)
 refine .region ?_
 refine .fa fl39_0 ?_
 refine .storeC si3 rfl rfl rfl rfl rfl rfl (nbE rfl) rfl (.nil ?_)
 exact ⟨9, .inl ⟨c54, c62, rfl⟩, Le.mk (.c (.c (.c (.nil)))) (.c (.cons (look_cells rfl lkc) (.nil)))⟩
 refine .skip ?_
 exact ⟨1 + (p.kind % 10), .inr (.inl ⟨c54, c62, rfl⟩), Le.mk (.c (.c (.c (.nil)))) (.c (.cons (look_cells rfl lkc) (.nil)))⟩
 refine .gz 54 (.gz 54 (.gz 54 ?_))
 refine .gz 54 (.gz 54 (.gz 54 ?_))
 refine .gz 54 ?_
 refine .pk ?_
 refine .nil (.condF rfl (.skip ?_))
 exact ⟨1 + (p.kind % 10), .inr (.inr (⟨c54, rfl⟩)), Le.mk (.c (.c (.c (.nil)))) (.c (.cons (look_cells rfl lkc) (.nil)))⟩
 refine .sr ?_
 refine .fa fl39_0 ?_
 refine .ld sh3 ?_
 refine .vl (Y.eql rfl rfl) (.nil ?_)
 refine .condD rfl (fun c66 => ?_) (fun c66 => ?_)
 refine .region ?_
 refine .an ?_
 refine .nil (.le (st' := ⟨[(4, .ptr 104 0 0 0), (6, vi 1), (7, .ptr 107 0 0 0)], [(104, .cells [vi 0, vi 0, vi 0, .v (.slice none 0 0), .v (.int .u64 0), vi 0]), (107, .cells [vi (c7_0_j11 : Int), vi 0, vi (-1), .v (.slice none 0 0), .v (.int .u64 0), vi (((p.op : Nat) : Int) % ((n.streams.length : Nat) : Int))])]⟩) (Le.mk (.c (.c (.c (.nil)))) (.c (.c (.nil)))) ?_)
 refine .sr (.vl (Y.loadA sh39 rfl rfl (nbE rfl) rfl rfl) ?_)
 refine .mv ?_
 refine .storeC si39 rfl rfl rfl rfl rfl rfl (nbE rfl) rfl ?_
 refine .an ?_
 refine .nil (.sh (Sh.nilCell 104 399 1 3 rfl rfl rfl rfl dcd) (.ret ?_))
 exact ⟨_, rfl, _, _, _, Sh.ownT (d := 0) 3 399 rfl rfl rfl rfl (by first | rfl | exact len_map rfl | exact len_map om) rfl dcd, rfl, rfl, (⟨(c7_0_j11 : Int), 0, -1, ([] : List Int), 0, ((p.op : Nat) : Int) % ((n.streams.length : Nat) : Int)⟩ : Cell), _, pt_open hg om om, rfl, rfl⟩
 refine .skip (.le (st' := ⟨[(4, .ptr 104 0 0 0), (6, vi ((n.streams.getD (p.op % n.streams.length) default).width)), (7, .ptr 107 0 0 0)], [(104, .cells [vi 0, vi 0, vi 0, .v (.slice none 0 0), .v (.int .u64 0), vi 0]), (107, .cells [vi (c7_0_j11 : Int), vi 0, vi (-1), .v (.slice none 0 0), .v (.int .u64 0), vi (((p.op : Nat) : Int) % ((n.streams.length : Nat) : Int))])]⟩) (Le.mk (.c (.c (.c (.nil)))) (.c (.c (.nil)))) ?_)
 refine .sr (.vl (Y.loadA sh39 rfl rfl (nbE rfl) rfl rfl) ?_)
 refine .mv ?_
 refine .storeC si39 rfl rfl rfl rfl rfl rfl (nbE rfl) rfl ?_
 refine .an ?_
 refine .nil (.sh (Sh.nilCell 104 399 1 3 rfl rfl rfl rfl dcd) (.ret ?_))
 exact ⟨_, rfl, _, _, _, Sh.ownT (d := 0) 3 399 rfl rfl rfl rfl (by first | rfl | exact len_map rfl | exact len_map om) rfl dcd, rfl, rfl, (⟨(c7_0_j11 : Int), 0, -1, ([] : List Int), 0, ((p.op : Nat) : Int) % ((n.streams.length : Nat) : Int)⟩ : Cell), _, pt_data hg om om (by grind), rfl, rfl⟩
end Go.Proofs.Ytligpghohcfpnaa
