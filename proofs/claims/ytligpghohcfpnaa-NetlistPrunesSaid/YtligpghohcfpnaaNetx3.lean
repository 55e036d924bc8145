/- Walks of the search. -/
import Derived.Test.YtligpghohcfpnaaNetx0
import Derived.Test.YtligpghohcfpnaaNetx2
import Derived.Test.YtligpghohcfpnaaAWx2
import Derived.Test.YtligpghohcfpnaaNetx1
set_option linter.unusedSimpArgs false
set_option linter.unusedVariables false
set_option linter.unusedSectionVars false
set_option maxRecDepth 4000
set_option maxHeartbeats 8000000
namespace Go.Proofs.Ytligpghohcfpnaa
open Go Go.AW Go.Proofs
theorem drivers2_spec {n : Netlist} (hs : n.Small) (hf : Formed n) : ACalls Try.prog 70 [.agg (Netlist.row n)] [] [] (fun r o => ∃ l, DrvBy n l ∧ r = .uni 1 (l.map irow) ∧ o = []) := by
 refine ACalls.of Try.func70 rfl rfl rfl (n := 28) (by decide) (nbE rfl) ?_
 have hs1 := hs.widths; have hs2 := hs.cells
 refine .sr (.box 101 rfl rfl rfl rfl rfl (by decide) ?_)
 refine .an ?_
 refine .nil (.sr ?_)
 refine .fa fl27_1 ?_
 refine .ld sh22 ?_
 refine .vl (Y.len (n := n.widths.length) sl22 rfl (congrArg some (List.length_map ..))) ?_
 refine .makeSlice (n := n.widths.length) sl22 ze3 rfl rfl rfl rfl (by omega) (by omega) (by decide) ?_
 refine .assignX rfl (by decide) (.sh (Sh.adoptE (d := 3) (n := n.widths.length) 103 ((List.replicate n.widths.length 0).map irow) rfl (by first | rfl | exact rep_map rfl) (len_map (by simp)) (by decide)) (.nil ?_))
 refine .seq (.sr ?_)
 refine .fa fl27_2 ?_
 refine .ld sh23 ?_
 refine .vl (Y.len (n := n.cells.length) sl23 rfl (congrArg some (List.length_map ..))) ?_
 refine .mv ?_
 refine .nil (.block ?_)
 refine .loop2 (fun (n13_3 : Nat) (out3_3 : List Int) => ⟨[(3, .slc 103 1 0 n.widths.length), (11, .fz 6 (n.cells.map Cell.row)), (12, vi ((n.cells.length : Nat) : Int)), (13, vi (n13_3 : Int))], [(103, .rows 1 (out3_3.map irow))]⟩) (fun (n13_3 : Nat) (out3_3 : List Int) => (out3_3.length = n.widths.length) ∧ ((n13_3 : Int) ≤ ((n.cells.length : Nat) : Int)) ∧ (DrvTo n n13_3 out3_3)) (fun (n13_3 : Nat) (out3_3 : List Int) => (((n.cells.length : Nat) : Int) - (n13_3 : Int)).toNat) 0 (List.replicate n.widths.length 0) (⟨by first | omega | (simp [-List.getD_eq_getElem?_getD]; done) | (simp [-List.getD_eq_getElem?_getD]; omega), by first | omega | (simp [-List.getD_eq_getElem?_getD]; done) | (simp [-List.getD_eq_getElem?_getD]; omega), ⟨by simp, fun j w hd hj => by have := hd.1; omega⟩⟩) (Le.mk (.c (.c (.c (.cons (look_int rfl (by first | rfl | omega)) (.nil))))) (.c (.nil))) (fun n13_3 out3_3 hI3 => ?_)
 obtain ⟨hl103, hb3, hD⟩ := hI3
 refine .sr (.vl (Y.lss rfl rfl) (.nil ?_))
 refine .seq ?_
 refine .condD rfl (fun c14 => ?_) (fun c14 => ?_)
 refine .skip ?_
 refine .join1 (fun (out3_j7 : List Int) => ⟨[(3, .slc 103 1 0 n.widths.length), (11, .fz 6 (n.cells.map Cell.row)), (12, vi ((n.cells.length : Nat) : Int)), (13, vi (n13_3 : Int))], [(103, .rows 1 (out3_j7.map irow))]⟩) (fun (out3_j7 : List Int) => (out3_j7.length = n.widths.length) ∧ (DrvTo n (n13_3 + 1) out3_j7)) ?_ (fun out3_j7 hJx7 => ?_)
 refine .block (.sr ?_)
 refine .mv ?_
 refine .vl (Y.indexF (m := n13_3) sl23 rfl rfl (by first | rfl | omega) (row_getD (d := default) (by omega))) ?_
 refine .vl (Y.loadA sh39 rfl rfl (nbE rfl) rfl rfl) (.alloc 105 ze39 rfl rfl (by decide) ?_)
 refine .an ?_
 refine .storeC si39 rfl rfl rfl rfl rfl rfl (nbE rfl) rfl (.nil (.sr ?_))
 refine .fa fl39_2 ?_
 refine .ld sh3 ?_
 refine .vl (Y.geq rfl rfl) (.nil ?_)
 refine .condD rfl (fun c20 => ?_) (fun c20 => ?_)
 have ho6 : In (n.cells.getD n13_3 default).out n.widths.length := (hf.cells n13_3 (by omega)).2.2.2 (fun e => by have := (hf.cells n13_3 (by omega)).2.2.1 e; omega)
 unfold In at ho6
 refine .region ?_
 refine .mv ?_
 refine .fa fl39_2 ?_
 refine .ld sh3 ?_
 refine .mv ?_
 refine .vl (Y.indexO (m := ((n.cells.getD n13_3 default).out).toNat) sl22 rfl rfl (by omega) (by omega)) ?_
 refine .storeE ((out3_3.set (((n.cells.getD n13_3 default).out).toNat) (n13_3 : Int)).map irow) si3 rfl rfl rfl rfl rfl rfl rfl (row_getD0 (d := 0) (by omega)) (nbE rfl) (set_map0 rfl) ?_
 refine .nil ?_
 exact ⟨out3_3.set (((n.cells.getD n13_3 default).out).toNat) (n13_3 : Int), ⟨by first | omega | (simp [-List.getD_eq_getElem?_getD]; done) | (simp [-List.getD_eq_getElem?_getD]; omega), by first | exact hD.set hf (by omega) (by assumption) | exact hD.skip hf (by assumption)⟩, Le.mk (.c (.c (.c (.c (.nil))))) (.c (.nil))⟩
 refine .skip ?_
 exact ⟨out3_3, ⟨by omega, by first | exact hD.set hf (by omega) (by assumption) | exact hD.skip hf (by assumption)⟩, Le.mk (.c (.c (.c (.c (.nil))))) (.c (.nil))⟩
 obtain ⟨hlj7_103, hJ7⟩ := hJx7
 refine .region ?_
 refine .vl (Y.addI rfl rfl (by omega)) ?_
 refine .mv ?_
 refine .nil ?_
 exact ⟨n13_3 + 1, out3_j7, ⟨by omega, by omega, hJ7⟩, by omega, Le.mk (.c (.c (.c (.cons (look_int rfl (by first | rfl | omega)) (.nil))))) (.c (.nil))⟩
 refine .exit (.sr ?_)
 refine .mv ?_
 refine .an ?_
 refine .sh (Sh.detach (d := 2) (o := 103) rfl rfl (len_map (by omega)) (by decide)) ?_
 refine .nil (.ret ?_)
 exact ⟨_, _, rfl, rfl, out3_3, DrvTo.done hf (by rw [show n.cells.length = n13_3 by omega]; exact hD), rfl, rfl⟩
theorem mark_spec {n : Netlist} {by_ ws : List Int} (hM : VP n) (hb : DrvBy n by_) (hw : ∀ w ∈ ws, In w n.widths.length) (hwl : ws.length ≤ 1000) : ACalls Try.prog 69 [.agg (Netlist.row n), .fz 1 (by_.map irow), .slc 0 1 0 n.cells.length, .fz 1 (ws.map irow)] [.rows 1 ((List.replicate n.cells.length false).map brow)] [0] (fun r o => ∃ s : List Bool, ConeL n ws s ∧ r = .tup [] ∧ o = [.rows 1 (s.map brow)]) := by
 refine ACalls.of Try.func69 rfl rfl rfl (n := 51) (by decide) (nbE rfl) ?_
 have hs := hM.small; have hf := hM.formed; have hFt := hM.fit; have hAc := hM.acyclic; have hnc := hM.ncells; have hnw := hM.nwidths; have hni := hM.nins; have hna := hM.nargs; have hbl := hb.len
 refine .sr (.box 104 rfl rfl rfl rfl rfl (by decide) (.nil ?_))
 refine .sr ?_
 refine .mv ?_
 refine .callP ok68 (cloneInt_spec (l := ws) ((by omega))) rfl (.keep rfl rfl .nil) (by decide) rfl ?_
 refine .assignX rfl (by decide) (.sh (Sh.adoptE (d := 8) (n := ws.length) 108 (ws.map irow) rfl (by first | rfl | exact rep_map rfl) (len_map rfl) (by decide)) (.nil ?_))
 refine .block ?_
 refine .loop2 (fun (ob0_2 : List Bool) (work8_2 : List Int) => ⟨[(1, .fz 1 (by_.map irow)), (2, .slc 0 1 0 n.cells.length), (4, .ptr 104 0 0 0), (8, .slc 108 1 0 work8_2.length)], [(0, .rows 1 (ob0_2.map brow)), (104, .cells (Netlist.row n)), (108, .rows 1 (work8_2.map irow))]⟩) (fun (ob0_2 : List Bool) (work8_2 : List Int) => (ob0_2.length = n.cells.length) ∧ (Srch n by_ ws work8_2 ob0_2)) (fun (ob0_2 : List Bool) (work8_2 : List Int) => work8_2.length + 5 * unseen ob0_2) (List.replicate n.cells.length false) ws (⟨by first | omega | (simp [-List.getD_eq_getElem?_getD]; done) | (simp [-List.getD_eq_getElem?_getD]; omega), Srch.init hw⟩) (Le.mk (.c (.c (.c (.cons (look_slc rfl (by first | omega | simp [-List.getD_eq_getElem?_getD] <;> omega)) (.nil))))) (.c (.c (.c (.nil))))) (fun ob0_2 work8_2 hI2 => ?_)
 obtain ⟨hl0, hS⟩ := hI2
 refine .seq (.sr ?_)
 refine .mv ?_
 refine .vl (Y.len (n := work8_2.length) sl22 rfl rfl) (.vl (Y.gtr rfl rfl) (.nil ?_))
 refine .condD rfl (fun c14 => ?_) (fun c14 => ?_)
 refine .skip (.block (.seq ?_))
 have hlast := hS.last hb (by omega)
 have hsz := hS.sz
 refine .region ?_
 refine .mv ?_
 refine .mv ?_
 refine .mv ?_
 refine .vl (Y.len (n := work8_2.length) sl22 rfl rfl) (.vl (Y.sub rfl rfl (natsub (a := work8_2.length) (b := 1) (by first | omega | (simp; omega)))) ?_)
 refine .vl (Y.indexO (m := work8_2.length - 1) sl22 rfl rfl (by first | rfl | omega) (by omega)) ?_
 refine .vl (Y.load sh3 rfl (row_getD0 (d := 0) (by omega)) rfl rfl) ?_
 refine .vl (Y.indexF (m := (work8_2.getD (work8_2.length - 1) 0).toNat) sl22 rfl rfl (by omega) (row_getD (d := 0) (by omega))) ?_
 refine .ld sh3 ?_
 refine .an ?_
 refine .nil (.sr ?_)
 refine .mv ?_
 refine .mv ?_
 refine .vl (Y.len (n := work8_2.length) sl22 rfl rfl) (.vl (Y.sub rfl rfl (natsub (a := work8_2.length) (b := 1) (by first | omega | (simp; omega)))) ?_)
 refine .vl (Y.sliceO (l := 0) (h := work8_2.length - 1) sl22 rfl (.none _) (.some rfl) (by omega) (by omega)) ?_
 refine .sh (Sh.trimE (d := 28) (o := 108) ((work8_2.take (work8_2.length - 1)).map irow) rfl rfl (take_le (by omega)) take_he (by decide)) ?_
 refine .an ?_
 refine .nil (.seq (.sr ?_))
 refine .mv ?_
 refine .mv ?_
 refine .vl (Y.indexO (m := (by_.getD ((work8_2.getD (work8_2.length - 1) 0).toNat) 0).toNat) sl63 rfl rfl (by omega) (by omega)) ?_
 refine .vl (Y.load sh4 rfl (row_getD0 (d := false) (by first | omega | simp [-List.getD_eq_getElem?_getD] <;> omega)) rfl rfl) ?_
 refine .nil ?_
 refine .cond rfl (fun c32 => ?_) (fun c32 => ?_)
 refine .exit ?_
 exact ⟨ob0_2, work8_2.take (work8_2.length - 1), ⟨by first | omega | (simp [-List.getD_eq_getElem?_getD]; done) | (simp [-List.getD_eq_getElem?_getD]; omega), by first | exact hS.skip (by omega) (by assumption) | exact (hS.mark hb hna hf (by omega) (by assumption) (.inl ⟨by assumption, rfl⟩)).1 | exact (hS.mark0 hb hna hf (by omega) (by assumption) (by assumption)).1⟩, by first | (have h1 := (hS.mark hb hna hf (by omega) (by assumption) (.inl ⟨by assumption, rfl⟩)).2; simp only [List.length_append, List.length_take]; omega) | (have h1 := (hS.mark0 hb hna hf (by omega) (by assumption) (by assumption)).2; simp only [List.length_take]; omega) | (simp only [List.length_take]; omega), Le.mk (.c (.c (.c (.cons (look_slc rfl (by first | omega | simp [-List.getD_eq_getElem?_getD] <;> omega)) (.nil))))) (.c (.c (.c (.nil))))⟩
 refine .skip (.sr ?_)
 refine .mv ?_
 refine .mv ?_
 refine .vl (Y.indexO (m := (by_.getD ((work8_2.getD (work8_2.length - 1) 0).toNat) 0).toNat) sl63 rfl rfl (by omega) (by omega)) ?_
 refine .storeE ((ob0_2.set ((by_.getD ((work8_2.getD (work8_2.length - 1) 0).toNat) 0).toNat) true).map brow) si4 rfl rfl rfl rfl rfl rfl rfl (row_getD0 (d := false) (by omega)) (nbE rfl) (set_map0 rfl) ?_
 refine .nil (.sr ?_)
 refine .fa fl27_2 ?_
 refine .ld sh23 ?_
 refine .mv ?_
 refine .vl (Y.indexF (m := (by_.getD ((work8_2.getD (work8_2.length - 1) 0).toNat) 0).toNat) sl23 rfl rfl (by omega) (row_getD (d := default) (by omega))) ?_
 refine .fa fl39_0 ?_
 refine .ld sh3 ?_
 refine .callP ok21 (comb_spec (w := ((n.cells.getD ((by_.getD ((work8_2.getD (work8_2.length - 1) 0).toNat) 0).toNat) default).kind))) rfl (.keep rfl rfl .nil) (by decide) rfl (.nil ?_)
 refine .condD rfl (fun c42 => ?_) (fun c42 => ?_)
 have hn4 := hna (n.cells.getD (by_.getD (work8_2.getD (work8_2.length - 1) 0).toNat 0).toNat default) (getD_in (by omega))
 have htl := take_len (l := work8_2) (k := work8_2.length - 1) (by omega)
 refine .region ?_
 refine .mv ?_
 refine .fa fl27_2 ?_
 refine .ld sh23 ?_
 refine .mv ?_
 refine .vl (Y.indexF (m := (by_.getD ((work8_2.getD (work8_2.length - 1) 0).toNat) 0).toNat) sl23 rfl rfl (by omega) (row_getD (d := default) (by omega))) ?_
 refine .fa fl39_3 ?_
 refine .ld sh22 ?_
 refine .appendFE (((work8_2.take (work8_2.length - 1)) ++ ((n.cells.getD ((by_.getD ((work8_2.getD (work8_2.length - 1) 0).toNat) 0).toNat) default).args)).map irow) ((work8_2.take (work8_2.length - 1)) ++ ((n.cells.getD ((by_.getD ((work8_2.getD (work8_2.length - 1) 0).toNat) 0).toNat) default).args)).length sl22 ze3 rfl rfl rfl rfl (app_le (by first | omega | simp [-List.getD_eq_getElem?_getD] <;> omega)) (app_map (by first | omega | simp [-List.getD_eq_getElem?_getD] <;> omega)) (app_n (by first | omega | simp [-List.getD_eq_getElem?_getD] <;> omega)) (by first | omega | simp [-List.getD_eq_getElem?_getD] <;> omega) (by first | omega | simp [-List.getD_eq_getElem?_getD] <;> omega) (by decide) (by decide) ?_
 refine .an ?_
 refine .nil ?_
 exact ⟨ob0_2.set ((by_.getD ((work8_2.getD (work8_2.length - 1) 0).toNat) 0).toNat) true, (work8_2.take (work8_2.length - 1)) ++ ((n.cells.getD ((by_.getD ((work8_2.getD (work8_2.length - 1) 0).toNat) 0).toNat) default).args), ⟨by first | omega | (simp [-List.getD_eq_getElem?_getD]; done) | (simp [-List.getD_eq_getElem?_getD]; omega), by first | exact hS.skip (by omega) (by assumption) | exact (hS.mark hb hna hf (by omega) (by assumption) (.inl ⟨by assumption, rfl⟩)).1 | exact (hS.mark0 hb hna hf (by omega) (by assumption) (by assumption)).1⟩, by first | (have h1 := (hS.mark hb hna hf (by omega) (by assumption) (.inl ⟨by assumption, rfl⟩)).2; simp only [List.length_append, List.length_take]; omega) | (have h1 := (hS.mark0 hb hna hf (by omega) (by assumption) (by assumption)).2; simp only [List.length_take]; omega) | (simp only [List.length_take]; omega), Le.mk (.c (.c (.c (.cons (look_slc rfl (by first | omega | simp [-List.getD_eq_getElem?_getD] <;> omega)) (.nil))))) (.c (.c (.c (.nil))))⟩
 refine .skip ?_
 exact ⟨ob0_2.set ((by_.getD ((work8_2.getD (work8_2.length - 1) 0).toNat) 0).toNat) true, work8_2.take (work8_2.length - 1), ⟨by first | omega | (simp [-List.getD_eq_getElem?_getD]; done) | (simp [-List.getD_eq_getElem?_getD]; omega), by first | exact hS.skip (by omega) (by assumption) | exact (hS.mark hb hna hf (by omega) (by assumption) (.inl ⟨by assumption, rfl⟩)).1 | exact (hS.mark0 hb hna hf (by omega) (by assumption) (by assumption)).1⟩, by first | (have h1 := (hS.mark hb hna hf (by omega) (by assumption) (.inl ⟨by assumption, rfl⟩)).2; simp only [List.length_append, List.length_take]; omega) | (have h1 := (hS.mark0 hb hna hf (by omega) (by assumption) (by assumption)).2; simp only [List.length_take]; omega) | (simp only [List.length_take]; omega), Le.mk (.c (.c (.c (.cons (look_slc rfl (by first | omega | simp [-List.getD_eq_getElem?_getD] <;> omega)) (.nil))))) (.c (.c (.c (.nil))))⟩
 refine .exit ?_
 exact ⟨_, _, rfl, rfl, ob0_2, hS.done hb hf (by omega) hw, rfl, rfl⟩
end Go.Proofs.Ytligpghohcfpnaa
/- The walk of Prune. -/
namespace Go.Proofs.Ytligpghohcfpnaa
open Go Go.AW Go.Proofs
theorem prune_spec {n : Netlist} (hM : VP n) : ACalls Try.prog 36 [.agg (Netlist.row n)] [] [] (fun r o => ∃ (by_ rs : List Int) (s : List Bool), DrvBy n by_ ∧ RootsOf n rs ∧ ConeL n rs s ∧ r = .agg (Netlist.row (prn n by_ s)) ∧ o = []) := by
 refine ACalls.of Try.func36 rfl rfl rfl (n := 196) (by decide) (nbE rfl) ?_
 have hni := hM.nins; have hs := hM.small; have hf := hM.formed; have hnc := hM.ncells; have hnw := hM.nwidths; have hna := hM.nargs; have hnr := hM.nrets; have hns := hM.nstreams; have hac := hf.nactive; have hda := hf.ndata
 refine .sr (.box 101 rfl rfl rfl rfl rfl (by decide) (.alloc 102 ze27 rfl rfl (by decide) ?_))
 refine .nil (.seq (.seq ?_))
 refine .sh (Sh.freezeO 101 rfl rfl) (.region (.vl (Y.loadA sh27 rfl rfl (nbE rfl) rfl rfl) ?_))
 refine .callP ok16 (check_spec (n := n) hs (by omega)) rfl (.keep rfl rfl .nil) (by decide) rfl (.vl (Y.neq rfl rfl) (.nil ?_))
 refine .condD rfl (fun c20 => ?_) (fun c20 => ?_)
 exact absurd (errOf_ok hf hM.fit hM.acyclic) c20
 refine .skip (.sr ?_)
 refine .fa fl27_2 ?_
 refine .ld sh23 ?_
 refine .vl (Y.len (n := n.cells.length) sl23 rfl (congrArg some (List.length_map ..))) ?_
 refine .makeSlice (n := n.cells.length) sl63 ze4 rfl rfl rfl rfl (by omega) (by omega) (by decide) ?_
 refine .assignX rfl (by decide) (.sh (Sh.adoptE (d := 3) (n := n.cells.length) 103 ((List.replicate n.cells.length false).map brow) rfl (by first | rfl | exact rep_map rfl) (len_map (by simp)) (by decide)) (.nil ?_))
 refine .sr ?_
 refine .fa fl27_6 ?_
 refine .ld sh22 ?_
 refine .fa fl27_10 ?_
 refine .ld sh22 ?_
 refine .fa fl27_8 ?_
 refine .ld sh3 ?_
 refine .fa fl27_9 ?_
 refine .ld sh3 ?_
 refine .buildSlice (([n.freeze, n.done] : List Int).map irow) sl22 ze3 rfl rfl rfl rfl rfl (uniform_map (s := 1) (f := irow) (fun _ => rfl)) rfl rfl rfl (by decide) ?_
 refine .sh (Sh.freezeE (d := 35) (([n.freeze, n.done] : List Int).map irow) rfl (by first | rfl | exact rep_map rfl) (Frees.map irow_frees)) ?_
 refine .buildSlice (([n.active, n.rets, ([n.freeze, n.done] : List Int)] : List (List Int)).map lrow) sl92 ze22 rfl rfl rfl rfl rfl (uniform_map (s := 1) (f := lrow) (fun _ => rfl)) rfl rfl rfl (by decide) ?_
 refine .sh (Sh.freezeE (d := 36) (([n.active, n.rets, ([n.freeze, n.done] : List Int)] : List (List Int)).map lrow) rfl (by first | rfl | exact rep_map rfl) (Frees.map lrow_frees)) (.callP ok72 (concat_spec (ls := ([n.active, n.rets, ([n.freeze, n.done] : List Int)] : List (List Int))) (by simp) (by simp; omega)) rfl (.keep rfl rfl .nil) (by decide) rfl (.assignX rfl (by decide) ?_))
 refine .sh (Sh.adoptE (d := 4) (n := (([n.active, n.rets, ([n.freeze, n.done] : List Int)] : List (List Int)).flatten).length) 104 ((([n.active, n.rets, ([n.freeze, n.done] : List Int)] : List (List Int)).flatten).map irow) rfl (by first | rfl | exact rep_map rfl) (len_map rfl) (by decide)) (.nil (.seq ?_))
 refine .sr ?_
 refine .fa fl27_7 ?_
 refine .ld sh22 ?_
 refine .vl (Y.len (n := n.data.length) sl22 rfl (congrArg some (List.length_map ..))) ?_
 refine .mv ?_
 refine .nil (.block ?_)
 refine .loop2 (fun (n41_6 : Nat) (roots4_6 : List Int) => ⟨[(1, .fp (Netlist.row n) 0), (2, .ptr 102 0 0 0), (3, .slc 103 1 0 n.cells.length), (4, .slc 104 1 0 roots4_6.length), (39, .fz 1 (n.data.map irow)), (40, vi ((n.data.length : Nat) : Int)), (41, vi (n41_6 : Int))], [(102, .cells [.v (.string ByteArray.empty), .v (.slice none 0 0), .v (.slice none 0 0), .v (.slice none 0 0), .v (.slice none 0 0), .v (.slice none 0 0), .v (.slice none 0 0), .v (.slice none 0 0), vi 0, vi 0, .v (.slice none 0 0)]), (103, .rows 1 ((List.replicate n.cells.length false).map brow)), (104, .rows 1 (roots4_6.map irow))]⟩) (fun (n41_6 : Nat) (roots4_6 : List Int) => ((n41_6 : Int) ≤ ((n.data.length : Nat) : Int)) ∧ (Rt n n41_6 0 roots4_6)) (fun (n41_6 : Nat) (roots4_6 : List Int) => (((n.data.length : Nat) : Int) - (n41_6 : Int)).toNat) 0 (([n.active, n.rets, ([n.freeze, n.done] : List Int)] : List (List Int)).flatten) (⟨by omega, Rt.init hM⟩) (Le.mk (.c (.c (.c (.cons (look_slc rfl (by omega)) (.c (.c (.cons (look_int rfl (by first | rfl | omega)) (.nil)))))))) (.c (.c (.c (.nil))))) (fun n41_6 roots4_6 hI6 => ?_)
 obtain ⟨hb6, hR⟩ := hI6
 refine .sr (.vl (Y.lss rfl rfl) (.nil ?_))
 refine .seq ?_
 refine .condD rfl (fun c42 => ?_) (fun c42 => ?_)
 refine .skip ?_
 refine .join1 (fun (roots4_j10 : List Int) => ⟨[(1, .fp (Netlist.row n) 0), (2, .ptr 102 0 0 0), (3, .slc 103 1 0 n.cells.length), (4, .slc 104 1 0 roots4_j10.length), (39, .fz 1 (n.data.map irow)), (40, vi ((n.data.length : Nat) : Int)), (41, vi (n41_6 : Int))], [(102, .cells [.v (.string ByteArray.empty), .v (.slice none 0 0), .v (.slice none 0 0), .v (.slice none 0 0), .v (.slice none 0 0), .v (.slice none 0 0), .v (.slice none 0 0), .v (.slice none 0 0), vi 0, vi 0, .v (.slice none 0 0)]), (103, .rows 1 ((List.replicate n.cells.length false).map brow)), (104, .rows 1 (roots4_j10.map irow))]⟩) (fun (roots4_j10 : List Int) => Rt n (n41_6 + 1) 0 roots4_j10) ?_ (fun roots4_j10 hJ10 => ?_)
 refine .block (.sr ?_)
 refine .vl (Y.indexF (m := n41_6) sl22 rfl rfl (by first | rfl | omega) (row_getD (d := 0) (by omega))) ?_
 refine .ld sh3 ?_
 refine .an ?_
 refine .nil (.sr ?_)
 refine .mv ?_
 refine .vl (Y.geq rfl rfl) (.nil ?_)
 refine .condD rfl (fun c46 => ?_) (fun c46 => ?_)
 have h9 := hR.sz
 refine .region ?_
 refine .mv ?_
 refine .mv ?_
 refine .buildSlice (([n.data.getD n41_6 0] : List Int).map irow) sl22 ze3 rfl rfl rfl rfl rfl (uniform_map (s := 1) (f := irow) (fun _ => rfl)) rfl rfl rfl (by decide) ?_
 refine .appendE ((roots4_6 ++ ([n.data.getD n41_6 0] : List Int)).map irow) (roots4_6 ++ ([n.data.getD n41_6 0] : List Int)).length sl22 ze3 rfl rfl rfl rfl (app_le (by first | omega | simp [-List.getD_eq_getElem?_getD] <;> omega)) (app_map (by first | omega | simp [-List.getD_eq_getElem?_getD] <;> omega)) (app_n (by first | omega | simp [-List.getD_eq_getElem?_getD] <;> omega)) (by first | omega | simp [-List.getD_eq_getElem?_getD] <;> omega) (by first | omega | simp [-List.getD_eq_getElem?_getD] <;> omega) (by decide) (by decide) ?_
 refine .an ?_
 refine .nil ?_
 exact ⟨roots4_6 ++ ([n.data.getD n41_6 0] : List Int), by first | exact hR.dat (by assumption) | exact hR.skp (by assumption), Le.mk (.c (.c (.c (.cons (look_slc rfl (by omega)) (.c (.c (.c (.nil)))))))) (.c (.c (.c (.nil))))⟩
 refine .skip ?_
 exact ⟨roots4_6, by first | exact hR.dat (by assumption) | exact hR.skp (by assumption), Le.mk (.c (.c (.c (.cons (look_slc rfl (by omega)) (.c (.c (.c (.nil)))))))) (.c (.c (.c (.nil))))⟩
 refine .region ?_
 refine .vl (Y.addI rfl rfl (by omega)) ?_
 refine .mv ?_
 refine .nil ?_
 exact ⟨n41_6 + 1, roots4_j10, ⟨by omega, hJ10⟩, by omega, Le.mk (.c (.c (.c (.cons (look_slc rfl (by omega)) (.c (.c (.cons (look_int rfl (by first | rfl | omega)) (.nil)))))))) (.c (.c (.c (.nil))))⟩
 refine .exit (.seq (.sr ?_))
 refine .fa fl27_2 ?_
 refine .ld sh23 ?_
 refine .vl (Y.len (n := n.cells.length) sl23 rfl (congrArg some (List.length_map ..))) ?_
 refine .mv ?_
 refine .nil (.block ?_)
 refine .loop2 (fun (n55_12 : Nat) (roots4_12 : List Int) => ⟨[(1, .fp (Netlist.row n) 0), (2, .ptr 102 0 0 0), (3, .slc 103 1 0 n.cells.length), (4, .slc 104 1 0 roots4_12.length), (53, .fz 6 (n.cells.map Cell.row)), (54, vi ((n.cells.length : Nat) : Int)), (55, vi (n55_12 : Int))], [(102, .cells [.v (.string ByteArray.empty), .v (.slice none 0 0), .v (.slice none 0 0), .v (.slice none 0 0), .v (.slice none 0 0), .v (.slice none 0 0), .v (.slice none 0 0), .v (.slice none 0 0), vi 0, vi 0, .v (.slice none 0 0)]), (103, .rows 1 ((List.replicate n.cells.length false).map brow)), (104, .rows 1 (roots4_12.map irow))]⟩) (fun (n55_12 : Nat) (roots4_12 : List Int) => ((n55_12 : Int) ≤ ((n.cells.length : Nat) : Int)) ∧ (Rt n n.data.length n55_12 roots4_12)) (fun (n55_12 : Nat) (roots4_12 : List Int) => (((n.cells.length : Nat) : Int) - (n55_12 : Int)).toNat) 0 roots4_6 (⟨by omega, Rt.at (by omega) hR⟩) (Le.mk (.c (.c (.c (.cons (look_slc rfl (by omega)) (.c (.c (.cons (look_int rfl (by first | rfl | omega)) (.nil)))))))) (.c (.c (.c (.nil))))) (fun n55_12 roots4_12 hI12 => ?_)
 obtain ⟨hb12, hR⟩ := hI12
 refine .sr (.vl (Y.lss rfl rfl) (.nil ?_))
 refine .seq ?_
 refine .condD rfl (fun c56 => ?_) (fun c56 => ?_)
 refine .skip ?_
 refine .join1 (fun (roots4_j16 : List Int) => ⟨[(1, .fp (Netlist.row n) 0), (2, .ptr 102 0 0 0), (3, .slc 103 1 0 n.cells.length), (4, .slc 104 1 0 roots4_j16.length), (53, .fz 6 (n.cells.map Cell.row)), (54, vi ((n.cells.length : Nat) : Int)), (55, vi (n55_12 : Int))], [(102, .cells [.v (.string ByteArray.empty), .v (.slice none 0 0), .v (.slice none 0 0), .v (.slice none 0 0), .v (.slice none 0 0), .v (.slice none 0 0), .v (.slice none 0 0), .v (.slice none 0 0), vi 0, vi 0, .v (.slice none 0 0)]), (103, .rows 1 ((List.replicate n.cells.length false).map brow)), (104, .rows 1 (roots4_j16.map irow))]⟩) (fun (roots4_j16 : List Int) => Rt n n.data.length (n55_12 + 1) roots4_j16) ?_ (fun roots4_j16 hJ16 => ?_)
 refine .block (.sr ?_)
 refine .vl (Y.indexF (m := n55_12) sl23 rfl rfl (by first | rfl | omega) (row_getD (d := default) (by omega))) ?_
 refine .vl (Y.loadA sh39 rfl rfl (nbE rfl) rfl rfl) (.alloc 108 ze39 rfl rfl (by decide) (.storeC si39 rfl rfl rfl rfl rfl rfl (nbE rfl) rfl ?_))
 refine .nil (.sr ?_)
 refine .fa fl39_0 ?_
 refine .ld sh3 ?_
 refine .callP ok21 (comb_spec (w := ((n.cells.getD n55_12 default).kind))) rfl (.keep rfl rfl .nil) (by decide) rfl (.vl (Y.not rfl) (.nil ?_))
 refine .cond rfl (fun c62 => ?_) (fun c62 => ?_)
 replace c62 : ¬ (Comb ((n.cells.getD n55_12 default).kind)) := by simpa using c62
 have h15 := hR.sz; have h15b := hna (n.cells.getD n55_12 default) (getD_in (by omega))
 refine .region ?_
 refine .mv ?_
 refine .fa fl39_3 ?_
 refine .ld sh22 ?_
 refine .appendFE ((roots4_12 ++ ((n.cells.getD n55_12 default).args)).map irow) (roots4_12 ++ ((n.cells.getD n55_12 default).args)).length sl22 ze3 rfl rfl rfl rfl (app_le (by first | omega | simp [-List.getD_eq_getElem?_getD] <;> omega)) (app_map (by first | omega | simp [-List.getD_eq_getElem?_getD] <;> omega)) (app_n (by first | omega | simp [-List.getD_eq_getElem?_getD] <;> omega)) (by first | omega | simp [-List.getD_eq_getElem?_getD] <;> omega) (by first | omega | simp [-List.getD_eq_getElem?_getD] <;> omega) (by decide) (by decide) ?_
 refine .an ?_
 refine .nil ?_
 exact ⟨roots4_12 ++ ((n.cells.getD n55_12 default).args), by first | exact hR.yes hM (by omega) (by assumption) | exact hR.no (by assumption), Le.mk (.c (.c (.c (.cons (look_slc rfl (by omega)) (.c (.c (.c (.nil)))))))) (.c (.c (.c (.nil))))⟩
 replace c62 : Comb ((n.cells.getD n55_12 default).kind) := by simpa using c62
 refine .skip ?_
 exact ⟨roots4_12, by first | exact hR.yes hM (by omega) (by assumption) | exact hR.no (by assumption), Le.mk (.c (.c (.c (.cons (look_slc rfl (by omega)) (.c (.c (.c (.nil)))))))) (.c (.c (.c (.nil))))⟩
 refine .region ?_
 refine .vl (Y.addI rfl rfl (by omega)) ?_
 refine .mv ?_
 refine .nil ?_
 exact ⟨n55_12 + 1, roots4_j16, ⟨by omega, hJ16⟩, by omega, Le.mk (.c (.c (.c (.cons (look_slc rfl (by omega)) (.c (.c (.cons (look_int rfl (by first | rfl | omega)) (.nil)))))))) (.c (.c (.c (.nil))))⟩
 refine .exit (.sr (.vl (Y.loadA sh27 rfl rfl (nbE rfl) rfl rfl) ?_))
 refine .callV ok70 (drivers2_spec (n := n) hs hf) rfl (.keep rfl rfl .nil) (by decide) ?_
 rintro _ ⟨dl69, hdl69, rfl, _⟩
 refine ⟨rfl, ?_⟩
 refine .assignX rfl (by decide) (.sh (Sh.freezeE (d := 9) (dl69.map irow) rfl (by first | rfl | exact rep_map rfl) (Frees.map irow_frees)) (.nil ?_))
 refine .seq ?_
 refine .sh (Sh.detach (d := 4) (o := 104) rfl rfl (len_map (by omega)) (by decide)) ?_
 refine .sh (Sh.freezeE (d := 4) (roots4_12.map irow) rfl (by first | rfl | exact rep_map rfl) (Frees.map irow_frees)) ?_
 have hRts := RootsOf.at (show n55_12 = n.cells.length by omega) hR
 refine .region (.vl (Y.loadA sh27 rfl rfl (nbE rfl) rfl rfl) ?_)
 refine .mv ?_
 refine .mv ?_
 refine .mv ?_
 refine .callO [103] [] ok69 (mark_spec (n := n) (by_ := dl69) (ws := roots4_12) hM hdl69 (fun x hx => ((hRts x).1 hx).rng hf) (by have := hR.sz; omega)) rfl (.keep rfl rfl (.keep rfl rfl (.named rfl rfl (.keep rfl rfl .nil)))) ⟨rfl, trivial⟩ rfl (by decide) (fun _ h => by cases h) (fun _ h => by cases h) (by decide) (by decide) ?_
 rintro r objs' ⟨sM, hsM, rfl, rfl⟩ _
 refine ⟨⟨rfl, (by intro ob hob; simp only [List.mem_cons, List.not_mem_nil, or_false] at hob; rcases hob with rfl; rfl), .inl rfl⟩, ?_⟩
 refine .nil (.sr (.vl (Y.loadA sh27 rfl rfl (nbE rfl) rfl rfl) ?_))
 refine .callP ok71 (clone_spec (n := n) hM) rfl (.keep rfl rfl .nil) (by decide) rfl (.alloc 110 ze27 rfl rfl (by decide) (.storeC si27 rfl rfl rfl rfl rfl rfl (nbE rfl) rfl ?_))
 refine .nil (.sr ?_)
 refine .fa fl27_1 ?_
 refine .storeC si22 rfl rfl rfl rfl rfl rfl (nbE rfl) rfl ?_
 refine .fa fl27_2 ?_
 refine .storeC si23 rfl rfl rfl rfl rfl rfl (nbE rfl) rfl (.nil (.sr ?_))
 refine .fa fl27_1 ?_
 refine .ld sh22 ?_
 refine .vl (Y.len (n := n.widths.length) sl22 rfl (congrArg some (List.length_map ..))) ?_
 refine .makeSlice (n := n.widths.length) sl22 ze3 rfl rfl rfl rfl (by omega) (by omega) (by decide) ?_
 refine .alloc 111 ze22 rfl rfl (by decide) (.sh (Sh.adoptE (d := 82) (n := n.widths.length) 182 ((List.replicate n.widths.length 0).map irow) rfl (by first | rfl | exact rep_map rfl) (len_map (by simp)) (by decide)) (.storeC si22 rfl rfl rfl rfl rfl rfl (nbE rfl) rfl ?_))
 refine .nil ?_
 refine .le (st' := ⟨[(1, .fp (Netlist.row n) 0), (2, .ptr 102 0 0 0), (3, .slc 103 1 0 n.cells.length), (9, .fz 1 (dl69.map irow)), (10, .ptr 110 0 0 0), (11, .ptr 111 0 0 0)], [(102, .cells [.v (.string ByteArray.empty), .v (.slice none 0 0), .v (.slice none 0 0), .v (.slice none 0 0), .v (.slice none 0 0), .v (.slice none 0 0), .v (.slice none 0 0), .v (.slice none 0 0), vi 0, vi 0, .v (.slice none 0 0)]), (103, .rows 1 (sM.map brow)), (110, .cells [.v (.string n.name), .v (.slice none 0 0), .v (.slice none 0 0), .fz 1 (n.ins.map irow), .fz 5 (n.mems.map Arr.row), .fz 3 (n.streams.map Strm.row), .fz 1 (n.active.map irow), .fz 1 (n.data.map irow), vi n.freeze, vi n.done, .fz 1 (n.rets.map irow)]), (111, .cells [.slc 182 1 0 n.widths.length]), (182, .rows 1 ((List.replicate n.widths.length 0).map irow))]⟩) (Le.mk (.c (.c (.c (.c (.c (.c (.nil))))))) (.c (.c (.c (.c (.c (.nil))))))) ?_
 refine .seq (.seq (.sh (Sh.nilCell 110 301 1 1 rfl rfl rfl rfl (by decide)) ?_))
 refine .sh (Sh.nilCell 110 302 6 2 rfl rfl rfl rfl (by decide)) ?_
 have hsl := hsM.1; have hdl := hdl69.len
 refine .region ?_
 refine .fa fl27_1 ?_
 refine .ld sh22 ?_
 refine .vl (Y.len (n := n.widths.length) sl22 rfl (congrArg some (List.length_map ..))) ?_
 refine .mv ?_
 refine .nil (.block ?_)
 refine .loop3 (fun (n86_23 : Nat) (n82_23 : List Int) (n201_23 : List Int) => ⟨[(1, .fp (Netlist.row n) 0), (2, .ptr 102 0 0 0), (3, .slc 103 1 0 n.cells.length), (9, .fz 1 (dl69.map irow)), (10, .ptr 110 0 0 0), (11, .ptr 111 0 0 0), (84, .fz 1 (n.widths.map irow)), (85, vi ((n.widths.length : Nat) : Int)), (86, vi (n86_23 : Int))], [(102, .cells [.v (.string ByteArray.empty), .v (.slice none 0 0), .v (.slice none 0 0), .v (.slice none 0 0), .v (.slice none 0 0), .v (.slice none 0 0), .v (.slice none 0 0), .v (.slice none 0 0), vi 0, vi 0, .v (.slice none 0 0)]), (103, .rows 1 (sM.map brow)), (110, .cells [.v (.string n.name), .slc 301 1 0 n201_23.length, .slc 302 6 0 0, .fz 1 (n.ins.map irow), .fz 5 (n.mems.map Arr.row), .fz 3 (n.streams.map Strm.row), .fz 1 (n.active.map irow), .fz 1 (n.data.map irow), vi n.freeze, vi n.done, .fz 1 (n.rets.map irow)]), (111, .cells [.slc 182 1 0 n.widths.length]), (182, .rows 1 (n82_23.map irow)), (301, .rows 1 (n201_23.map irow)), (302, .rows 6 (([] : List Cell).map Cell.row))]⟩) (fun (n86_23 : Nat) (n82_23 : List Int) (n201_23 : List Int) => (n82_23.length = n.widths.length) ∧ ((n86_23 : Int) ≤ ((n.widths.length : Nat) : Int)) ∧ (Wn (kw n dl69 sM) n.widths n86_23 n82_23 n201_23)) (fun (n86_23 : Nat) (n82_23 : List Int) (n201_23 : List Int) => (((n.widths.length : Nat) : Int) - (n86_23 : Int)).toNat) 0 (List.replicate n.widths.length 0) ([] : List Int) (⟨by first | omega | (simp [-List.getD_eq_getElem?_getD]; done) | (simp [-List.getD_eq_getElem?_getD]; omega), by first | omega | (simp [-List.getD_eq_getElem?_getD]; done) | (simp [-List.getD_eq_getElem?_getD]; omega), Wn.init⟩) (Le.mk (.c (.c (.c (.c (.c (.c (.c (.c (.cons (look_int rfl (by first | rfl | omega)) (.nil)))))))))) (.c (.c (.cons (look_cells rfl (by first | rfl | (simp only [List.cons.injEq, X.v.injEq, X.slc.injEq, Value.int.injEq, and_true, true_and]; omega) | simp_all)) (.c (.c (.c (.c (.nil))))))))) (fun n86_23 n82_23 n201_23 hI23 => ?_)
 obtain ⟨hl182, hb23, hW⟩ := hI23
 refine .sr (.vl (Y.lss rfl rfl) (.nil ?_))
 refine .le (st' := ⟨[(1, .fp (Netlist.row n) 0), (2, .ptr 102 0 0 0), (3, .slc 103 1 0 n.cells.length), (9, .fz 1 (dl69.map irow)), (10, .ptr 110 0 0 0), (11, .ptr 111 0 0 0), (84, .fz 1 (n.widths.map irow)), (85, vi ((n.widths.length : Nat) : Int)), (86, vi (n86_23 : Int)), (87, .v (.bool (decide ((n86_23 : Int) < ((n.widths.length : Nat) : Int)))))], [(102, .cells [.v (.string ByteArray.empty), .v (.slice none 0 0), .v (.slice none 0 0), .v (.slice none 0 0), .v (.slice none 0 0), .v (.slice none 0 0), .v (.slice none 0 0), .v (.slice none 0 0), vi 0, vi 0, .v (.slice none 0 0)]), (103, .rows 1 (sM.map brow)), (110, .cells [.v (.string n.name), .slc 301 1 0 n201_23.length, .slc 302 6 0 0, .fz 1 (n.ins.map irow), .fz 5 (n.mems.map Arr.row), .fz 3 (n.streams.map Strm.row), .fz 1 (n.active.map irow), .fz 1 (n.data.map irow), vi n.freeze, vi n.done, .fz 1 (n.rets.map irow)]), (111, .cells [.slc 182 1 0 n.widths.length]), (182, .rows 1 (n82_23.map irow)), (301, .rows 1 (n201_23.map irow)), (302, .rows 6 (([] : List Cell).map Cell.row))]⟩) (Le.mk (.c (.c (.c (.c (.c (.c (.c (.c (.c (.c (.nil))))))))))) (.c (.c (.c (.c (.c (.c (.c (.nil))))))))) ?_
 refine .seq ?_
 refine .condD rfl (fun c87 => ?_) (fun c87 => ?_)
 refine .skip ?_
 refine .le (st' := ⟨[(1, .fp (Netlist.row n) 0), (2, .ptr 102 0 0 0), (3, .slc 103 1 0 n.cells.length), (9, .fz 1 (dl69.map irow)), (10, .ptr 110 0 0 0), (11, .ptr 111 0 0 0), (84, .fz 1 (n.widths.map irow)), (85, vi ((n.widths.length : Nat) : Int)), (86, vi (n86_23 : Int))], [(102, .cells [.v (.string ByteArray.empty), .v (.slice none 0 0), .v (.slice none 0 0), .v (.slice none 0 0), .v (.slice none 0 0), .v (.slice none 0 0), .v (.slice none 0 0), .v (.slice none 0 0), vi 0, vi 0, .v (.slice none 0 0)]), (103, .rows 1 (sM.map brow)), (110, .cells [.v (.string n.name), .slc 301 1 0 n201_23.length, .slc 302 6 0 0, .fz 1 (n.ins.map irow), .fz 5 (n.mems.map Arr.row), .fz 3 (n.streams.map Strm.row), .fz 1 (n.active.map irow), .fz 1 (n.data.map irow), vi n.freeze, vi n.done, .fz 1 (n.rets.map irow)]), (111, .cells [.slc 182 1 0 n.widths.length]), (182, .rows 1 (n82_23.map irow)), (301, .rows 1 (n201_23.map irow)), (302, .rows 6 (([] : List Cell).map Cell.row))]⟩) (Le.mk (.c (.c (.c (.c (.c (.c (.c (.c (.c (.nil)))))))))) (.c (.c (.c (.c (.c (.c (.c (.nil))))))))) ?_
 refine .join2 (fun (n82_j30 : List Int) (n201_j30 : List Int) => ⟨[(1, .fp (Netlist.row n) 0), (2, .ptr 102 0 0 0), (3, .slc 103 1 0 n.cells.length), (9, .fz 1 (dl69.map irow)), (10, .ptr 110 0 0 0), (11, .ptr 111 0 0 0), (84, .fz 1 (n.widths.map irow)), (85, vi ((n.widths.length : Nat) : Int)), (86, vi (n86_23 : Int))], [(102, .cells [.v (.string ByteArray.empty), .v (.slice none 0 0), .v (.slice none 0 0), .v (.slice none 0 0), .v (.slice none 0 0), .v (.slice none 0 0), .v (.slice none 0 0), .v (.slice none 0 0), vi 0, vi 0, .v (.slice none 0 0)]), (103, .rows 1 (sM.map brow)), (110, .cells [.v (.string n.name), .slc 301 1 0 n201_j30.length, .slc 302 6 0 0, .fz 1 (n.ins.map irow), .fz 5 (n.mems.map Arr.row), .fz 3 (n.streams.map Strm.row), .fz 1 (n.active.map irow), .fz 1 (n.data.map irow), vi n.freeze, vi n.done, .fz 1 (n.rets.map irow)]), (111, .cells [.slc 182 1 0 n.widths.length]), (182, .rows 1 (n82_j30.map irow)), (301, .rows 1 (n201_j30.map irow)), (302, .rows 6 (([] : List Cell).map Cell.row))]⟩) (fun (n82_j30 : List Int) (n201_j30 : List Int) => (n82_j30.length = n.widths.length) ∧ (Wn (kw n dl69 sM) n.widths (n86_23 + 1) n82_j30 n201_j30)) ?_ (fun n82_j30 n201_j30 hJx30 => ?_)
 refine .block (.sr ?_)
 refine .mv ?_
 refine .vl (Y.indexF (m := n86_23) sl22 rfl rfl (by first | rfl | omega) (row_getD (d := 0) (by first | omega | simp [-List.getD_eq_getElem?_getD] <;> omega))) ?_
 refine .ld sh3 ?_
 refine .an ?_
 refine .an ?_
 refine .nil (.seq ?_)
 have hwl := hW.le; have hd := hdl69.drv (n86_23 : Int) ⟨by omega, by omega⟩; rw [Int.toNat_natCast] at hd; have hd1 := hd.1
 refine .region ?_
 refine .ld sh22 ?_
 refine .mv ?_
 refine .vl (Y.indexO (m := n86_23) sl22 rfl rfl (by first | rfl | omega) (by omega)) ?_
 refine .storeE ((n82_23.set n86_23 (-1)).map irow) si3 rfl rfl rfl rfl rfl rfl rfl (row_getD0 (d := 0) (by omega)) (nbE rfl) (set_map0 rfl) ?_
 refine .nil (.seq (.regionHeld0 rfl ?_))
 refine .blind 0 rfl (by kernel_rfl) (Blind.fieldAddr fl27_2 rfl rfl) (by decide) (.load 1 rfl (by kernel_rfl) sh23 rfl rfl rfl rfl rfl (by decide) (.blind 2 rfl (by kernel_rfl) (Blind.move rfl rfl) (by decide) ?_))
 refine .blind 3 rfl (by kernel_rfl) (Blind.move rfl rfl) (by decide) ?_
 refine .blind 4 rfl (by kernel_rfl) (Blind.indexF (m := n86_23) sl22 rfl rfl (by first | rfl | omega) (row_getD (d := 0) (by first | omega | simp [-List.getD_eq_getElem?_getD] <;> omega))) (by decide) ?_
 refine .load 5 rfl (by kernel_rfl) sh3 rfl rfl rfl rfl rfl (by decide) ?_
 refine .blind 6 rfl (by kernel_rfl) (Blind.indexF (m := (dl69.getD n86_23 0).toNat) sl23 rfl rfl (by omega) (row_getD (d := default) (by omega))) (by decide) ?_
 refine .loadA 7 rfl (by kernel_rfl) sh39 rfl rfl rfl (nbE rfl) rfl rfl (by decide) (.go0 (.one 8 rfl (by kernel_rfl) ?_))
 refine .alloc 114 ze39 rfl rfl (by decide) ?_
 refine .nil ⟨rfl, ?_⟩
 refine .one 9 rfl (by kernel_rfl) (.storeC si39 rfl rfl rfl rfl rfl rfl (nbE rfl) rfl ?_)
 refine .nil ⟨rfl, ?_⟩
 refine .done (by kernel_rfl) (.sr ?_)
 refine .mv ?_
 refine .mv ?_
 refine .mv ?_
 refine .vl (Y.indexF (m := n86_23) sl22 rfl rfl (by first | rfl | omega) (row_getD (d := 0) (by first | omega | simp [-List.getD_eq_getElem?_getD] <;> omega))) ?_
 refine .ld sh3 ?_
 refine .vl (Y.indexO (m := (dl69.getD n86_23 0).toNat) sl63 rfl rfl (by omega) (by omega)) ?_
 refine .vl (Y.load sh4 rfl (row_getD0 (d := false) (by first | omega | simp [-List.getD_eq_getElem?_getD] <;> omega)) rfl rfl) ?_
 refine .mv ?_
 refine .split (d := 109) rfl (fun c109 => ?_) (fun c109 => ?_)
 refine .gz 109 (.gz 109 (.gz 109 ?_))
 refine .gz 109 ?_
 refine .pk ?_
 refine .nil (.condT rfl (.sr ?_))
 refine .ld sh22 ?_
 refine .mv ?_
 refine .fa fl27_1 ?_
 refine .ld sh22 ?_
 refine .vl (Y.len (n := n201_23.length) sl22 rfl rfl) ?_
 refine .vl (Y.indexO (m := n86_23) sl22 rfl rfl (by first | rfl | omega) (by omega)) ?_
 refine .storeE (((n82_23.set n86_23 (-1)).set n86_23 ((n201_23.length : Nat) : Int)).map irow) si3 rfl rfl rfl rfl rfl rfl rfl (row_getD0 (d := 0) (by first | omega | simp [-List.getD_eq_getElem?_getD] <;> omega)) (nbE rfl) (set_map0 rfl) ?_
 refine .nil (.region ?_)
 refine .fa fl27_1 ?_
 refine .ld sh22 ?_
 refine .mv ?_
 refine .buildSlice (([n.widths.getD n86_23 0] : List Int).map irow) sl22 ze3 rfl rfl rfl rfl rfl (uniform_map (s := 1) (f := irow) (fun _ => rfl)) rfl rfl rfl (by decide) ?_
 refine .appendE ((n201_23 ++ ([n.widths.getD n86_23 0] : List Int)).map irow) (n201_23 ++ ([n.widths.getD n86_23 0] : List Int)).length sl22 ze3 rfl rfl rfl rfl (app_le (by first | omega | simp [-List.getD_eq_getElem?_getD] <;> omega)) (app_map (by first | omega | simp [-List.getD_eq_getElem?_getD] <;> omega)) (app_n (by first | omega | simp [-List.getD_eq_getElem?_getD] <;> omega)) (by first | omega | simp [-List.getD_eq_getElem?_getD] <;> omega) (by first | omega | simp [-List.getD_eq_getElem?_getD] <;> omega) (by decide) (by decide) ?_
 refine .fa fl27_1 ?_
 refine .storeC si22 rfl rfl rfl rfl rfl rfl (nbE rfl) rfl (.nil ?_)
 exact ⟨(n82_23.set n86_23 (-1)).set n86_23 ((n201_23.length : Nat) : Int), n201_23 ++ ([n.widths.getD n86_23 0] : List Int), ⟨by first | omega | (simp [-List.getD_eq_getElem?_getD]; done) | (simp [-List.getD_eq_getElem?_getD]; omega), by first | exact hW.yes (by omega) (kw_yes (.inl (by assumption))) rfl | exact hW.yes (by omega) (kw_yes (.inr (by assumption))) rfl | exact hW.no (by omega) (kw_no (by assumption) (by assumption))⟩, Le.mk (.c (.c (.c (.c (.c (.c (.c (.c (.c (.nil)))))))))) (.c (.c (.cons (look_cells rfl (by first | rfl | (simp only [List.cons.injEq, X.v.injEq, X.slc.injEq, Value.int.injEq, and_true, true_and]; omega) | simp_all)) (.c (.c (.c (.c (.nil))))))))⟩
 refine .gw 109 (Y.fieldAddr fl39_0 rfl rfl) (.gw 109 (Y.load sh3 rfl rfl rfl rfl) (.guardRun (d := 109) rfl (by decide) rfl ?_))
 refine .callP ok21 (comb_spec (w := ((n.cells.getD ((dl69.getD n86_23 0).toNat) default).kind))) rfl (.keep rfl rfl .nil) (by decide) rfl (.gw 109 (Y.not rfl) ?_)
 refine .pk ?_
 refine .nil ?_
 refine .cond rfl (fun c114 => ?_) (fun c114 => ?_)
 replace c114 : ¬ (Comb ((n.cells.getD ((dl69.getD n86_23 0).toNat) default).kind)) := by simpa using c114
 refine .sr ?_
 refine .ld sh22 ?_
 refine .mv ?_
 refine .fa fl27_1 ?_
 refine .ld sh22 ?_
 refine .vl (Y.len (n := n201_23.length) sl22 rfl rfl) ?_
 refine .vl (Y.indexO (m := n86_23) sl22 rfl rfl (by first | rfl | omega) (by omega)) ?_
 refine .storeE (((n82_23.set n86_23 (-1)).set n86_23 ((n201_23.length : Nat) : Int)).map irow) si3 rfl rfl rfl rfl rfl rfl rfl (row_getD0 (d := 0) (by first | omega | simp [-List.getD_eq_getElem?_getD] <;> omega)) (nbE rfl) (set_map0 rfl) ?_
 refine .nil (.region ?_)
 refine .fa fl27_1 ?_
 refine .ld sh22 ?_
 refine .mv ?_
 refine .buildSlice (([n.widths.getD n86_23 0] : List Int).map irow) sl22 ze3 rfl rfl rfl rfl rfl (uniform_map (s := 1) (f := irow) (fun _ => rfl)) rfl rfl rfl (by decide) ?_
 refine .appendE ((n201_23 ++ ([n.widths.getD n86_23 0] : List Int)).map irow) (n201_23 ++ ([n.widths.getD n86_23 0] : List Int)).length sl22 ze3 rfl rfl rfl rfl (app_le (by first | omega | simp [-List.getD_eq_getElem?_getD] <;> omega)) (app_map (by first | omega | simp [-List.getD_eq_getElem?_getD] <;> omega)) (app_n (by first | omega | simp [-List.getD_eq_getElem?_getD] <;> omega)) (by first | omega | simp [-List.getD_eq_getElem?_getD] <;> omega) (by first | omega | simp [-List.getD_eq_getElem?_getD] <;> omega) (by decide) (by decide) ?_
 refine .fa fl27_1 ?_
 refine .storeC si22 rfl rfl rfl rfl rfl rfl (nbE rfl) rfl (.nil ?_)
 exact ⟨(n82_23.set n86_23 (-1)).set n86_23 ((n201_23.length : Nat) : Int), n201_23 ++ ([n.widths.getD n86_23 0] : List Int), ⟨by first | omega | (simp [-List.getD_eq_getElem?_getD]; done) | (simp [-List.getD_eq_getElem?_getD]; omega), by first | exact hW.yes (by omega) (kw_yes (.inl (by assumption))) rfl | exact hW.yes (by omega) (kw_yes (.inr (by assumption))) rfl | exact hW.no (by omega) (kw_no (by assumption) (by assumption))⟩, Le.mk (.c (.c (.c (.c (.c (.c (.c (.c (.c (.nil)))))))))) (.c (.c (.cons (look_cells rfl (by first | rfl | (simp only [List.cons.injEq, X.v.injEq, X.slc.injEq, Value.int.injEq, and_true, true_and]; omega) | simp_all)) (.c (.c (.c (.c (.nil))))))))⟩
 replace c114 : Comb ((n.cells.getD ((dl69.getD n86_23 0).toNat) default).kind) := by simpa using c114
 refine .skip ?_
 exact ⟨n82_23.set n86_23 (-1), n201_23, ⟨by first | omega | (simp [-List.getD_eq_getElem?_getD]; done) | (simp [-List.getD_eq_getElem?_getD]; omega), by first | exact hW.yes (by omega) (kw_yes (.inl (by assumption))) rfl | exact hW.yes (by omega) (kw_yes (.inr (by assumption))) rfl | exact hW.no (by omega) (kw_no (by assumption) (by assumption))⟩, Le.mk (.c (.c (.c (.c (.c (.c (.c (.c (.c (.nil)))))))))) (.c (.c (.cons (look_cells rfl (by first | rfl | (simp only [List.cons.injEq, X.v.injEq, X.slc.injEq, Value.int.injEq, and_true, true_and]; omega) | simp_all)) (.c (.c (.c (.c (.nil))))))))⟩
 obtain ⟨hlj30_182, hJ30⟩ := hJx30
 refine .region ?_
 refine .vl (Y.addI rfl rfl (by omega)) ?_
 refine .mv ?_
 refine .nil ?_
 exact ⟨n86_23 + 1, n82_j30, n201_j30, ⟨by omega, by omega, hJ30⟩, by omega, Le.mk (.c (.c (.c (.c (.c (.c (.c (.c (.cons (look_int rfl (by first | rfl | omega)) (.nil)))))))))) (.c (.c (.cons (look_cells rfl (by first | rfl | (simp only [List.cons.injEq, X.v.injEq, X.slc.injEq, Value.int.injEq, and_true, true_and]; omega) | simp_all)) (.c (.c (.c (.c (.nil))))))))⟩
 refine .exit (.seq ?_)
 refine .sh (Sh.fzObj 111 182 0 rfl rfl rfl (len_map (by omega)) (Frees.map irow_frees) (by decide) rfl rfl rfl) ?_
 refine .sh (Sh.freezeO 111 rfl rfl) ?_
 have hNum := NumL.at (show n86_23 = n.widths.length by omega) hW
 refine .region (.vl (Y.makeFunc rfl rfl rfl rfl) ?_)
 refine .an ?_
 refine .nil ?_
 refine .le (st' := ⟨[(1, .fp (Netlist.row n) 0), (2, .ptr 102 0 0 0), (3, .slc 103 1 0 n.cells.length), (10, .ptr 110 0 0 0), (11, .fp [.fz 1 (n82_23.map irow)] 0), (15, .clo (.func 73) [] [.fp [.fz 1 (n82_23.map irow)] 0])], [(102, .cells [.v (.string ByteArray.empty), .v (.slice none 0 0), .v (.slice none 0 0), .v (.slice none 0 0), .v (.slice none 0 0), .v (.slice none 0 0), .v (.slice none 0 0), .v (.slice none 0 0), vi 0, vi 0, .v (.slice none 0 0)]), (103, .rows 1 (sM.map brow)), (110, .cells [.v (.string n.name), .slc 301 1 0 n201_23.length, .slc 302 6 0 0, .fz 1 (n.ins.map irow), .fz 5 (n.mems.map Arr.row), .fz 3 (n.streams.map Strm.row), .fz 1 (n.active.map irow), .fz 1 (n.data.map irow), vi n.freeze, vi n.done, .fz 1 (n.rets.map irow)]), (301, .rows 1 (n201_23.map irow)), (302, .rows 6 (([] : List Cell).map Cell.row))]⟩) (Le.mk (.c (.c (.c (.c (.c (.c (.nil))))))) (.c (.c (.c (.c (.c (.nil))))))) ?_
 refine .seq (.sr ?_)
 refine .fa fl27_2 ?_
 refine .ld sh23 ?_
 refine .vl (Y.len (n := n.cells.length) sl23 rfl (congrArg some (List.length_map ..))) ?_
 refine .mv ?_
 refine .nil (.block ?_)
 refine .loop2 (fun (n132_33 : Nat) (n202_33 : List Cell) => ⟨[(1, .fp (Netlist.row n) 0), (2, .ptr 102 0 0 0), (3, .slc 103 1 0 n.cells.length), (10, .ptr 110 0 0 0), (11, .fp [.fz 1 (n82_23.map irow)] 0), (15, .clo (.func 73) [] [.fp [.fz 1 (n82_23.map irow)] 0]), (130, .fz 6 (n.cells.map Cell.row)), (131, vi ((n.cells.length : Nat) : Int)), (132, vi (n132_33 : Int))], [(102, .cells [.v (.string ByteArray.empty), .v (.slice none 0 0), .v (.slice none 0 0), .v (.slice none 0 0), .v (.slice none 0 0), .v (.slice none 0 0), .v (.slice none 0 0), .v (.slice none 0 0), vi 0, vi 0, .v (.slice none 0 0)]), (103, .rows 1 (sM.map brow)), (110, .cells [.v (.string n.name), .slc 301 1 0 n201_23.length, .slc 302 6 0 n202_33.length, .fz 1 (n.ins.map irow), .fz 5 (n.mems.map Arr.row), .fz 3 (n.streams.map Strm.row), .fz 1 (n.active.map irow), .fz 1 (n.data.map irow), vi n.freeze, vi n.done, .fz 1 (n.rets.map irow)]), (301, .rows 1 (n201_23.map irow)), (302, .rows 6 (n202_33.map Cell.row))]⟩) (fun (n132_33 : Nat) (n202_33 : List Cell) => ((n132_33 : Int) ≤ ((n.cells.length : Nat) : Int)) ∧ (n202_33 = Cn n dl69 sM n132_33)) (fun (n132_33 : Nat) (n202_33 : List Cell) => (((n.cells.length : Nat) : Int) - (n132_33 : Int)).toNat) 0 ([] : List Cell) (⟨by omega, rfl⟩) (Le.mk (.c (.c (.c (.c (.c (.c (.c (.c (.cons (look_int rfl (by first | rfl | omega)) (.nil)))))))))) (.c (.c (.cons (look_cells rfl (by first | rfl | (simp only [List.cons.injEq, X.v.injEq, X.slc.injEq, Value.int.injEq, and_true, true_and]; omega) | simp_all)) (.c (.c (.nil))))))) (fun n132_33 n202_33 hI33 => ?_)
 obtain ⟨hb33, hC⟩ := hI33
 refine .sr (.vl (Y.lss rfl rfl) (.nil ?_))
 refine .seq ?_
 refine .condD rfl (fun c133 => ?_) (fun c133 => ?_)
 refine .skip ?_
 refine .join1 (fun (n202_j40 : List Cell) => ⟨[(1, .fp (Netlist.row n) 0), (2, .ptr 102 0 0 0), (3, .slc 103 1 0 n.cells.length), (10, .ptr 110 0 0 0), (11, .fp [.fz 1 (n82_23.map irow)] 0), (15, .clo (.func 73) [] [.fp [.fz 1 (n82_23.map irow)] 0]), (130, .fz 6 (n.cells.map Cell.row)), (131, vi ((n.cells.length : Nat) : Int)), (132, vi (n132_33 : Int))], [(102, .cells [.v (.string ByteArray.empty), .v (.slice none 0 0), .v (.slice none 0 0), .v (.slice none 0 0), .v (.slice none 0 0), .v (.slice none 0 0), .v (.slice none 0 0), .v (.slice none 0 0), vi 0, vi 0, .v (.slice none 0 0)]), (103, .rows 1 (sM.map brow)), (110, .cells [.v (.string n.name), .slc 301 1 0 n201_23.length, .slc 302 6 0 n202_j40.length, .fz 1 (n.ins.map irow), .fz 5 (n.mems.map Arr.row), .fz 3 (n.streams.map Strm.row), .fz 1 (n.active.map irow), .fz 1 (n.data.map irow), vi n.freeze, vi n.done, .fz 1 (n.rets.map irow)]), (301, .rows 1 (n201_23.map irow)), (302, .rows 6 (n202_j40.map Cell.row))]⟩) (fun (n202_j40 : List Cell) => n202_j40 = Cn n dl69 sM (n132_33 + 1)) ?_ (fun n202_j40 hJ40 => ?_)
 refine .block (.sr ?_)
 refine .mv ?_
 refine .vl (Y.indexF (m := n132_33) sl23 rfl rfl (by first | rfl | omega) (row_getD (d := default) (by omega))) ?_
 refine .vl (Y.loadA sh39 rfl rfl (nbE rfl) rfl rfl) (.alloc 117 ze39 rfl rfl (by decide) ?_)
 refine .an ?_
 refine .storeC si39 rfl rfl rfl rfl rfl rfl (nbE rfl) rfl (.nil ?_)
 refine .join0 (⟨[(1, .fp (Netlist.row n) 0), (2, .ptr 102 0 0 0), (3, .slc 103 1 0 n.cells.length), (10, .ptr 110 0 0 0), (11, .fp [.fz 1 (n82_23.map irow)] 0), (15, .clo (.func 73) [] [.fp [.fz 1 (n82_23.map irow)] 0]), (17, .ptr 117 0 0 0), (130, .fz 6 (n.cells.map Cell.row)), (131, vi ((n.cells.length : Nat) : Int)), (132, vi (n132_33 : Int))], [(102, .cells [.v (.string ByteArray.empty), .v (.slice none 0 0), .v (.slice none 0 0), .v (.slice none 0 0), .v (.slice none 0 0), .v (.slice none 0 0), .v (.slice none 0 0), .v (.slice none 0 0), vi 0, vi 0, .v (.slice none 0 0)]), (103, .rows 1 (sM.map brow)), (110, .cells [.v (.string n.name), .slc 301 1 0 n201_23.length, .slc 302 6 0 n202_33.length, .fz 1 (n.ins.map irow), .fz 5 (n.mems.map Arr.row), .fz 3 (n.streams.map Strm.row), .fz 1 (n.active.map irow), .fz 1 (n.data.map irow), vi n.freeze, vi n.done, .fz 1 (n.rets.map irow)]), (117, .cells [vi ((n.cells.getD n132_33 default).kind), vi ((n.cells.getD n132_33 default).op), vi ((n.cells.getD n132_33 default).out), .fz 1 (((n.cells.getD n132_33 default).args).map irow), .v (.int .u64 (((n.cells.getD n132_33 default).num : Nat) : Int)), vi ((n.cells.getD n132_33 default).mem)]), (301, .rows 1 (n201_23.map irow)), (302, .rows 6 (n202_33.map Cell.row))]⟩) ((((sM.getD n132_33 false) = false) ∧ (¬ (Comb ((n.cells.getD n132_33 default).kind)))) ∨ (((sM.getD n132_33 false) = true))) ?_ (fun hJ36 => ?_)
 refine .sr ?_
 refine .mv ?_
 refine .mv ?_
 refine .vl (Y.indexO (m := n132_33) sl63 rfl rfl (by first | rfl | omega) (by omega)) ?_
 refine .vl (Y.load sh4 rfl (row_getD0 (d := false) (by first | omega | simp [-List.getD_eq_getElem?_getD] <;> omega)) rfl rfl) ?_
 refine .vl (Y.not rfl) ?_
 refine .mv ?_
 refine .split (d := 142) rfl (fun c142 => ?_) (fun c142 => ?_)
 replace c142 : (sM.getD n132_33 false) = false := by simpa using c142
 refine .gw 142 (Y.fieldAddr fl39_0 rfl rfl) (.gw 142 (Y.load sh3 rfl rfl rfl rfl) (.guardRun (d := 142) rfl (by decide) rfl ?_))
 refine .callP ok21 (comb_spec (w := ((n.cells.getD n132_33 default).kind))) rfl (.keep rfl rfl .nil) (by decide) rfl ?_
 refine .pk ?_
 refine .nil ?_
 refine .condD rfl (fun c146 => ?_) (fun c146 => ?_)
 refine .exit ?_
 exact ⟨n202_33, by first | exact hC.trans (Cn.no (kc_no (by assumption) (by assumption))).symm | (rw [hC]; exact (Cn.yes (kc_yes hJ36) (renC_mk hNum (by have := out_or hf (j := n132_33) (by omega); omega) hJ39)).symm), Le.mk (.c (.c (.c (.c (.c (.c (.c (.c (.c (.nil)))))))))) (.c (.c (.cons (look_cells rfl (by first | rfl | (simp only [List.cons.injEq, X.v.injEq, X.slc.injEq, Value.int.injEq, and_true, true_and]; omega) | simp_all)) (.c (.c (.nil))))))⟩
 refine .skip ?_
 exact ⟨.inl ⟨c142, c146⟩, Le.mk (.c (.c (.c (.c (.c (.c (.c (.c (.c (.c (.nil))))))))))) (.c (.c (.c (.c (.c (.c (.nil)))))))⟩
 replace c142 : (sM.getD n132_33 false) = true := by simpa using c142
 refine .gz 142 (.gz 142 (.gz 142 ?_))
 refine .pk ?_
 refine .nil (.condF rfl (.skip ?_))
 exact ⟨.inr (c142), Le.mk (.c (.c (.c (.c (.c (.c (.c (.c (.c (.c (.nil))))))))))) (.c (.c (.c (.c (.c (.c (.nil)))))))⟩
 refine .seq ?_
 have hcl := Cn_le n dl69 sM n132_33; rw [← hC] at hcl; have h36 := hna (n.cells.getD n132_33 default) (getD_in (by omega)); have h37 := out_or hf (j := n132_33) (by omega)
 refine .region ?_
 refine .mv ?_
 refine .fa fl39_3 ?_
 refine .ld sh22 ?_
 refine .callCP rfl ok73 (renum_spec (p := kw n dl69 sM) (l := ((n.cells.getD n132_33 default).args)) (k := n.widths.length) ((by omega)) hNum ((by omega)) (by first | exact fun x hx => ((hf.cells _ (by omega)).1 x hx).2 | exact fun x hx => (Root.rng hf ⟨.inl hx⟩).2 | exact data_lt hf | exact fun x hx => (Root.rng hf ⟨.inr (.inl hx)⟩).2)) rfl (.keep rfl rfl (.keep rfl rfl .nil)) (by decide) rfl ?_
 refine .fa fl39_3 ?_
 refine .sh (Sh.freezeE (d := 150) ((((n.cells.getD n132_33 default).args).map (rnB (kw n dl69 sM))).map irow) rfl (by first | rfl | exact rep_map rfl) (Frees.map irow_frees)) (.storeC si22 rfl rfl rfl rfl rfl rfl (nbE rfl) rfl (.nil ?_))
 refine .join1 (fun (c17_2_j39 : Int) => ⟨[(1, .fp (Netlist.row n) 0), (2, .ptr 102 0 0 0), (3, .slc 103 1 0 n.cells.length), (10, .ptr 110 0 0 0), (11, .fp [.fz 1 (n82_23.map irow)] 0), (15, .clo (.func 73) [] [.fp [.fz 1 (n82_23.map irow)] 0]), (17, .ptr 117 0 0 0), (130, .fz 6 (n.cells.map Cell.row)), (131, vi ((n.cells.length : Nat) : Int)), (132, vi (n132_33 : Int))], [(102, .cells [.v (.string ByteArray.empty), .v (.slice none 0 0), .v (.slice none 0 0), .v (.slice none 0 0), .v (.slice none 0 0), .v (.slice none 0 0), .v (.slice none 0 0), .v (.slice none 0 0), vi 0, vi 0, .v (.slice none 0 0)]), (103, .rows 1 (sM.map brow)), (110, .cells [.v (.string n.name), .slc 301 1 0 n201_23.length, .slc 302 6 0 n202_33.length, .fz 1 (n.ins.map irow), .fz 5 (n.mems.map Arr.row), .fz 3 (n.streams.map Strm.row), .fz 1 (n.active.map irow), .fz 1 (n.data.map irow), vi n.freeze, vi n.done, .fz 1 (n.rets.map irow)]), (117, .cells [vi ((n.cells.getD n132_33 default).kind), vi ((n.cells.getD n132_33 default).op), vi c17_2_j39, .fz 1 ((((n.cells.getD n132_33 default).args).map (rnB (kw n dl69 sM))).map irow), .v (.int .u64 (((n.cells.getD n132_33 default).num : Nat) : Int)), vi ((n.cells.getD n132_33 default).mem)]), (301, .rows 1 (n201_23.map irow)), (302, .rows 6 (n202_33.map Cell.row))]⟩) (fun (c17_2_j39 : Int) => ((0 ≤ ((n.cells.getD n132_33 default).out)) ∧ (c17_2_j39 = (n82_23.getD (((n.cells.getD n132_33 default).out).toNat) 0))) ∨ ((¬ (0 ≤ ((n.cells.getD n132_33 default).out))) ∧ (c17_2_j39 = ((n.cells.getD n132_33 default).out)))) ?_ (fun c17_2_j39 hJ39 => ?_)
 refine .sr ?_
 refine .fa fl39_2 ?_
 refine .ld sh3 ?_
 refine .vl (Y.geq rfl rfl) (.nil ?_)
 refine .condD rfl (fun c154 => ?_) (fun c154 => ?_)
 refine .region ?_
 refine .ld sh22 ?_
 refine .fa fl39_2 ?_
 refine .ld sh3 ?_
 refine .vl (Y.indexF (m := ((n.cells.getD n132_33 default).out).toNat) sl22 rfl rfl (by omega) (row_getD (d := 0) (by omega))) ?_
 refine .ld sh3 ?_
 refine .fa fl39_2 ?_
 refine .storeC si3 rfl rfl rfl rfl rfl rfl (nbE rfl) rfl (.nil ?_)
 exact ⟨n82_23.getD (((n.cells.getD n132_33 default).out).toNat) 0, .inl ⟨c154, rfl⟩, Le.mk (.c (.c (.c (.c (.c (.c (.c (.c (.c (.c (.nil))))))))))) (.c (.c (.c (.cons (look_cells rfl (by first | rfl | (simp only [List.cons.injEq, X.v.injEq, X.slc.injEq, Value.int.injEq, and_true, true_and]; omega) | simp_all)) (.c (.c (.nil)))))))⟩
 refine .skip ?_
 exact ⟨(n.cells.getD n132_33 default).out, .inr (⟨c154, rfl⟩), Le.mk (.c (.c (.c (.c (.c (.c (.c (.c (.c (.c (.nil))))))))))) (.c (.c (.c (.cons (look_cells rfl (by first | rfl | (simp only [List.cons.injEq, X.v.injEq, X.slc.injEq, Value.int.injEq, and_true, true_and]; omega) | simp_all)) (.c (.c (.nil)))))))⟩
 refine .region ?_
 refine .fa fl27_2 ?_
 refine .ld sh23 ?_
 refine .vl (Y.loadA sh39 rfl rfl (nbE rfl) rfl rfl) ?_
 refine .buildSlice (([(⟨(n.cells.getD n132_33 default).kind, (n.cells.getD n132_33 default).op, c17_2_j39, ((n.cells.getD n132_33 default).args).map (rnB (kw n dl69 sM)), (n.cells.getD n132_33 default).num, (n.cells.getD n132_33 default).mem⟩ : Cell)] : List Cell).map Cell.row) sl23 ze39 rfl rfl rfl rfl rfl (uniform_map (s := 6) (f := Cell.row) (fun _ => rfl)) rfl rfl rfl (by decide) ?_
 refine .appendE ((n202_33 ++ ([(⟨(n.cells.getD n132_33 default).kind, (n.cells.getD n132_33 default).op, c17_2_j39, ((n.cells.getD n132_33 default).args).map (rnB (kw n dl69 sM)), (n.cells.getD n132_33 default).num, (n.cells.getD n132_33 default).mem⟩ : Cell)] : List Cell)).map Cell.row) (n202_33 ++ ([(⟨(n.cells.getD n132_33 default).kind, (n.cells.getD n132_33 default).op, c17_2_j39, ((n.cells.getD n132_33 default).args).map (rnB (kw n dl69 sM)), (n.cells.getD n132_33 default).num, (n.cells.getD n132_33 default).mem⟩ : Cell)] : List Cell)).length sl23 ze39 rfl rfl rfl rfl (app_le (by first | omega | simp [-List.getD_eq_getElem?_getD] <;> omega)) (app_map (by first | omega | simp [-List.getD_eq_getElem?_getD] <;> omega)) (app_n (by first | omega | simp [-List.getD_eq_getElem?_getD] <;> omega)) (by first | omega | simp [-List.getD_eq_getElem?_getD] <;> omega) (by first | omega | simp [-List.getD_eq_getElem?_getD] <;> omega) (by decide) (by decide) ?_
 refine .fa fl27_2 ?_
 refine .storeC si23 rfl rfl rfl rfl rfl rfl (nbE rfl) rfl (.nil ?_)
 exact ⟨n202_33 ++ ([(⟨(n.cells.getD n132_33 default).kind, (n.cells.getD n132_33 default).op, c17_2_j39, ((n.cells.getD n132_33 default).args).map (rnB (kw n dl69 sM)), (n.cells.getD n132_33 default).num, (n.cells.getD n132_33 default).mem⟩ : Cell)] : List Cell), by first | exact hC.trans (Cn.no (kc_no (by assumption) (by assumption))).symm | (rw [hC]; exact (Cn.yes (kc_yes hJ36) (renC_mk hNum (by have := out_or hf (j := n132_33) (by omega); omega) hJ39)).symm), Le.mk (.c (.c (.c (.c (.c (.c (.c (.c (.c (.nil)))))))))) (.c (.c (.cons (look_cells rfl (by first | rfl | (simp only [List.cons.injEq, X.v.injEq, X.slc.injEq, Value.int.injEq, and_true, true_and]; omega) | simp_all)) (.c (.c (.nil))))))⟩
 refine .region ?_
 refine .vl (Y.addI rfl rfl (by omega)) ?_
 refine .mv ?_
 refine .nil ?_
 exact ⟨n132_33 + 1, n202_j40, ⟨by omega, hJ40⟩, by omega, Le.mk (.c (.c (.c (.c (.c (.c (.c (.c (.cons (look_int rfl (by first | rfl | omega)) (.nil)))))))))) (.c (.c (.cons (look_cells rfl (by first | rfl | (simp only [List.cons.injEq, X.v.injEq, X.slc.injEq, Value.int.injEq, and_true, true_and]; omega) | simp_all)) (.c (.c (.nil))))))⟩
 refine .exit ?_
 refine .le (st' := ⟨[(1, .fp (Netlist.row n) 0), (2, .ptr 102 0 0 0), (10, .ptr 110 0 0 0), (11, .fp [.fz 1 (n82_23.map irow)] 0), (15, .clo (.func 73) [] [.fp [.fz 1 (n82_23.map irow)] 0])], [(102, .cells [.v (.string ByteArray.empty), .v (.slice none 0 0), .v (.slice none 0 0), .v (.slice none 0 0), .v (.slice none 0 0), .v (.slice none 0 0), .v (.slice none 0 0), .v (.slice none 0 0), vi 0, vi 0, .v (.slice none 0 0)]), (110, .cells [.v (.string n.name), .slc 301 1 0 n201_23.length, .slc 302 6 0 n202_33.length, .fz 1 (n.ins.map irow), .fz 5 (n.mems.map Arr.row), .fz 3 (n.streams.map Strm.row), .fz 1 (n.active.map irow), .fz 1 (n.data.map irow), vi n.freeze, vi n.done, .fz 1 (n.rets.map irow)]), (301, .rows 1 (n201_23.map irow)), (302, .rows 6 (n202_33.map Cell.row))]⟩) (Le.mk (.c (.c (.c (.c (.c (.nil)))))) (.c (.c (.c (.c (.nil)))))) ?_
 refine .seq (.regionHeld0 rfl (.blind 0 rfl (by kernel_rfl) (Blind.move rfl rfl) (by decide) ?_))
 refine .blind 1 rfl (by kernel_rfl) (Blind.fieldAddr fl27_6 rfl rfl) (by decide) (.load 2 rfl (by kernel_rfl) sh22 rfl rfl rfl rfl rfl (by decide) (.blind 4 rfl (by kernel_rfl) (Blind.move rfl rfl) (by decide) ?_))
 refine .blind 5 rfl (by kernel_rfl) (Blind.fieldAddr fl27_7 rfl rfl) (by decide) (.load 6 rfl (by kernel_rfl) sh22 rfl rfl rfl rfl rfl (by decide) (.blind 8 rfl (by kernel_rfl) (Blind.move rfl rfl) (by decide) ?_))
 refine .blind 9 rfl (by kernel_rfl) (Blind.fieldAddr fl27_10 rfl rfl) (by decide) (.load 10 rfl (by kernel_rfl) sh22 rfl rfl rfl rfl rfl (by decide) (.go0 ?_))
 refine .one 3 rfl (by kernel_rfl) ?_
 refine .callCP rfl ok73 (renum_spec (p := kw n dl69 sM) (l := n.active) (k := n.widths.length) ((by omega)) hNum ((by omega)) (by first | exact fun x hx => ((hf.cells _ (by omega)).1 x hx).2 | exact fun x hx => (Root.rng hf ⟨.inl hx⟩).2 | exact data_lt hf | exact fun x hx => (Root.rng hf ⟨.inr (.inl hx)⟩).2)) rfl (.keep rfl rfl (.keep rfl rfl .nil)) (by decide) rfl ?_
 refine .nil ⟨rfl, ?_⟩
 refine .blind 12 rfl (by kernel_rfl) (Blind.fieldAddr fl27_6 rfl rfl) (by decide) (.one 7 rfl (by kernel_rfl) ?_)
 refine .callCP rfl ok73 (renum_spec (p := kw n dl69 sM) (l := n.data) (k := n.widths.length) ((by omega)) hNum ((by omega)) (by first | exact fun x hx => ((hf.cells _ (by omega)).1 x hx).2 | exact fun x hx => (Root.rng hf ⟨.inl hx⟩).2 | exact data_lt hf | exact fun x hx => (Root.rng hf ⟨.inr (.inl hx)⟩).2)) rfl (.keep rfl rfl (.keep rfl rfl .nil)) (by decide) rfl ?_
 refine .nil ⟨rfl, ?_⟩
 refine .one 11 rfl (by kernel_rfl) ?_
 refine .callCP rfl ok73 (renum_spec (p := kw n dl69 sM) (l := n.rets) (k := n.widths.length) ((by omega)) hNum ((by omega)) (by first | exact fun x hx => ((hf.cells _ (by omega)).1 x hx).2 | exact fun x hx => (Root.rng hf ⟨.inl hx⟩).2 | exact data_lt hf | exact fun x hx => (Root.rng hf ⟨.inr (.inl hx)⟩).2)) rfl (.keep rfl rfl (.keep rfl rfl .nil)) (by decide) rfl ?_
 refine .nil ⟨rfl, ?_⟩
 refine .one 13 rfl (by kernel_rfl) (.sh (Sh.freezeE (d := 171) (((n.active).map (rnB (kw n dl69 sM))).map irow) rfl (by first | rfl | exact rep_map rfl) (Frees.map irow_frees)) (.storeC si22 rfl rfl rfl rfl rfl rfl (nbE rfl) rfl ?_))
 refine .nil ⟨rfl, ?_⟩
 refine .one 14 rfl (by kernel_rfl) ?_
 refine .fa fl27_7 ?_
 refine .nil ⟨rfl, ?_⟩
 refine .one 15 rfl (by kernel_rfl) (.sh (Sh.freezeE (d := 175) (((n.data).map (rnB (kw n dl69 sM))).map irow) rfl (by first | rfl | exact rep_map rfl) (Frees.map irow_frees)) (.storeC si22 rfl rfl rfl rfl rfl rfl (nbE rfl) rfl ?_))
 refine .nil ⟨rfl, ?_⟩
 refine .one 16 rfl (by kernel_rfl) ?_
 refine .fa fl27_10 ?_
 refine .nil ⟨rfl, ?_⟩
 refine .one 17 rfl (by kernel_rfl) (.sh (Sh.freezeE (d := 179) (((n.rets).map (rnB (kw n dl69 sM))).map irow) rfl (by first | rfl | exact rep_map rfl) (Frees.map irow_frees)) (.storeC si22 rfl rfl rfl rfl rfl rfl (nbE rfl) rfl ?_))
 refine .nil ⟨rfl, ?_⟩
 refine .done (by kernel_rfl) ?_
 refine .le (st' := ⟨[(1, .fp (Netlist.row n) 0), (2, .ptr 102 0 0 0), (10, .ptr 110 0 0 0), (11, .fp [.fz 1 (n82_23.map irow)] 0)], [(102, .cells [.v (.string ByteArray.empty), .v (.slice none 0 0), .v (.slice none 0 0), .v (.slice none 0 0), .v (.slice none 0 0), .v (.slice none 0 0), .v (.slice none 0 0), .v (.slice none 0 0), vi 0, vi 0, .v (.slice none 0 0)]), (110, .cells [.v (.string n.name), .slc 301 1 0 n201_23.length, .slc 302 6 0 n202_33.length, .fz 1 (n.ins.map irow), .fz 5 (n.mems.map Arr.row), .fz 3 (n.streams.map Strm.row), .fz 1 (((n.active).map (rnB (kw n dl69 sM))).map irow), .fz 1 (((n.data).map (rnB (kw n dl69 sM))).map irow), vi n.freeze, vi n.done, .fz 1 (((n.rets).map (rnB (kw n dl69 sM))).map irow)]), (301, .rows 1 (n201_23.map irow)), (302, .rows 6 (n202_33.map Cell.row))]⟩) (Le.mk (.c (.c (.c (.c (.nil))))) (.c (.c (.c (.c (.nil)))))) ?_
 refine .seq ?_
 have hfz := hf.freeze; have hdn := hf.done; unfold In at hfz hdn
 refine .regionHeld0 rfl (.load 0 rfl (by kernel_rfl) sh22 rfl rfl rfl rfl rfl (by decide) (.blind 1 rfl (by kernel_rfl) (Blind.fieldAddr fl27_8 rfl rfl) (by decide) ?_))
 refine .load 2 rfl (by kernel_rfl) sh3 rfl rfl rfl rfl rfl (by decide) ?_
 refine .blind 3 rfl (by kernel_rfl) (Blind.indexF (m := (n.freeze).toNat) sl22 rfl rfl (by omega) (row_getD (d := 0) (by omega))) (by decide) ?_
 refine .load 4 rfl (by kernel_rfl) sh3 rfl rfl rfl rfl rfl (by decide) (.load 5 rfl (by kernel_rfl) sh22 rfl rfl rfl rfl rfl (by decide) (.blind 6 rfl (by kernel_rfl) (Blind.fieldAddr fl27_9 rfl rfl) (by decide) ?_))
 refine .load 7 rfl (by kernel_rfl) sh3 rfl rfl rfl rfl rfl (by decide) ?_
 refine .blind 8 rfl (by kernel_rfl) (Blind.indexF (m := (n.done).toNat) sl22 rfl rfl (by omega) (row_getD (d := 0) (by omega))) (by decide) ?_
 refine .load 9 rfl (by kernel_rfl) sh3 rfl rfl rfl rfl rfl (by decide) (.blind 10 rfl (by kernel_rfl) (Blind.fieldAddr fl27_8 rfl rfl) (by decide) (.go0 ?_))
 refine .one 11 rfl (by kernel_rfl) (.storeC si3 rfl rfl rfl rfl rfl rfl (nbE rfl) rfl ?_)
 refine .nil ⟨rfl, ?_⟩
 refine .one 12 rfl (by kernel_rfl) ?_
 refine .fa fl27_9 ?_
 refine .nil ⟨rfl, ?_⟩
 refine .one 13 rfl (by kernel_rfl) (.storeC si3 rfl rfl rfl rfl rfl rfl (nbE rfl) rfl ?_)
 refine .nil ⟨rfl, ?_⟩
 refine .done (by kernel_rfl) ?_
 refine .le (st' := ⟨[(2, .ptr 102 0 0 0), (10, .ptr 110 0 0 0)], [(102, .cells [.v (.string ByteArray.empty), .v (.slice none 0 0), .v (.slice none 0 0), .v (.slice none 0 0), .v (.slice none 0 0), .v (.slice none 0 0), .v (.slice none 0 0), .v (.slice none 0 0), vi 0, vi 0, .v (.slice none 0 0)]), (110, .cells [.v (.string n.name), .slc 301 1 0 n201_23.length, .slc 302 6 0 n202_33.length, .fz 1 (n.ins.map irow), .fz 5 (n.mems.map Arr.row), .fz 3 (n.streams.map Strm.row), .fz 1 (((n.active).map (rnB (kw n dl69 sM))).map irow), .fz 1 (((n.data).map (rnB (kw n dl69 sM))).map irow), vi (n82_23.getD ((n.freeze).toNat) 0), vi (n82_23.getD ((n.done).toNat) 0), .fz 1 (((n.rets).map (rnB (kw n dl69 sM))).map irow)]), (301, .rows 1 (n201_23.map irow)), (302, .rows 6 (n202_33.map Cell.row))]⟩) (Le.mk (.c (.c (.nil))) (.c (.c (.c (.c (.nil)))))) ?_
 refine .seq ?_
 refine .sh (Sh.fzObj 110 301 1 rfl rfl rfl (len_map (by omega)) (Frees.map irow_frees) (by decide) rfl rfl rfl) ?_
 refine .sh (Sh.fzObj 110 302 2 rfl rfl rfl (len_map (by omega)) (Frees.map Cell.row_frees) (by decide) rfl rfl rfl) ?_
 refine .region (.vl (Y.loadA sh27 rfl rfl (nbE rfl) rfl rfl) (.storeC si27 rfl rfl rfl rfl rfl rfl (nbE rfl) rfl ?_))
 refine .nil (.ret ?_)
 have hw9 := Wn.at (show n86_23 = n.widths.length by omega) hW; have hz9 := num_at hNum hf.freeze; have hd9 := num_at hNum hf.done; rw [show n132_33 = n.cells.length by omega] at hC
 exact ⟨_, _, rfl, rfl, dl69, _, sM, hdl69, hRts, hsM, by rw [hw9, hC, hz9, hd9]; rfl, rfl⟩
end Go.Proofs.Ytligpghohcfpnaa
/- The walk of Needed. -/
namespace Go.Proofs.Ytligpghohcfpnaa
open Go Go.AW Go.Proofs
theorem needed_spec {n : Netlist} {rs : List Int} {s : List Bool} (hM : VP n) (hrs : RootsOf n rs) (hc : ConeL n rs s) : ACalls Try.prog 37 [.agg (Netlist.row n)] [] [] (fun r o => ∃ nd : List Bool, nd.length = n.cells.length ∧ (∀ i, i < n.cells.length → nd.getD i false = kc n s i) ∧ r = .uni 1 (nd.map brow) ∧ o = []) := by
 refine ACalls.of Try.func37 rfl rfl rfl (n := 97) (by decide) (nbE rfl) ?_
 have hs := hM.small; have hf := hM.formed; have hnc := hM.ncells; have hnw := hM.nwidths; have hna := hM.nargs; have hnr := hM.nrets; have hns := hM.nstreams; have hac := hf.nactive; have hda := hf.ndata
 refine .sr (.box 101 rfl rfl rfl rfl rfl (by decide) ?_)
 refine .an ?_
 refine .nil (.seq (.sh (Sh.freezeO 101 rfl rfl) ?_))
 refine .region ?_
 refine .fa fl27_2 ?_
 refine .ld sh23 ?_
 refine .vl (Y.len (n := n.cells.length) sl23 rfl (congrArg some (List.length_map ..))) ?_
 refine .makeSlice (n := n.cells.length) sl63 ze4 rfl rfl rfl rfl (by omega) (by omega) (by decide) ?_
 refine .assignX rfl (by decide) (.sh (Sh.adoptE (d := 3) (n := n.cells.length) 103 ((List.replicate n.cells.length false).map brow) rfl (by first | rfl | exact rep_map rfl) (len_map (by simp)) (by decide)) (.nil ?_))
 refine .sr (.vl (Y.loadA sh27 rfl rfl (nbE rfl) rfl rfl) (.callV ok38 (drivers_spec (n := n) hs hf) rfl (.keep rfl rfl .nil) (by decide) ?_))
 rintro _ ⟨dl13, hdl13, rfl, _⟩
 refine ⟨rfl, ?_⟩
 refine .assignX rfl (by decide) (.sh (Sh.freezeE (d := 4) (dl13.map irow) rfl (by first | rfl | exact rep_map rfl) (Frees.map irow_frees)) (.nil ?_))
 refine .seq (.regionHeld0 rfl (.blind 0 rfl (by kernel_rfl) (Blind.fieldAddr fl27_8 rfl rfl) (by decide) ?_))
 refine .load 1 rfl (by kernel_rfl) sh3 rfl rfl rfl rfl rfl (by decide) (.blind 2 rfl (by kernel_rfl) (Blind.fieldAddr fl27_9 rfl rfl) (by decide) (.load 3 rfl (by kernel_rfl) sh3 rfl rfl rfl rfl rfl (by decide) ?_))
 refine .blind 5 rfl (by kernel_rfl) (Blind.fieldAddr fl27_10 rfl rfl) (by decide) (.load 6 rfl (by kernel_rfl) sh22 rfl rfl rfl rfl rfl (by decide) (.blind 8 rfl (by kernel_rfl) (Blind.fieldAddr fl27_6 rfl rfl) (by decide) ?_))
 refine .load 9 rfl (by kernel_rfl) sh22 rfl rfl rfl rfl rfl (by decide) (.blind 11 rfl (by kernel_rfl) (Blind.fieldAddr fl27_7 rfl rfl) (by decide) (.load 12 rfl (by kernel_rfl) sh22 rfl rfl rfl rfl rfl (by decide) ?_))
 refine .go0 (.one 4 rfl (by kernel_rfl) ?_)
 refine .buildSlice (([n.freeze, n.done] : List Int).map irow) sl22 ze3 rfl rfl rfl rfl rfl (uniform_map (s := 1) (f := irow) (fun _ => rfl)) rfl rfl rfl (by decide) ?_
 refine .nil ⟨rfl, ?_⟩
 refine .one 7 rfl (by kernel_rfl) (.sh (Sh.adoptE (d := 18) (n := ([n.freeze, n.done] : List Int).length) 118 (([n.freeze, n.done] : List Int).map irow) rfl (by first | rfl | exact rep_map rfl) (len_map rfl) (by decide)) ?_)
 refine .appendFE ((([n.freeze, n.done] : List Int) ++ n.rets).map irow) (([n.freeze, n.done] : List Int) ++ n.rets).length sl22 ze3 rfl rfl rfl rfl (app_le (by first | omega | simp [-List.getD_eq_getElem?_getD] <;> omega)) (app_map (by first | omega | simp [-List.getD_eq_getElem?_getD] <;> omega)) (app_n (by first | omega | simp [-List.getD_eq_getElem?_getD] <;> omega)) (by first | omega | simp [-List.getD_eq_getElem?_getD] <;> omega) (by first | omega | simp [-List.getD_eq_getElem?_getD] <;> omega) (by decide) (by decide) ?_
 refine .nil ⟨rfl, ?_⟩
 refine .one 10 rfl (by kernel_rfl) ?_
 refine .appendFE (((([n.freeze, n.done] : List Int) ++ n.rets) ++ n.active).map irow) ((([n.freeze, n.done] : List Int) ++ n.rets) ++ n.active).length sl22 ze3 rfl rfl rfl rfl (app_le (by first | omega | simp [-List.getD_eq_getElem?_getD] <;> omega)) (app_map (by first | omega | simp [-List.getD_eq_getElem?_getD] <;> omega)) (app_n (by first | omega | simp [-List.getD_eq_getElem?_getD] <;> omega)) (by first | omega | simp [-List.getD_eq_getElem?_getD] <;> omega) (by first | omega | simp [-List.getD_eq_getElem?_getD] <;> omega) (by decide) (by decide) ?_
 refine .nil ⟨rfl, ?_⟩
 refine .one 13 rfl (by kernel_rfl) ?_
 refine .appendFE ((((([n.freeze, n.done] : List Int) ++ n.rets) ++ n.active) ++ n.data).map irow) (((([n.freeze, n.done] : List Int) ++ n.rets) ++ n.active) ++ n.data).length sl22 ze3 rfl rfl rfl rfl (app_le (by first | omega | simp [-List.getD_eq_getElem?_getD] <;> omega)) (app_map (by first | omega | simp [-List.getD_eq_getElem?_getD] <;> omega)) (app_n (by first | omega | simp [-List.getD_eq_getElem?_getD] <;> omega)) (by first | omega | simp [-List.getD_eq_getElem?_getD] <;> omega) (by first | omega | simp [-List.getD_eq_getElem?_getD] <;> omega) (by decide) (by decide) ?_
 refine .nil ⟨rfl, ?_⟩
 refine .one 14 rfl (by kernel_rfl) ?_
 refine .an ?_
 refine .nil ⟨rfl, ?_⟩
 refine .done (by kernel_rfl) (.seq (.sr ?_))
 refine .an ?_
 refine .nil (.block ?_)
 refine .loop3 (fun (i6_5 : Nat) (need3_5 : List Bool) (n18_5 : List Int) => ⟨[(1, .fp (Netlist.row n) 0), (3, .slc 103 1 0 n.cells.length), (4, .fz 1 (dl13.map irow)), (5, .slc 118 1 0 n18_5.length), (6, vi (i6_5 : Int))], [(103, .rows 1 (need3_5.map brow)), (118, .rows 1 (n18_5.map irow))]⟩) (fun (i6_5 : Nat) (need3_5 : List Bool) (n18_5 : List Int) => (need3_5.length = n.cells.length) ∧ ((i6_5 : Int) ≤ ((n.cells.length : Nat) : Int)) ∧ (Nd0 n i6_5 need3_5 n18_5)) (fun (i6_5 : Nat) (need3_5 : List Bool) (n18_5 : List Int) => (((n.cells.length : Nat) : Int) - (i6_5 : Int)).toNat) 0 (List.replicate n.cells.length false) (((([n.freeze, n.done] : List Int) ++ n.rets) ++ n.active) ++ n.data) (⟨by first | omega | (simp [-List.getD_eq_getElem?_getD]; done) | (simp [-List.getD_eq_getElem?_getD]; omega), by first | omega | (simp [-List.getD_eq_getElem?_getD]; done) | (simp [-List.getD_eq_getElem?_getD]; omega), Nd0.init hM⟩) (Le.mk (.c (.c (.c (.cons (look_slc rfl (by first | omega | simp [-List.getD_eq_getElem?_getD] <;> omega)) (.cons (look_int rfl (by first | rfl | omega)) (.nil)))))) (.c (.c (.nil)))) (fun i6_5 need3_5 n18_5 hI5 => ?_)
 obtain ⟨hl103, hb5, hN⟩ := hI5
 refine .seq (.sr ?_)
 refine .mv ?_
 refine .fa fl27_2 ?_
 refine .ld sh23 ?_
 refine .vl (Y.len (n := n.cells.length) sl23 rfl (congrArg some (List.length_map ..))) (.vl (Y.lss rfl rfl) (.nil ?_))
 refine .condD rfl (fun c32 => ?_) (fun c32 => ?_)
 refine .skip ?_
 refine .join2 (fun (need3_j6 : List Bool) (n18_j6 : List Int) => ⟨[(1, .fp (Netlist.row n) 0), (3, .slc 103 1 0 n.cells.length), (4, .fz 1 (dl13.map irow)), (5, .slc 118 1 0 n18_j6.length), (6, vi (i6_5 : Int))], [(103, .rows 1 (need3_j6.map brow)), (118, .rows 1 (n18_j6.map irow))]⟩) (fun (need3_j6 : List Bool) (n18_j6 : List Int) => (need3_j6.length = n.cells.length) ∧ (Nd0 n (i6_5 + 1) need3_j6 n18_j6)) ?_ (fun need3_j6 n18_j6 hJx6 => ?_)
 refine .block (.sr ?_)
 refine .fa fl27_2 ?_
 refine .ld sh23 ?_
 refine .mv ?_
 refine .vl (Y.indexF (m := i6_5) sl23 rfl rfl (by first | rfl | omega) (row_getD (d := default) (by omega))) ?_
 refine .fa fl39_0 ?_
 refine .ld sh3 ?_
 refine .callP ok22 (refComb_spec (w := ((n.cells.getD i6_5 default).kind))) rfl (.keep rfl rfl .nil) (by decide) rfl (.vl (Y.not rfl) (.nil ?_))
 refine .cond rfl (fun c42 => ?_) (fun c42 => ?_)
 replace c42 : ¬ (Comb ((n.cells.getD i6_5 default).kind)) := by simpa using c42
 refine .sr ?_
 refine .mv ?_
 refine .mv ?_
 refine .vl (Y.indexO (m := i6_5) sl63 rfl rfl (by first | rfl | omega) (by omega)) ?_
 refine .storeE ((need3_5.set i6_5 true).map brow) si4 rfl rfl rfl rfl rfl rfl rfl (row_getD0 (d := false) (by omega)) (nbE rfl) (set_map0 rfl) ?_
 refine .nil ?_
 have h9 := hna (n.cells.getD i6_5 default) (getD_in (by omega)); have h9b := hN.sz
 refine .region ?_
 refine .mv ?_
 refine .fa fl27_2 ?_
 refine .ld sh23 ?_
 refine .mv ?_
 refine .vl (Y.indexF (m := i6_5) sl23 rfl rfl (by first | rfl | omega) (row_getD (d := default) (by omega))) ?_
 refine .fa fl39_3 ?_
 refine .ld sh22 ?_
 refine .appendFE ((n18_5 ++ ((n.cells.getD i6_5 default).args)).map irow) (n18_5 ++ ((n.cells.getD i6_5 default).args)).length sl22 ze3 rfl rfl rfl rfl (app_le (by first | omega | simp [-List.getD_eq_getElem?_getD] <;> omega)) (app_map (by first | omega | simp [-List.getD_eq_getElem?_getD] <;> omega)) (app_n (by first | omega | simp [-List.getD_eq_getElem?_getD] <;> omega)) (by first | omega | simp [-List.getD_eq_getElem?_getD] <;> omega) (by first | omega | simp [-List.getD_eq_getElem?_getD] <;> omega) (by decide) (by decide) ?_
 refine .an ?_
 refine .nil ?_
 exact ⟨need3_5.set i6_5 true, n18_5 ++ ((n.cells.getD i6_5 default).args), ⟨by first | omega | (simp [-List.getD_eq_getElem?_getD]; done) | (simp [-List.getD_eq_getElem?_getD]; omega), by first | exact hN.yes hM (by omega) (by assumption) | exact hN.no (Classical.not_not.1 (by assumption)) | exact hN.no (by assumption)⟩, Le.mk (.c (.c (.c (.cons (look_slc rfl (by first | omega | simp [-List.getD_eq_getElem?_getD] <;> omega)) (.c (.nil)))))) (.c (.c (.nil)))⟩
 replace c42 : Comb ((n.cells.getD i6_5 default).kind) := by simpa using c42
 refine .skip ?_
 exact ⟨need3_5, n18_5, ⟨by omega, by first | exact hN.yes hM (by omega) (by assumption) | exact hN.no (Classical.not_not.1 (by assumption)) | exact hN.no (by assumption)⟩, Le.mk (.c (.c (.c (.cons (look_slc rfl (by omega)) (.c (.nil)))))) (.c (.c (.nil)))⟩
 obtain ⟨hlj6_103, hJ6⟩ := hJx6
 refine .region ?_
 refine .mv ?_
 refine .vl (Y.addI rfl rfl (by omega)) ?_
 refine .an ?_
 refine .nil ?_
 exact ⟨i6_5 + 1, need3_j6, n18_j6, ⟨by omega, by omega, hJ6⟩, by omega, Le.mk (.c (.c (.c (.cons (look_slc rfl (by omega)) (.cons (look_int rfl (by first | rfl | omega)) (.nil)))))) (.c (.c (.nil)))⟩
 refine .exit (.seq (.block ?_))
 refine .loop2 (fun (need3_10 : List Bool) (n18_10 : List Int) => ⟨[(1, .fp (Netlist.row n) 0), (3, .slc 103 1 0 n.cells.length), (4, .fz 1 (dl13.map irow)), (5, .slc 118 1 0 n18_10.length)], [(103, .rows 1 (need3_10.map brow)), (118, .rows 1 (n18_10.map irow))]⟩) (fun (need3_10 : List Bool) (n18_10 : List Int) => (need3_10.length = n.cells.length) ∧ (Sn n dl13 rs n18_10 need3_10) ∧ (n18_10.length + 4 * unseen need3_10 ≤ 1000)) (fun (need3_10 : List Bool) (n18_10 : List Int) => n18_10.length + 5 * unseen need3_10) need3_5 n18_5 (⟨by omega, Sn.init hf hrs (by rw [show n.cells.length = i6_5 by omega]; exact hN), by have h1 := unseen_le need3_5; have h2 := hN.sz; have h3 := hN.len; omega⟩) (Le.mk (.c (.c (.c (.cons (look_slc rfl (by omega)) (.nil))))) (.c (.c (.nil)))) (fun need3_10 n18_10 hI10 => ?_)
 obtain ⟨hl103, hS, hsz⟩ := hI10
 refine .seq (.sr ?_)
 refine .mv ?_
 refine .vl (Y.len (n := n18_10.length) sl22 rfl rfl) (.vl (Y.gtr rfl rfl) (.nil ?_))
 refine .condD rfl (fun c56 => ?_) (fun c56 => ?_)
 refine .skip (.block (.sr ?_))
 refine .mv ?_
 refine .mv ?_
 refine .vl (Y.len (n := n18_10.length) sl22 rfl rfl) (.vl (Y.sub rfl rfl (natsub (a := n18_10.length) (b := 1) (by first | omega | (simp; omega)))) ?_)
 refine .vl (Y.indexO (m := n18_10.length - 1) sl22 rfl rfl (by first | rfl | omega) (by omega)) ?_
 refine .vl (Y.load sh3 rfl (row_getD0 (d := 0) (by omega)) rfl rfl) ?_
 refine .an ?_
 refine .nil (.sr ?_)
 refine .mv ?_
 refine .mv ?_
 refine .vl (Y.len (n := n18_10.length) sl22 rfl rfl) (.vl (Y.sub rfl rfl (natsub (a := n18_10.length) (b := 1) (by first | omega | (simp; omega)))) ?_)
 refine .vl (Y.sliceO (l := 0) (h := n18_10.length - 1) sl22 rfl (.none _) (.some rfl) (by omega) (by omega)) ?_
 refine .sh (Sh.trimE (d := 67) (o := 118) ((n18_10.take (n18_10.length - 1)).map irow) rfl rfl (take_le (by omega)) take_he (by decide)) ?_
 refine .an ?_
 refine .nil (.seq (.seq ?_))
 have h13 := hS.rng (n18_10.getD (n18_10.length - 1) 0) (getD_mem (l := n18_10) (i := n18_10.length - 1) (by omega)); have h13b := hdl13.drv (n18_10.getD (n18_10.length - 1) 0); have h13c := hdl13.len; unfold In at h13 h13b
 refine .region ?_
 refine .mv ?_
 refine .vl (Y.lss rfl rfl) ?_
 refine .mv ?_
 refine .splitD (d := 70) rfl (fun c70 => ?_) (fun c70 => ?_)
 refine .gz 70 (.gz 70 (.gz 70 ?_))
 refine .gz 70 (.gz 70 (.gz 70 ?_))
 refine .gz 70 ?_
 refine .pk ?_
 refine .nil (.condT rfl (.exit ?_))
 exact ⟨need3_10, n18_10.take (n18_10.length - 1), ⟨by first | omega | (simp [-List.getD_eq_getElem?_getD]; done) | (simp [-List.getD_eq_getElem?_getD]; omega), by first | exact (hS.mark hdl13 hf (by omega) (by omega) (by assumption)).1 | exact hS.skip (fun w h => (((hrs w).1 h).rng hf).1) hf (by omega) (.inl (by omega)) | exact hS.skip (fun w h => (((hrs w).1 h).rng hf).1) hf (by omega) (.inr (by assumption)), by first | (have h1 := (hS.mark hdl13 hf (by omega) (by omega) (by assumption)).2; simp only [List.length_append, List.length_take]; omega) | (simp only [List.length_take]; omega)⟩, by first | (have h1 := (hS.mark hdl13 hf (by omega) (by omega) (by assumption)).2; simp only [List.length_append, List.length_take]; omega) | (simp only [List.length_take]; omega), Le.mk (.c (.c (.c (.cons (look_slc rfl (by first | omega | simp [-List.getD_eq_getElem?_getD] <;> omega)) (.nil))))) (.c (.c (.nil)))⟩
 have h70 := (h13b (h13.resolve_left (by omega))).1
 refine .gw 70 (Y.move rfl rfl) (.gw 70 (Y.move rfl rfl) (.gw 70 (Y.move rfl rfl) ?_))
 refine .gw 70 (Y.indexF (m := (n18_10.getD (n18_10.length - 1) 0).toNat) sl22 rfl rfl (by omega) (row_getD (d := 0) (by omega))) ?_
 refine .gw 70 (Y.load sh3 rfl rfl rfl rfl) ?_
 refine .gw 70 (Y.indexO (m := (dl13.getD ((n18_10.getD (n18_10.length - 1) 0).toNat) 0).toNat) sl63 rfl rfl (by omega) (by omega)) ?_
 refine .gw 70 (Y.load sh4 rfl (row_getD0 (d := false) (by omega)) rfl rfl) ?_
 refine .pk ?_
 refine .nil ?_
 refine .cond rfl (fun c78 => ?_) (fun c78 => ?_)
 refine .exit ?_
 exact ⟨need3_10, n18_10.take (n18_10.length - 1), ⟨by first | omega | (simp [-List.getD_eq_getElem?_getD]; done) | (simp [-List.getD_eq_getElem?_getD]; omega), by first | exact (hS.mark hdl13 hf (by omega) (by omega) (by assumption)).1 | exact hS.skip (fun w h => (((hrs w).1 h).rng hf).1) hf (by omega) (.inl (by omega)) | exact hS.skip (fun w h => (((hrs w).1 h).rng hf).1) hf (by omega) (.inr (by assumption)), by first | (have h1 := (hS.mark hdl13 hf (by omega) (by omega) (by assumption)).2; simp only [List.length_append, List.length_take]; omega) | (simp only [List.length_take]; omega)⟩, by first | (have h1 := (hS.mark hdl13 hf (by omega) (by omega) (by assumption)).2; simp only [List.length_append, List.length_take]; omega) | (simp only [List.length_take]; omega), Le.mk (.c (.c (.c (.cons (look_slc rfl (by first | omega | simp [-List.getD_eq_getElem?_getD] <;> omega)) (.nil))))) (.c (.c (.nil)))⟩
 refine .skip (.seq ?_)
 have h14 := (h13b (h13.resolve_left (by omega))).1; have h14b := hna (n.cells.getD (dl13.getD (n18_10.getD (n18_10.length - 1) 0).toNat 0).toNat default) (getD_in (by omega)); have htl := take_len (l := n18_10) (k := n18_10.length - 1) (by omega)
 refine .region ?_
 refine .mv ?_
 refine .mv ?_
 refine .mv ?_
 refine .vl (Y.indexF (m := (n18_10.getD (n18_10.length - 1) 0).toNat) sl22 rfl rfl (by omega) (row_getD (d := 0) (by omega))) ?_
 refine .ld sh3 ?_
 refine .vl (Y.indexO (m := (dl13.getD ((n18_10.getD (n18_10.length - 1) 0).toNat) 0).toNat) sl63 rfl rfl (by omega) (by omega)) ?_
 refine .storeE ((need3_10.set ((dl13.getD ((n18_10.getD (n18_10.length - 1) 0).toNat) 0).toNat) true).map brow) si4 rfl rfl rfl rfl rfl rfl rfl (row_getD0 (d := false) (by omega)) (nbE rfl) (set_map0 rfl) ?_
 refine .nil (.regionT 10 rfl (by kernel_rfl) (.val (Y.move rfl rfl) (by decide) ?_))
 refine .val (Y.fieldAddr fl27_2 rfl rfl) (by decide) (.val (Y.load sh23 rfl rfl rfl rfl) (by decide) (.val (Y.move rfl rfl) (by decide) ?_))
 refine .val (Y.move rfl rfl) (by decide) ?_
 refine .val (Y.indexF (m := (n18_10.getD (n18_10.length - 1) 0).toNat) sl22 rfl rfl (by omega) (row_getD (d := 0) (by omega))) (by decide) ?_
 refine .val (Y.load sh3 rfl rfl rfl rfl) (by decide) ?_
 refine .val (Y.indexF (m := (dl13.getD ((n18_10.getD (n18_10.length - 1) 0).toNat) 0).toNat) sl23 rfl rfl (by omega) (row_getD (d := default) (by omega))) (by decide) ?_
 refine .val (Y.fieldAddr fl39_3 rfl rfl) (by decide) (.val (Y.load sh22 rfl rfl rfl rfl) (by decide) (.nil ?_))
 refine .appendFE (((n18_10.take (n18_10.length - 1)) ++ ((n.cells.getD ((dl13.getD ((n18_10.getD (n18_10.length - 1) 0).toNat) 0).toNat) default).args)).map irow) ((n18_10.take (n18_10.length - 1)) ++ ((n.cells.getD ((dl13.getD ((n18_10.getD (n18_10.length - 1) 0).toNat) 0).toNat) default).args)).length sl22 ze3 rfl rfl rfl rfl (app_le (by first | omega | simp [-List.getD_eq_getElem?_getD] <;> omega)) (app_map (by first | omega | simp [-List.getD_eq_getElem?_getD] <;> omega)) (app_n (by first | omega | simp [-List.getD_eq_getElem?_getD] <;> omega)) (by first | omega | simp [-List.getD_eq_getElem?_getD] <;> omega) (by first | omega | simp [-List.getD_eq_getElem?_getD] <;> omega) (by decide) (by decide) ?_
 refine .an ?_
 refine .nil ?_
 exact ⟨need3_10.set ((dl13.getD ((n18_10.getD (n18_10.length - 1) 0).toNat) 0).toNat) true, (n18_10.take (n18_10.length - 1)) ++ ((n.cells.getD ((dl13.getD ((n18_10.getD (n18_10.length - 1) 0).toNat) 0).toNat) default).args), ⟨by first | omega | (simp [-List.getD_eq_getElem?_getD]; done) | (simp [-List.getD_eq_getElem?_getD]; omega), by first | exact (hS.mark hdl13 hf (by omega) (by omega) (by assumption)).1 | exact hS.skip (fun w h => (((hrs w).1 h).rng hf).1) hf (by omega) (.inl (by omega)) | exact hS.skip (fun w h => (((hrs w).1 h).rng hf).1) hf (by omega) (.inr (by assumption)), by first | (have h1 := (hS.mark hdl13 hf (by omega) (by omega) (by assumption)).2; simp only [List.length_append, List.length_take]; omega) | (simp only [List.length_take]; omega)⟩, by first | (have h1 := (hS.mark hdl13 hf (by omega) (by omega) (by assumption)).2; simp only [List.length_append, List.length_take]; omega) | (simp only [List.length_take]; omega), Le.mk (.c (.c (.c (.cons (look_slc rfl (by first | omega | simp [-List.getD_eq_getElem?_getD] <;> omega)) (.nil))))) (.c (.c (.nil)))⟩
 refine .exit (.sr ?_)
 refine .mv ?_
 refine .an ?_
 refine .sh (Sh.detach (d := 2) (o := 103) rfl rfl (len_map (by omega)) (by decide)) ?_
 refine .nil (.ret ?_)
 exact ⟨_, _, rfl, rfl, need3_10, hS.len, hS.done hdl13 hf (fun w h => ((hrs w).1 h).rng hf) (by omega) hc, rfl, rfl⟩
end Go.Proofs.Ytligpghohcfpnaa
/- The walk of renamed. -/
namespace Go.Proofs.Ytligpghohcfpnaa
open Go Go.AW Go.Proofs
theorem renamed_spec {p : Nat → Bool} {a : Cell} {nb : List Int} {k : Nat} (hn : NumL p k nb) (hal : a.args.length ≤ 1000) (ho : a.out = -1 ∨ (0 ≤ a.out ∧ a.out < k)) (ha : ∀ x ∈ a.args, 0 ≤ x ∧ x < k) : ACalls Try.prog 39 [.agg (Cell.row a), .agg (Cell.row (renC p a)), .fz 1 (nb.map irow)] [] [] (fun r o => r = .v (.bool true) ∧ o = []) := by
 refine ACalls.of Try.func39 rfl rfl rfl (n := 89) (by decide) (nbE rfl) ?_
 have hnl := hn.1; have hrl := renC_len (p := p) (a := a)
 refine .sr (.box 103 rfl rfl rfl rfl rfl (by decide) (.box 104 rfl rfl rfl rfl rfl (by decide) ?_))
 refine .an ?_
 refine .nil ?_
 refine .join0 (⟨[(2, .fz 1 (nb.map irow)), (3, .ptr 103 0 0 0), (4, .ptr 104 0 0 0)], [(103, .cells (Cell.row a)), (104, .cells (Cell.row (renC p a)))]⟩) (((¬ (a.kind ≠ ((renC p a).kind))) ∧ (¬ (a.op ≠ ((renC p a).op))) ∧ (¬ (((a.num : Nat) : Int) ≠ (((renC p a).num : Nat) : Int))) ∧ (¬ (a.mem ≠ ((renC p a).mem))) ∧ (¬ (((a.args.length : Nat) : Int) ≠ ((((renC p a).args).length : Nat) : Int))) ∧ (0 ≤ a.out) ∧ (¬ (((renC p a).out) ≠ (nb.getD ((a.out).toNat) 0))) ∧ (a.out < 0) ∧ (¬ (((renC p a).out) ≠ (-1)))) ∨ ((¬ (a.kind ≠ ((renC p a).kind))) ∧ (¬ (a.op ≠ ((renC p a).op))) ∧ (¬ (((a.num : Nat) : Int) ≠ (((renC p a).num : Nat) : Int))) ∧ (¬ (a.mem ≠ ((renC p a).mem))) ∧ (¬ (((a.args.length : Nat) : Int) ≠ ((((renC p a).args).length : Nat) : Int))) ∧ (0 ≤ a.out) ∧ (¬ (((renC p a).out) ≠ (nb.getD ((a.out).toNat) 0))) ∧ (¬ (a.out < 0))) ∨ ((¬ (a.kind ≠ ((renC p a).kind))) ∧ (¬ (a.op ≠ ((renC p a).op))) ∧ (¬ (((a.num : Nat) : Int) ≠ (((renC p a).num : Nat) : Int))) ∧ (¬ (a.mem ≠ ((renC p a).mem))) ∧ (¬ (((a.args.length : Nat) : Int) ≠ ((((renC p a).args).length : Nat) : Int))) ∧ (¬ (0 ≤ a.out)) ∧ (a.out < 0) ∧ (¬ (((renC p a).out) ≠ (-1)))) ∨ ((¬ (a.kind ≠ ((renC p a).kind))) ∧ (¬ (a.op ≠ ((renC p a).op))) ∧ (¬ (((a.num : Nat) : Int) ≠ (((renC p a).num : Nat) : Int))) ∧ (¬ (a.mem ≠ ((renC p a).mem))) ∧ (¬ (((a.args.length : Nat) : Int) ≠ ((((renC p a).args).length : Nat) : Int))) ∧ (¬ (0 ≤ a.out)) ∧ (¬ (a.out < 0)))) ?_ (fun hJ3 => ?_)
 refine .seq (.regionS rfl (by kernel_rfl) (.val (Y.fieldAddr fl39_0 rfl rfl) (by decide) ?_))
 refine .val (Y.load sh3 rfl rfl rfl rfl) (by decide) (.val (Y.fieldAddr fl39_0 rfl rfl) (by decide) (.val (Y.load sh3 rfl rfl rfl rfl) (by decide) ?_))
 refine .val (Y.neq rfl rfl) (by decide) (.val (Y.move rfl rfl) (by decide) ?_)
 refine .splitD (d := 13) rfl (fun c13 => ?_) (fun c13 => ?_)
 exact absurd rfl c13
 refine .guardRun (d := 13) rfl (by decide) rfl (.val (Y.fieldAddr fl39_1 rfl rfl) (by decide) (.guardRun (d := 13) rfl (by decide) rfl ?_))
 refine .val (Y.load sh3 rfl rfl rfl rfl) (by decide) (.guardRun (d := 13) rfl (by decide) rfl (.val (Y.fieldAddr fl39_1 rfl rfl) (by decide) ?_))
 refine .guardRun (d := 13) rfl (by decide) rfl (.val (Y.load sh3 rfl rfl rfl rfl) (by decide) (.guardRun (d := 13) rfl (by decide) rfl ?_))
 refine .val (Y.neq rfl rfl) (by decide) (.val (Y.pick rfl rfl rfl) (by decide) (.val (Y.move rfl rfl) (by decide) ?_))
 refine .splitD (d := 20) rfl (fun c20 => ?_) (fun c20 => ?_)
 exact absurd rfl c20
 refine .guardRun (d := 20) rfl (by decide) rfl (.val (Y.fieldAddr fl39_4 rfl rfl) (by decide) (.guardRun (d := 20) rfl (by decide) rfl ?_))
 refine .val (Y.load sh37 rfl rfl rfl rfl) (by decide) (.guardRun (d := 20) rfl (by decide) rfl (.val (Y.fieldAddr fl39_4 rfl rfl) (by decide) ?_))
 refine .guardRun (d := 20) rfl (by decide) rfl (.val (Y.load sh37 rfl rfl rfl rfl) (by decide) (.guardRun (d := 20) rfl (by decide) rfl ?_))
 refine .val (Y.neq rfl rfl) (by decide) (.val (Y.pick rfl rfl rfl) (by decide) (.val (Y.move rfl rfl) (by decide) ?_))
 refine .splitD (d := 27) rfl (fun c27 => ?_) (fun c27 => ?_)
 exact absurd rfl c27
 refine .guardRun (d := 27) rfl (by decide) rfl (.val (Y.fieldAddr fl39_5 rfl rfl) (by decide) (.guardRun (d := 27) rfl (by decide) rfl ?_))
 refine .val (Y.load sh3 rfl rfl rfl rfl) (by decide) (.guardRun (d := 27) rfl (by decide) rfl (.val (Y.fieldAddr fl39_5 rfl rfl) (by decide) ?_))
 refine .guardRun (d := 27) rfl (by decide) rfl (.val (Y.load sh3 rfl rfl rfl rfl) (by decide) (.guardRun (d := 27) rfl (by decide) rfl ?_))
 refine .val (Y.neq rfl rfl) (by decide) (.val (Y.pick rfl rfl rfl) (by decide) (.val (Y.move rfl rfl) (by decide) ?_))
 refine .splitD (d := 34) rfl (fun c34 => ?_) (fun c34 => ?_)
 exact absurd rfl c34
 refine .guardRun (d := 34) rfl (by decide) rfl (.val (Y.fieldAddr fl39_3 rfl rfl) (by decide) (.guardRun (d := 34) rfl (by decide) rfl ?_))
 refine .val (Y.load sh22 rfl rfl rfl rfl) (by decide) (.guardRun (d := 34) rfl (by decide) rfl (.val (Y.len (n := a.args.length) sl22 rfl (congrArg some (List.length_map ..))) (by decide) ?_))
 refine .guardRun (d := 34) rfl (by decide) rfl (.val (Y.fieldAddr fl39_3 rfl rfl) (by decide) (.guardRun (d := 34) rfl (by decide) rfl ?_))
 refine .val (Y.load sh22 rfl rfl rfl rfl) (by decide) (.guardRun (d := 34) rfl (by decide) rfl (.val (Y.len (n := ((renC p a).args).length) sl22 rfl (congrArg some (List.length_map ..))) (by decide) ?_))
 refine .guardRun (d := 34) rfl (by decide) rfl (.val (Y.neq rfl rfl) (by decide) (.val (Y.pick rfl rfl rfl) (by decide) ?_))
 refine .val (Y.move rfl rfl) (by decide) ?_
 refine .splitD (d := 43) rfl (fun c43 => ?_) (fun c43 => ?_)
 exfalso; omega
 refine .guardRun (d := 43) rfl (by decide) rfl (.val (Y.fieldAddr fl39_2 rfl rfl) (by decide) (.guardRun (d := 43) rfl (by decide) rfl ?_))
 refine .val (Y.load sh3 rfl rfl rfl rfl) (by decide) (.guardRun (d := 43) rfl (by decide) rfl (.val (Y.geq rfl rfl) (by decide) ?_))
 refine .guardRun (d := 43) rfl (by decide) rfl (.val (Y.move rfl rfl) (by decide) ?_)
 refine .splitD (d := 47) rfl (fun c47 => ?_) (fun c47 => ?_)
 refine .guardRun (d := 47) rfl (by decide) rfl (.val (Y.fieldAddr fl39_2 rfl rfl) (by decide) (.guardRun (d := 47) rfl (by decide) rfl ?_))
 refine .val (Y.load sh3 rfl rfl rfl rfl) (by decide) (.guardRun (d := 47) rfl (by decide) rfl (.val (Y.move rfl rfl) (by decide) ?_))
 refine .guardRun (d := 47) rfl (by decide) rfl (.val (Y.fieldAddr fl39_2 rfl rfl) (by decide) (.guardRun (d := 47) rfl (by decide) rfl ?_))
 refine .val (Y.load sh3 rfl rfl rfl rfl) (by decide) (.guardRun (d := 47) rfl (by decide) rfl ?_)
 refine .val (Y.indexF (m := (a.out).toNat) sl22 rfl rfl (by omega) (row_getD (d := 0) (by omega))) (by decide) ?_
 refine .guardRun (d := 47) rfl (by decide) rfl (.val (Y.load sh3 rfl rfl rfl rfl) (by decide) (.guardRun (d := 47) rfl (by decide) rfl ?_))
 refine .val (Y.neq rfl rfl) (by decide) (.guardRun (d := 43) rfl (by decide) rfl (.val (Y.pick rfl rfl rfl) (by decide) ?_))
 refine .val (Y.pick rfl rfl rfl) (by decide) (.val (Y.move rfl rfl) (by decide) ?_)
 refine .splitD (d := 58) rfl (fun c58 => ?_) (fun c58 => ?_)
 exact absurd (renC_out hn (by omega)) c58
 refine .guardRun (d := 58) rfl (by decide) rfl (.val (Y.fieldAddr fl39_2 rfl rfl) (by decide) (.guardRun (d := 58) rfl (by decide) rfl ?_))
 refine .val (Y.load sh3 rfl rfl rfl rfl) (by decide) (.guardRun (d := 58) rfl (by decide) rfl (.val (Y.lss rfl rfl) (by decide) ?_))
 refine .guardRun (d := 58) rfl (by decide) rfl (.val (Y.move rfl rfl) (by decide) ?_)
 refine .splitD (d := 62) rfl (fun c62 => ?_) (fun c62 => ?_)
 refine .guardRun (d := 62) rfl (by decide) rfl (.val (Y.fieldAddr fl39_2 rfl rfl) (by decide) (.guardRun (d := 62) rfl (by decide) rfl ?_))
 refine .val (Y.load sh3 rfl rfl rfl rfl) (by decide) (.guardRun (d := 62) rfl (by decide) rfl (.val (Y.neq rfl rfl) (by decide) ?_))
 refine .guardRun (d := 58) rfl (by decide) rfl (.val (Y.pick rfl rfl rfl) (by decide) (.val (Y.pick rfl rfl rfl) (by decide) ?_))
 refine .nil ?_
 refine .condD rfl (fun c67 => ?_) (fun c67 => ?_)
 exfalso; first | omega | exact c67 (renC_out1 (by omega))
 refine .skip ?_
 exact ⟨.inl ⟨c13, c20, c27, c34, c43, c47, c58, c62, c67⟩, Le.mk (.c (.c (.c (.nil)))) (.c (.c (.nil)))⟩
 refine .guardSkipV (d := 62) rfl (by decide) (by decide) rfl rfl (.guardSkipV (d := 62) rfl (by decide) (by decide) rfl rfl (.guardSkipV (d := 62) rfl (by decide) (by decide) rfl rfl ?_))
 refine .guardRun (d := 58) rfl (by decide) rfl (.val (Y.pick rfl rfl rfl) (by decide) (.val (Y.pick rfl rfl rfl) (by decide) ?_))
 refine .nil (.condF rfl (.skip ?_))
 exact ⟨.inr (.inl ⟨c13, c20, c27, c34, c43, c47, c58, c62⟩), Le.mk (.c (.c (.c (.nil)))) (.c (.c (.nil)))⟩
 refine .guardSkipV (d := 47) rfl (by decide) (by decide) rfl rfl (.guardSkipV (d := 47) rfl (by decide) (by decide) rfl rfl (.guardSkipV (d := 47) rfl (by decide) (by decide) rfl rfl ?_))
 refine .guardSkipV (d := 47) rfl (by decide) (by decide) rfl rfl (.guardSkipV (d := 47) rfl (by decide) (by decide) rfl rfl (.guardSkipV (d := 47) rfl (by decide) (by decide) rfl rfl ?_))
 refine .guardSkipV (d := 47) rfl (by decide) (by decide) rfl rfl (.guardSkipV (d := 47) rfl (by decide) (by decide) rfl rfl (.guardRun (d := 43) rfl (by decide) rfl ?_))
 refine .val (Y.pick rfl rfl rfl) (by decide) (.val (Y.pick rfl rfl rfl) (by decide) (.val (Y.move rfl rfl) (by decide) ?_))
 refine .guardRun (d := 58) rfl (by decide) rfl (.val (Y.fieldAddr fl39_2 rfl rfl) (by decide) (.guardRun (d := 58) rfl (by decide) rfl ?_))
 refine .val (Y.load sh3 rfl rfl rfl rfl) (by decide) (.guardRun (d := 58) rfl (by decide) rfl (.val (Y.lss rfl rfl) (by decide) ?_))
 refine .guardRun (d := 58) rfl (by decide) rfl (.val (Y.move rfl rfl) (by decide) ?_)
 refine .splitD (d := 62) rfl (fun c62 => ?_) (fun c62 => ?_)
 refine .guardRun (d := 62) rfl (by decide) rfl (.val (Y.fieldAddr fl39_2 rfl rfl) (by decide) (.guardRun (d := 62) rfl (by decide) rfl ?_))
 refine .val (Y.load sh3 rfl rfl rfl rfl) (by decide) (.guardRun (d := 62) rfl (by decide) rfl (.val (Y.neq rfl rfl) (by decide) ?_))
 refine .guardRun (d := 58) rfl (by decide) rfl (.val (Y.pick rfl rfl rfl) (by decide) (.val (Y.pick rfl rfl rfl) (by decide) ?_))
 refine .nil ?_
 refine .condD rfl (fun c67 => ?_) (fun c67 => ?_)
 exfalso; first | omega | exact c67 (renC_out1 (by omega))
 refine .skip ?_
 exact ⟨.inr (.inr (.inl ⟨c13, c20, c27, c34, c43, c47, c62, c67⟩)), Le.mk (.c (.c (.c (.nil)))) (.c (.c (.nil)))⟩
 refine .guardSkipV (d := 62) rfl (by decide) (by decide) rfl rfl (.guardSkipV (d := 62) rfl (by decide) (by decide) rfl rfl (.guardSkipV (d := 62) rfl (by decide) (by decide) rfl rfl ?_))
 refine .guardRun (d := 58) rfl (by decide) rfl (.val (Y.pick rfl rfl rfl) (by decide) (.val (Y.pick rfl rfl rfl) (by decide) ?_))
 refine .nil (.condF rfl (.skip ?_))
 exact ⟨.inr (.inr (.inr (⟨c13, c20, c27, c34, c43, c47, c62⟩))), Le.mk (.c (.c (.c (.nil)))) (.c (.c (.nil)))⟩
 refine .seq (.sr ?_)
 refine .fa fl39_3 ?_
 refine .ld sh22 ?_
 refine .vl (Y.len (n := a.args.length) sl22 rfl (congrArg some (List.length_map ..))) ?_
 refine .mv ?_
 refine .nil (.block ?_)
 refine .loop1 (fun (n71_4 : Nat) => ⟨[(2, .fz 1 (nb.map irow)), (3, .ptr 103 0 0 0), (4, .ptr 104 0 0 0), (70, vi ((a.args.length : Nat) : Int)), (71, vi (n71_4 : Int))], [(103, .cells (Cell.row a)), (104, .cells (Cell.row (renC p a)))]⟩) (fun (n71_4 : Nat) => ((n71_4 : Int) ≤ ((a.args.length : Nat) : Int))) (fun (n71_4 : Nat) => (((a.args.length : Nat) : Int) - (n71_4 : Int)).toNat) 0 (by omega) (Le.mk (.c (.c (.c (.c (.cons (look_int rfl (by first | rfl | omega)) (.nil)))))) (.c (.c (.nil)))) (fun n71_4 hI4 => ?_)
 have hb4 := hI4
 refine .sr (.vl (Y.lss rfl rfl) (.nil ?_))
 refine .seq ?_
 refine .condD rfl (fun c72 => ?_) (fun c72 => ?_)
 refine .skip (.seq (.block ?_))
 refine .sr ?_
 refine .mv ?_
 refine .an ?_
 refine .nil (.seq ?_)
 have h6 := ha (a.args.getD n71_4 0) (getD_mem (by omega))
 refine .regionS rfl (by kernel_rfl) (.val (Y.fieldAddr fl39_3 rfl rfl) (by decide) (.val (Y.load sh22 rfl rfl rfl rfl) (by decide) ?_))
 refine .val (Y.move rfl rfl) (by decide) ?_
 refine .val (Y.indexF (m := n71_4) sl22 rfl rfl (by first | rfl | omega) (row_getD (d := 0) (by omega))) (by decide) ?_
 refine .val (Y.load sh3 rfl rfl rfl rfl) (by decide) (.val (Y.move rfl rfl) (by decide) (.val (Y.fieldAddr fl39_3 rfl rfl) (by decide) ?_))
 refine .val (Y.load sh22 rfl rfl rfl rfl) (by decide) (.val (Y.move rfl rfl) (by decide) ?_)
 refine .val (Y.indexF (m := n71_4) sl22 rfl rfl (by first | rfl | omega) (row_getD (d := 0) (by omega))) (by decide) ?_
 refine .val (Y.load sh3 rfl rfl rfl rfl) (by decide) ?_
 refine .val (Y.indexF (m := (a.args.getD n71_4 0).toNat) sl22 rfl rfl (by omega) (row_getD (d := 0) (by omega))) (by decide) ?_
 refine .val (Y.load sh3 rfl rfl rfl rfl) (by decide) (.val (Y.neq rfl rfl) (by decide) (.nil ?_))
 refine .condD rfl (fun c87 => ?_) (fun c87 => ?_)
 exact absurd (renC_arg hn (by omega) (ha _ (getD_mem (by omega)))) c87
 refine .skip (.region ?_)
 refine .vl (Y.addI rfl rfl (by omega)) ?_
 refine .mv ?_
 refine .nil ?_
 exact ⟨n71_4 + 1, by omega, by omega, Le.mk (.c (.c (.c (.c (.cons (look_int rfl (by first | rfl | omega)) (.nil)))))) (.c (.c (.nil)))⟩
 refine .exit (.sr ?_)
 refine .an ?_
 refine .nil (.ret ?_)
 exact .rb rfl (rfl)
end Go.Proofs.Ytligpghohcfpnaa
/- Walks through the parts of plans. -/
namespace Go.Proofs.Ytligpghohcfpnaa
open Go Go.AW Go.Proofs
theorem operator_spec {n : Netlist} {p : Prt} (hn : n.widths.length ≤ 1048576) (h0 : 0 < n.widths.length) (hp : p.Ok) (hg : Ground n) (hi : n.ins.length ≤ 1048576) : ACalls Try.prog 91 [.agg (Netlist.prow n), .agg (Prt.row p)] [] [] (fun r o => ∃ c w, PartP n c w ∧ r = .tup [.agg (Cell.orow c), vi w] ∧ o = []) := by
 refine ACalls.ofS Try.func91 rfl rfl rfl (n := 96) (by decide) (nbE rfl) ?_
 have hp1 := hp.kind; have hp2 := hp.op; have hp3 := hp.width; have hp4 := hp.a; have hp5 := hp.b; have hp6 := hp.d; have hp7 := hp.num; have hm1 := Nat.mod_lt p.a h0; have hm2 := Nat.mod_lt p.b h0
 refine .sr (.box 102 rfl rfl rfl rfl rfl (by decide) (.box 103 rfl rfl rfl rfl rfl (by decide) ?_))
 refine .alloc 104 ze39 rfl rfl (by decide) ?_
 refine .an ?_
 refine .nil (.seq (.sh (Sh.freezeO 102 rfl rfl) ?_))
 refine .sh (Sh.freezeO 103 rfl rfl) (.region ?_)
 refine .buildSlice (([2, 3, 9, 10, 11, 12, 13, 14, 15, 16, 17, 18, 19, 20, 21, 22, 23, 24] : List Int).map irow) sl22 ze3 rfl rfl rfl rfl rfl (uniform_map (s := 1) (f := irow) (fun _ => rfl)) rfl rfl rfl (by decide) ?_
 refine .assignX rfl (by decide) (.sh (Sh.freezeE (d := 6) (([2, 3, 9, 10, 11, 12, 13, 14, 15, 16, 17, 18, 19, 20, 21, 22, 23, 24] : List Int).map irow) rfl (by first | rfl | exact rep_map rfl) (Frees.map irow_frees)) (.nil ?_))
 refine .le (st' := ⟨[(2, .fp (Netlist.prow n) 0), (3, .fp (Prt.row p) 0), (4, .ptr 104 0 0 0), (6, .fz 1 (([2, 3, 9, 10, 11, 12, 13, 14, 15, 16, 17, 18, 19, 20, 21, 22, 23, 24] : List Int).map irow))], [(104, .cells [vi 0, vi 0, vi 0, .v (.slice none 0 0), .v (.int .u64 0), vi 0])]⟩) (Le.mk (.c (.c (.c (.c (.nil))))) (.c (.nil))) ?_
 refine .sr ?_
 refine .mv ?_
 refine .fa fl88_1 ?_
 refine .ld sh5 ?_
 refine .vl (Y.convK ii5 ii3 rfl (by first | rfl | exact IntWalk.i64_in _ (by omega))) ?_
 refine .mv ?_
 refine .vl (Y.len (n := ([2, 3, 9, 10, 11, 12, 13, 14, 15, 16, 17, 18, 19, 20, 21, 22, 23, 24] : List Int).length) sl22 rfl (congrArg some (List.length_map ..))) ?_
 refine .vl (Y.remI rfl rfl (by first | omega | simp [-List.getD_eq_getElem?_getD] <;> omega)) ?_
 refine .vl (Y.indexF (m := p.op % (([2, 3, 9, 10, 11, 12, 13, 14, 15, 16, 17, 18, 19, 20, 21, 22, 23, 24] : List Int).length)) sl22 rfl rfl (by first | rfl | omega) (row_getD (d := 0) (by first | omega | simp [-List.getD_eq_getElem?_getD] <;> omega))) ?_
 refine .ld sh3 ?_
 refine .an ?_
 refine .nil (.sr ?_)
 refine .fa fl88_2 ?_
 refine .ld sh5 ?_
 refine .callP ok53 (width_spec (k := p.width)) rfl (.keep rfl rfl .nil) (by decide) rfl ?_
 refine .an ?_
 refine .nil (.sr ?_)
 refine .mv ?_
 refine .vl (Y.build pl39 ze39 rfl rfl rfl) (.alloc 109 ze39 rfl rfl (by decide) (.storeC si39 rfl rfl rfl rfl rfl rfl (nbE rfl) rfl ?_))
 refine .nil (.seq (.block ?_))
 refine .sr ?_
 refine .mv ?_
 refine .vl (Y.eql rfl rfl) ?_
 refine .an ?_
 refine .nil ?_
 refine .condD rfl (fun c42 => ?_) (fun c42 => ?_)
 refine .regionHeld0 rfl (.loadA 0 rfl (by kernel_rfl) sh27 rfl rfl rfl (nbE rfl) rfl rfl (by decide) (.blind 1 rfl (by kernel_rfl) (Blind.fieldAddr fl88_3 rfl rfl) (by decide) ?_))
 refine .blind 2 rfl (by kernel_rfl) (Blind.indexP ar86 rfl rfl (m := 0) rfl (by omega) rfl) (by decide) (.load 3 rfl (by kernel_rfl) sh5 rfl rfl rfl rfl rfl (by decide) (.loadA 5 rfl (by kernel_rfl) sh27 rfl rfl rfl (nbE rfl) rfl rfl (by decide) ?_))
 refine .blind 6 rfl (by kernel_rfl) (Blind.move rfl rfl) (by decide) (.blind 7 rfl (by kernel_rfl) (Blind.fieldAddr fl88_3 rfl rfl) (by decide) (.blind 8 rfl (by kernel_rfl) (Blind.indexP ar86 rfl rfl (m := 1) rfl (by omega) rfl) (by decide) ?_))
 refine .load 9 rfl (by kernel_rfl) sh5 rfl rfl rfl rfl rfl (by decide) (.loadA 11 rfl (by kernel_rfl) sh27 rfl rfl rfl (nbE rfl) rfl rfl (by decide) (.blind 12 rfl (by kernel_rfl) (Blind.move rfl rfl) (by decide) ?_))
 refine .blind 13 rfl (by kernel_rfl) (Blind.fieldAddr fl88_3 rfl rfl) (by decide) (.blind 14 rfl (by kernel_rfl) (Blind.indexP ar86 rfl rfl (m := 2) rfl (by omega) rfl) (by decide) (.load 15 rfl (by kernel_rfl) sh5 rfl rfl rfl rfl rfl (by decide) ?_))
 refine .go0 (.one 4 rfl (by kernel_rfl) (.callP ok56 (pick_spec (n := (⟨n.name, n.widths, n.cells, n.ins, n.mems, n.streams, [], [], n.freeze, n.done, []⟩ : Netlist)) (w := 1) (k := p.a) (by show (n.widths).length ≤ 1048576; omega) (by omega)) rfl (.keep rfl rfl (.keep rfl rfl (.keep rfl rfl .nil))) (by decide) rfl ?_))
 refine .nil ⟨rfl, ?_⟩
 refine .one 10 rfl (by kernel_rfl) ?_
 refine .callP ok56 (pick_spec (n := (⟨n.name, n.widths, n.cells, n.ins, n.mems, n.streams, [], [], n.freeze, n.done, []⟩ : Netlist)) (w := (widthN p.width)) (k := p.b) (by show (n.widths).length ≤ 1048576; omega) (by omega)) rfl (.keep rfl rfl (.keep rfl rfl (.keep rfl rfl .nil))) (by decide) rfl ?_
 refine .nil ⟨rfl, ?_⟩
 refine .one 16 rfl (by kernel_rfl) ?_
 refine .callP ok56 (pick_spec (n := (⟨n.name, n.widths, n.cells, n.ins, n.mems, n.streams, [], [], n.freeze, n.done, []⟩ : Netlist)) (w := (widthN p.width)) (k := p.d) (by show (n.widths).length ≤ 1048576; omega) (by omega)) rfl (.keep rfl rfl (.keep rfl rfl (.keep rfl rfl .nil))) (by decide) rfl ?_
 refine .nil ⟨rfl, ?_⟩
 refine .one 17 rfl (by kernel_rfl) ?_
 refine .buildSlice (([pickN n.widths 1 p.a, pickN n.widths (widthN p.width) p.b, pickN n.widths (widthN p.width) p.d] : List Int).map irow) sl22 ze3 rfl rfl rfl rfl rfl (uniform_map (s := 1) (f := irow) (fun _ => rfl)) rfl rfl rfl (by decide) ?_
 refine .nil ⟨rfl, ?_⟩
 refine .one 18 rfl (by kernel_rfl) ?_
 refine .fa fl39_3 ?_
 refine .nil ⟨rfl, ?_⟩
 refine .one 19 rfl (by kernel_rfl) ?_
 refine .sh (Sh.adoptE (d := 62) (n := ([pickN n.widths 1 p.a, pickN n.widths (widthN p.width) p.b, pickN n.widths (widthN p.width) p.d] : List Int).length) 162 (([pickN n.widths 1 p.a, pickN n.widths (widthN p.width) p.b, pickN n.widths (widthN p.width) p.d] : List Int).map irow) rfl (by first | rfl | exact rep_map rfl) (len_map rfl) (by decide)) ?_
 refine .storeC si22 rfl rfl rfl rfl rfl rfl (nbE rfl) rfl ?_
 refine .nil ⟨rfl, ?_⟩
 refine .done (by kernel_rfl) ?_
 refine .le (st' := ⟨[(4, .ptr 104 0 0 0), (8, vi (widthN p.width)), (9, .ptr 109 0 0 0)], [(104, .cells [vi 0, vi 0, vi 0, .v (.slice none 0 0), .v (.int .u64 0), vi 0]), (109, .cells [vi 2, vi (([2, 3, 9, 10, 11, 12, 13, 14, 15, 16, 17, 18, 19, 20, 21, 22, 23, 24] : List Int).getD (p.op % (([2, 3, 9, 10, 11, 12, 13, 14, 15, 16, 17, 18, 19, 20, 21, 22, 23, 24] : List Int).length)) 0), vi 0, .slc 162 1 0 (([pickN n.widths 1 p.a, pickN n.widths (widthN p.width) p.b, pickN n.widths (widthN p.width) p.d] : List Int).length), .v (.int .u64 0), vi 0]), (162, .rows 1 (([pickN n.widths 1 p.a, pickN n.widths (widthN p.width) p.b, pickN n.widths (widthN p.width) p.d] : List Int).map irow))]⟩) (Le.mk (.c (.c (.c (.nil)))) (.c (.c (.c (.nil))))) ?_
 refine .sr (.vl (Y.loadA sh39 rfl rfl (nbE rfl) rfl rfl) ?_)
 refine .mv ?_
 refine .storeC si39 rfl rfl rfl rfl rfl rfl (nbE rfl) rfl ?_
 refine .an ?_
 refine .nil (.ret ?_)
 exact ⟨_, rfl, _, _, _, Sh.ownT (d := 0) 3 162 rfl rfl rfl rfl (by first | rfl | exact len_map rfl | exact len_map (by omega)) rfl (by decide), rfl, rfl, (⟨2, ([2, 3, 9, 10, 11, 12, 13, 14, 15, 16, 17, 18, 19, 20, 21, 22, 23, 24] : List Int).getD (p.op % (([2, 3, 9, 10, 11, 12, 13, 14, 15, 16, 17, 18, 19, 20, 21, 22, 23, 24] : List Int).length)) 0, 0, ([pickN n.widths 1 p.a, pickN n.widths (widthN p.width) p.b, pickN n.widths (widthN p.width) p.d] : List Int), 0, 0⟩ : Cell), _, op_sel hg c42, rfl, rfl⟩
 refine .sr ?_
 refine .mv ?_
 refine .callP ok118 (unary_spec (w := (([2, 3, 9, 10, 11, 12, 13, 14, 15, 16, 17, 18, 19, 20, 21, 22, 23, 24] : List Int).getD (p.op % (([2, 3, 9, 10, 11, 12, 13, 14, 15, 16, 17, 18, 19, 20, 21, 22, 23, 24] : List Int).length)) 0))) rfl (.keep rfl rfl .nil) (by decide) rfl ?_
 refine .an ?_
 refine .nil ?_
 refine .condD rfl (fun c64 => ?_) (fun c64 => ?_)
 refine .sr ?_
 refine .fa fl88_3 ?_
 refine .vl (Y.indexP ar86 rfl rfl (m := 0) rfl (by omega) rfl) ?_
 refine .ld sh5 ?_
 refine .vl (Y.convK ii5 ii3 rfl (by first | rfl | exact IntWalk.i64_in _ (by omega))) ?_
 refine .fa fl27_1 ?_
 refine .ld sh22 ?_
 refine .vl (Y.len (n := n.widths.length) sl22 rfl (congrArg some (List.length_map ..))) ?_
 refine .vl (Y.remI rfl rfl (by first | omega | simp [-List.getD_eq_getElem?_getD] <;> omega)) ?_
 refine .an ?_
 refine .nil ?_
 refine .join1 (fun (w8_j15 : Int) => ⟨[(4, .ptr 104 0 0 0), (8, vi w8_j15), (9, .ptr 109 0 0 0), (10, vi (((p.a : Nat) : Int) % ((n.widths.length : Nat) : Int)))], [(104, .cells [vi 0, vi 0, vi 0, .v (.slice none 0 0), .v (.int .u64 0), vi 0]), (109, .cells [vi 2, vi (([2, 3, 9, 10, 11, 12, 13, 14, 15, 16, 17, 18, 19, 20, 21, 22, 23, 24] : List Int).getD (p.op % (([2, 3, 9, 10, 11, 12, 13, 14, 15, 16, 17, 18, 19, 20, 21, 22, 23, 24] : List Int).length)) 0), vi 0, .v (.slice none 0 0), .v (.int .u64 0), vi 0])]⟩) (fun (w8_j15 : Int) => (((([2, 3, 9, 10, 11, 12, 13, 14, 15, 16, 17, 18, 19, 20, 21, 22, 23, 24] : List Int).getD (p.op % (([2, 3, 9, 10, 11, 12, 13, 14, 15, 16, 17, 18, 19, 20, 21, 22, 23, 24] : List Int).length)) 0) = 24) ∧ (w8_j15 = (if (n.widths.getD (p.a % n.widths.length) 0) < (widthN p.width) then (n.widths.getD (p.a % n.widths.length) 0) else (widthN p.width)))) ∨ ((¬ ((([2, 3, 9, 10, 11, 12, 13, 14, 15, 16, 17, 18, 19, 20, 21, 22, 23, 24] : List Int).getD (p.op % (([2, 3, 9, 10, 11, 12, 13, 14, 15, 16, 17, 18, 19, 20, 21, 22, 23, 24] : List Int).length)) 0) = 24)) ∧ (w8_j15 = (if (n.widths.getD (p.a % n.widths.length) 0) > (widthN p.width) then (n.widths.getD (p.a % n.widths.length) 0) else (widthN p.width))))) ?_ (fun w8_j15 hJ15 => ?_)
 refine .sr ?_
 refine .mv ?_
 refine .vl (Y.eql rfl rfl) (.nil ?_)
 refine .condD rfl (fun c76 => ?_) (fun c76 => ?_)
 refine .region ?_
 refine .mv ?_
 refine .fa fl27_1 ?_
 refine .ld sh22 ?_
 refine .mv ?_
 refine .vl (Y.indexF (m := p.a % n.widths.length) sl22 rfl rfl (by first | rfl | omega) (row_getD (d := 0) (by omega))) ?_
 refine .ld sh3 ?_
 refine .vl (Y.min rfl rfl rfl) ?_
 refine .an ?_
 refine .nil ?_
 exact ⟨if (n.widths.getD (p.a % n.widths.length) 0) < (widthN p.width) then (n.widths.getD (p.a % n.widths.length) 0) else (widthN p.width), .inl ⟨c76, rfl⟩, Le.mk (.c (.cons (look_int rfl (by first | rfl | omega)) (.c (.c (.nil))))) (.c (.c (.nil)))⟩
 refine .region ?_
 refine .mv ?_
 refine .fa fl27_1 ?_
 refine .ld sh22 ?_
 refine .mv ?_
 refine .vl (Y.indexF (m := p.a % n.widths.length) sl22 rfl rfl (by first | rfl | omega) (row_getD (d := 0) (by omega))) ?_
 refine .ld sh3 ?_
 refine .vl (Y.max rfl rfl rfl) ?_
 refine .an ?_
 refine .nil ?_
 exact ⟨if (n.widths.getD (p.a % n.widths.length) 0) > (widthN p.width) then (n.widths.getD (p.a % n.widths.length) 0) else (widthN p.width), .inr (⟨c76, rfl⟩), Le.mk (.c (.cons (look_int rfl (by first | rfl | omega)) (.c (.c (.nil))))) (.c (.c (.nil)))⟩
 refine .region ?_
 refine .mv ?_
 refine .buildSlice (([((p.a : Nat) : Int) % ((n.widths.length : Nat) : Int)] : List Int).map irow) sl22 ze3 rfl rfl rfl rfl rfl (uniform_map (s := 1) (f := irow) (fun _ => rfl)) rfl rfl rfl (by decide) ?_
 refine .fa fl39_3 ?_
 refine .sh (Sh.adoptE (d := 92) (n := ([((p.a : Nat) : Int) % ((n.widths.length : Nat) : Int)] : List Int).length) 192 (([((p.a : Nat) : Int) % ((n.widths.length : Nat) : Int)] : List Int).map irow) rfl (by first | rfl | exact rep_map rfl) (len_map rfl) (by decide)) (.storeC si22 rfl rfl rfl rfl rfl rfl (nbE rfl) rfl (.nil ?_))
 refine .le (st' := ⟨[(4, .ptr 104 0 0 0), (8, vi w8_j15), (9, .ptr 109 0 0 0)], [(104, .cells [vi 0, vi 0, vi 0, .v (.slice none 0 0), .v (.int .u64 0), vi 0]), (109, .cells [vi 2, vi (([2, 3, 9, 10, 11, 12, 13, 14, 15, 16, 17, 18, 19, 20, 21, 22, 23, 24] : List Int).getD (p.op % (([2, 3, 9, 10, 11, 12, 13, 14, 15, 16, 17, 18, 19, 20, 21, 22, 23, 24] : List Int).length)) 0), vi 0, .slc 192 1 0 (([((p.a : Nat) : Int) % ((n.widths.length : Nat) : Int)] : List Int).length), .v (.int .u64 0), vi 0]), (192, .rows 1 (([((p.a : Nat) : Int) % ((n.widths.length : Nat) : Int)] : List Int).map irow))]⟩) (Le.mk (.c (.c (.c (.nil)))) (.c (.c (.c (.nil))))) ?_
 refine .sr (.vl (Y.loadA sh39 rfl rfl (nbE rfl) rfl rfl) ?_)
 refine .mv ?_
 refine .storeC si39 rfl rfl rfl rfl rfl rfl (nbE rfl) rfl ?_
 refine .an ?_
 refine .nil (.ret ?_)
 exact ⟨_, rfl, _, _, _, Sh.ownT (d := 0) 3 192 rfl rfl rfl rfl (by first | rfl | exact len_map rfl | exact len_map (by omega)) rfl (by decide), rfl, rfl, (⟨2, ([2, 3, 9, 10, 11, 12, 13, 14, 15, 16, 17, 18, 19, 20, 21, 22, 23, 24] : List Int).getD (p.op % (([2, 3, 9, 10, 11, 12, 13, 14, 15, 16, 17, 18, 19, 20, 21, 22, 23, 24] : List Int).length)) 0, 0, ([((p.a : Nat) : Int) % ((n.widths.length : Nat) : Int)] : List Int), 0, 0⟩ : Cell), _, op_un hg h0 c64 hJ15, rfl, rfl⟩
 refine .seq (.regionHeld0 rfl (.loadA 0 rfl (by kernel_rfl) sh27 rfl rfl rfl (nbE rfl) rfl rfl (by decide) ?_))
 refine .blind 1 rfl (by kernel_rfl) (Blind.move rfl rfl) (by decide) (.blind 2 rfl (by kernel_rfl) (Blind.fieldAddr fl88_3 rfl rfl) (by decide) (.blind 3 rfl (by kernel_rfl) (Blind.indexP ar86 rfl rfl (m := 0) rfl (by omega) rfl) (by decide) ?_))
 refine .load 4 rfl (by kernel_rfl) sh5 rfl rfl rfl rfl rfl (by decide) (.loadA 6 rfl (by kernel_rfl) sh27 rfl rfl rfl (nbE rfl) rfl rfl (by decide) (.blind 7 rfl (by kernel_rfl) (Blind.move rfl rfl) (by decide) ?_))
 refine .blind 8 rfl (by kernel_rfl) (Blind.fieldAddr fl88_3 rfl rfl) (by decide) (.blind 9 rfl (by kernel_rfl) (Blind.indexP ar86 rfl rfl (m := 1) rfl (by omega) rfl) (by decide) (.load 10 rfl (by kernel_rfl) sh5 rfl rfl rfl rfl rfl (by decide) ?_))
 refine .go0 (.one 5 rfl (by kernel_rfl) ?_)
 refine .callP ok56 (pick_spec (n := (⟨n.name, n.widths, n.cells, n.ins, n.mems, n.streams, [], [], n.freeze, n.done, []⟩ : Netlist)) (w := (widthN p.width)) (k := p.a) (by show (n.widths).length ≤ 1048576; omega) (by omega)) rfl (.keep rfl rfl (.keep rfl rfl (.keep rfl rfl .nil))) (by decide) rfl ?_
 refine .nil ⟨rfl, ?_⟩
 refine .one 11 rfl (by kernel_rfl) ?_
 refine .callP ok56 (pick_spec (n := (⟨n.name, n.widths, n.cells, n.ins, n.mems, n.streams, [], [], n.freeze, n.done, []⟩ : Netlist)) (w := (widthN p.width)) (k := p.b) (by show (n.widths).length ≤ 1048576; omega) (by omega)) rfl (.keep rfl rfl (.keep rfl rfl (.keep rfl rfl .nil))) (by decide) rfl ?_
 refine .nil ⟨rfl, ?_⟩
 refine .one 12 rfl (by kernel_rfl) ?_
 refine .buildSlice (([pickN n.widths (widthN p.width) p.a, pickN n.widths (widthN p.width) p.b] : List Int).map irow) sl22 ze3 rfl rfl rfl rfl rfl (uniform_map (s := 1) (f := irow) (fun _ => rfl)) rfl rfl rfl (by decide) ?_
 refine .nil ⟨rfl, ?_⟩
 refine .one 13 rfl (by kernel_rfl) ?_
 refine .fa fl39_3 ?_
 refine .nil ⟨rfl, ?_⟩
 refine .one 14 rfl (by kernel_rfl) ?_
 refine .sh (Sh.adoptE (d := 38) (n := ([pickN n.widths (widthN p.width) p.a, pickN n.widths (widthN p.width) p.b] : List Int).length) 138 (([pickN n.widths (widthN p.width) p.a, pickN n.widths (widthN p.width) p.b] : List Int).map irow) rfl (by first | rfl | exact rep_map rfl) (len_map rfl) (by decide)) ?_
 refine .storeC si22 rfl rfl rfl rfl rfl rfl (nbE rfl) rfl ?_
 refine .nil ⟨rfl, ?_⟩
 refine .done (by kernel_rfl) ?_
 refine .le (st' := ⟨[(4, .ptr 104 0 0 0), (7, vi (([2, 3, 9, 10, 11, 12, 13, 14, 15, 16, 17, 18, 19, 20, 21, 22, 23, 24] : List Int).getD (p.op % (([2, 3, 9, 10, 11, 12, 13, 14, 15, 16, 17, 18, 19, 20, 21, 22, 23, 24] : List Int).length)) 0)), (8, vi (widthN p.width)), (9, .ptr 109 0 0 0)], [(104, .cells [vi 0, vi 0, vi 0, .v (.slice none 0 0), .v (.int .u64 0), vi 0]), (109, .cells [vi 2, vi (([2, 3, 9, 10, 11, 12, 13, 14, 15, 16, 17, 18, 19, 20, 21, 22, 23, 24] : List Int).getD (p.op % (([2, 3, 9, 10, 11, 12, 13, 14, 15, 16, 17, 18, 19, 20, 21, 22, 23, 24] : List Int).length)) 0), vi 0, .slc 138 1 0 (([pickN n.widths (widthN p.width) p.a, pickN n.widths (widthN p.width) p.b] : List Int).length), .v (.int .u64 0), vi 0]), (138, .rows 1 (([pickN n.widths (widthN p.width) p.a, pickN n.widths (widthN p.width) p.b] : List Int).map irow))]⟩) (Le.mk (.c (.c (.c (.c (.nil))))) (.c (.c (.c (.nil))))) ?_
 refine .sr ?_
 refine .mv ?_
 refine .callP ok77 (refIsCompare_spec (w := (([2, 3, 9, 10, 11, 12, 13, 14, 15, 16, 17, 18, 19, 20, 21, 22, 23, 24] : List Int).getD (p.op % (([2, 3, 9, 10, 11, 12, 13, 14, 15, 16, 17, 18, 19, 20, 21, 22, 23, 24] : List Int).length)) 0))) rfl (.keep rfl rfl .nil) (by decide) rfl (.nil ?_)
 refine .condD rfl (fun c41 => ?_) (fun c41 => ?_)
 refine .region ?_
 refine .an ?_
 refine .nil ?_
 refine .le (st' := ⟨[(4, .ptr 104 0 0 0), (8, vi 1), (9, .ptr 109 0 0 0)], [(104, .cells [vi 0, vi 0, vi 0, .v (.slice none 0 0), .v (.int .u64 0), vi 0]), (109, .cells [vi 2, vi (([2, 3, 9, 10, 11, 12, 13, 14, 15, 16, 17, 18, 19, 20, 21, 22, 23, 24] : List Int).getD (p.op % (([2, 3, 9, 10, 11, 12, 13, 14, 15, 16, 17, 18, 19, 20, 21, 22, 23, 24] : List Int).length)) 0), vi 0, .slc 138 1 0 (([pickN n.widths (widthN p.width) p.a, pickN n.widths (widthN p.width) p.b] : List Int).length), .v (.int .u64 0), vi 0]), (138, .rows 1 (([pickN n.widths (widthN p.width) p.a, pickN n.widths (widthN p.width) p.b] : List Int).map irow))]⟩) (Le.mk (.c (.c (.c (.nil)))) (.c (.c (.c (.nil))))) ?_
 refine .sr (.vl (Y.loadA sh39 rfl rfl (nbE rfl) rfl rfl) ?_)
 refine .mv ?_
 refine .storeC si39 rfl rfl rfl rfl rfl rfl (nbE rfl) rfl ?_
 refine .an ?_
 refine .nil (.ret ?_)
 exact ⟨_, rfl, _, _, _, Sh.ownT (d := 0) 3 138 rfl rfl rfl rfl (by first | rfl | exact len_map rfl | exact len_map (by omega)) rfl (by decide), rfl, rfl, (⟨2, ([2, 3, 9, 10, 11, 12, 13, 14, 15, 16, 17, 18, 19, 20, 21, 22, 23, 24] : List Int).getD (p.op % (([2, 3, 9, 10, 11, 12, 13, 14, 15, 16, 17, 18, 19, 20, 21, 22, 23, 24] : List Int).length)) 0, 0, ([pickN n.widths (widthN p.width) p.a, pickN n.widths (widthN p.width) p.b] : List Int), 0, 0⟩ : Cell), _, op_two hg (ops_in _) c42 c64 (.inl ⟨c41, rfl⟩), rfl, rfl⟩
 refine .skip ?_
 refine .le (st' := ⟨[(4, .ptr 104 0 0 0), (8, vi (widthN p.width)), (9, .ptr 109 0 0 0)], [(104, .cells [vi 0, vi 0, vi 0, .v (.slice none 0 0), .v (.int .u64 0), vi 0]), (109, .cells [vi 2, vi (([2, 3, 9, 10, 11, 12, 13, 14, 15, 16, 17, 18, 19, 20, 21, 22, 23, 24] : List Int).getD (p.op % (([2, 3, 9, 10, 11, 12, 13, 14, 15, 16, 17, 18, 19, 20, 21, 22, 23, 24] : List Int).length)) 0), vi 0, .slc 138 1 0 (([pickN n.widths (widthN p.width) p.a, pickN n.widths (widthN p.width) p.b] : List Int).length), .v (.int .u64 0), vi 0]), (138, .rows 1 (([pickN n.widths (widthN p.width) p.a, pickN n.widths (widthN p.width) p.b] : List Int).map irow))]⟩) (Le.mk (.c (.c (.c (.nil)))) (.c (.c (.c (.nil))))) ?_
 refine .sr (.vl (Y.loadA sh39 rfl rfl (nbE rfl) rfl rfl) ?_)
 refine .mv ?_
 refine .storeC si39 rfl rfl rfl rfl rfl rfl (nbE rfl) rfl ?_
 refine .an ?_
 refine .nil (.ret ?_)
 exact ⟨_, rfl, _, _, _, Sh.ownT (d := 0) 3 138 rfl rfl rfl rfl (by first | rfl | exact len_map rfl | exact len_map (by omega)) rfl (by decide), rfl, rfl, (⟨2, ([2, 3, 9, 10, 11, 12, 13, 14, 15, 16, 17, 18, 19, 20, 21, 22, 23, 24] : List Int).getD (p.op % (([2, 3, 9, 10, 11, 12, 13, 14, 15, 16, 17, 18, 19, 20, 21, 22, 23, 24] : List Int).length)) 0, 0, ([pickN n.widths (widthN p.width) p.a, pickN n.widths (widthN p.width) p.b] : List Int), 0, 0⟩ : Cell), _, op_two hg (ops_in _) c42 c64 (.inr ⟨c41, rfl⟩), rfl, rfl⟩
theorem part_spec {n : Netlist} {p : Prt} (hn : n.widths.length ≤ 1048576) (h0 : 0 < n.widths.length) (hp : p.Ok) (hg : Ground n) (hi : n.ins.length ≤ 1048576) : ACalls Try.prog 54 [.agg (Netlist.prow n), .agg (Prt.row p)] [] [] (fun r o => ∃ c w, PartP n c w ∧ r = .tup [.agg (Cell.orow c), vi w] ∧ o = []) := by
 refine ACalls.ofS Try.func54 rfl rfl rfl (n := 208) (by decide) (nbE rfl) ?_
 have hp1 := hp.kind; have hp2 := hp.op; have hp3 := hp.width; have hp4 := hp.a; have hp5 := hp.b; have hp6 := hp.d; have hp7 := hp.num; have hm1 := Nat.mod_lt p.a h0; have hm2 := Nat.mod_lt p.b h0
 refine .sr (.box 102 rfl rfl rfl rfl rfl (by decide) (.box 103 rfl rfl rfl rfl rfl (by decide) ?_))
 refine .alloc 104 ze39 rfl rfl (by decide) ?_
 refine .an ?_
 refine .nil (.seq (.sh (Sh.freezeO 102 rfl rfl) ?_))
 refine .sh (Sh.freezeO 103 rfl rfl) (.region ?_)
 refine .fa fl88_2 ?_
 refine .ld sh5 ?_
 refine .callP ok53 (width_spec (k := p.width)) rfl (.keep rfl rfl .nil) (by decide) rfl ?_
 refine .an ?_
 refine .nil (.sr ?_)
 refine .fa fl88_0 ?_
 refine .ld sh5 ?_
 refine .vl (Y.remI rfl rfl (by first | omega | simp [-List.getD_eq_getElem?_getD] <;> omega)) ?_
 refine .vl (Y.convK ii5 ii3 rfl (by first | rfl | exact IntWalk.i64_in _ (by omega))) ?_
 refine .vl (Y.addI rfl rfl (by omega)) ?_
 refine .vl (Y.build pl39 ze39 rfl rfl rfl) (.alloc 107 ze39 rfl rfl (by decide) (.storeC si39 rfl rfl rfl rfl rfl rfl (nbE rfl) rfl ?_))
 refine .nil (.seq (.regionS rfl (by kernel_rfl) ?_))
 refine .val (Y.fieldAddr fl88_3 rfl rfl) (by decide) (.val (Y.indexP ar86 rfl rfl (m := 0) rfl (by omega) rfl) (by decide) (.val (Y.load sh5 rfl rfl rfl rfl) (by decide) ?_))
 refine .val (Y.fieldAddr fl88_3 rfl rfl) (by decide) (.val (Y.indexP ar86 rfl rfl (m := 1) rfl (by omega) rfl) (by decide) (.val (Y.load sh5 rfl rfl rfl rfl) (by decide) ?_))
 refine .val (Y.fieldAddr fl88_3 rfl rfl) (by decide) (.val (Y.indexP ar86 rfl rfl (m := 2) rfl (by omega) rfl) (by decide) (.val (Y.load sh5 rfl rfl rfl rfl) (by decide) ?_))
 refine .val (Y.assign rfl rfl) (by decide) (.val (Y.assign rfl rfl) (by decide) (.val (Y.assign rfl rfl) (by decide) ?_))
 refine .nil ?_
 refine .le (st' := ⟨[(2, .fp (Netlist.prow n) 0), (3, .fp (Prt.row p) 0), (4, .ptr 104 0 0 0), (6, vi (widthN p.width)), (7, .ptr 107 0 0 0), (8, .v (.int .u8 ((p.a : Nat) : Int))), (9, .v (.int .u8 ((p.b : Nat) : Int))), (10, .v (.int .u8 ((p.d : Nat) : Int)))], [(104, .cells [vi 0, vi 0, vi 0, .v (.slice none 0 0), .v (.int .u64 0), vi 0]), (107, .cells [vi (1 + (((p.kind : Nat) : Int) % 10)), vi 0, vi (-1), .v (.slice none 0 0), .v (.int .u64 0), vi 0])]⟩) (Le.mk (.c (.c (.c (.c (.c (.c (.c (.c (.nil))))))))) (.c (.c (.nil)))) ?_
 refine .seq (.sr ?_)
 refine .fa fl39_0 ?_
 refine .ld sh3 ?_
 refine .nil (.block (.sr ?_))
 refine .vl (Y.eql rfl rfl) ?_
 refine .an ?_
 refine .nil ?_
 refine .condD rfl (fun c67 => ?_) (fun c67 => ?_)
 refine .region ?_
 refine .mv ?_
 refine .fa fl88_4 ?_
 refine .ld sh37 ?_
 refine .callP ok26 (rfit_spec (w := (widthN p.width)) (x := p.num) ((by omega))) rfl (.keep rfl rfl (.keep rfl rfl .nil)) (by decide) rfl ?_
 refine .fa fl39_4 ?_
 refine .storeC si37 rfl rfl rfl rfl rfl rfl (nbE rfl) rfl (.nil ?_)
 refine .le (st' := ⟨[(4, .ptr 104 0 0 0), (6, vi (widthN p.width)), (7, .ptr 107 0 0 0)], [(104, .cells [vi 0, vi 0, vi 0, .v (.slice none 0 0), .v (.int .u64 0), vi 0]), (107, .cells [vi (1 + (((p.kind : Nat) : Int) % 10)), vi 0, vi (-1), .v (.slice none 0 0), .v (.int .u64 ((fitN (widthN p.width) p.num : Nat) : Int)), vi 0])]⟩) (Le.mk (.c (.c (.c (.nil)))) (.c (.c (.nil)))) ?_
 refine .sr (.vl (Y.loadA sh39 rfl rfl (nbE rfl) rfl rfl) ?_)
 refine .mv ?_
 refine .storeC si39 rfl rfl rfl rfl rfl rfl (nbE rfl) rfl ?_
 refine .an ?_
 refine .nil (.sh (Sh.nilCell 104 399 1 3 rfl rfl rfl rfl (by decide)) (.ret ?_))
 exact ⟨_, rfl, _, _, _, Sh.ownT (d := 0) 3 399 rfl rfl rfl rfl (by first | rfl | exact len_map rfl | exact len_map (by omega)) rfl (by decide), rfl, rfl, (⟨1 + (((p.kind : Nat) : Int) % 10), 0, -1, ([] : List Int), fitN (widthN p.width) p.num, 0⟩ : Cell), _, pt_const hg (by omega), rfl, rfl⟩
 refine .sr (.vl (Y.eql rfl rfl) ?_)
 refine .an ?_
 refine .nil ?_
 refine .condD rfl (fun c74 => ?_) (fun c74 => ?_)
 refine .sr (.vl (Y.loadA sh27 rfl rfl (nbE rfl) rfl rfl) (.vl (Y.loadA sh88 rfl rfl (nbE rfl) rfl rfl) ?_))
 refine .callV ok91 (operator_spec (n := n) (p := p) hn h0 hp hg hi) rfl (.keep rfl rfl (.keep rfl rfl .nil)) (by decide) ?_
 rintro _ ⟨cO78, wO78, hO78, rfl, _⟩
 refine ⟨rfl, ?_⟩
 refine .extractU rfl rfl (by decide) (.vl (Y.extract rfl rfl rfl) (.sh (Sh.nameN (d := 79) 3 2083 cO78.args.length rfl rfl rfl (by decide) (len_map rfl)) ?_))
 refine .storeC si39 rfl rfl rfl rfl rfl rfl (nbE rfl) rfl ?_
 refine .an ?_
 refine .nil (.ret ?_)
 exact ⟨_, rfl, _, _, _, Sh.ownT (d := 0) 3 2083 rfl rfl rfl rfl (by first | rfl | exact len_map rfl | exact len_map (by omega)) rfl (by decide), rfl, rfl, cO78, _, hO78, rfl, rfl⟩
 refine .sr (.vl (Y.eql rfl rfl) ?_)
 refine .an ?_
 refine .nil ?_
 refine .condD rfl (fun c81 => ?_) (fun c81 => ?_)
 refine .regionHeld0 rfl (.loadA 0 rfl (by kernel_rfl) sh27 rfl rfl rfl (nbE rfl) rfl rfl (by decide) (.blind 1 rfl (by kernel_rfl) (Blind.move rfl rfl) (by decide) ?_))
 refine .loadA 3 rfl (by kernel_rfl) sh27 rfl rfl rfl (nbE rfl) rfl rfl (by decide) (.blind 4 rfl (by kernel_rfl) (Blind.move rfl rfl) (by decide) (.blind 5 rfl (by kernel_rfl) (Blind.move rfl rfl) (by decide) ?_))
 refine .loadA 7 rfl (by kernel_rfl) sh27 rfl rfl rfl (nbE rfl) rfl rfl (by decide) (.blind 8 rfl (by kernel_rfl) (Blind.move rfl rfl) (by decide) (.loadA 10 rfl (by kernel_rfl) sh27 rfl rfl rfl (nbE rfl) rfl rfl (by decide) ?_))
 refine .blind 11 rfl (by kernel_rfl) (Blind.move rfl rfl) (by decide) (.blind 12 rfl (by kernel_rfl) (Blind.fieldAddr fl88_1 rfl rfl) (by decide) (.load 13 rfl (by kernel_rfl) sh5 rfl rfl rfl rfl rfl (by decide) ?_))
 refine .go0 (.one 2 rfl (by kernel_rfl) (.callP ok56 (pick_spec (n := (⟨n.name, n.widths, n.cells, n.ins, n.mems, n.streams, [], [], n.freeze, n.done, []⟩ : Netlist)) (w := 1) (k := p.a) (by show (n.widths).length ≤ 1048576; omega) (by omega)) rfl (.keep rfl rfl (.keep rfl rfl (.keep rfl rfl .nil))) (by decide) rfl ?_))
 refine .nil ⟨rfl, ?_⟩
 refine .one 6 rfl (by kernel_rfl) ?_
 refine .callP ok56 (pick_spec (n := (⟨n.name, n.widths, n.cells, n.ins, n.mems, n.streams, [], [], n.freeze, n.done, []⟩ : Netlist)) (w := (widthN p.width)) (k := p.b) (by show (n.widths).length ≤ 1048576; omega) (by omega)) rfl (.keep rfl rfl (.keep rfl rfl (.keep rfl rfl .nil))) (by decide) rfl ?_
 refine .nil ⟨rfl, ?_⟩
 refine .one 9 rfl (by kernel_rfl) (.callP ok56 (pick_spec (n := (⟨n.name, n.widths, n.cells, n.ins, n.mems, n.streams, [], [], n.freeze, n.done, []⟩ : Netlist)) (w := 1) (k := p.d) (by show (n.widths).length ≤ 1048576; omega) (by omega)) rfl (.keep rfl rfl (.keep rfl rfl (.keep rfl rfl .nil))) (by decide) rfl ?_)
 refine .nil ⟨rfl, ?_⟩
 refine .one 14 rfl (by kernel_rfl) ?_
 refine .callP ok56 (pick_spec (n := (⟨n.name, n.widths, n.cells, n.ins, n.mems, n.streams, [], [], n.freeze, n.done, []⟩ : Netlist)) (w := (widthN p.width)) (k := p.op) (by show (n.widths).length ≤ 1048576; omega) (by omega)) rfl (.keep rfl rfl (.keep rfl rfl (.keep rfl rfl .nil))) (by decide) rfl ?_
 refine .nil ⟨rfl, ?_⟩
 refine .one 15 rfl (by kernel_rfl) ?_
 refine .buildSlice (([pickN n.widths 1 p.a, pickN n.widths (widthN p.width) p.b, pickN n.widths 1 p.d, pickN n.widths (widthN p.width) p.op] : List Int).map irow) sl22 ze3 rfl rfl rfl rfl rfl (uniform_map (s := 1) (f := irow) (fun _ => rfl)) rfl rfl rfl (by decide) ?_
 refine .nil ⟨rfl, ?_⟩
 refine .one 16 rfl (by kernel_rfl) ?_
 refine .fa fl39_3 ?_
 refine .nil ⟨rfl, ?_⟩
 refine .one 17 rfl (by kernel_rfl) ?_
 refine .sh (Sh.adoptE (d := 98) (n := ([pickN n.widths 1 p.a, pickN n.widths (widthN p.width) p.b, pickN n.widths 1 p.d, pickN n.widths (widthN p.width) p.op] : List Int).length) 198 (([pickN n.widths 1 p.a, pickN n.widths (widthN p.width) p.b, pickN n.widths 1 p.d, pickN n.widths (widthN p.width) p.op] : List Int).map irow) rfl (by first | rfl | exact rep_map rfl) (len_map rfl) (by decide)) ?_
 refine .storeC si22 rfl rfl rfl rfl rfl rfl (nbE rfl) rfl ?_
 refine .nil ⟨rfl, ?_⟩
 refine .done (by kernel_rfl) ?_
 refine .le (st' := ⟨[(4, .ptr 104 0 0 0), (6, vi (widthN p.width)), (7, .ptr 107 0 0 0)], [(104, .cells [vi 0, vi 0, vi 0, .v (.slice none 0 0), .v (.int .u64 0), vi 0]), (107, .cells [vi (1 + (((p.kind : Nat) : Int) % 10)), vi 0, vi (-1), .slc 198 1 0 (([pickN n.widths 1 p.a, pickN n.widths (widthN p.width) p.b, pickN n.widths 1 p.d, pickN n.widths (widthN p.width) p.op] : List Int).length), .v (.int .u64 0), vi 0]), (198, .rows 1 (([pickN n.widths 1 p.a, pickN n.widths (widthN p.width) p.b, pickN n.widths 1 p.d, pickN n.widths (widthN p.width) p.op] : List Int).map irow))]⟩) (Le.mk (.c (.c (.c (.nil)))) (.c (.c (.c (.nil))))) ?_
 refine .sr (.vl (Y.loadA sh39 rfl rfl (nbE rfl) rfl rfl) ?_)
 refine .mv ?_
 refine .storeC si39 rfl rfl rfl rfl rfl rfl (nbE rfl) rfl ?_
 refine .an ?_
 refine .nil (.ret ?_)
 exact ⟨_, rfl, _, _, _, Sh.ownT (d := 0) 3 198 rfl rfl rfl rfl (by first | rfl | exact len_map rfl | exact len_map (by omega)) rfl (by decide), rfl, rfl, (⟨1 + (((p.kind : Nat) : Int) % 10), 0, -1, ([pickN n.widths 1 p.a, pickN n.widths (widthN p.width) p.b, pickN n.widths 1 p.d, pickN n.widths (widthN p.width) p.op] : List Int), 0, 0⟩ : Cell), _, pt_mux hg (by omega), rfl, rfl⟩
 refine .sr (.vl (Y.eql rfl rfl) ?_)
 refine .an ?_
 refine .nil ?_
 refine .condD rfl (fun c100 => ?_) (fun c100 => ?_)
 refine .sr ?_
 refine .mv ?_
 refine .fa fl88_4 ?_
 refine .ld sh37 ?_
 refine .callP ok26 (rfit_spec (w := (widthN p.width)) (x := p.num) ((by omega))) rfl (.keep rfl rfl (.keep rfl rfl .nil)) (by decide) rfl ?_
 refine .fa fl39_4 ?_
 refine .storeC si37 rfl rfl rfl rfl rfl rfl (nbE rfl) rfl (.nil ?_)
 refine .le (st' := ⟨[(2, .fp (Netlist.prow n) 0), (4, .ptr 104 0 0 0), (6, vi (widthN p.width)), (7, .ptr 107 0 0 0), (8, .v (.int .u8 ((p.a : Nat) : Int))), (9, .v (.int .u8 ((p.b : Nat) : Int)))], [(104, .cells [vi 0, vi 0, vi 0, .v (.slice none 0 0), .v (.int .u64 0), vi 0]), (107, .cells [vi (1 + (((p.kind : Nat) : Int) % 10)), vi 0, vi (-1), .v (.slice none 0 0), .v (.int .u64 ((fitN (widthN p.width) p.num : Nat) : Int)), vi 0])]⟩) (Le.mk (.c (.c (.c (.c (.c (.c (.nil))))))) (.c (.c (.nil)))) ?_
 refine .regionHeld0 rfl (.loadA 0 rfl (by kernel_rfl) sh27 rfl rfl rfl (nbE rfl) rfl rfl (by decide) (.blind 1 rfl (by kernel_rfl) (Blind.move rfl rfl) (by decide) ?_))
 refine .loadA 3 rfl (by kernel_rfl) sh27 rfl rfl rfl (nbE rfl) rfl rfl (by decide) (.blind 4 rfl (by kernel_rfl) (Blind.move rfl rfl) (by decide) (.blind 5 rfl (by kernel_rfl) (Blind.move rfl rfl) (by decide) ?_))
 refine .go0 (.one 2 rfl (by kernel_rfl) (.callP ok56 (pick_spec (n := (⟨n.name, n.widths, n.cells, n.ins, n.mems, n.streams, [], [], n.freeze, n.done, []⟩ : Netlist)) (w := 1) (k := p.a) (by show (n.widths).length ≤ 1048576; omega) (by omega)) rfl (.keep rfl rfl (.keep rfl rfl (.keep rfl rfl .nil))) (by decide) rfl ?_))
 refine .nil ⟨rfl, ?_⟩
 refine .one 6 rfl (by kernel_rfl) ?_
 refine .callP ok56 (pick_spec (n := (⟨n.name, n.widths, n.cells, n.ins, n.mems, n.streams, [], [], n.freeze, n.done, []⟩ : Netlist)) (w := (widthN p.width)) (k := p.b) (by show (n.widths).length ≤ 1048576; omega) (by omega)) rfl (.keep rfl rfl (.keep rfl rfl (.keep rfl rfl .nil))) (by decide) rfl ?_
 refine .nil ⟨rfl, ?_⟩
 refine .one 7 rfl (by kernel_rfl) ?_
 refine .buildSlice (([pickN n.widths 1 p.a, pickN n.widths (widthN p.width) p.b] : List Int).map irow) sl22 ze3 rfl rfl rfl rfl rfl (uniform_map (s := 1) (f := irow) (fun _ => rfl)) rfl rfl rfl (by decide) ?_
 refine .nil ⟨rfl, ?_⟩
 refine .one 8 rfl (by kernel_rfl) ?_
 refine .fa fl39_3 ?_
 refine .nil ⟨rfl, ?_⟩
 refine .one 9 rfl (by kernel_rfl) (.sh (Sh.adoptE (d := 114) (n := ([pickN n.widths 1 p.a, pickN n.widths (widthN p.width) p.b] : List Int).length) 214 (([pickN n.widths 1 p.a, pickN n.widths (widthN p.width) p.b] : List Int).map irow) rfl (by first | rfl | exact rep_map rfl) (len_map rfl) (by decide)) (.storeC si22 rfl rfl rfl rfl rfl rfl (nbE rfl) rfl ?_))
 refine .nil ⟨rfl, ?_⟩
 refine .done (by kernel_rfl) ?_
 refine .le (st' := ⟨[(4, .ptr 104 0 0 0), (6, vi (widthN p.width)), (7, .ptr 107 0 0 0)], [(104, .cells [vi 0, vi 0, vi 0, .v (.slice none 0 0), .v (.int .u64 0), vi 0]), (107, .cells [vi (1 + (((p.kind : Nat) : Int) % 10)), vi 0, vi (-1), .slc 214 1 0 (([pickN n.widths 1 p.a, pickN n.widths (widthN p.width) p.b] : List Int).length), .v (.int .u64 ((fitN (widthN p.width) p.num : Nat) : Int)), vi 0]), (214, .rows 1 (([pickN n.widths 1 p.a, pickN n.widths (widthN p.width) p.b] : List Int).map irow))]⟩) (Le.mk (.c (.c (.c (.nil)))) (.c (.c (.c (.nil))))) ?_
 refine .sr (.vl (Y.loadA sh39 rfl rfl (nbE rfl) rfl rfl) ?_)
 refine .mv ?_
 refine .storeC si39 rfl rfl rfl rfl rfl rfl (nbE rfl) rfl ?_
 refine .an ?_
 refine .nil (.ret ?_)
 exact ⟨_, rfl, _, _, _, Sh.ownT (d := 0) 3 214 rfl rfl rfl rfl (by first | rfl | exact len_map rfl | exact len_map (by omega)) rfl (by decide), rfl, rfl, (⟨1 + (((p.kind : Nat) : Int) % 10), 0, -1, ([pickN n.widths 1 p.a, pickN n.widths (widthN p.width) p.b] : List Int), fitN (widthN p.width) p.num, 0⟩ : Cell), _, pt_reg hg (by omega), rfl, rfl⟩
 refine .sr (.vl (Y.eql rfl rfl) ?_)
 refine .an ?_
 refine .nil ?_
 refine .condD rfl (fun c116 => ?_) (fun c116 => ?_)
 refine .sr ?_
 refine .fa fl88_1 ?_
 refine .ld sh5 ?_
 refine .vl (Y.remI rfl rfl (by first | omega | simp [-List.getD_eq_getElem?_getD] <;> omega)) ?_
 refine .vl (Y.convK ii5 ii3 rfl (by first | rfl | exact IntWalk.i64_in _ (by omega))) ?_
 refine .vl (Y.addI rfl rfl (by omega)) ?_
 refine .fa fl39_1 ?_
 refine .storeC si3 rfl rfl rfl rfl rfl rfl (nbE rfl) rfl (.nil (.sr ?_))
 refine .fa fl88_4 ?_
 refine .ld sh37 ?_
 refine .vl (Y.remN (a := p.num) (b := 4) rfl rfl (by omega)) ?_
 refine .vl (Y.addN (a := 1) (b := (p.num % 4)) rfl rfl) ?_
 refine .fa fl39_4 ?_
 refine .storeC si37 rfl rfl rfl rfl rfl rfl (nbE rfl) rfl (.nil ?_)
 refine .le (st' := ⟨[(2, .fp (Netlist.prow n) 0), (4, .ptr 104 0 0 0), (6, vi (widthN p.width)), (7, .ptr 107 0 0 0), (8, .v (.int .u8 ((p.a : Nat) : Int))), (9, .v (.int .u8 ((p.b : Nat) : Int)))], [(104, .cells [vi 0, vi 0, vi 0, .v (.slice none 0 0), .v (.int .u64 0), vi 0]), (107, .cells [vi (1 + (((p.kind : Nat) : Int) % 10)), vi (4 + (((p.op : Nat) : Int) % 5)), vi (-1), .v (.slice none 0 0), .v (.int .u64 (((1 + (p.num % 4)) % 18446744073709551616 : Nat) : Int)), vi 0])]⟩) (Le.mk (.c (.c (.c (.c (.c (.c (.nil))))))) (.c (.c (.nil)))) ?_
 refine .regionHeld0 rfl (.loadA 0 rfl (by kernel_rfl) sh27 rfl rfl rfl (nbE rfl) rfl rfl (by decide) (.blind 1 rfl (by kernel_rfl) (Blind.move rfl rfl) (by decide) ?_))
 refine .blind 2 rfl (by kernel_rfl) (Blind.move rfl rfl) (by decide) (.loadA 4 rfl (by kernel_rfl) sh27 rfl rfl rfl (nbE rfl) rfl rfl (by decide) (.blind 5 rfl (by kernel_rfl) (Blind.move rfl rfl) (by decide) ?_))
 refine .blind 6 rfl (by kernel_rfl) (Blind.move rfl rfl) (by decide) (.go0 (.one 3 rfl (by kernel_rfl) ?_))
 refine .callP ok56 (pick_spec (n := (⟨n.name, n.widths, n.cells, n.ins, n.mems, n.streams, [], [], n.freeze, n.done, []⟩ : Netlist)) (w := (widthN p.width)) (k := p.a) (by show (n.widths).length ≤ 1048576; omega) (by omega)) rfl (.keep rfl rfl (.keep rfl rfl (.keep rfl rfl .nil))) (by decide) rfl ?_
 refine .nil ⟨rfl, ?_⟩
 refine .one 7 rfl (by kernel_rfl) ?_
 refine .callP ok56 (pick_spec (n := (⟨n.name, n.widths, n.cells, n.ins, n.mems, n.streams, [], [], n.freeze, n.done, []⟩ : Netlist)) (w := (widthN p.width)) (k := p.b) (by show (n.widths).length ≤ 1048576; omega) (by omega)) rfl (.keep rfl rfl (.keep rfl rfl (.keep rfl rfl .nil))) (by decide) rfl ?_
 refine .nil ⟨rfl, ?_⟩
 refine .one 8 rfl (by kernel_rfl) ?_
 refine .buildSlice (([pickN n.widths (widthN p.width) p.a, pickN n.widths (widthN p.width) p.b] : List Int).map irow) sl22 ze3 rfl rfl rfl rfl rfl (uniform_map (s := 1) (f := irow) (fun _ => rfl)) rfl rfl rfl (by decide) ?_
 refine .nil ⟨rfl, ?_⟩
 refine .one 9 rfl (by kernel_rfl) ?_
 refine .fa fl39_3 ?_
 refine .nil ⟨rfl, ?_⟩
 refine .one 10 rfl (by kernel_rfl) ?_
 refine .sh (Sh.adoptE (d := 137) (n := ([pickN n.widths (widthN p.width) p.a, pickN n.widths (widthN p.width) p.b] : List Int).length) 237 (([pickN n.widths (widthN p.width) p.a, pickN n.widths (widthN p.width) p.b] : List Int).map irow) rfl (by first | rfl | exact rep_map rfl) (len_map rfl) (by decide)) ?_
 refine .storeC si22 rfl rfl rfl rfl rfl rfl (nbE rfl) rfl ?_
 refine .nil ⟨rfl, ?_⟩
 refine .done (by kernel_rfl) ?_
 refine .le (st' := ⟨[(4, .ptr 104 0 0 0), (6, vi (widthN p.width)), (7, .ptr 107 0 0 0)], [(104, .cells [vi 0, vi 0, vi 0, .v (.slice none 0 0), .v (.int .u64 0), vi 0]), (107, .cells [vi (1 + (((p.kind : Nat) : Int) % 10)), vi (4 + (((p.op : Nat) : Int) % 5)), vi (-1), .slc 237 1 0 (([pickN n.widths (widthN p.width) p.a, pickN n.widths (widthN p.width) p.b] : List Int).length), .v (.int .u64 (((1 + (p.num % 4)) % 18446744073709551616 : Nat) : Int)), vi 0]), (237, .rows 1 (([pickN n.widths (widthN p.width) p.a, pickN n.widths (widthN p.width) p.b] : List Int).map irow))]⟩) (Le.mk (.c (.c (.c (.nil)))) (.c (.c (.c (.nil))))) ?_
 refine .sr (.vl (Y.loadA sh39 rfl rfl (nbE rfl) rfl rfl) ?_)
 refine .mv ?_
 refine .storeC si39 rfl rfl rfl rfl rfl rfl (nbE rfl) rfl ?_
 refine .an ?_
 refine .nil (.ret ?_)
 exact ⟨_, rfl, _, _, _, Sh.ownT (d := 0) 3 237 rfl rfl rfl rfl (by first | rfl | exact len_map rfl | exact len_map (by omega)) rfl (by decide), rfl, rfl, (⟨1 + (((p.kind : Nat) : Int) % 10), 4 + (((p.op : Nat) : Int) % 5), -1, ([pickN n.widths (widthN p.width) p.a, pickN n.widths (widthN p.width) p.b] : List Int), (1 + (p.num % 4)) % 18446744073709551616, 0⟩ : Cell), _, pt_unit hg (by omega) (by omega) (by omega), rfl, rfl⟩
 refine .seq (.sr (.vl (Y.eql rfl rfl) ?_))
 refine .an ?_
 refine .nil ?_
 refine .condKD rfl (fun c139 => ?_) (fun c139 => ?_)
 refine .skip (.condT rfl (.seq ?_))
 refine .sr ?_
 refine .fa fl27_4 ?_
 refine .ld sh24 ?_
 refine .vl (Y.len (n := n.mems.length) sl24 rfl (congrArg some (List.length_map ..))) (.vl (Y.eql rfl rfl) (.nil ?_))
 refine .condD rfl (fun c145 => ?_) (fun c145 => ?_)
 refine .sr (.vl (Y.build pl39 ze39 rfl rfl rfl) (.storeC si39 rfl rfl rfl rfl rfl rfl (nbE rfl) rfl ?_))
 refine .an ?_
 refine .nil (.sh (Sh.nilCell 104 399 1 3 rfl rfl rfl rfl (by decide)) (.ret ?_))
 exact ⟨_, rfl, _, _, _, Sh.ownT (d := 0) 3 399 rfl rfl rfl rfl (by first | rfl | exact len_map rfl | exact len_map (by omega)) rfl (by decide), rfl, rfl, (⟨0, 0, 0, ([] : List Int), 0, 0⟩ : Cell), _, pt_none hg, rfl, rfl⟩
 refine .skip (.sr ?_)
 refine .fa fl88_1 ?_
 refine .ld sh5 ?_
 refine .vl (Y.convK ii5 ii3 rfl (by first | rfl | exact IntWalk.i64_in _ (by omega))) ?_
 refine .fa fl27_4 ?_
 refine .ld sh24 ?_
 refine .vl (Y.len (n := n.mems.length) sl24 rfl (congrArg some (List.length_map ..))) ?_
 refine .vl (Y.remI rfl rfl (by first | omega | simp [-List.getD_eq_getElem?_getD] <;> omega)) ?_
 refine .fa fl39_5 ?_
 refine .storeC si3 rfl rfl rfl rfl rfl rfl (nbE rfl) rfl (.nil (.seq ?_))
 have hmm : p.op % n.mems.length < n.mems.length := Nat.mod_lt _ (by omega)
 refine .region ?_
 refine .fa fl27_4 ?_
 refine .ld sh24 ?_
 refine .fa fl39_5 ?_
 refine .ld sh3 ?_
 refine .vl (Y.indexF (m := p.op % n.mems.length) sl24 rfl rfl (by first | rfl | omega) (row_getD (d := default) (by omega))) ?_
 refine .fa fl48_1 ?_
 refine .ld sh3 ?_
 refine .an ?_
 refine .nil ?_
 refine .le (st' := ⟨[(2, .fp (Netlist.prow n) 0), (4, .ptr 104 0 0 0), (6, vi ((n.mems.getD (p.op % n.mems.length) default).width)), (7, .ptr 107 0 0 0), (8, .v (.int .u8 ((p.a : Nat) : Int))), (9, .v (.int .u8 ((p.b : Nat) : Int))), (10, .v (.int .u8 ((p.d : Nat) : Int)))], [(104, .cells [vi 0, vi 0, vi 0, .v (.slice none 0 0), .v (.int .u64 0), vi 0]), (107, .cells [vi (1 + (((p.kind : Nat) : Int) % 10)), vi 0, vi (-1), .v (.slice none 0 0), .v (.int .u64 0), vi (((p.op : Nat) : Int) % ((n.mems.length : Nat) : Int))])]⟩) (Le.mk (.c (.c (.c (.c (.c (.c (.c (.nil)))))))) (.c (.c (.nil)))) ?_
 refine .seq (.regionHeld0 rfl (.loadA 0 rfl (by kernel_rfl) sh27 rfl rfl rfl (nbE rfl) rfl rfl (by decide) ?_))
 refine .blind 1 rfl (by kernel_rfl) (Blind.move rfl rfl) (by decide) (.blind 3 rfl (by kernel_rfl) (Blind.move rfl rfl) (by decide) ?_)
 refine .blind 4 rfl (by kernel_rfl) (Blind.convK ii5 ii3 rfl (by first | rfl | exact IntWalk.i64_in _ (by omega))) (by decide) ?_
 refine .blind 5 rfl (by kernel_rfl) (Blind.fieldAddr fl27_1 rfl rfl) (by decide) (.load 6 rfl (by kernel_rfl) sh22 rfl rfl rfl rfl rfl (by decide) (.blind 7 rfl (by kernel_rfl) (Blind.len (n := n.widths.length) sl22 rfl (congrArg some (List.length_map ..))) (by decide) ?_))
 refine .blind 8 rfl (by kernel_rfl) (Blind.remI rfl rfl (by omega)) (by decide) ?_
 refine .go0 (.one 2 rfl (by kernel_rfl) (.callP ok56 (pick_spec (n := (⟨n.name, n.widths, n.cells, n.ins, n.mems, n.streams, [], [], n.freeze, n.done, []⟩ : Netlist)) (w := 1) (k := p.a) (by show (n.widths).length ≤ 1048576; omega) (by omega)) rfl (.keep rfl rfl (.keep rfl rfl (.keep rfl rfl .nil))) (by decide) rfl ?_))
 refine .nil ⟨rfl, ?_⟩
 refine .one 9 rfl (by kernel_rfl) ?_
 refine .buildSlice (([pickN n.widths 1 p.a, ((p.b : Nat) : Int) % ((n.widths.length : Nat) : Int)] : List Int).map irow) sl22 ze3 rfl rfl rfl rfl rfl (uniform_map (s := 1) (f := irow) (fun _ => rfl)) rfl rfl rfl (by decide) ?_
 refine .nil ⟨rfl, ?_⟩
 refine .one 10 rfl (by kernel_rfl) ?_
 refine .fa fl39_3 ?_
 refine .nil ⟨rfl, ?_⟩
 refine .one 11 rfl (by kernel_rfl) ?_
 refine .sh (Sh.adoptE (d := 171) (n := ([pickN n.widths 1 p.a, ((p.b : Nat) : Int) % ((n.widths.length : Nat) : Int)] : List Int).length) 271 (([pickN n.widths 1 p.a, ((p.b : Nat) : Int) % ((n.widths.length : Nat) : Int)] : List Int).map irow) rfl (by first | rfl | exact rep_map rfl) (len_map rfl) (by decide)) ?_
 refine .storeC si22 rfl rfl rfl rfl rfl rfl (nbE rfl) rfl ?_
 refine .nil ⟨rfl, ?_⟩
 refine .done (by kernel_rfl) ?_
 refine .le (st' := ⟨[(2, .fp (Netlist.prow n) 0), (4, .ptr 104 0 0 0), (6, vi ((n.mems.getD (p.op % n.mems.length) default).width)), (7, .ptr 107 0 0 0), (10, .v (.int .u8 ((p.d : Nat) : Int)))], [(104, .cells [vi 0, vi 0, vi 0, .v (.slice none 0 0), .v (.int .u64 0), vi 0]), (107, .cells [vi (1 + (((p.kind : Nat) : Int) % 10)), vi 0, vi (-1), .slc 271 1 0 (([pickN n.widths 1 p.a, ((p.b : Nat) : Int) % ((n.widths.length : Nat) : Int)] : List Int).length), .v (.int .u64 0), vi (((p.op : Nat) : Int) % ((n.mems.length : Nat) : Int))]), (271, .rows 1 (([pickN n.widths 1 p.a, ((p.b : Nat) : Int) % ((n.widths.length : Nat) : Int)] : List Int).map irow))]⟩) (Le.mk (.c (.c (.c (.c (.c (.nil)))))) (.c (.c (.c (.nil))))) ?_
 refine .sr ?_
 refine .fa fl39_0 ?_
 refine .ld sh3 ?_
 refine .vl (Y.eql rfl rfl) (.nil ?_)
 refine .condD rfl (fun c175 => ?_) (fun c175 => ?_)
 refine .regionHeldJ0 (⟨[(4, .ptr 104 0 0 0), (6, .v (.int .i64 ((n.mems.getD (p.op % n.mems.length) default).width))), (7, .ptr 107 0 0 0)], [(104, .cells [.v (.int .i64 0), .v (.int .i64 0), .v (.int .i64 0), .v (.slice none 0 0), .v (.int .u64 0), .v (.int .i64 0)]), (107, .cells [.v (.int .i64 (1 + (((p.kind : Nat) : Int) % 10))), .v (.int .i64 0), .v (.int .i64 (-1)), .slc 271 1 0 ((([pickN n.widths 1 p.a, ((p.b : Nat) : Int) % ((n.widths.length : Nat) : Int)] : List Int) ++ ([pickN n.widths ((n.mems.getD (p.op % n.mems.length) default).width) p.d] : List Int)).length), .v (.int .u64 0), .v (.int .i64 (((p.op : Nat) : Int) % ((n.mems.length : Nat) : Int)))]), (271, .rows 1 ((([pickN n.widths 1 p.a, ((p.b : Nat) : Int) % ((n.widths.length : Nat) : Int)] : List Int) ++ ([pickN n.widths ((n.mems.getD (p.op % n.mems.length) default).width) p.d] : List Int)).map irow))]⟩) rfl ?_ ?_
 refine .blind 0 rfl (by kernel_rfl) (Blind.fieldAddr fl39_3 rfl rfl) (by decide) (.loadA 2 rfl (by kernel_rfl) sh27 rfl rfl rfl (nbE rfl) rfl rfl (by decide) (.blind 3 rfl (by kernel_rfl) (Blind.move rfl rfl) (by decide) ?_))
 refine .blind 4 rfl (by kernel_rfl) (Blind.move rfl rfl) (by decide) (.go0 ?_)
 refine .two 1 5 rfl rfl (by kernel_rfl) ?_ ?_
 refine .ld sh22 ?_
 refine .nil ⟨rfl, ?_⟩
 refine .one 5 rfl (by kernel_rfl) ?_
 refine .callP ok56 (pick_spec (n := (⟨n.name, n.widths, n.cells, n.ins, n.mems, n.streams, [], [], n.freeze, n.done, []⟩ : Netlist)) (w := ((n.mems.getD (p.op % n.mems.length) default).width)) (k := p.d) (by show (n.widths).length ≤ 1048576; omega) (by omega)) rfl (.keep rfl rfl (.keep rfl rfl (.keep rfl rfl .nil))) (by decide) rfl ?_
 refine .nil ⟨rfl, ?_⟩
 refine .one 6 rfl (by kernel_rfl) ?_
 refine .buildSlice (([pickN n.widths ((n.mems.getD (p.op % n.mems.length) default).width) p.d] : List Int).map irow) sl22 ze3 rfl rfl rfl rfl rfl (uniform_map (s := 1) (f := irow) (fun _ => rfl)) rfl rfl rfl (by decide) ?_
 refine .nil ⟨rfl, ?_⟩
 refine .one 7 rfl (by kernel_rfl) ?_
 refine .appendE ((([pickN n.widths 1 p.a, ((p.b : Nat) : Int) % ((n.widths.length : Nat) : Int)] : List Int) ++ ([pickN n.widths ((n.mems.getD (p.op % n.mems.length) default).width) p.d] : List Int)).map irow) (([pickN n.widths 1 p.a, ((p.b : Nat) : Int) % ((n.widths.length : Nat) : Int)] : List Int) ++ ([pickN n.widths ((n.mems.getD (p.op % n.mems.length) default).width) p.d] : List Int)).length sl22 ze3 rfl rfl rfl rfl (app_le (by first | omega | simp [-List.getD_eq_getElem?_getD] <;> omega)) (app_map (by first | omega | simp [-List.getD_eq_getElem?_getD] <;> omega)) (app_n (by first | omega | simp [-List.getD_eq_getElem?_getD] <;> omega)) (by first | omega | simp [-List.getD_eq_getElem?_getD] <;> omega) (by first | omega | simp [-List.getD_eq_getElem?_getD] <;> omega) (by decide) (by decide) ?_
 refine .nil ⟨rfl, ?_⟩
 refine .one 8 rfl (by kernel_rfl) ?_
 refine .fa fl39_3 ?_
 refine .nil ⟨rfl, ?_⟩
 refine .one 9 rfl (by kernel_rfl) (.storeC si22 rfl rfl rfl rfl rfl rfl (nbE rfl) rfl ?_)
 refine .nil ⟨rfl, ?_⟩
 refine .done (by kernel_rfl) ?_
 exact Le.mk (.c (.c (.c (.nil)))) (.c (.c (.c (.nil))))
 refine .callP ok56 (pick_spec (n := (⟨n.name, n.widths, n.cells, n.ins, n.mems, n.streams, [], [], n.freeze, n.done, []⟩ : Netlist)) (w := ((n.mems.getD (p.op % n.mems.length) default).width)) (k := p.d) (by show (n.widths).length ≤ 1048576; omega) (by omega)) rfl (.keep rfl rfl (.keep rfl rfl (.keep rfl rfl .nil))) (by decide) rfl ?_
 refine .nil ⟨rfl, ?_⟩
 refine .two 1 6 rfl rfl (by kernel_rfl) ?_ ?_
 refine .ld sh22 ?_
 refine .nil ⟨rfl, ?_⟩
 refine .one 6 rfl (by kernel_rfl) ?_
 refine .buildSlice (([pickN n.widths ((n.mems.getD (p.op % n.mems.length) default).width) p.d] : List Int).map irow) sl22 ze3 rfl rfl rfl rfl rfl (uniform_map (s := 1) (f := irow) (fun _ => rfl)) rfl rfl rfl (by decide) ?_
 refine .nil ⟨rfl, ?_⟩
 refine .one 7 rfl (by kernel_rfl) ?_
 refine .appendE ((([pickN n.widths 1 p.a, ((p.b : Nat) : Int) % ((n.widths.length : Nat) : Int)] : List Int) ++ ([pickN n.widths ((n.mems.getD (p.op % n.mems.length) default).width) p.d] : List Int)).map irow) (([pickN n.widths 1 p.a, ((p.b : Nat) : Int) % ((n.widths.length : Nat) : Int)] : List Int) ++ ([pickN n.widths ((n.mems.getD (p.op % n.mems.length) default).width) p.d] : List Int)).length sl22 ze3 rfl rfl rfl rfl (app_le (by first | omega | simp [-List.getD_eq_getElem?_getD] <;> omega)) (app_map (by first | omega | simp [-List.getD_eq_getElem?_getD] <;> omega)) (app_n (by first | omega | simp [-List.getD_eq_getElem?_getD] <;> omega)) (by first | omega | simp [-List.getD_eq_getElem?_getD] <;> omega) (by first | omega | simp [-List.getD_eq_getElem?_getD] <;> omega) (by decide) (by decide) ?_
 refine .nil ⟨rfl, ?_⟩
 refine .one 8 rfl (by kernel_rfl) ?_
 refine .fa fl39_3 ?_
 refine .nil ⟨rfl, ?_⟩
 refine .one 9 rfl (by kernel_rfl) (.storeC si22 rfl rfl rfl rfl rfl rfl (nbE rfl) rfl ?_)
 refine .nil ⟨rfl, ?_⟩
 refine .done (by kernel_rfl) ?_
 exact Le.mk (.c (.c (.c (.nil)))) (.c (.c (.c (.nil))))
 refine .buildSlice (([pickN n.widths ((n.mems.getD (p.op % n.mems.length) default).width) p.d] : List Int).map irow) sl22 ze3 rfl rfl rfl rfl rfl (uniform_map (s := 1) (f := irow) (fun _ => rfl)) rfl rfl rfl (by decide) ?_
 refine .nil ⟨rfl, ?_⟩
 refine .one 1 rfl (by kernel_rfl) ?_
 refine .ld sh22 ?_
 refine .nil ⟨rfl, ?_⟩
 refine .one 7 rfl (by kernel_rfl) ?_
 refine .appendE ((([pickN n.widths 1 p.a, ((p.b : Nat) : Int) % ((n.widths.length : Nat) : Int)] : List Int) ++ ([pickN n.widths ((n.mems.getD (p.op % n.mems.length) default).width) p.d] : List Int)).map irow) (([pickN n.widths 1 p.a, ((p.b : Nat) : Int) % ((n.widths.length : Nat) : Int)] : List Int) ++ ([pickN n.widths ((n.mems.getD (p.op % n.mems.length) default).width) p.d] : List Int)).length sl22 ze3 rfl rfl rfl rfl (app_le (by first | omega | simp [-List.getD_eq_getElem?_getD] <;> omega)) (app_map (by first | omega | simp [-List.getD_eq_getElem?_getD] <;> omega)) (app_n (by first | omega | simp [-List.getD_eq_getElem?_getD] <;> omega)) (by first | omega | simp [-List.getD_eq_getElem?_getD] <;> omega) (by first | omega | simp [-List.getD_eq_getElem?_getD] <;> omega) (by decide) (by decide) ?_
 refine .nil ⟨rfl, ?_⟩
 refine .one 8 rfl (by kernel_rfl) ?_
 refine .fa fl39_3 ?_
 refine .nil ⟨rfl, ?_⟩
 refine .one 9 rfl (by kernel_rfl) (.storeC si22 rfl rfl rfl rfl rfl rfl (nbE rfl) rfl ?_)
 refine .nil ⟨rfl, ?_⟩
 refine .done (by kernel_rfl) ?_
 exact Le.mk (.c (.c (.c (.nil)))) (.c (.c (.c (.nil))))
 refine .le (st' := ⟨[(4, .ptr 104 0 0 0), (6, vi ((n.mems.getD (p.op % n.mems.length) default).width)), (7, .ptr 107 0 0 0)], [(104, .cells [vi 0, vi 0, vi 0, .v (.slice none 0 0), .v (.int .u64 0), vi 0]), (107, .cells [vi (1 + (((p.kind : Nat) : Int) % 10)), vi 0, vi (-1), .slc 271 1 0 ((([pickN n.widths 1 p.a, ((p.b : Nat) : Int) % ((n.widths.length : Nat) : Int)] : List Int) ++ ([pickN n.widths ((n.mems.getD (p.op % n.mems.length) default).width) p.d] : List Int)).length), .v (.int .u64 0), vi (((p.op : Nat) : Int) % ((n.mems.length : Nat) : Int))]), (271, .rows 1 ((([pickN n.widths 1 p.a, ((p.b : Nat) : Int) % ((n.widths.length : Nat) : Int)] : List Int) ++ ([pickN n.widths ((n.mems.getD (p.op % n.mems.length) default).width) p.d] : List Int)).map irow))]⟩) (Le.mk (.c (.c (.c (.nil)))) (.c (.c (.c (.nil))))) ?_
 refine .sr (.vl (Y.loadA sh39 rfl rfl (nbE rfl) rfl rfl) ?_)
 refine .mv ?_
 refine .storeC si39 rfl rfl rfl rfl rfl rfl (nbE rfl) rfl ?_
 refine .an ?_
 refine .nil (.ret ?_)
 exact ⟨_, rfl, _, _, _, Sh.ownT (d := 0) 3 271 rfl rfl rfl rfl (by first | rfl | exact len_map rfl | exact len_map (by omega)) rfl (by decide), rfl, rfl, (⟨1 + (((p.kind : Nat) : Int) % 10), 0, -1, ([pickN n.widths 1 p.a, ((p.b : Nat) : Int) % ((n.widths.length : Nat) : Int)] : List Int) ++ ([pickN n.widths ((n.mems.getD (p.op % n.mems.length) default).width) p.d] : List Int), 0, ((p.op : Nat) : Int) % ((n.mems.length : Nat) : Int)⟩ : Cell), _, pt_write hg h0 (by omega) (by omega), rfl, rfl⟩
 refine .skip ?_
 refine .le (st' := ⟨[(4, .ptr 104 0 0 0), (6, vi ((n.mems.getD (p.op % n.mems.length) default).width)), (7, .ptr 107 0 0 0)], [(104, .cells [vi 0, vi 0, vi 0, .v (.slice none 0 0), .v (.int .u64 0), vi 0]), (107, .cells [vi (1 + (((p.kind : Nat) : Int) % 10)), vi 0, vi (-1), .slc 271 1 0 (([pickN n.widths 1 p.a, ((p.b : Nat) : Int) % ((n.widths.length : Nat) : Int)] : List Int).length), .v (.int .u64 0), vi (((p.op : Nat) : Int) % ((n.mems.length : Nat) : Int))]), (271, .rows 1 (([pickN n.widths 1 p.a, ((p.b : Nat) : Int) % ((n.widths.length : Nat) : Int)] : List Int).map irow))]⟩) (Le.mk (.c (.c (.c (.nil)))) (.c (.c (.c (.nil))))) ?_
 refine .sr (.vl (Y.loadA sh39 rfl rfl (nbE rfl) rfl rfl) ?_)
 refine .mv ?_
 refine .storeC si39 rfl rfl rfl rfl rfl rfl (nbE rfl) rfl ?_
 refine .an ?_
 refine .nil (.ret ?_)
 exact ⟨_, rfl, _, _, _, Sh.ownT (d := 0) 3 271 rfl rfl rfl rfl (by first | rfl | exact len_map rfl | exact len_map (by omega)) rfl (by decide), rfl, rfl, (⟨1 + (((p.kind : Nat) : Int) % 10), 0, -1, ([pickN n.widths 1 p.a, ((p.b : Nat) : Int) % ((n.widths.length : Nat) : Int)] : List Int), 0, ((p.op : Nat) : Int) % ((n.mems.length : Nat) : Int)⟩ : Cell), _, pt_read hg h0 (by omega) (by omega), rfl, rfl⟩
 refine .region (.vl (Y.eql rfl rfl) ?_)
 refine .an ?_
 refine .nil ?_
 refine .condKD rfl (fun c139 => ?_) (fun c139 => ?_)
 refine .seq (.sr ?_)
 refine .fa fl27_4 ?_
 refine .ld sh24 ?_
 refine .vl (Y.len (n := n.mems.length) sl24 rfl (congrArg some (List.length_map ..))) (.vl (Y.eql rfl rfl) (.nil ?_))
 refine .condD rfl (fun c145 => ?_) (fun c145 => ?_)
 refine .sr (.vl (Y.build pl39 ze39 rfl rfl rfl) (.storeC si39 rfl rfl rfl rfl rfl rfl (nbE rfl) rfl ?_))
 refine .an ?_
 refine .nil (.sh (Sh.nilCell 104 399 1 3 rfl rfl rfl rfl (by decide)) (.ret ?_))
 exact ⟨_, rfl, _, _, _, Sh.ownT (d := 0) 3 399 rfl rfl rfl rfl (by first | rfl | exact len_map rfl | exact len_map (by omega)) rfl (by decide), rfl, rfl, (⟨0, 0, 0, ([] : List Int), 0, 0⟩ : Cell), _, pt_none hg, rfl, rfl⟩
 refine .skip (.sr ?_)
 refine .fa fl88_1 ?_
 refine .ld sh5 ?_
 refine .vl (Y.convK ii5 ii3 rfl (by first | rfl | exact IntWalk.i64_in _ (by omega))) ?_
 refine .fa fl27_4 ?_
 refine .ld sh24 ?_
 refine .vl (Y.len (n := n.mems.length) sl24 rfl (congrArg some (List.length_map ..))) ?_
 refine .vl (Y.remI rfl rfl (by first | omega | simp [-List.getD_eq_getElem?_getD] <;> omega)) ?_
 refine .fa fl39_5 ?_
 refine .storeC si3 rfl rfl rfl rfl rfl rfl (nbE rfl) rfl (.nil (.seq ?_))
 have hmm : p.op % n.mems.length < n.mems.length := Nat.mod_lt _ (by omega)
 refine .region ?_
 refine .fa fl27_4 ?_
 refine .ld sh24 ?_
 refine .fa fl39_5 ?_
 refine .ld sh3 ?_
 refine .vl (Y.indexF (m := p.op % n.mems.length) sl24 rfl rfl (by first | rfl | omega) (row_getD (d := default) (by omega))) ?_
 refine .fa fl48_1 ?_
 refine .ld sh3 ?_
 refine .an ?_
 refine .nil ?_
 refine .le (st' := ⟨[(2, .fp (Netlist.prow n) 0), (4, .ptr 104 0 0 0), (6, vi ((n.mems.getD (p.op % n.mems.length) default).width)), (7, .ptr 107 0 0 0), (8, .v (.int .u8 ((p.a : Nat) : Int))), (9, .v (.int .u8 ((p.b : Nat) : Int))), (10, .v (.int .u8 ((p.d : Nat) : Int)))], [(104, .cells [vi 0, vi 0, vi 0, .v (.slice none 0 0), .v (.int .u64 0), vi 0]), (107, .cells [vi (1 + (((p.kind : Nat) : Int) % 10)), vi 0, vi (-1), .v (.slice none 0 0), .v (.int .u64 0), vi (((p.op : Nat) : Int) % ((n.mems.length : Nat) : Int))])]⟩) (Le.mk (.c (.c (.c (.c (.c (.c (.c (.nil)))))))) (.c (.c (.nil)))) ?_
 refine .seq (.regionHeld0 rfl (.loadA 0 rfl (by kernel_rfl) sh27 rfl rfl rfl (nbE rfl) rfl rfl (by decide) ?_))
 refine .blind 1 rfl (by kernel_rfl) (Blind.move rfl rfl) (by decide) (.blind 3 rfl (by kernel_rfl) (Blind.move rfl rfl) (by decide) ?_)
 refine .blind 4 rfl (by kernel_rfl) (Blind.convK ii5 ii3 rfl (by first | rfl | exact IntWalk.i64_in _ (by omega))) (by decide) ?_
 refine .blind 5 rfl (by kernel_rfl) (Blind.fieldAddr fl27_1 rfl rfl) (by decide) (.load 6 rfl (by kernel_rfl) sh22 rfl rfl rfl rfl rfl (by decide) (.blind 7 rfl (by kernel_rfl) (Blind.len (n := n.widths.length) sl22 rfl (congrArg some (List.length_map ..))) (by decide) ?_))
 refine .blind 8 rfl (by kernel_rfl) (Blind.remI rfl rfl (by omega)) (by decide) ?_
 refine .go0 (.one 2 rfl (by kernel_rfl) (.callP ok56 (pick_spec (n := (⟨n.name, n.widths, n.cells, n.ins, n.mems, n.streams, [], [], n.freeze, n.done, []⟩ : Netlist)) (w := 1) (k := p.a) (by show (n.widths).length ≤ 1048576; omega) (by omega)) rfl (.keep rfl rfl (.keep rfl rfl (.keep rfl rfl .nil))) (by decide) rfl ?_))
 refine .nil ⟨rfl, ?_⟩
 refine .one 9 rfl (by kernel_rfl) ?_
 refine .buildSlice (([pickN n.widths 1 p.a, ((p.b : Nat) : Int) % ((n.widths.length : Nat) : Int)] : List Int).map irow) sl22 ze3 rfl rfl rfl rfl rfl (uniform_map (s := 1) (f := irow) (fun _ => rfl)) rfl rfl rfl (by decide) ?_
 refine .nil ⟨rfl, ?_⟩
 refine .one 10 rfl (by kernel_rfl) ?_
 refine .fa fl39_3 ?_
 refine .nil ⟨rfl, ?_⟩
 refine .one 11 rfl (by kernel_rfl) ?_
 refine .sh (Sh.adoptE (d := 171) (n := ([pickN n.widths 1 p.a, ((p.b : Nat) : Int) % ((n.widths.length : Nat) : Int)] : List Int).length) 271 (([pickN n.widths 1 p.a, ((p.b : Nat) : Int) % ((n.widths.length : Nat) : Int)] : List Int).map irow) rfl (by first | rfl | exact rep_map rfl) (len_map rfl) (by decide)) ?_
 refine .storeC si22 rfl rfl rfl rfl rfl rfl (nbE rfl) rfl ?_
 refine .nil ⟨rfl, ?_⟩
 refine .done (by kernel_rfl) ?_
 refine .le (st' := ⟨[(2, .fp (Netlist.prow n) 0), (4, .ptr 104 0 0 0), (6, vi ((n.mems.getD (p.op % n.mems.length) default).width)), (7, .ptr 107 0 0 0), (10, .v (.int .u8 ((p.d : Nat) : Int)))], [(104, .cells [vi 0, vi 0, vi 0, .v (.slice none 0 0), .v (.int .u64 0), vi 0]), (107, .cells [vi (1 + (((p.kind : Nat) : Int) % 10)), vi 0, vi (-1), .slc 271 1 0 (([pickN n.widths 1 p.a, ((p.b : Nat) : Int) % ((n.widths.length : Nat) : Int)] : List Int).length), .v (.int .u64 0), vi (((p.op : Nat) : Int) % ((n.mems.length : Nat) : Int))]), (271, .rows 1 (([pickN n.widths 1 p.a, ((p.b : Nat) : Int) % ((n.widths.length : Nat) : Int)] : List Int).map irow))]⟩) (Le.mk (.c (.c (.c (.c (.c (.nil)))))) (.c (.c (.c (.nil))))) ?_
 refine .sr ?_
 refine .fa fl39_0 ?_
 refine .ld sh3 ?_
 refine .vl (Y.eql rfl rfl) (.nil ?_)
 refine .condD rfl (fun c175 => ?_) (fun c175 => ?_)
 refine .regionHeldJ0 (⟨[(4, .ptr 104 0 0 0), (6, .v (.int .i64 ((n.mems.getD (p.op % n.mems.length) default).width))), (7, .ptr 107 0 0 0)], [(104, .cells [.v (.int .i64 0), .v (.int .i64 0), .v (.int .i64 0), .v (.slice none 0 0), .v (.int .u64 0), .v (.int .i64 0)]), (107, .cells [.v (.int .i64 (1 + (((p.kind : Nat) : Int) % 10))), .v (.int .i64 0), .v (.int .i64 (-1)), .slc 271 1 0 ((([pickN n.widths 1 p.a, ((p.b : Nat) : Int) % ((n.widths.length : Nat) : Int)] : List Int) ++ ([pickN n.widths ((n.mems.getD (p.op % n.mems.length) default).width) p.d] : List Int)).length), .v (.int .u64 0), .v (.int .i64 (((p.op : Nat) : Int) % ((n.mems.length : Nat) : Int)))]), (271, .rows 1 ((([pickN n.widths 1 p.a, ((p.b : Nat) : Int) % ((n.widths.length : Nat) : Int)] : List Int) ++ ([pickN n.widths ((n.mems.getD (p.op % n.mems.length) default).width) p.d] : List Int)).map irow))]⟩) rfl ?_ ?_
 refine .blind 0 rfl (by kernel_rfl) (Blind.fieldAddr fl39_3 rfl rfl) (by decide) (.loadA 2 rfl (by kernel_rfl) sh27 rfl rfl rfl (nbE rfl) rfl rfl (by decide) (.blind 3 rfl (by kernel_rfl) (Blind.move rfl rfl) (by decide) ?_))
 refine .blind 4 rfl (by kernel_rfl) (Blind.move rfl rfl) (by decide) (.go0 ?_)
 refine .two 1 5 rfl rfl (by kernel_rfl) ?_ ?_
 refine .ld sh22 ?_
 refine .nil ⟨rfl, ?_⟩
 refine .one 5 rfl (by kernel_rfl) ?_
 refine .callP ok56 (pick_spec (n := (⟨n.name, n.widths, n.cells, n.ins, n.mems, n.streams, [], [], n.freeze, n.done, []⟩ : Netlist)) (w := ((n.mems.getD (p.op % n.mems.length) default).width)) (k := p.d) (by show (n.widths).length ≤ 1048576; omega) (by omega)) rfl (.keep rfl rfl (.keep rfl rfl (.keep rfl rfl .nil))) (by decide) rfl ?_
 refine .nil ⟨rfl, ?_⟩
 refine .one 6 rfl (by kernel_rfl) ?_
 refine .buildSlice (([pickN n.widths ((n.mems.getD (p.op % n.mems.length) default).width) p.d] : List Int).map irow) sl22 ze3 rfl rfl rfl rfl rfl (uniform_map (s := 1) (f := irow) (fun _ => rfl)) rfl rfl rfl (by decide) ?_
 refine .nil ⟨rfl, ?_⟩
 refine .one 7 rfl (by kernel_rfl) ?_
 refine .appendE ((([pickN n.widths 1 p.a, ((p.b : Nat) : Int) % ((n.widths.length : Nat) : Int)] : List Int) ++ ([pickN n.widths ((n.mems.getD (p.op % n.mems.length) default).width) p.d] : List Int)).map irow) (([pickN n.widths 1 p.a, ((p.b : Nat) : Int) % ((n.widths.length : Nat) : Int)] : List Int) ++ ([pickN n.widths ((n.mems.getD (p.op % n.mems.length) default).width) p.d] : List Int)).length sl22 ze3 rfl rfl rfl rfl (app_le (by first | omega | simp [-List.getD_eq_getElem?_getD] <;> omega)) (app_map (by first | omega | simp [-List.getD_eq_getElem?_getD] <;> omega)) (app_n (by first | omega | simp [-List.getD_eq_getElem?_getD] <;> omega)) (by first | omega | simp [-List.getD_eq_getElem?_getD] <;> omega) (by first | omega | simp [-List.getD_eq_getElem?_getD] <;> omega) (by decide) (by decide) ?_
 refine .nil ⟨rfl, ?_⟩
 refine .one 8 rfl (by kernel_rfl) ?_
 refine .fa fl39_3 ?_
 refine .nil ⟨rfl, ?_⟩
 refine .one 9 rfl (by kernel_rfl) (.storeC si22 rfl rfl rfl rfl rfl rfl (nbE rfl) rfl ?_)
 refine .nil ⟨rfl, ?_⟩
 refine .done (by kernel_rfl) ?_
 exact Le.mk (.c (.c (.c (.nil)))) (.c (.c (.c (.nil))))
 refine .callP ok56 (pick_spec (n := (⟨n.name, n.widths, n.cells, n.ins, n.mems, n.streams, [], [], n.freeze, n.done, []⟩ : Netlist)) (w := ((n.mems.getD (p.op % n.mems.length) default).width)) (k := p.d) (by show (n.widths).length ≤ 1048576; omega) (by omega)) rfl (.keep rfl rfl (.keep rfl rfl (.keep rfl rfl .nil))) (by decide) rfl ?_
 refine .nil ⟨rfl, ?_⟩
 refine .two 1 6 rfl rfl (by kernel_rfl) ?_ ?_
 refine .ld sh22 ?_
 refine .nil ⟨rfl, ?_⟩
 refine .one 6 rfl (by kernel_rfl) ?_
 refine .buildSlice (([pickN n.widths ((n.mems.getD (p.op % n.mems.length) default).width) p.d] : List Int).map irow) sl22 ze3 rfl rfl rfl rfl rfl (uniform_map (s := 1) (f := irow) (fun _ => rfl)) rfl rfl rfl (by decide) ?_
 refine .nil ⟨rfl, ?_⟩
 refine .one 7 rfl (by kernel_rfl) ?_
 refine .appendE ((([pickN n.widths 1 p.a, ((p.b : Nat) : Int) % ((n.widths.length : Nat) : Int)] : List Int) ++ ([pickN n.widths ((n.mems.getD (p.op % n.mems.length) default).width) p.d] : List Int)).map irow) (([pickN n.widths 1 p.a, ((p.b : Nat) : Int) % ((n.widths.length : Nat) : Int)] : List Int) ++ ([pickN n.widths ((n.mems.getD (p.op % n.mems.length) default).width) p.d] : List Int)).length sl22 ze3 rfl rfl rfl rfl (app_le (by first | omega | simp [-List.getD_eq_getElem?_getD] <;> omega)) (app_map (by first | omega | simp [-List.getD_eq_getElem?_getD] <;> omega)) (app_n (by first | omega | simp [-List.getD_eq_getElem?_getD] <;> omega)) (by first | omega | simp [-List.getD_eq_getElem?_getD] <;> omega) (by first | omega | simp [-List.getD_eq_getElem?_getD] <;> omega) (by decide) (by decide) ?_
 refine .nil ⟨rfl, ?_⟩
 refine .one 8 rfl (by kernel_rfl) ?_
 refine .fa fl39_3 ?_
 refine .nil ⟨rfl, ?_⟩
 refine .one 9 rfl (by kernel_rfl) (.storeC si22 rfl rfl rfl rfl rfl rfl (nbE rfl) rfl ?_)
 refine .nil ⟨rfl, ?_⟩
 refine .done (by kernel_rfl) ?_
 exact Le.mk (.c (.c (.c (.nil)))) (.c (.c (.c (.nil))))
 refine .buildSlice (([pickN n.widths ((n.mems.getD (p.op % n.mems.length) default).width) p.d] : List Int).map irow) sl22 ze3 rfl rfl rfl rfl rfl (uniform_map (s := 1) (f := irow) (fun _ => rfl)) rfl rfl rfl (by decide) ?_
 refine .nil ⟨rfl, ?_⟩
 refine .one 1 rfl (by kernel_rfl) ?_
 refine .ld sh22 ?_
 refine .nil ⟨rfl, ?_⟩
 refine .one 7 rfl (by kernel_rfl) ?_
 refine .appendE ((([pickN n.widths 1 p.a, ((p.b : Nat) : Int) % ((n.widths.length : Nat) : Int)] : List Int) ++ ([pickN n.widths ((n.mems.getD (p.op % n.mems.length) default).width) p.d] : List Int)).map irow) (([pickN n.widths 1 p.a, ((p.b : Nat) : Int) % ((n.widths.length : Nat) : Int)] : List Int) ++ ([pickN n.widths ((n.mems.getD (p.op % n.mems.length) default).width) p.d] : List Int)).length sl22 ze3 rfl rfl rfl rfl (app_le (by first | omega | simp [-List.getD_eq_getElem?_getD] <;> omega)) (app_map (by first | omega | simp [-List.getD_eq_getElem?_getD] <;> omega)) (app_n (by first | omega | simp [-List.getD_eq_getElem?_getD] <;> omega)) (by first | omega | simp [-List.getD_eq_getElem?_getD] <;> omega) (by first | omega | simp [-List.getD_eq_getElem?_getD] <;> omega) (by decide) (by decide) ?_
 refine .nil ⟨rfl, ?_⟩
 refine .one 8 rfl (by kernel_rfl) ?_
 refine .fa fl39_3 ?_
 refine .nil ⟨rfl, ?_⟩
 refine .one 9 rfl (by kernel_rfl) (.storeC si22 rfl rfl rfl rfl rfl rfl (nbE rfl) rfl ?_)
 refine .nil ⟨rfl, ?_⟩
 refine .done (by kernel_rfl) ?_
 exact Le.mk (.c (.c (.c (.nil)))) (.c (.c (.c (.nil))))
 refine .le (st' := ⟨[(4, .ptr 104 0 0 0), (6, vi ((n.mems.getD (p.op % n.mems.length) default).width)), (7, .ptr 107 0 0 0)], [(104, .cells [vi 0, vi 0, vi 0, .v (.slice none 0 0), .v (.int .u64 0), vi 0]), (107, .cells [vi (1 + (((p.kind : Nat) : Int) % 10)), vi 0, vi (-1), .slc 271 1 0 ((([pickN n.widths 1 p.a, ((p.b : Nat) : Int) % ((n.widths.length : Nat) : Int)] : List Int) ++ ([pickN n.widths ((n.mems.getD (p.op % n.mems.length) default).width) p.d] : List Int)).length), .v (.int .u64 0), vi (((p.op : Nat) : Int) % ((n.mems.length : Nat) : Int))]), (271, .rows 1 ((([pickN n.widths 1 p.a, ((p.b : Nat) : Int) % ((n.widths.length : Nat) : Int)] : List Int) ++ ([pickN n.widths ((n.mems.getD (p.op % n.mems.length) default).width) p.d] : List Int)).map irow))]⟩) (Le.mk (.c (.c (.c (.nil)))) (.c (.c (.c (.nil))))) ?_
 refine .sr (.vl (Y.loadA sh39 rfl rfl (nbE rfl) rfl rfl) ?_)
 refine .mv ?_
 refine .storeC si39 rfl rfl rfl rfl rfl rfl (nbE rfl) rfl ?_
 refine .an ?_
 refine .nil (.ret ?_)
 exact ⟨_, rfl, _, _, _, Sh.ownT (d := 0) 3 271 rfl rfl rfl rfl (by first | rfl | exact len_map rfl | exact len_map (by omega)) rfl (by decide), rfl, rfl, (⟨1 + (((p.kind : Nat) : Int) % 10), 0, -1, ([pickN n.widths 1 p.a, ((p.b : Nat) : Int) % ((n.widths.length : Nat) : Int)] : List Int) ++ ([pickN n.widths ((n.mems.getD (p.op % n.mems.length) default).width) p.d] : List Int), 0, ((p.op : Nat) : Int) % ((n.mems.length : Nat) : Int)⟩ : Cell), _, pt_write hg h0 (by omega) (by omega), rfl, rfl⟩
 refine .skip ?_
 refine .le (st' := ⟨[(4, .ptr 104 0 0 0), (6, vi ((n.mems.getD (p.op % n.mems.length) default).width)), (7, .ptr 107 0 0 0)], [(104, .cells [vi 0, vi 0, vi 0, .v (.slice none 0 0), .v (.int .u64 0), vi 0]), (107, .cells [vi (1 + (((p.kind : Nat) : Int) % 10)), vi 0, vi (-1), .slc 271 1 0 (([pickN n.widths 1 p.a, ((p.b : Nat) : Int) % ((n.widths.length : Nat) : Int)] : List Int).length), .v (.int .u64 0), vi (((p.op : Nat) : Int) % ((n.mems.length : Nat) : Int))]), (271, .rows 1 (([pickN n.widths 1 p.a, ((p.b : Nat) : Int) % ((n.widths.length : Nat) : Int)] : List Int).map irow))]⟩) (Le.mk (.c (.c (.c (.nil)))) (.c (.c (.c (.nil))))) ?_
 refine .sr (.vl (Y.loadA sh39 rfl rfl (nbE rfl) rfl rfl) ?_)
 refine .mv ?_
 refine .storeC si39 rfl rfl rfl rfl rfl rfl (nbE rfl) rfl ?_
 refine .an ?_
 refine .nil (.ret ?_)
 exact ⟨_, rfl, _, _, _, Sh.ownT (d := 0) 3 271 rfl rfl rfl rfl (by first | rfl | exact len_map rfl | exact len_map (by omega)) rfl (by decide), rfl, rfl, (⟨1 + (((p.kind : Nat) : Int) % 10), 0, -1, ([pickN n.widths 1 p.a, ((p.b : Nat) : Int) % ((n.widths.length : Nat) : Int)] : List Int), 0, ((p.op : Nat) : Int) % ((n.mems.length : Nat) : Int)⟩ : Cell), _, pt_read hg h0 (by omega) (by omega), rfl, rfl⟩
 refine .sr (.vl (Y.eql rfl rfl) ?_)
 refine .an ?_
 refine .nil ?_
 refine .condD rfl (fun c185 => ?_) (fun c185 => ?_)
 refine .seq (.sr ?_)
 refine .fa fl27_3 ?_
 refine .ld sh22 ?_
 refine .vl (Y.len (n := n.ins.length) sl22 rfl (congrArg some (List.length_map ..))) (.vl (Y.eql rfl rfl) (.nil ?_))
 refine .condD rfl (fun c190 => ?_) (fun c190 => ?_)
 refine .sr (.vl (Y.build pl39 ze39 rfl rfl rfl) (.storeC si39 rfl rfl rfl rfl rfl rfl (nbE rfl) rfl ?_))
 refine .an ?_
 refine .nil (.sh (Sh.nilCell 104 399 1 3 rfl rfl rfl rfl (by decide)) (.ret ?_))
 exact ⟨_, rfl, _, _, _, Sh.ownT (d := 0) 3 399 rfl rfl rfl rfl (by first | rfl | exact len_map rfl | exact len_map (by omega)) rfl (by decide), rfl, rfl, (⟨0, 0, 0, ([] : List Int), 0, 0⟩ : Cell), _, pt_none hg, rfl, rfl⟩
 refine .skip (.sr ?_)
 refine .fa fl88_4 ?_
 refine .ld sh37 ?_
 refine .fa fl27_3 ?_
 refine .ld sh22 ?_
 refine .vl (Y.len (n := n.ins.length) sl22 rfl (congrArg some (List.length_map ..))) ?_
 refine .vl (Y.convK ii3 ii37 rfl (by first | rfl | exact IntWalk.u64_in _ (by omega))) ?_
 refine .vl (Y.remN (a := p.num) (b := n.ins.length) rfl rfl (by omega)) ?_
 refine .fa fl39_4 ?_
 refine .storeC si37 rfl rfl rfl rfl rfl rfl (nbE rfl) rfl (.nil ?_)
 have hmm : p.num % n.ins.length < n.ins.length := Nat.mod_lt _ (by omega)
 refine .region ?_
 refine .fa fl27_3 ?_
 refine .ld sh22 ?_
 refine .fa fl39_4 ?_
 refine .ld sh37 ?_
 refine .vl (Y.indexF (m := p.num % n.ins.length) sl22 rfl rfl (by first | rfl | omega) (row_getD (d := 0) (by omega))) ?_
 refine .ld sh3 ?_
 refine .an ?_
 refine .nil ?_
 refine .le (st' := ⟨[(4, .ptr 104 0 0 0), (6, vi (n.ins.getD (p.num % n.ins.length) 0)), (7, .ptr 107 0 0 0)], [(104, .cells [vi 0, vi 0, vi 0, .v (.slice none 0 0), .v (.int .u64 0), vi 0]), (107, .cells [vi (1 + (((p.kind : Nat) : Int) % 10)), vi 0, vi (-1), .v (.slice none 0 0), .v (.int .u64 ((p.num % n.ins.length : Nat) : Int)), vi 0])]⟩) (Le.mk (.c (.c (.c (.nil)))) (.c (.c (.nil)))) ?_
 refine .sr (.vl (Y.loadA sh39 rfl rfl (nbE rfl) rfl rfl) ?_)
 refine .mv ?_
 refine .storeC si39 rfl rfl rfl rfl rfl rfl (nbE rfl) rfl ?_
 refine .an ?_
 refine .nil (.sh (Sh.nilCell 104 399 1 3 rfl rfl rfl rfl (by decide)) (.ret ?_))
 exact ⟨_, rfl, _, _, _, Sh.ownT (d := 0) 3 399 rfl rfl rfl rfl (by first | rfl | exact len_map rfl | exact len_map (by omega)) rfl (by decide), rfl, rfl, (⟨1 + (((p.kind : Nat) : Int) % 10), 0, -1, ([] : List Int), p.num % n.ins.length, 0⟩ : Cell), _, pt_input hg (by omega) (by omega) hi, rfl, rfl⟩
 refine .seq (.sr ?_)
 refine .fa fl27_5 ?_
 refine .ld sh25 ?_
 refine .vl (Y.len (n := n.streams.length) sl25 rfl (congrArg some (List.length_map ..))) (.vl (Y.eql rfl rfl) (.nil ?_))
 refine .condD rfl (fun c34 => ?_) (fun c34 => ?_)
 refine .sr (.vl (Y.build pl39 ze39 rfl rfl rfl) (.storeC si39 rfl rfl rfl rfl rfl rfl (nbE rfl) rfl ?_))
 refine .an ?_
 refine .nil (.sh (Sh.nilCell 104 399 1 3 rfl rfl rfl rfl (by decide)) (.ret ?_))
 exact ⟨_, rfl, _, _, _, Sh.ownT (d := 0) 3 399 rfl rfl rfl rfl (by first | rfl | exact len_map rfl | exact len_map (by omega)) rfl (by decide), rfl, rfl, (⟨0, 0, 0, ([] : List Int), 0, 0⟩ : Cell), _, pt_none hg, rfl, rfl⟩
 refine .skip (.sr ?_)
 refine .fa fl88_1 ?_
 refine .ld sh5 ?_
 refine .vl (Y.convK ii5 ii3 rfl (by first | rfl | exact IntWalk.i64_in _ (by omega))) ?_
 refine .fa fl27_5 ?_
 refine .ld sh25 ?_
 refine .vl (Y.len (n := n.streams.length) sl25 rfl (congrArg some (List.length_map ..))) ?_
 refine .vl (Y.remI rfl rfl (by first | omega | simp [-List.getD_eq_getElem?_getD] <;> omega)) ?_
 refine .fa fl39_5 ?_
 refine .storeC si3 rfl rfl rfl rfl rfl rfl (nbE rfl) rfl (.nil (.seq ?_))
 have hmm : p.op % n.streams.length < n.streams.length := Nat.mod_lt _ (by omega)
 refine .region ?_
 refine .fa fl27_5 ?_
 refine .ld sh25 ?_
 refine .fa fl39_5 ?_
 refine .ld sh3 ?_
 refine .vl (Y.indexF (m := p.op % n.streams.length) sl25 rfl rfl (by first | rfl | omega) (row_getD (d := default) (by omega))) ?_
 refine .fa fl83_1 ?_
 refine .ld sh3 ?_
 refine .an ?_
 refine .nil ?_
 refine .le (st' := ⟨[(2, .fp (Netlist.prow n) 0), (4, .ptr 104 0 0 0), (6, vi ((n.streams.getD (p.op % n.streams.length) default).width)), (7, .ptr 107 0 0 0)], [(104, .cells [vi 0, vi 0, vi 0, .v (.slice none 0 0), .v (.int .u64 0), vi 0]), (107, .cells [vi (1 + (((p.kind : Nat) : Int) % 10)), vi 0, vi (-1), .v (.slice none 0 0), .v (.int .u64 0), vi (((p.op : Nat) : Int) % ((n.streams.length : Nat) : Int))])]⟩) (Le.mk (.c (.c (.c (.c (.nil))))) (.c (.c (.nil)))) ?_
 refine .join1 (fun (c7_0_j11 : Nat) => ⟨[(4, .ptr 104 0 0 0), (6, vi ((n.streams.getD (p.op % n.streams.length) default).width)), (7, .ptr 107 0 0 0)], [(104, .cells [vi 0, vi 0, vi 0, .v (.slice none 0 0), .v (.int .u64 0), vi 0]), (107, .cells [vi (c7_0_j11 : Int), vi 0, vi (-1), .v (.slice none 0 0), .v (.int .u64 0), vi (((p.op : Nat) : Int) % ((n.streams.length : Nat) : Int))])]⟩) (fun (c7_0_j11 : Nat) => (((1 + (((p.kind : Nat) : Int) % 10)) = 10) ∧ (((n.streams.getD (p.op % n.streams.length) default).out) = true) ∧ (c7_0_j11 = 9)) ∨ (((1 + (((p.kind : Nat) : Int) % 10)) = 10) ∧ (((n.streams.getD (p.op % n.streams.length) default).out) = false) ∧ (c7_0_j11 = (1 + (p.kind % 10)))) ∨ ((¬ ((1 + (((p.kind : Nat) : Int) % 10)) = 10)) ∧ (c7_0_j11 = (1 + (p.kind % 10))))) ?_ (fun c7_0_j11 hJ11 => ?_)
 refine .sr ?_
 refine .fa fl39_0 ?_
 refine .ld sh3 ?_
 refine .vl (Y.eql rfl rfl) ?_
 refine .mv ?_
 refine .splitD (d := 54) rfl (fun c54 => ?_) (fun c54 => ?_)
 refine .gw 54 (Y.fieldAddr fl27_5 rfl rfl) (.gw 54 (Y.load sh25 rfl rfl rfl rfl) (.gw 54 (Y.fieldAddr fl39_5 rfl rfl) ?_))
 refine .gw 54 (Y.load sh3 rfl rfl rfl rfl) ?_
 refine .gw 54 (Y.indexF (m := p.op % n.streams.length) sl25 rfl rfl (by first | rfl | omega) (row_getD (d := default) (by omega))) ?_
 refine .gw 54 (Y.fieldAddr fl83_2 rfl rfl) (.gw 54 (Y.load sh4 rfl rfl rfl rfl) ?_)
 refine .pk ?_
 refine .nil ?_
 refine .cond rfl (fun c62 => ?_) (fun c62 => ?_)
 refine .region ?_
 refine .fa fl39_0 ?_
 refine .storeC si3 rfl rfl rfl rfl rfl rfl (nbE rfl) rfl (.nil ?_)
 exact ⟨9, .inl ⟨c54, c62, rfl⟩, Le.mk (.c (.c (.c (.nil)))) (.c (.cons (look_cells rfl (by first | rfl | (simp only [List.cons.injEq, X.v.injEq, X.slc.injEq, Value.int.injEq, and_true, true_and]; omega) | simp_all)) (.nil)))⟩
 refine .skip ?_
 exact ⟨1 + (p.kind % 10), .inr (.inl ⟨c54, c62, rfl⟩), Le.mk (.c (.c (.c (.nil)))) (.c (.cons (look_cells rfl (by first | rfl | (simp only [List.cons.injEq, X.v.injEq, X.slc.injEq, Value.int.injEq, and_true, true_and]; omega) | simp_all)) (.nil)))⟩
 refine .gz 54 (.gz 54 (.gz 54 ?_))
 refine .gz 54 (.gz 54 (.gz 54 ?_))
 refine .gz 54 ?_
 refine .pk ?_
 refine .nil (.condF rfl (.skip ?_))
 exact ⟨1 + (p.kind % 10), .inr (.inr (⟨c54, rfl⟩)), Le.mk (.c (.c (.c (.nil)))) (.c (.cons (look_cells rfl (by first | rfl | (simp only [List.cons.injEq, X.v.injEq, X.slc.injEq, Value.int.injEq, and_true, true_and]; omega) | simp_all)) (.nil)))⟩
 refine .sr ?_
 refine .fa fl39_0 ?_
 refine .ld sh3 ?_
 refine .vl (Y.eql rfl rfl) (.nil ?_)
 refine .condD rfl (fun c66 => ?_) (fun c66 => ?_)
 refine .region ?_
 refine .an ?_
 refine .nil ?_
 refine .le (st' := ⟨[(4, .ptr 104 0 0 0), (6, vi 1), (7, .ptr 107 0 0 0)], [(104, .cells [vi 0, vi 0, vi 0, .v (.slice none 0 0), .v (.int .u64 0), vi 0]), (107, .cells [vi (c7_0_j11 : Int), vi 0, vi (-1), .v (.slice none 0 0), .v (.int .u64 0), vi (((p.op : Nat) : Int) % ((n.streams.length : Nat) : Int))])]⟩) (Le.mk (.c (.c (.c (.nil)))) (.c (.c (.nil)))) ?_
 refine .sr (.vl (Y.loadA sh39 rfl rfl (nbE rfl) rfl rfl) ?_)
 refine .mv ?_
 refine .storeC si39 rfl rfl rfl rfl rfl rfl (nbE rfl) rfl ?_
 refine .an ?_
 refine .nil (.sh (Sh.nilCell 104 399 1 3 rfl rfl rfl rfl (by decide)) (.ret ?_))
 exact ⟨_, rfl, _, _, _, Sh.ownT (d := 0) 3 399 rfl rfl rfl rfl (by first | rfl | exact len_map rfl | exact len_map (by omega)) rfl (by decide), rfl, rfl, (⟨(c7_0_j11 : Int), 0, -1, ([] : List Int), 0, ((p.op : Nat) : Int) % ((n.streams.length : Nat) : Int)⟩ : Cell), _, pt_open hg (by omega) (by omega), rfl, rfl⟩
 refine .skip ?_
 refine .le (st' := ⟨[(4, .ptr 104 0 0 0), (6, vi ((n.streams.getD (p.op % n.streams.length) default).width)), (7, .ptr 107 0 0 0)], [(104, .cells [vi 0, vi 0, vi 0, .v (.slice none 0 0), .v (.int .u64 0), vi 0]), (107, .cells [vi (c7_0_j11 : Int), vi 0, vi (-1), .v (.slice none 0 0), .v (.int .u64 0), vi (((p.op : Nat) : Int) % ((n.streams.length : Nat) : Int))])]⟩) (Le.mk (.c (.c (.c (.nil)))) (.c (.c (.nil)))) ?_
 refine .sr (.vl (Y.loadA sh39 rfl rfl (nbE rfl) rfl rfl) ?_)
 refine .mv ?_
 refine .storeC si39 rfl rfl rfl rfl rfl rfl (nbE rfl) rfl ?_
 refine .an ?_
 refine .nil (.sh (Sh.nilCell 104 399 1 3 rfl rfl rfl rfl (by decide)) (.ret ?_))
 exact ⟨_, rfl, _, _, _, Sh.ownT (d := 0) 3 399 rfl rfl rfl rfl (by first | rfl | exact len_map rfl | exact len_map (by omega)) rfl (by decide), rfl, rfl, (⟨(c7_0_j11 : Int), 0, -1, ([] : List Int), 0, ((p.op : Nat) : Int) % ((n.streams.length : Nat) : Int)⟩ : Cell), _, pt_data hg (by omega) (by omega) (by grind), rfl, rfl⟩
end Go.Proofs.Ytligpghohcfpnaa
