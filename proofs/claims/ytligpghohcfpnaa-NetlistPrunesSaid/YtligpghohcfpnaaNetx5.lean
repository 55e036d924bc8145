/- The walk of NetlistPrunes. -/
import Derived.Test.YtligpghohcfpnaaNetx0
import Derived.Test.YtligpghohcfpnaaNetx1
import Derived.Test.YtligpghohcfpnaaNetx3
import Derived.Test.YtligpghohcfpnaaNetx4
import Derived.Test.YtligpghohcfpnaaNetx2
import Derived.Test.YtligpghohcfpnaaAWx2
set_option linter.unusedSimpArgs false
set_option linter.unusedVariables false
set_option linter.unusedSectionVars false
set_option maxRecDepth 4000
set_option maxHeartbeats 8000000
namespace Go.Proofs.Ytligpghohcfpnaa
open Go Go.AW Go.Proofs
theorem netlistPrunes_spec {p : Pln} (hk : p.Ok) : ACalls Try.prog 9 [.agg (Pln.row p)] [] [] (fun r o => r = .v (.bool true) ∧ o = []) := by
 refine ACalls.of Try.func9 rfl rfl rfl (n := 268) (by decide) (nbE rfl) (.sr (.box 101 rfl rfl rfl rfl rfl (by decide) ?_))
 refine .an ?_
 refine .nil (.seq (.sr ?_))
 refine .callP ok15 (awake_spec) rfl .nil (by decide) rfl (.vl (Y.not rfl) ?_)
 refine .mv ?_
 refine .gw 17 (Y.loadA sh36 rfl rfl (nbE rfl) rfl rfl) (.guardRun (d := 17) rfl (by decide) rfl (.callP ok18 (few_spec (p := p)) rfl (.keep rfl rfl .nil) (by decide) rfl ?_))
 refine .gw 17 (Y.not rfl) ?_
 refine .pk ?_
 refine .nil ?_
 refine .cond rfl (fun c21 => ?_) (fun c21 => ?_)
 replace c21 : ¬ (p.Few) := by simpa using c21
 refine .sr (.callP ok15 (awake_spec) rfl .nil (by decide) rfl ?_)
 refine .an ?_
 refine .nil (.ret ?_)
 exact .rb rfl (rfl)
 replace c21 : p.Few := by simpa using c21
 refine .skip (.sr (.vl (Y.loadA sh36 rfl rfl (nbE rfl) rfl rfl) ?_))
 refine .callV ok19 (made_spec (p := p) (by assumption) hk) rfl (.keep rfl rfl .nil) (by decide) ?_
 rintro _ ⟨nM24, hM24, rfl, _⟩
 refine ⟨rfl, ?_⟩
 refine .alloc 103 ze27 rfl rfl (by decide) (.sh (Sh.nameN (d := 24) 1 981 nM24.widths.length rfl rfl rfl (by decide) (len_map rfl)) (.sh (Sh.nameN (d := 24) 2 982 nM24.cells.length rfl rfl rfl (by decide) (len_map rfl)) ?_))
 refine .storeC si27 rfl rfl rfl rfl rfl rfl (nbE rfl) rfl (.nil (.seq ?_))
 refine .sh (Sh.fzObj 103 981 1 rfl rfl rfl (len_map (by omega)) (Frees.map irow_frees) (by decide) rfl rfl rfl) ?_
 refine .sh (Sh.fzObj 103 982 2 rfl rfl rfl (len_map (by omega)) (Frees.map Cell.row_frees) (by decide) rfl rfl rfl) ?_
 refine .sh (Sh.freezeO 103 rfl rfl) ?_
 have hs := hM24.small; have hf := hM24.formed; have hFt := hM24.fit; have hAc := hM24.acyclic; have hnc := hM24.ncells; have hnw := hM24.nwidths; have hni := hM24.nins; have hna := hM24.nargs; have hmr := hM24.nrets; have hst := hM24.nstreams; have hac := hf.nactive; have hda := hf.ndata
 refine .region (.vl (Y.loadA sh27 rfl rfl (nbE rfl) rfl rfl) (.callV ok36 (prune_spec (n := nM24) hM24.vp) rfl (.keep rfl rfl .nil) (by decide) ?_))
 rintro _ ⟨by26, rs26, sB26, hby26, hrs26, hsB26, rfl, _⟩
 refine ⟨rfl, ?_⟩
 refine .alloc 104 ze27 rfl rfl (by decide) (.storeC si27 rfl rfl rfl rfl rfl rfl (nbE rfl) rfl (.nil ?_))
 refine .seq (.sh (Sh.freezeO 104 rfl rfl) ?_)
 have hKp := keep_of hf hby26 hrs26 hsB26; have hV := prn_vp hM24.vp hby26 hKp; have hvw := hV.nwidths; have hvc := hV.ncells; have hvi := hV.nins; have hvs := hV.small; have hvl := hV.small.lens
 refine .region (.vl (Y.loadA sh27 rfl rfl (nbE rfl) rfl rfl) (.callV ok37 (needed_spec (n := nM24) hM24.vp hrs26 hsB26) rfl (.keep rfl rfl .nil) (by decide) ?_))
 rintro _ ⟨nd28, hndl28, hnd28, rfl, _⟩
 refine ⟨rfl, ?_⟩
 refine .assignX rfl (by decide) (.sh (Sh.freezeE (d := 5) (nd28.map brow) rfl (by first | rfl | exact rep_map rfl) (Frees.map brow_frees)) (.nil ?_))
 refine .sr ?_
 refine .fa fl27_1 ?_
 refine .ld sh22 ?_
 refine .vl (Y.len (n := nM24.widths.length) sl22 rfl (congrArg some (List.length_map ..))) ?_
 refine .makeSlice (n := nM24.widths.length) sl22 ze3 rfl rfl rfl rfl (by omega) (by omega) (by decide) ?_
 refine .assignX rfl (by decide) (.sh (Sh.adoptE (d := 6) (n := nM24.widths.length) 106 ((List.replicate nM24.widths.length 0).map irow) rfl (by first | rfl | exact rep_map rfl) (len_map (by simp)) (by decide)) (.nil ?_))
 refine .sr (.vl (Y.loadA sh27 rfl rfl (nbE rfl) rfl rfl) (.callV ok38 (drivers_spec (n := nM24) hs hf) rfl (.keep rfl rfl .nil) (by decide) ?_))
 rintro _ ⟨dl34, hdl34, rfl, _⟩
 refine ⟨rfl, ?_⟩
 refine .assignX rfl (by decide) (.sh (Sh.freezeE (d := 7) (dl34.map irow) rfl (by first | rfl | exact rep_map rfl) (Frees.map irow_frees)) (.nil ?_))
 refine .seq ?_
 have hde := hdl34.eq hf hby26; have hdl := hdl34.len
 refine .region ?_
 refine .an ?_
 refine .nil (.seq (.sr ?_))
 refine .fa fl27_1 ?_
 refine .ld sh22 ?_
 refine .vl (Y.len (n := nM24.widths.length) sl22 rfl (congrArg some (List.length_map ..))) ?_
 refine .mv ?_
 refine .nil (.block ?_)
 refine .loop3 (fun (wires8_10 : Nat) (n38_10 : Nat) (number6_10 : List Int) => ⟨[(3, .fp [.v (.string nM24.name), .fz 1 (nM24.widths.map irow), .fz 6 (nM24.cells.map Cell.row), .fz 1 (nM24.ins.map irow), .fz 5 (nM24.mems.map Arr.row), .fz 3 (nM24.streams.map Strm.row), .fz 1 (nM24.active.map irow), .fz 1 (nM24.data.map irow), vi nM24.freeze, vi nM24.done, .fz 1 (nM24.rets.map irow)] 0), (4, .fp [.v (.string ((prn nM24 by26 sB26).name)), .fz 1 (((prn nM24 by26 sB26).widths).map irow), .fz 6 (((prn nM24 by26 sB26).cells).map Cell.row), .fz 1 (((prn nM24 by26 sB26).ins).map irow), .fz 5 (((prn nM24 by26 sB26).mems).map Arr.row), .fz 3 (((prn nM24 by26 sB26).streams).map Strm.row), .fz 1 (((prn nM24 by26 sB26).active).map irow), .fz 1 (((prn nM24 by26 sB26).data).map irow), vi ((prn nM24 by26 sB26).freeze), vi ((prn nM24 by26 sB26).done), .fz 1 (((prn nM24 by26 sB26).rets).map irow)] 0), (5, .fz 1 (nd28.map brow)), (6, .slc 106 1 0 nM24.widths.length), (7, .fz 1 (dl34.map irow)), (8, vi (wires8_10 : Int)), (37, vi ((nM24.widths.length : Nat) : Int)), (38, vi (n38_10 : Int))], [(106, .rows 1 (number6_10.map irow))]⟩) (fun (wires8_10 : Nat) (n38_10 : Nat) (number6_10 : List Int) => (number6_10.length = nM24.widths.length) ∧ ((n38_10 : Int) ≤ ((nM24.widths.length : Nat) : Int)) ∧ (Wg (kw nM24 by26 sB26) nM24.widths n38_10 number6_10 wires8_10)) (fun (wires8_10 : Nat) (n38_10 : Nat) (number6_10 : List Int) => (((nM24.widths.length : Nat) : Int) - (n38_10 : Int)).toNat) 0 0 (List.replicate nM24.widths.length 0) (⟨by first | omega | (simp [-List.getD_eq_getElem?_getD]; done) | (simp [-List.getD_eq_getElem?_getD]; omega), by first | omega | (simp [-List.getD_eq_getElem?_getD]; done) | (simp [-List.getD_eq_getElem?_getD]; omega), Wg.init⟩) (Le.mk (.c (.c (.c (.c (.c (.cons (look_int rfl (by first | rfl | omega)) (.c (.cons (look_int rfl (by first | rfl | omega)) (.nil))))))))) (.c (.nil))) (fun wires8_10 n38_10 number6_10 hI10 => ?_)
 obtain ⟨hl106, hb10, hW⟩ := hI10
 refine .sr (.vl (Y.lss rfl rfl) (.nil ?_))
 refine .seq ?_
 refine .condD rfl (fun c39 => ?_) (fun c39 => ?_)
 refine .skip ?_
 refine .join2 (fun (wires8_j16 : Nat) (number6_j16 : List Int) => ⟨[(3, .fp [.v (.string nM24.name), .fz 1 (nM24.widths.map irow), .fz 6 (nM24.cells.map Cell.row), .fz 1 (nM24.ins.map irow), .fz 5 (nM24.mems.map Arr.row), .fz 3 (nM24.streams.map Strm.row), .fz 1 (nM24.active.map irow), .fz 1 (nM24.data.map irow), vi nM24.freeze, vi nM24.done, .fz 1 (nM24.rets.map irow)] 0), (4, .fp [.v (.string ((prn nM24 by26 sB26).name)), .fz 1 (((prn nM24 by26 sB26).widths).map irow), .fz 6 (((prn nM24 by26 sB26).cells).map Cell.row), .fz 1 (((prn nM24 by26 sB26).ins).map irow), .fz 5 (((prn nM24 by26 sB26).mems).map Arr.row), .fz 3 (((prn nM24 by26 sB26).streams).map Strm.row), .fz 1 (((prn nM24 by26 sB26).active).map irow), .fz 1 (((prn nM24 by26 sB26).data).map irow), vi ((prn nM24 by26 sB26).freeze), vi ((prn nM24 by26 sB26).done), .fz 1 (((prn nM24 by26 sB26).rets).map irow)] 0), (5, .fz 1 (nd28.map brow)), (6, .slc 106 1 0 nM24.widths.length), (7, .fz 1 (dl34.map irow)), (8, vi (wires8_j16 : Int)), (37, vi ((nM24.widths.length : Nat) : Int)), (38, vi (n38_10 : Int))], [(106, .rows 1 (number6_j16.map irow))]⟩) (fun (wires8_j16 : Nat) (number6_j16 : List Int) => (number6_j16.length = nM24.widths.length) ∧ (Wg (kw nM24 by26 sB26) nM24.widths (n38_10 + 1) number6_j16 wires8_j16)) ?_ (fun wires8_j16 number6_j16 hJx16 => ?_)
 refine .block (.sr ?_)
 refine .mv ?_
 refine .an ?_
 refine .nil (.sr ?_)
 refine .mv ?_
 refine .mv ?_
 refine .vl (Y.indexO (m := n38_10) sl22 rfl rfl (by first | rfl | omega) (by omega)) ?_
 refine .storeE ((number6_10.set n38_10 (-1)).map irow) si3 rfl rfl rfl rfl rfl rfl rfl (row_getD0 (d := 0) (by omega)) (nbE rfl) (set_map0 rfl) ?_
 refine .nil (.seq ?_)
 have hd13 := hdl34.drv (n38_10 : Int) ⟨by omega, by omega⟩; rw [Int.toNat_natCast] at hd13; have h13 := hd13.1; have hwl := hW.le
 have hkw : nd28.getD (dl34.getD n38_10 0).toNat false = kw nM24 by26 sB26 n38_10 := by rw [hde] at h13 ⊢; exact hnd28 _ (by omega)
 refine .region ?_
 refine .mv ?_
 refine .mv ?_
 refine .mv ?_
 refine .vl (Y.indexF (m := n38_10) sl22 rfl rfl (by first | rfl | omega) (row_getD (d := 0) (by omega))) ?_
 refine .ld sh3 ?_
 refine .vl (Y.indexF (m := (dl34.getD n38_10 0).toNat) sl63 rfl rfl (by omega) (row_getD (d := false) (by omega))) ?_
 refine .ld sh4 ?_
 refine .nil ?_
 refine .cond rfl (fun c50 => ?_) (fun c50 => ?_)
 refine .sr ?_
 refine .mv ?_
 refine .mv ?_
 refine .mv ?_
 refine .vl (Y.indexO (m := n38_10) sl22 rfl rfl (by first | rfl | omega) (by omega)) ?_
 refine .storeE (((number6_10.set n38_10 (-1)).set n38_10 (wires8_10 : Int)).map irow) si3 rfl rfl rfl rfl rfl rfl rfl (row_getD0 (d := 0) (by first | omega | simp [-List.getD_eq_getElem?_getD] <;> omega)) (nbE rfl) (set_map0 rfl) ?_
 refine .nil (.region ?_)
 refine .mv ?_
 refine .vl (Y.addI rfl rfl (by omega)) ?_
 refine .an ?_
 refine .nil ?_
 exact ⟨wires8_10 + 1, (number6_10.set n38_10 (-1)).set n38_10 (wires8_10 : Int), ⟨by first | omega | (simp [-List.getD_eq_getElem?_getD]; done) | (simp [-List.getD_eq_getElem?_getD]; omega), by first | exact hW.yes (by omega) (hkw.symm.trans (by assumption)) | exact hW.no (by omega) (hkw.symm.trans (by assumption))⟩, Le.mk (.c (.c (.c (.c (.c (.cons (look_int rfl (by first | rfl | omega)) (.c (.c (.nil))))))))) (.c (.nil))⟩
 refine .skip ?_
 exact ⟨wires8_10, number6_10.set n38_10 (-1), ⟨by first | omega | (simp [-List.getD_eq_getElem?_getD]; done) | (simp [-List.getD_eq_getElem?_getD]; omega), by first | exact hW.yes (by omega) (hkw.symm.trans (by assumption)) | exact hW.no (by omega) (hkw.symm.trans (by assumption))⟩, Le.mk (.c (.c (.c (.c (.c (.cons (look_int rfl (by first | rfl | omega)) (.c (.c (.nil))))))))) (.c (.nil))⟩
 obtain ⟨hlj16_106, hJ16⟩ := hJx16
 refine .region ?_
 refine .vl (Y.addI rfl rfl (by omega)) ?_
 refine .mv ?_
 refine .nil ?_
 exact ⟨wires8_j16, n38_10 + 1, number6_j16, ⟨by omega, by omega, hJ16⟩, by omega, Le.mk (.c (.c (.c (.c (.c (.cons (look_int rfl (by first | rfl | omega)) (.c (.cons (look_int rfl (by first | rfl | omega)) (.nil))))))))) (.c (.nil))⟩
 refine .exit (.seq (.seq ?_))
 refine .sh (Sh.detach (d := 6) (o := 106) rfl rfl (len_map (by omega)) (by decide)) ?_
 refine .sh (Sh.freezeE (d := 6) (number6_10.map irow) rfl (by first | rfl | exact rep_map rfl) (Frees.map irow_frees)) ?_
 have hN : NumL (kw nM24 by26 sB26) nM24.widths.length number6_10 := hW.num (by omega); have hNl := hN.1; have hwv := hW.v; rw [show n38_10 = nM24.widths.length by omega] at hwv; have hwl : (prn nM24 by26 sB26).widths.length = _ := prn_wlen; have hml : (prn nM24 by26 sB26).cells.length = _ := prn_cells_len; have hrl : (prn nM24 by26 sB26).rets.length = _ := prn_rlen; have hal : (prn nM24 by26 sB26).active.length = _ := prn_alen; have hdl2 : (prn nM24 by26 sB26).data.length = _ := prn_dlen
 refine .region (.vl (Y.loadA sh27 rfl rfl (nbE rfl) rfl rfl) (.callP ok16 (check_spec (n := (prn nM24 by26 sB26)) hvs (by omega)) rfl (.keep rfl rfl .nil) (by decide) rfl ?_))
 refine .vl (Y.neq rfl rfl) ?_
 refine .mv ?_
 refine .splitD (d := 61) rfl (fun c61 => ?_) (fun c61 => ?_)
 exact absurd (errOf_ok hV.formed hV.fit hV.acyclic) c61
 refine .gw 61 (Y.fieldAddr fl27_1 rfl rfl) (.gw 61 (Y.load sh22 rfl rfl rfl rfl) (.gw 61 (Y.len (n := ((prn nM24 by26 sB26).widths).length) sl22 rfl (congrArg some (List.length_map ..))) ?_))
 refine .gw 61 (Y.move rfl rfl) (.gw 61 (Y.neq rfl rfl) ?_)
 refine .pk ?_
 refine .nil ?_
 refine .condD rfl (fun c67 => ?_) (fun c67 => ?_)
 exfalso; omega
 refine .skip (.sr ?_)
 refine .an ?_
 refine .nil (.seq (.sr ?_))
 refine .fa fl27_2 ?_
 refine .ld sh23 ?_
 refine .vl (Y.len (n := nM24.cells.length) sl23 rfl (congrArg some (List.length_map ..))) ?_
 refine .mv ?_
 refine .nil (.block ?_)
 refine .loop2 (fun (k10_21 : Nat) (n71_21 : Nat) => ⟨[(3, .fp [.v (.string nM24.name), .fz 1 (nM24.widths.map irow), .fz 6 (nM24.cells.map Cell.row), .fz 1 (nM24.ins.map irow), .fz 5 (nM24.mems.map Arr.row), .fz 3 (nM24.streams.map Strm.row), .fz 1 (nM24.active.map irow), .fz 1 (nM24.data.map irow), vi nM24.freeze, vi nM24.done, .fz 1 (nM24.rets.map irow)] 0), (4, .fp [.v (.string ((prn nM24 by26 sB26).name)), .fz 1 (((prn nM24 by26 sB26).widths).map irow), .fz 6 (((prn nM24 by26 sB26).cells).map Cell.row), .fz 1 (((prn nM24 by26 sB26).ins).map irow), .fz 5 (((prn nM24 by26 sB26).mems).map Arr.row), .fz 3 (((prn nM24 by26 sB26).streams).map Strm.row), .fz 1 (((prn nM24 by26 sB26).active).map irow), .fz 1 (((prn nM24 by26 sB26).data).map irow), vi ((prn nM24 by26 sB26).freeze), vi ((prn nM24 by26 sB26).done), .fz 1 (((prn nM24 by26 sB26).rets).map irow)] 0), (5, .fz 1 (nd28.map brow)), (6, .fz 1 (number6_10.map irow)), (10, vi (k10_21 : Int)), (70, vi ((nM24.cells.length : Nat) : Int)), (71, vi (n71_21 : Int))], []⟩) (fun (k10_21 : Nat) (n71_21 : Nat) => ((n71_21 : Int) ≤ ((nM24.cells.length : Nat) : Int)) ∧ (k10_21 = (kpt (kc nM24 sB26) n71_21).length)) (fun (k10_21 : Nat) (n71_21 : Nat) => (((nM24.cells.length : Nat) : Int) - (n71_21 : Int)).toNat) 0 0 (⟨by omega, rfl⟩) (Le.mk (.c (.c (.c (.c (.cons (look_int rfl (by first | rfl | omega)) (.c (.cons (look_int rfl (by first | rfl | omega)) (.nil)))))))) (.nil)) (fun k10_21 n71_21 hI21 => ?_)
 obtain ⟨hb21, hkk⟩ := hI21
 refine .sr (.vl (Y.lss rfl rfl) (.nil ?_))
 refine .seq ?_
 refine .condD rfl (fun c72 => ?_) (fun c72 => ?_)
 refine .skip ?_
 refine .join1 (fun (k10_j27 : Nat) => ⟨[(3, .fp [.v (.string nM24.name), .fz 1 (nM24.widths.map irow), .fz 6 (nM24.cells.map Cell.row), .fz 1 (nM24.ins.map irow), .fz 5 (nM24.mems.map Arr.row), .fz 3 (nM24.streams.map Strm.row), .fz 1 (nM24.active.map irow), .fz 1 (nM24.data.map irow), vi nM24.freeze, vi nM24.done, .fz 1 (nM24.rets.map irow)] 0), (4, .fp [.v (.string ((prn nM24 by26 sB26).name)), .fz 1 (((prn nM24 by26 sB26).widths).map irow), .fz 6 (((prn nM24 by26 sB26).cells).map Cell.row), .fz 1 (((prn nM24 by26 sB26).ins).map irow), .fz 5 (((prn nM24 by26 sB26).mems).map Arr.row), .fz 3 (((prn nM24 by26 sB26).streams).map Strm.row), .fz 1 (((prn nM24 by26 sB26).active).map irow), .fz 1 (((prn nM24 by26 sB26).data).map irow), vi ((prn nM24 by26 sB26).freeze), vi ((prn nM24 by26 sB26).done), .fz 1 (((prn nM24 by26 sB26).rets).map irow)] 0), (5, .fz 1 (nd28.map brow)), (6, .fz 1 (number6_10.map irow)), (10, vi (k10_j27 : Int)), (70, vi ((nM24.cells.length : Nat) : Int)), (71, vi (n71_21 : Int))], []⟩) (fun (k10_j27 : Nat) => k10_j27 = (kpt (kc nM24 sB26) (n71_21 + 1)).length) ?_ (fun k10_j27 hJ27 => ?_)
 refine .block (.sr ?_)
 refine .mv ?_
 refine .an ?_
 refine .nil (.seq (.seq ?_))
 have hn23 := hnd28 n71_21 (by omega)
 refine .region ?_
 refine .mv ?_
 refine .mv ?_
 refine .vl (Y.indexF (m := n71_21) sl63 rfl rfl (by first | rfl | omega) (row_getD (d := false) (by omega))) ?_
 refine .ld sh4 ?_
 refine .vl (Y.not rfl) (.nil ?_)
 refine .cond rfl (fun c78 => ?_) (fun c78 => ?_)
 replace c78 : (nd28.getD n71_21 false) = false := by simpa using c78
 refine .exit ?_
 exact ⟨k10_21, by first | (rw [kpt_yes hkc, hkk]; simp) | (rw [kpt_no (hn23.symm.trans (by assumption))]; exact hkk), Le.mk (.c (.c (.c (.c (.cons (look_int rfl (by first | rfl | omega)) (.c (.c (.nil)))))))) (.nil)⟩
 replace c78 : (nd28.getD n71_21 false) = true := by simpa using c78
 refine .skip (.seq (.seq ?_))
 have hkc : kc nM24 sB26 n71_21 = true := hn23.symm.trans (by assumption); have h24 := (kpt_at (show n71_21 < nM24.cells.length by omega) hkc).1; have h24c : (prn nM24 by26 sB26).cells.getD k10_21 default = renC (kw nM24 by26 sB26) (nM24.cells.getD n71_21 default) := by rw [hkk]; exact prn_cell_at (by omega) hkc
 refine .regionT 17 rfl (by kernel_rfl) (.val (Y.move rfl rfl) (by decide) (.val (Y.fieldAddr fl27_2 rfl rfl) (by decide) ?_))
 refine .val (Y.load sh23 rfl rfl rfl rfl) (by decide) (.val (Y.len (n := ((prn nM24 by26 sB26).cells).length) sl23 rfl (congrArg some (List.length_map ..))) (by decide) (.val (Y.geq rfl rfl) (by decide) ?_))
 refine .val (Y.move rfl rfl) (by decide) ?_
 refine .splitD (d := 84) rfl (fun c84 => ?_) (fun c84 => ?_)
 exfalso; omega
 refine .guardRun (d := 84) rfl (by decide) rfl (.val (Y.fieldAddr fl27_2 rfl rfl) (by decide) (.guardRun (d := 84) rfl (by decide) rfl ?_))
 refine .val (Y.load sh23 rfl rfl rfl rfl) (by decide) (.guardRun (d := 84) rfl (by decide) rfl (.val (Y.move rfl rfl) (by decide) ?_))
 refine .guardRun (d := 84) rfl (by decide) rfl ?_
 refine .val (Y.indexF (m := n71_21) sl23 rfl rfl (by first | rfl | omega) (row_getD (d := default) (by omega))) (by decide) ?_
 refine .guardRun (d := 84) rfl (by decide) rfl (.val (Y.loadA sh39 rfl rfl (nbE rfl) rfl rfl) (by decide) (.guardRun (d := 84) rfl (by decide) rfl ?_))
 refine .val (Y.fieldAddr fl27_2 rfl rfl) (by decide) (.guardRun (d := 84) rfl (by decide) rfl (.val (Y.load sh23 rfl rfl rfl rfl) (by decide) ?_))
 refine .guardRun (d := 84) rfl (by decide) rfl (.val (Y.move rfl rfl) (by decide) (.guardRun (d := 84) rfl (by decide) rfl ?_))
 refine .val (Y.indexF (m := k10_21) sl23 rfl rfl (by first | rfl | omega) (row_getD (d := default) (by omega))) (by decide) ?_
 refine .guardRun (d := 84) rfl (by decide) rfl (.val (Y.loadA sh39 rfl rfl (nbE rfl) rfl rfl) (by decide) (.guardRun (d := 84) rfl (by decide) rfl ?_))
 refine .val (Y.move rfl rfl) (by decide) (.nil (.guardRun (d := 84) rfl (by decide) rfl ?_))
 refine .callP ok39 (renamed_at (p := kw nM24 by26 sB26) (a := (nM24.cells.getD n71_21 default)) (b := (((prn nM24 by26 sB26).cells).getD k10_21 default)) (nb := number6_10) hN (by have := hna (nM24.cells.getD n71_21 default) (getD_in (by omega)); omega) (out_or hf (by omega)) (fun x hx => (hf.cells _ (by omega)).1 x hx) h24c) rfl (.keep rfl rfl (.keep rfl rfl (.keep rfl rfl .nil))) (by decide) rfl ?_
 refine .gw 84 (Y.not rfl) ?_
 refine .pk ?_
 refine .nil (.condF rfl (.skip ?_))
 refine .region ?_
 refine .mv ?_
 refine .vl (Y.addI rfl rfl (by omega)) ?_
 refine .an ?_
 refine .nil ?_
 exact ⟨k10_21 + 1, by first | (rw [kpt_yes hkc, hkk]; simp) | (rw [kpt_no (hn23.symm.trans (by assumption))]; exact hkk), Le.mk (.c (.c (.c (.c (.cons (look_int rfl (by first | rfl | omega)) (.c (.c (.nil)))))))) (.nil)⟩
 refine .region ?_
 refine .vl (Y.addI rfl rfl (by omega)) ?_
 refine .mv ?_
 refine .nil ?_
 exact ⟨k10_j27, n71_21 + 1, ⟨by omega, hJ27⟩, by omega, Le.mk (.c (.c (.c (.c (.cons (look_int rfl (by first | rfl | omega)) (.c (.cons (look_int rfl (by first | rfl | omega)) (.nil)))))))) (.nil)⟩
 refine .exit (.seq (.sr ?_))
 refine .fa fl27_1 ?_
 refine .ld sh22 ?_
 refine .vl (Y.len (n := nM24.widths.length) sl22 rfl (congrArg some (List.length_map ..))) ?_
 refine .mv ?_
 refine .nil (.block ?_)
 refine .loop1 (fun (n105_29 : Nat) => ⟨[(3, .fp [.v (.string nM24.name), .fz 1 (nM24.widths.map irow), .fz 6 (nM24.cells.map Cell.row), .fz 1 (nM24.ins.map irow), .fz 5 (nM24.mems.map Arr.row), .fz 3 (nM24.streams.map Strm.row), .fz 1 (nM24.active.map irow), .fz 1 (nM24.data.map irow), vi nM24.freeze, vi nM24.done, .fz 1 (nM24.rets.map irow)] 0), (4, .fp [.v (.string ((prn nM24 by26 sB26).name)), .fz 1 (((prn nM24 by26 sB26).widths).map irow), .fz 6 (((prn nM24 by26 sB26).cells).map Cell.row), .fz 1 (((prn nM24 by26 sB26).ins).map irow), .fz 5 (((prn nM24 by26 sB26).mems).map Arr.row), .fz 3 (((prn nM24 by26 sB26).streams).map Strm.row), .fz 1 (((prn nM24 by26 sB26).active).map irow), .fz 1 (((prn nM24 by26 sB26).data).map irow), vi ((prn nM24 by26 sB26).freeze), vi ((prn nM24 by26 sB26).done), .fz 1 (((prn nM24 by26 sB26).rets).map irow)] 0), (6, .fz 1 (number6_10.map irow)), (10, vi (k10_21 : Int)), (104, vi ((nM24.widths.length : Nat) : Int)), (105, vi (n105_29 : Int))], []⟩) (fun (n105_29 : Nat) => ((n105_29 : Int) ≤ ((nM24.widths.length : Nat) : Int))) (fun (n105_29 : Nat) => (((nM24.widths.length : Nat) : Int) - (n105_29 : Int)).toNat) 0 (by omega) (Le.mk (.c (.c (.c (.c (.c (.cons (look_int rfl (by first | rfl | omega)) (.nil))))))) (.nil)) (fun n105_29 hI29 => ?_)
 have hb29 := hI29
 refine .sr (.vl (Y.lss rfl rfl) (.nil ?_))
 refine .seq ?_
 refine .condD rfl (fun c106 => ?_) (fun c106 => ?_)
 refine .skip ?_
 refine .join0 (⟨[(3, .fp [.v (.string nM24.name), .fz 1 (nM24.widths.map irow), .fz 6 (nM24.cells.map Cell.row), .fz 1 (nM24.ins.map irow), .fz 5 (nM24.mems.map Arr.row), .fz 3 (nM24.streams.map Strm.row), .fz 1 (nM24.active.map irow), .fz 1 (nM24.data.map irow), vi nM24.freeze, vi nM24.done, .fz 1 (nM24.rets.map irow)] 0), (4, .fp [.v (.string ((prn nM24 by26 sB26).name)), .fz 1 (((prn nM24 by26 sB26).widths).map irow), .fz 6 (((prn nM24 by26 sB26).cells).map Cell.row), .fz 1 (((prn nM24 by26 sB26).ins).map irow), .fz 5 (((prn nM24 by26 sB26).mems).map Arr.row), .fz 3 (((prn nM24 by26 sB26).streams).map Strm.row), .fz 1 (((prn nM24 by26 sB26).active).map irow), .fz 1 (((prn nM24 by26 sB26).data).map irow), vi ((prn nM24 by26 sB26).freeze), vi ((prn nM24 by26 sB26).done), .fz 1 (((prn nM24 by26 sB26).rets).map irow)] 0), (6, .fz 1 (number6_10.map irow)), (10, vi (k10_21 : Int)), (104, vi ((nM24.widths.length : Nat) : Int)), (105, vi (n105_29 : Int))], []⟩) (((0 ≤ (number6_10.getD n105_29 0)) ∧ (¬ ((((prn nM24 by26 sB26).widths).getD ((number6_10.getD n105_29 0).toNat) 0) ≠ (nM24.widths.getD n105_29 0)))) ∨ ((¬ (0 ≤ (number6_10.getD n105_29 0))))) ?_ (fun hJ33 => ?_)
 refine .block (.sr ?_)
 refine .mv ?_
 refine .an ?_
 refine .nil (.seq ?_)
 have h31 : number6_10.getD n105_29 0 ≥ 0 → number6_10.getD n105_29 0 < (((prn nM24 by26 sB26).widths.length : Nat) : Int) := fun h => by have := (num_pos hN (by omega) h).2; omega
 refine .regionS rfl (by kernel_rfl) (.val (Y.move rfl rfl) (by decide) (.val (Y.move rfl rfl) (by decide) ?_))
 refine .val (Y.indexF (m := n105_29) sl22 rfl rfl (by first | rfl | omega) (row_getD (d := 0) (by omega))) (by decide) ?_
 refine .val (Y.load sh3 rfl rfl rfl rfl) (by decide) (.val (Y.geq rfl rfl) (by decide) (.val (Y.move rfl rfl) (by decide) ?_))
 refine .splitD (d := 113) rfl (fun c113 => ?_) (fun c113 => ?_)
 refine .guardRun (d := 113) rfl (by decide) rfl (.val (Y.fieldAddr fl27_1 rfl rfl) (by decide) (.guardRun (d := 113) rfl (by decide) rfl ?_))
 refine .val (Y.load sh22 rfl rfl rfl rfl) (by decide) (.guardRun (d := 113) rfl (by decide) rfl (.val (Y.move rfl rfl) (by decide) ?_))
 refine .guardRun (d := 113) rfl (by decide) rfl (.val (Y.move rfl rfl) (by decide) (.guardRun (d := 113) rfl (by decide) rfl ?_))
 refine .val (Y.indexF (m := n105_29) sl22 rfl rfl (by first | rfl | omega) (row_getD (d := 0) (by omega))) (by decide) ?_
 refine .guardRun (d := 113) rfl (by decide) rfl (.val (Y.load sh3 rfl rfl rfl rfl) (by decide) (.guardRun (d := 113) rfl (by decide) rfl ?_))
 refine .val (Y.indexF (m := (number6_10.getD n105_29 0).toNat) sl22 rfl rfl (by omega) (row_getD (d := 0) (by omega))) (by decide) ?_
 refine .guardRun (d := 113) rfl (by decide) rfl (.val (Y.load sh3 rfl rfl rfl rfl) (by decide) (.guardRun (d := 113) rfl (by decide) rfl ?_))
 refine .val (Y.fieldAddr fl27_1 rfl rfl) (by decide) (.guardRun (d := 113) rfl (by decide) rfl (.val (Y.load sh22 rfl rfl rfl rfl) (by decide) ?_))
 refine .guardRun (d := 113) rfl (by decide) rfl (.val (Y.move rfl rfl) (by decide) (.guardRun (d := 113) rfl (by decide) rfl ?_))
 refine .val (Y.indexF (m := n105_29) sl22 rfl rfl (by first | rfl | omega) (row_getD (d := 0) (by omega))) (by decide) ?_
 refine .guardRun (d := 113) rfl (by decide) rfl (.val (Y.load sh3 rfl rfl rfl rfl) (by decide) (.guardRun (d := 113) rfl (by decide) rfl ?_))
 refine .val (Y.neq rfl rfl) (by decide) (.val (Y.pick rfl rfl rfl) (by decide) (.nil ?_))
 refine .condD rfl (fun c128 => ?_) (fun c128 => ?_)
 exact absurd (prn_w_at hN (by omega) c113) c128
 refine .skip ?_
 exact ⟨.inl ⟨c113, c128⟩, Le.mk (.c (.c (.c (.c (.c (.c (.nil))))))) (.nil)⟩
 refine .guardSkipV (d := 113) rfl (by decide) (by decide) rfl rfl (.guardSkipV (d := 113) rfl (by decide) (by decide) rfl rfl (.guardSkipV (d := 113) rfl (by decide) (by decide) rfl rfl ?_))
 refine .guardSkipV (d := 113) rfl (by decide) (by decide) rfl rfl (.guardSkipV (d := 113) rfl (by decide) (by decide) rfl rfl (.guardSkipV (d := 113) rfl (by decide) (by decide) rfl rfl ?_))
 refine .guardSkipV (d := 113) rfl (by decide) (by decide) rfl rfl (.guardSkipV (d := 113) rfl (by decide) (by decide) rfl rfl (.guardSkipV (d := 113) rfl (by decide) (by decide) rfl rfl ?_))
 refine .guardSkipV (d := 113) rfl (by decide) (by decide) rfl rfl (.guardSkipV (d := 113) rfl (by decide) (by decide) rfl rfl (.guardSkipV (d := 113) rfl (by decide) (by decide) rfl rfl ?_))
 refine .guardSkipV (d := 113) rfl (by decide) (by decide) rfl rfl (.guardSkipV (d := 113) rfl (by decide) (by decide) rfl rfl (.val (Y.pick rfl rfl rfl) (by decide) ?_))
 refine .nil (.condF rfl (.skip ?_))
 exact ⟨.inr (c113), Le.mk (.c (.c (.c (.c (.c (.c (.nil))))))) (.nil)⟩
 refine .region ?_
 refine .vl (Y.addI rfl rfl (by omega)) ?_
 refine .mv ?_
 refine .nil ?_
 exact ⟨n105_29 + 1, by omega, by omega, Le.mk (.c (.c (.c (.c (.c (.cons (look_int rfl (by first | rfl | omega)) (.nil))))))) (.nil)⟩
 refine .exit (.seq (.sr ?_))
 refine .fa fl27_10 ?_
 refine .ld sh22 ?_
 refine .vl (Y.len (n := ((prn nM24 by26 sB26).rets).length) sl22 rfl (congrArg some (List.length_map ..))) ?_
 refine .fa fl27_10 ?_
 refine .ld sh22 ?_
 refine .vl (Y.len (n := nM24.rets.length) sl22 rfl (congrArg some (List.length_map ..))) (.vl (Y.neq rfl rfl) ?_)
 refine .mv ?_
 refine .splitD (d := 137) rfl (fun c137 => ?_) (fun c137 => ?_)
 exfalso; omega
 refine .gw 137 (Y.fieldAddr fl27_6 rfl rfl) (.gw 137 (Y.load sh22 rfl rfl rfl rfl) (.gw 137 (Y.len (n := ((prn nM24 by26 sB26).active).length) sl22 rfl (congrArg some (List.length_map ..))) ?_))
 refine .gw 137 (Y.fieldAddr fl27_6 rfl rfl) (.gw 137 (Y.load sh22 rfl rfl rfl rfl) (.gw 137 (Y.len (n := nM24.active.length) sl22 rfl (congrArg some (List.length_map ..))) ?_))
 refine .gw 137 (Y.neq rfl rfl) ?_
 refine .pk ?_
 refine .mv ?_
 refine .splitD (d := 146) rfl (fun c146 => ?_) (fun c146 => ?_)
 exfalso; omega
 refine .gw 146 (Y.fieldAddr fl27_7 rfl rfl) (.gw 146 (Y.load sh22 rfl rfl rfl rfl) (.gw 146 (Y.len (n := ((prn nM24 by26 sB26).data).length) sl22 rfl (congrArg some (List.length_map ..))) ?_))
 refine .gw 146 (Y.fieldAddr fl27_7 rfl rfl) (.gw 146 (Y.load sh22 rfl rfl rfl rfl) (.gw 146 (Y.len (n := nM24.data.length) sl22 rfl (congrArg some (List.length_map ..))) ?_))
 refine .gw 146 (Y.neq rfl rfl) ?_
 refine .pk ?_
 refine .nil ?_
 refine .condD rfl (fun c154 => ?_) (fun c154 => ?_)
 exfalso; omega
 refine .skip (.seq (.sr ?_))
 refine .fa fl27_10 ?_
 refine .ld sh22 ?_
 refine .vl (Y.len (n := nM24.rets.length) sl22 rfl (congrArg some (List.length_map ..))) ?_
 refine .mv ?_
 refine .nil (.block ?_)
 refine .loop1 (fun (n158_37 : Nat) => ⟨[(3, .fp [.v (.string nM24.name), .fz 1 (nM24.widths.map irow), .fz 6 (nM24.cells.map Cell.row), .fz 1 (nM24.ins.map irow), .fz 5 (nM24.mems.map Arr.row), .fz 3 (nM24.streams.map Strm.row), .fz 1 (nM24.active.map irow), .fz 1 (nM24.data.map irow), vi nM24.freeze, vi nM24.done, .fz 1 (nM24.rets.map irow)] 0), (4, .fp [.v (.string ((prn nM24 by26 sB26).name)), .fz 1 (((prn nM24 by26 sB26).widths).map irow), .fz 6 (((prn nM24 by26 sB26).cells).map Cell.row), .fz 1 (((prn nM24 by26 sB26).ins).map irow), .fz 5 (((prn nM24 by26 sB26).mems).map Arr.row), .fz 3 (((prn nM24 by26 sB26).streams).map Strm.row), .fz 1 (((prn nM24 by26 sB26).active).map irow), .fz 1 (((prn nM24 by26 sB26).data).map irow), vi ((prn nM24 by26 sB26).freeze), vi ((prn nM24 by26 sB26).done), .fz 1 (((prn nM24 by26 sB26).rets).map irow)] 0), (6, .fz 1 (number6_10.map irow)), (10, vi (k10_21 : Int)), (157, vi ((nM24.rets.length : Nat) : Int)), (158, vi (n158_37 : Int))], []⟩) (fun (n158_37 : Nat) => ((n158_37 : Int) ≤ ((nM24.rets.length : Nat) : Int))) (fun (n158_37 : Nat) => (((nM24.rets.length : Nat) : Int) - (n158_37 : Int)).toNat) 0 (by omega) (Le.mk (.c (.c (.c (.c (.c (.cons (look_int rfl (by first | rfl | omega)) (.nil))))))) (.nil)) (fun n158_37 hI37 => ?_)
 have hb37 := hI37
 refine .sr (.vl (Y.lss rfl rfl) (.nil ?_))
 refine .seq ?_
 refine .condD rfl (fun c159 => ?_) (fun c159 => ?_)
 refine .skip (.seq (.block ?_))
 refine .sr ?_
 refine .mv ?_
 refine .an ?_
 refine .nil (.seq ?_)
 have h39i := hf.rets (nM24.rets.getD n158_37 0) (getD_mem (by omega)); have h39 := h39i; unfold In at h39
 refine .regionS rfl (by kernel_rfl) (.val (Y.fieldAddr fl27_10 rfl rfl) (by decide) (.val (Y.load sh22 rfl rfl rfl rfl) (by decide) ?_))
 refine .val (Y.move rfl rfl) (by decide) ?_
 refine .val (Y.indexF (m := n158_37) sl22 rfl rfl (by first | rfl | omega) (row_getD (d := 0) (by omega))) (by decide) ?_
 refine .val (Y.load sh3 rfl rfl rfl rfl) (by decide) (.val (Y.move rfl rfl) (by decide) (.val (Y.fieldAddr fl27_10 rfl rfl) (by decide) ?_))
 refine .val (Y.load sh22 rfl rfl rfl rfl) (by decide) (.val (Y.move rfl rfl) (by decide) ?_)
 refine .val (Y.indexF (m := n158_37) sl22 rfl rfl (by first | rfl | omega) (row_getD (d := 0) (by omega))) (by decide) ?_
 refine .val (Y.load sh3 rfl rfl rfl rfl) (by decide) ?_
 refine .val (Y.indexF (m := (nM24.rets.getD n158_37 0).toNat) sl22 rfl rfl (by omega) (row_getD (d := 0) (by omega))) (by decide) ?_
 refine .val (Y.load sh3 rfl rfl rfl rfl) (by decide) (.val (Y.neq rfl rfl) (by decide) (.nil ?_))
 refine .condD rfl (fun c174 => ?_) (fun c174 => ?_)
 exact absurd (prn_r_at hN (by omega) h39i) c174
 refine .skip (.region ?_)
 refine .vl (Y.addI rfl rfl (by omega)) ?_
 refine .mv ?_
 refine .nil ?_
 exact ⟨n158_37 + 1, by omega, by omega, Le.mk (.c (.c (.c (.c (.c (.cons (look_int rfl (by first | rfl | omega)) (.nil))))))) (.nil)⟩
 refine .exit (.seq (.sr ?_))
 refine .fa fl27_6 ?_
 refine .ld sh22 ?_
 refine .vl (Y.len (n := nM24.active.length) sl22 rfl (congrArg some (List.length_map ..))) ?_
 refine .mv ?_
 refine .nil (.block ?_)
 refine .loop1 (fun (n179_43 : Nat) => ⟨[(3, .fp [.v (.string nM24.name), .fz 1 (nM24.widths.map irow), .fz 6 (nM24.cells.map Cell.row), .fz 1 (nM24.ins.map irow), .fz 5 (nM24.mems.map Arr.row), .fz 3 (nM24.streams.map Strm.row), .fz 1 (nM24.active.map irow), .fz 1 (nM24.data.map irow), vi nM24.freeze, vi nM24.done, .fz 1 (nM24.rets.map irow)] 0), (4, .fp [.v (.string ((prn nM24 by26 sB26).name)), .fz 1 (((prn nM24 by26 sB26).widths).map irow), .fz 6 (((prn nM24 by26 sB26).cells).map Cell.row), .fz 1 (((prn nM24 by26 sB26).ins).map irow), .fz 5 (((prn nM24 by26 sB26).mems).map Arr.row), .fz 3 (((prn nM24 by26 sB26).streams).map Strm.row), .fz 1 (((prn nM24 by26 sB26).active).map irow), .fz 1 (((prn nM24 by26 sB26).data).map irow), vi ((prn nM24 by26 sB26).freeze), vi ((prn nM24 by26 sB26).done), .fz 1 (((prn nM24 by26 sB26).rets).map irow)] 0), (6, .fz 1 (number6_10.map irow)), (10, vi (k10_21 : Int)), (178, vi ((nM24.active.length : Nat) : Int)), (179, vi (n179_43 : Int))], []⟩) (fun (n179_43 : Nat) => ((n179_43 : Int) ≤ ((nM24.active.length : Nat) : Int))) (fun (n179_43 : Nat) => (((nM24.active.length : Nat) : Int) - (n179_43 : Int)).toNat) 0 (by omega) (Le.mk (.c (.c (.c (.c (.c (.cons (look_int rfl (by first | rfl | omega)) (.nil))))))) (.nil)) (fun n179_43 hI43 => ?_)
 have hb43 := hI43
 refine .sr (.vl (Y.lss rfl rfl) (.nil ?_))
 refine .seq ?_
 refine .condD rfl (fun c180 => ?_) (fun c180 => ?_)
 refine .skip ?_
 refine .join4 (fun (n203_j47 : Bool) (n210_j47 : Bool) (n219_j47 : Bool) (n234_j47 : Bool) => ⟨[(3, .fp [.v (.string nM24.name), .fz 1 (nM24.widths.map irow), .fz 6 (nM24.cells.map Cell.row), .fz 1 (nM24.ins.map irow), .fz 5 (nM24.mems.map Arr.row), .fz 3 (nM24.streams.map Strm.row), .fz 1 (nM24.active.map irow), .fz 1 (nM24.data.map irow), vi nM24.freeze, vi nM24.done, .fz 1 (nM24.rets.map irow)] 0), (4, .fp [.v (.string ((prn nM24 by26 sB26).name)), .fz 1 (((prn nM24 by26 sB26).widths).map irow), .fz 6 (((prn nM24 by26 sB26).cells).map Cell.row), .fz 1 (((prn nM24 by26 sB26).ins).map irow), .fz 5 (((prn nM24 by26 sB26).mems).map Arr.row), .fz 3 (((prn nM24 by26 sB26).streams).map Strm.row), .fz 1 (((prn nM24 by26 sB26).active).map irow), .fz 1 (((prn nM24 by26 sB26).data).map irow), vi ((prn nM24 by26 sB26).freeze), vi ((prn nM24 by26 sB26).done), .fz 1 (((prn nM24 by26 sB26).rets).map irow)] 0), (6, .fz 1 (number6_10.map irow)), (10, vi (k10_21 : Int)), (178, vi ((nM24.active.length : Nat) : Int)), (179, vi (n179_43 : Int)), (197, .fp [.v (.string nM24.name), .fz 1 (nM24.widths.map irow), .fz 6 (nM24.cells.map Cell.row), .fz 1 (nM24.ins.map irow), .fz 5 (nM24.mems.map Arr.row), .fz 3 (nM24.streams.map Strm.row), .fz 1 (nM24.active.map irow), .fz 1 (nM24.data.map irow), vi nM24.freeze, vi nM24.done, .fz 1 (nM24.rets.map irow)] 7), (198, .fz 1 (nM24.data.map irow)), (199, vi (n179_43 : Int)), (200, .fp (irow (nM24.data.getD n179_43 0)) 0), (201, vi (nM24.data.getD n179_43 0)), (202, .v (.bool (decide ((nM24.data.getD n179_43 0) < 0)))), (203, .v (.bool n203_j47)), (210, .v (.bool n210_j47)), (213, .fp [.v (.string nM24.name), .fz 1 (nM24.widths.map irow), .fz 6 (nM24.cells.map Cell.row), .fz 1 (nM24.ins.map irow), .fz 5 (nM24.mems.map Arr.row), .fz 3 (nM24.streams.map Strm.row), .fz 1 (nM24.active.map irow), .fz 1 (nM24.data.map irow), vi nM24.freeze, vi nM24.done, .fz 1 (nM24.rets.map irow)] 7), (214, .fz 1 (nM24.data.map irow)), (215, vi (n179_43 : Int)), (216, .fp (irow (nM24.data.getD n179_43 0)) 0), (217, vi (nM24.data.getD n179_43 0)), (218, .v (.bool (decide (0 ≤ (nM24.data.getD n179_43 0))))), (219, .v (.bool n219_j47)), (234, .v (.bool n234_j47))], []⟩) (fun (n203_j47 : Bool) (n210_j47 : Bool) (n219_j47 : Bool) (n234_j47 : Bool) => ((¬ ((((prn nM24 by26 sB26).active).getD n179_43 0) ≠ (number6_10.getD ((nM24.active.getD n179_43 0).toNat) 0))) ∧ ((nM24.data.getD n179_43 0) < 0) ∧ (¬ ((((prn nM24 by26 sB26).data).getD n179_43 0) ≠ (-1))) ∧ (0 ≤ (nM24.data.getD n179_43 0)) ∧ (¬ ((((prn nM24 by26 sB26).data).getD n179_43 0) ≠ (number6_10.getD ((nM24.data.getD n179_43 0).toNat) 0))) ∧ (n203_j47 = true) ∧ (n210_j47 = (decide ((((prn nM24 by26 sB26).data).getD n179_43 0) ≠ (-1)))) ∧ (n219_j47 = true) ∧ (n234_j47 = (decide ((((prn nM24 by26 sB26).data).getD n179_43 0) ≠ (number6_10.getD ((nM24.data.getD n179_43 0).toNat) 0))))) ∨ ((¬ ((((prn nM24 by26 sB26).active).getD n179_43 0) ≠ (number6_10.getD ((nM24.active.getD n179_43 0).toNat) 0))) ∧ ((nM24.data.getD n179_43 0) < 0) ∧ (¬ ((((prn nM24 by26 sB26).data).getD n179_43 0) ≠ (-1))) ∧ (¬ (0 ≤ (nM24.data.getD n179_43 0))) ∧ (n203_j47 = true) ∧ (n210_j47 = (decide ((((prn nM24 by26 sB26).data).getD n179_43 0) ≠ (-1)))) ∧ (n219_j47 = false) ∧ (n234_j47 = false)) ∨ ((¬ ((((prn nM24 by26 sB26).active).getD n179_43 0) ≠ (number6_10.getD ((nM24.active.getD n179_43 0).toNat) 0))) ∧ (¬ ((nM24.data.getD n179_43 0) < 0)) ∧ (0 ≤ (nM24.data.getD n179_43 0)) ∧ (¬ ((((prn nM24 by26 sB26).data).getD n179_43 0) ≠ (number6_10.getD ((nM24.data.getD n179_43 0).toNat) 0))) ∧ (n203_j47 = false) ∧ (n210_j47 = false) ∧ (n219_j47 = true) ∧ (n234_j47 = (decide ((((prn nM24 by26 sB26).data).getD n179_43 0) ≠ (number6_10.getD ((nM24.data.getD n179_43 0).toNat) 0))))) ∨ ((¬ ((((prn nM24 by26 sB26).active).getD n179_43 0) ≠ (number6_10.getD ((nM24.active.getD n179_43 0).toNat) 0))) ∧ (¬ ((nM24.data.getD n179_43 0) < 0)) ∧ (¬ (0 ≤ (nM24.data.getD n179_43 0))) ∧ (n203_j47 = false) ∧ (n210_j47 = false) ∧ (n219_j47 = false) ∧ (n234_j47 = false))) ?_ (fun n203_j47 n210_j47 n219_j47 n234_j47 hJ47 => ?_)
 refine .block (.sr ?_)
 refine .mv ?_
 refine .an ?_
 refine .nil (.seq ?_)
 have h45s := hf.strs n179_43 (by omega); have h45i := h45s.2.2.1; have h45 := h45i; have h45d : nM24.data.getD n179_43 0 = -1 ∨ In (nM24.data.getD n179_43 0) nM24.widths.length := by (cases ho : (nM24.streams.getD n179_43 default).out with | true => exact .inr (h45s.2.2.2.1 ho) | false => exact .inl (h45s.2.2.2.2 ho))
 have h45e := h45d; unfold In at h45 h45e
 refine .regionS rfl (by kernel_rfl) (.val (Y.fieldAddr fl27_6 rfl rfl) (by decide) (.val (Y.load sh22 rfl rfl rfl rfl) (by decide) ?_))
 refine .val (Y.move rfl rfl) (by decide) ?_
 refine .val (Y.indexF (m := n179_43) sl22 rfl rfl (by first | rfl | omega) (row_getD (d := 0) (by omega))) (by decide) ?_
 refine .val (Y.load sh3 rfl rfl rfl rfl) (by decide) (.val (Y.move rfl rfl) (by decide) (.val (Y.fieldAddr fl27_6 rfl rfl) (by decide) ?_))
 refine .val (Y.load sh22 rfl rfl rfl rfl) (by decide) (.val (Y.move rfl rfl) (by decide) ?_)
 refine .val (Y.indexF (m := n179_43) sl22 rfl rfl (by first | rfl | omega) (row_getD (d := 0) (by omega))) (by decide) ?_
 refine .val (Y.load sh3 rfl rfl rfl rfl) (by decide) ?_
 refine .val (Y.indexF (m := (nM24.active.getD n179_43 0).toNat) sl22 rfl rfl (by omega) (row_getD (d := 0) (by omega))) (by decide) ?_
 refine .val (Y.load sh3 rfl rfl rfl rfl) (by decide) (.val (Y.neq rfl rfl) (by decide) (.val (Y.move rfl rfl) (by decide) ?_))
 refine .splitD (d := 196) rfl (fun c196 => ?_) (fun c196 => ?_)
 exact absurd (prn_a_at hN (by omega) h45i) c196
 refine .guardRun (d := 196) rfl (by decide) rfl (.val (Y.fieldAddr fl27_7 rfl rfl) (by decide) (.guardRun (d := 196) rfl (by decide) rfl ?_))
 refine .val (Y.load sh22 rfl rfl rfl rfl) (by decide) (.guardRun (d := 196) rfl (by decide) rfl (.val (Y.move rfl rfl) (by decide) ?_))
 refine .guardRun (d := 196) rfl (by decide) rfl ?_
 refine .val (Y.indexF (m := n179_43) sl22 rfl rfl (by first | rfl | omega) (row_getD (d := 0) (by omega))) (by decide) ?_
 refine .guardRun (d := 196) rfl (by decide) rfl (.val (Y.load sh3 rfl rfl rfl rfl) (by decide) (.guardRun (d := 196) rfl (by decide) rfl ?_))
 refine .val (Y.lss rfl rfl) (by decide) (.guardRun (d := 196) rfl (by decide) rfl (.val (Y.move rfl rfl) (by decide) ?_))
 refine .splitD (d := 203) rfl (fun c203 => ?_) (fun c203 => ?_)
 refine .guardRun (d := 203) rfl (by decide) rfl (.val (Y.fieldAddr fl27_7 rfl rfl) (by decide) (.guardRun (d := 203) rfl (by decide) rfl ?_))
 refine .val (Y.load sh22 rfl rfl rfl rfl) (by decide) (.guardRun (d := 203) rfl (by decide) rfl (.val (Y.move rfl rfl) (by decide) ?_))
 refine .guardRun (d := 203) rfl (by decide) rfl ?_
 refine .val (Y.indexF (m := n179_43) sl22 rfl rfl (by first | rfl | omega) (row_getD (d := 0) (by omega))) (by decide) ?_
 refine .guardRun (d := 203) rfl (by decide) rfl (.val (Y.load sh3 rfl rfl rfl rfl) (by decide) (.guardRun (d := 203) rfl (by decide) rfl ?_))
 refine .val (Y.neq rfl rfl) (by decide) (.guardRun (d := 196) rfl (by decide) rfl (.val (Y.pick rfl rfl rfl) (by decide) ?_))
 refine .val (Y.pick rfl rfl rfl) (by decide) (.val (Y.move rfl rfl) (by decide) ?_)
 refine .splitD (d := 212) rfl (fun c212 => ?_) (fun c212 => ?_)
 exact absurd (prn_d_no (by omega) (h45d.resolve_right (by unfold In; omega))) c212
 refine .guardRun (d := 212) rfl (by decide) rfl (.val (Y.fieldAddr fl27_7 rfl rfl) (by decide) (.guardRun (d := 212) rfl (by decide) rfl ?_))
 refine .val (Y.load sh22 rfl rfl rfl rfl) (by decide) (.guardRun (d := 212) rfl (by decide) rfl (.val (Y.move rfl rfl) (by decide) ?_))
 refine .guardRun (d := 212) rfl (by decide) rfl ?_
 refine .val (Y.indexF (m := n179_43) sl22 rfl rfl (by first | rfl | omega) (row_getD (d := 0) (by omega))) (by decide) ?_
 refine .guardRun (d := 212) rfl (by decide) rfl (.val (Y.load sh3 rfl rfl rfl rfl) (by decide) (.guardRun (d := 212) rfl (by decide) rfl ?_))
 refine .val (Y.geq rfl rfl) (by decide) (.guardRun (d := 212) rfl (by decide) rfl (.val (Y.move rfl rfl) (by decide) ?_))
 refine .splitD (d := 219) rfl (fun c219 => ?_) (fun c219 => ?_)
 refine .guardRun (d := 219) rfl (by decide) rfl (.val (Y.fieldAddr fl27_7 rfl rfl) (by decide) (.guardRun (d := 219) rfl (by decide) rfl ?_))
 refine .val (Y.load sh22 rfl rfl rfl rfl) (by decide) (.guardRun (d := 219) rfl (by decide) rfl (.val (Y.move rfl rfl) (by decide) ?_))
 refine .guardRun (d := 219) rfl (by decide) rfl ?_
 refine .val (Y.indexF (m := n179_43) sl22 rfl rfl (by first | rfl | omega) (row_getD (d := 0) (by omega))) (by decide) ?_
 refine .guardRun (d := 219) rfl (by decide) rfl (.val (Y.load sh3 rfl rfl rfl rfl) (by decide) (.guardRun (d := 219) rfl (by decide) rfl ?_))
 refine .val (Y.move rfl rfl) (by decide) (.guardRun (d := 219) rfl (by decide) rfl (.val (Y.fieldAddr fl27_7 rfl rfl) (by decide) ?_))
 refine .guardRun (d := 219) rfl (by decide) rfl (.val (Y.load sh22 rfl rfl rfl rfl) (by decide) (.guardRun (d := 219) rfl (by decide) rfl ?_))
 refine .val (Y.move rfl rfl) (by decide) (.guardRun (d := 219) rfl (by decide) rfl ?_)
 refine .val (Y.indexF (m := n179_43) sl22 rfl rfl (by first | rfl | omega) (row_getD (d := 0) (by omega))) (by decide) ?_
 refine .guardRun (d := 219) rfl (by decide) rfl (.val (Y.load sh3 rfl rfl rfl rfl) (by decide) (.guardRun (d := 219) rfl (by decide) rfl ?_))
 refine .val (Y.indexF (m := (nM24.data.getD n179_43 0).toNat) sl22 rfl rfl (by omega) (row_getD (d := 0) (by omega))) (by decide) ?_
 refine .guardRun (d := 219) rfl (by decide) rfl (.val (Y.load sh3 rfl rfl rfl rfl) (by decide) (.guardRun (d := 219) rfl (by decide) rfl ?_))
 refine .val (Y.neq rfl rfl) (by decide) (.guardRun (d := 212) rfl (by decide) rfl (.val (Y.pick rfl rfl rfl) (by decide) ?_))
 refine .val (Y.pick rfl rfl rfl) (by decide) (.nil ?_)
 refine .condD rfl (fun c235 => ?_) (fun c235 => ?_)
 exact absurd (prn_d_at hN (by omega) (h45d.resolve_left (by omega))) c235
 refine .skip ?_
 exact ⟨true, decide ((((prn nM24 by26 sB26).data).getD n179_43 0) ≠ (-1)), true, decide ((((prn nM24 by26 sB26).data).getD n179_43 0) ≠ (number6_10.getD ((nM24.data.getD n179_43 0).toNat) 0)), .inl ⟨c196, c203, c212, c219, c235, rfl, rfl, rfl, rfl⟩, Le.mk (.c (.c (.c (.c (.c (.c (.c (.c (.c (.c (.c (.c (.cons (look_bool rfl (by first | rfl | simp_all)) (.cons (look_bool rfl (by first | rfl | simp_all)) (.c (.c (.c (.c (.c (.c (.cons (look_bool rfl (by first | rfl | simp_all)) (.cons (look_bool rfl (by first | rfl | simp_all)) (.nil))))))))))))))))))))))) (.nil)⟩
 refine .guardSkipV (d := 219) rfl (by decide) (by decide) rfl rfl (.guardSkipV (d := 219) rfl (by decide) (by decide) rfl rfl (.guardSkipV (d := 219) rfl (by decide) (by decide) rfl rfl ?_))
 refine .guardSkipV (d := 219) rfl (by decide) (by decide) rfl rfl (.guardSkipV (d := 219) rfl (by decide) (by decide) rfl rfl (.guardSkipV (d := 219) rfl (by decide) (by decide) rfl rfl ?_))
 refine .guardSkipV (d := 219) rfl (by decide) (by decide) rfl rfl (.guardSkipV (d := 219) rfl (by decide) (by decide) rfl rfl (.guardSkipV (d := 219) rfl (by decide) (by decide) rfl rfl ?_))
 refine .guardSkipV (d := 219) rfl (by decide) (by decide) rfl rfl (.guardSkipV (d := 219) rfl (by decide) (by decide) rfl rfl (.guardSkipV (d := 219) rfl (by decide) (by decide) rfl rfl ?_))
 refine .guardSkipV (d := 219) rfl (by decide) (by decide) rfl rfl (.guardSkipV (d := 219) rfl (by decide) (by decide) rfl rfl (.guardRun (d := 212) rfl (by decide) rfl ?_))
 refine .val (Y.pick rfl rfl rfl) (by decide) (.val (Y.pick rfl rfl rfl) (by decide) (.nil ?_))
 refine .condF rfl (.skip ?_)
 exact ⟨true, decide ((((prn nM24 by26 sB26).data).getD n179_43 0) ≠ (-1)), false, false, .inr (.inl ⟨c196, c203, c212, c219, rfl, rfl, rfl, rfl⟩), Le.mk (.c (.c (.c (.c (.c (.c (.c (.c (.c (.c (.c (.c (.cons (look_bool rfl (by first | rfl | simp_all)) (.cons (look_bool rfl (by first | rfl | simp_all)) (.c (.c (.c (.c (.c (.c (.cons (look_bool rfl (by first | rfl | simp_all)) (.cons (look_bool rfl (by first | rfl | simp_all)) (.nil))))))))))))))))))))))) (.nil)⟩
 refine .guardSkipV (d := 203) rfl (by decide) (by decide) rfl rfl (.guardSkipV (d := 203) rfl (by decide) (by decide) rfl rfl (.guardSkipV (d := 203) rfl (by decide) (by decide) rfl rfl ?_))
 refine .guardSkipV (d := 203) rfl (by decide) (by decide) rfl rfl (.guardSkipV (d := 203) rfl (by decide) (by decide) rfl rfl (.guardSkipV (d := 203) rfl (by decide) (by decide) rfl rfl ?_))
 refine .guardRun (d := 196) rfl (by decide) rfl (.val (Y.pick rfl rfl rfl) (by decide) (.val (Y.pick rfl rfl rfl) (by decide) ?_))
 refine .val (Y.move rfl rfl) (by decide) (.guardRun (d := 212) rfl (by decide) rfl (.val (Y.fieldAddr fl27_7 rfl rfl) (by decide) ?_))
 refine .guardRun (d := 212) rfl (by decide) rfl (.val (Y.load sh22 rfl rfl rfl rfl) (by decide) (.guardRun (d := 212) rfl (by decide) rfl ?_))
 refine .val (Y.move rfl rfl) (by decide) (.guardRun (d := 212) rfl (by decide) rfl ?_)
 refine .val (Y.indexF (m := n179_43) sl22 rfl rfl (by first | rfl | omega) (row_getD (d := 0) (by omega))) (by decide) ?_
 refine .guardRun (d := 212) rfl (by decide) rfl (.val (Y.load sh3 rfl rfl rfl rfl) (by decide) (.guardRun (d := 212) rfl (by decide) rfl ?_))
 refine .val (Y.geq rfl rfl) (by decide) (.guardRun (d := 212) rfl (by decide) rfl (.val (Y.move rfl rfl) (by decide) ?_))
 refine .splitD (d := 219) rfl (fun c219 => ?_) (fun c219 => ?_)
 refine .guardRun (d := 219) rfl (by decide) rfl (.val (Y.fieldAddr fl27_7 rfl rfl) (by decide) (.guardRun (d := 219) rfl (by decide) rfl ?_))
 refine .val (Y.load sh22 rfl rfl rfl rfl) (by decide) (.guardRun (d := 219) rfl (by decide) rfl (.val (Y.move rfl rfl) (by decide) ?_))
 refine .guardRun (d := 219) rfl (by decide) rfl ?_
 refine .val (Y.indexF (m := n179_43) sl22 rfl rfl (by first | rfl | omega) (row_getD (d := 0) (by omega))) (by decide) ?_
 refine .guardRun (d := 219) rfl (by decide) rfl (.val (Y.load sh3 rfl rfl rfl rfl) (by decide) (.guardRun (d := 219) rfl (by decide) rfl ?_))
 refine .val (Y.move rfl rfl) (by decide) (.guardRun (d := 219) rfl (by decide) rfl (.val (Y.fieldAddr fl27_7 rfl rfl) (by decide) ?_))
 refine .guardRun (d := 219) rfl (by decide) rfl (.val (Y.load sh22 rfl rfl rfl rfl) (by decide) (.guardRun (d := 219) rfl (by decide) rfl ?_))
 refine .val (Y.move rfl rfl) (by decide) (.guardRun (d := 219) rfl (by decide) rfl ?_)
 refine .val (Y.indexF (m := n179_43) sl22 rfl rfl (by first | rfl | omega) (row_getD (d := 0) (by omega))) (by decide) ?_
 refine .guardRun (d := 219) rfl (by decide) rfl (.val (Y.load sh3 rfl rfl rfl rfl) (by decide) (.guardRun (d := 219) rfl (by decide) rfl ?_))
 refine .val (Y.indexF (m := (nM24.data.getD n179_43 0).toNat) sl22 rfl rfl (by omega) (row_getD (d := 0) (by omega))) (by decide) ?_
 refine .guardRun (d := 219) rfl (by decide) rfl (.val (Y.load sh3 rfl rfl rfl rfl) (by decide) (.guardRun (d := 219) rfl (by decide) rfl ?_))
 refine .val (Y.neq rfl rfl) (by decide) (.guardRun (d := 212) rfl (by decide) rfl (.val (Y.pick rfl rfl rfl) (by decide) ?_))
 refine .val (Y.pick rfl rfl rfl) (by decide) (.nil ?_)
 refine .condD rfl (fun c235 => ?_) (fun c235 => ?_)
 exact absurd (prn_d_at hN (by omega) (h45d.resolve_left (by omega))) c235
 refine .skip ?_
 exact ⟨false, false, true, decide ((((prn nM24 by26 sB26).data).getD n179_43 0) ≠ (number6_10.getD ((nM24.data.getD n179_43 0).toNat) 0)), .inr (.inr (.inl ⟨c196, c203, c219, c235, rfl, rfl, rfl, rfl⟩)), Le.mk (.c (.c (.c (.c (.c (.c (.c (.c (.c (.c (.c (.c (.cons (look_bool rfl (by first | rfl | simp_all)) (.cons (look_bool rfl (by first | rfl | simp_all)) (.c (.c (.c (.c (.c (.c (.cons (look_bool rfl (by first | rfl | simp_all)) (.cons (look_bool rfl (by first | rfl | simp_all)) (.nil))))))))))))))))))))))) (.nil)⟩
 refine .guardSkipV (d := 219) rfl (by decide) (by decide) rfl rfl (.guardSkipV (d := 219) rfl (by decide) (by decide) rfl rfl (.guardSkipV (d := 219) rfl (by decide) (by decide) rfl rfl ?_))
 refine .guardSkipV (d := 219) rfl (by decide) (by decide) rfl rfl (.guardSkipV (d := 219) rfl (by decide) (by decide) rfl rfl (.guardSkipV (d := 219) rfl (by decide) (by decide) rfl rfl ?_))
 refine .guardSkipV (d := 219) rfl (by decide) (by decide) rfl rfl (.guardSkipV (d := 219) rfl (by decide) (by decide) rfl rfl (.guardSkipV (d := 219) rfl (by decide) (by decide) rfl rfl ?_))
 refine .guardSkipV (d := 219) rfl (by decide) (by decide) rfl rfl (.guardSkipV (d := 219) rfl (by decide) (by decide) rfl rfl (.guardSkipV (d := 219) rfl (by decide) (by decide) rfl rfl ?_))
 refine .guardSkipV (d := 219) rfl (by decide) (by decide) rfl rfl (.guardSkipV (d := 219) rfl (by decide) (by decide) rfl rfl (.guardRun (d := 212) rfl (by decide) rfl ?_))
 refine .val (Y.pick rfl rfl rfl) (by decide) (.val (Y.pick rfl rfl rfl) (by decide) (.nil ?_))
 refine .condF rfl (.skip ?_)
 exact ⟨false, false, false, false, .inr (.inr (.inr (⟨c196, c203, c219, rfl, rfl, rfl, rfl⟩))), Le.mk (.c (.c (.c (.c (.c (.c (.c (.c (.c (.c (.c (.c (.cons (look_bool rfl (by first | rfl | simp_all)) (.cons (look_bool rfl (by first | rfl | simp_all)) (.c (.c (.c (.c (.c (.c (.cons (look_bool rfl (by first | rfl | simp_all)) (.cons (look_bool rfl (by first | rfl | simp_all)) (.nil))))))))))))))))))))))) (.nil)⟩
 refine .region ?_
 refine .vl (Y.addI rfl rfl (by omega)) ?_
 refine .mv ?_
 refine .nil ?_
 exact ⟨n179_43 + 1, by omega, by omega, Le.mk (.c (.c (.c (.c (.c (.cons (look_int rfl (by first | rfl | omega)) (.nil))))))) (.nil)⟩
 refine .exit (.seq ?_)
 have hfz := hf.freeze; have hdn := hf.done; unfold In at hfz hdn; have h48 : n71_21 = nM24.cells.length := by omega
 rw [h48] at hkk
 refine .regionHeld0 rfl (.blind 0 rfl (by kernel_rfl) (Blind.move rfl rfl) (by decide) (.blind 1 rfl (by kernel_rfl) (Blind.fieldAddr fl27_2 rfl rfl) (by decide) ?_))
 refine .load 2 rfl (by kernel_rfl) sh23 rfl rfl rfl rfl rfl (by decide) (.blind 3 rfl (by kernel_rfl) (Blind.len (n := ((prn nM24 by26 sB26).cells).length) sl23 rfl (congrArg some (List.length_map ..))) (by decide) (.blind 4 rfl (by kernel_rfl) (Blind.eql rfl rfl) (by decide) ?_))
 refine .blind 5 rfl (by kernel_rfl) (Blind.move rfl rfl) (by decide) ?_
 refine .splitD (d := 242) rfl (fun c242 => ?_) (fun c242 => ?_)
 refine .blindRun 6 rfl (by kernel_rfl) rfl (by decide) rfl (Blind.fieldAddr fl27_8 rfl rfl) (by decide) (.loadRun 7 rfl (by kernel_rfl) rfl (by decide) rfl sh3 rfl rfl rfl rfl rfl (by decide) (.blindRun 8 rfl (by kernel_rfl) rfl (by decide) rfl (Blind.move rfl rfl) (by decide) ?_))
 refine .blindRun 9 rfl (by kernel_rfl) rfl (by decide) rfl (Blind.fieldAddr fl27_8 rfl rfl) (by decide) (.loadRun 10 rfl (by kernel_rfl) rfl (by decide) rfl sh3 rfl rfl rfl rfl rfl (by decide) ?_)
 refine .blindRun 11 rfl (by kernel_rfl) rfl (by decide) rfl (Blind.indexF (m := (nM24.freeze).toNat) sl22 rfl rfl (by omega) (row_getD (d := 0) (by omega))) (by decide) ?_
 refine .loadRun 12 rfl (by kernel_rfl) rfl (by decide) rfl sh3 rfl rfl rfl rfl rfl (by decide) (.blindRun 13 rfl (by kernel_rfl) rfl (by decide) rfl (Blind.eql rfl rfl) (by decide) (.blind 14 rfl (by kernel_rfl) (Blind.pick rfl rfl rfl) (by decide) ?_))
 refine .blind 15 rfl (by kernel_rfl) (Blind.move rfl rfl) (by decide) ?_
 refine .splitD (d := 252) rfl (fun c252 => ?_) (fun c252 => ?_)
 refine .blindRun 16 rfl (by kernel_rfl) rfl (by decide) rfl (Blind.fieldAddr fl27_9 rfl rfl) (by decide) (.loadRun 17 rfl (by kernel_rfl) rfl (by decide) rfl sh3 rfl rfl rfl rfl rfl (by decide) (.blindRun 18 rfl (by kernel_rfl) rfl (by decide) rfl (Blind.move rfl rfl) (by decide) ?_))
 refine .blindRun 19 rfl (by kernel_rfl) rfl (by decide) rfl (Blind.fieldAddr fl27_9 rfl rfl) (by decide) (.loadRun 20 rfl (by kernel_rfl) rfl (by decide) rfl sh3 rfl rfl rfl rfl rfl (by decide) ?_)
 refine .blindRun 21 rfl (by kernel_rfl) rfl (by decide) rfl (Blind.indexF (m := (nM24.done).toNat) sl22 rfl rfl (by omega) (row_getD (d := 0) (by omega))) (by decide) ?_
 refine .loadRun 22 rfl (by kernel_rfl) rfl (by decide) rfl sh3 rfl rfl rfl rfl rfl (by decide) (.blindRun 23 rfl (by kernel_rfl) rfl (by decide) rfl (Blind.eql rfl rfl) (by decide) (.blind 24 rfl (by kernel_rfl) (Blind.pick rfl rfl rfl) (by decide) ?_))
 refine .blind 25 rfl (by kernel_rfl) (Blind.move rfl rfl) (by decide) ?_
 refine .splitD (d := 262) rfl (fun c262 => ?_) (fun c262 => ?_)
 refine .loadARun 26 rfl (by kernel_rfl) rfl (by decide) rfl sh27 rfl rfl rfl (nbE rfl) rfl rfl (by decide) (.loadARun 28 rfl (by kernel_rfl) rfl (by decide) rfl sh27 rfl rfl rfl (nbE rfl) rfl rfl (by decide) (.go0 ?_))
 refine .one 27 rfl (by kernel_rfl) (.guardRun (d := 262) rfl (by decide) rfl (.callV ok36 (prune_spec (n := (prn nM24 by26 sB26)) hV) rfl (.keep rfl rfl .nil) (by decide) ?_))
 rintro _ ⟨by264, rs264, sB264, hby264, hrs264, hsB264, rfl, _⟩
 refine ⟨rfl, ?_⟩
 refine .nil ⟨rfl, ?_⟩
 refine .one 29 rfl (by kernel_rfl) (.guardRun (d := 262) rfl (by decide) rfl (.callP ok24 (same_spec (a := (prn (prn nM24 by26 sB26) by264 sB264)) (b := (prn nM24 by26 sB26)) (prn_vp hV hby264 (keep_of hV.formed hby264 hrs264 hsB264)).small.lens hvl) rfl (.keep rfl rfl (.keep rfl rfl .nil)) (by decide) rfl ?_))
 refine .nil ⟨rfl, ?_⟩
 refine .one 30 rfl (by kernel_rfl) ?_
 refine .pk ?_
 refine .nil ⟨rfl, ?_⟩
 refine .one 31 rfl (by kernel_rfl) ?_
 refine .an ?_
 refine .nil ⟨rfl, ?_⟩
 refine .done (by kernel_rfl) (.ret ?_)
 exact .rb rfl (decide_eq_true (by rw [prn_id hV.formed hby264 (prn_all hf hby26 hrs26 hsB26 hrs264 hsB264)]; exact SameP.self _))
 exact absurd (num_at hN hf.done).symm c262
 exact absurd (num_at hN hf.freeze).symm c252
 exfalso; omega
end Go.Proofs.Ytligpghohcfpnaa
