/- Walks of slices.Backward, and through the specification of jX. -/
import Derived.Test.YtligpghohcfpnaaNetx0
import Derived.Test.YtligpghohcfpnaaNetx1
import Derived.Test.YtligpghohcfpnaaAWx2
set_option linter.unusedSimpArgs false
set_option linter.unusedVariables false
set_option linter.unusedSectionVars false
set_option maxRecDepth 4000
set_option maxHeartbeats 8000000
namespace Go.Proofs.Ytligpghohcfpnaa
open Go Go.AW Go.Proofs
theorem uJ {l : List Int} (hl : l.length ≤ 1000) : iO Try.prog 114 [.fp [.fz 1 (l.map ah)] 0] (pZ l) := by
 refine iO.of Try.func114 rfl rfl (n := 19) rfl (aH rfl) (fun yc ix mn => ?_) rfl
 refine aF.seq (aF.region ?_)
 refine .ld bh ?_
 refine .vl (Y.len (n := l.length) a7 rfl dG) (.vl (Y.iy rfl rfl bw) ?_)
 refine .an ?_
 refine .nil (aF.block ?_)
 refine aF.dT (fun (qm : Int) (wm : List (Int × Int)) => (wm, ⟨[(0, yc.v), (1, .fp [.fz 1 (l.map ah)] 0), (3, .v (.int .i64 qm))], []⟩)) (fun qm wm => (-1 ≤ qm ∧ qm < l.length) ∧ (wm = ix ++ rr l ((l.length : Int) - 1 - qm).toNat)) (fun qm wm => (qm + 1).toNat) ((l.length : Int) - 1) ix (⟨om, by simp [rr]⟩) (⟨rfl, Le.mk (.c2 (.cons (ak rfl b5) (.nil))) (.nil)⟩) (fun qm wm Ht => ?_)
 obtain ⟨hr, hx⟩ := Ht
 refine aF.seq (aF.seq (aF.region ?_))
 refine .mv ?_
 refine .vl (Y.geq rfl rfl) (.nil ?_)
 refine aF.aB rfl (fun c8 => ?_) (fun c8 => ?_)
 refine aF.skip (aF.seq (aF.block ?_))
 refine aF.seq (aF.lR (aQ.op ?_))
 refine .mv ?_
 refine .nil (aQ.op ?_)
 refine .mv ?_
 refine .nil (aQ.op ?_)
 refine .ld bh ?_
 refine .nil (aQ.op ?_)
 refine .mv ?_
 refine .nil (aQ.op ?_)
 refine .vl (Y.aK (m := (qm).toNat) a7 rfl rfl om (ax (d := 0) om)) ?_
 refine .nil (aQ.op ?_)
 refine .ld br ?_
 refine .nil (aQ.yield rfl rfl (mn _ (Cv om om)) ae (aQ.op ?_))
 refine .vl (Y.not rfl) (.nil (aQ.nil ?_))
 refine aF.cX rfl (aF.skip (aF.region ?_))
 refine .mv ?_
 refine .vl (Y.iy rfl rfl bw) ?_
 refine .an ?_
 refine .nil ?_
 exact ⟨qm - 1, wm ++ [(qm, l.getD ((qm).toNat) 0)], ⟨om, by rw [hx, vT om om, List.append_assoc]⟩, om, ⟨rfl, Le.mk (.c2 (.cons (ak rfl b5) (.nil))) (.nil)⟩⟩
 refine aF.exit ?_
 exact ⟨.inl rfl, by show wm = _; rw [hx, yi om]⟩
theorem rR {l : List Int} : az Try.prog 86 [.fz 1 (l.map ah)] [] [] (fun r o => r = .gl (.func 114) [] [.fp [.fz 1 (l.map ah)] 0] ∧ o = []) := by
 refine az.of Try.func86 rfl rfl rfl (n := 4) ae (aH rfl) (.sr (.box 101 rfl rfl rfl rfl rfl ae ?_))
 refine .an ?_
 refine .nil (.sr (.sh (Sh.dc 101 rfl rfl) ?_))
 refine .vl (Y.makeFunc rfl rfl rfl rfl) ?_
 refine .an ?_
 refine .nil (.ret ?_)
 exact ⟨_, _, rfl, rfl, rfl, rfl⟩
theorem rS {n : ab} {lo Ts : List Int} (hM : VT n) (hO : Ord n lo) (hT : Tl n Ts) : az Try.prog 49 [.agg (ab.row n)] [] [] (fun r o => r = .fz 1 (Ts.map ah) ∧ o = []) := by
 refine az.of Try.func49 rfl rfl rfl (n := 71) ae (aH rfl) ?_
 have hs := hM.small; have hf := hM.formed; have xW := hM.cK; have Cz := hM.cv; have o9 := hM.ir; have rE := hM.iW; have C5 := hM.bO; have Bh := hf.cP; have Du := hf.eY
 refine .sr (.box 101 rfl rfl rfl rfl rfl ae ?_)
 refine .an ?_
 refine .nil (.seq (.sh (Sh.dc 101 rfl rfl) ?_))
 refine .region (.vl (Y.aM eh rfl rfl (aH rfl) rfl rfl) (.kz LL (tw (n := n) hM) rfl (.ai rfl rfl .nil) ae ?_))
 rintro _ ⟨ni, Dz, rfl, _⟩
 refine ⟨rfl, ?_⟩
 refine .dU rfl ae (.sh (Sh.ed (d := 3) (n := ni.length) 103 (ni.map ah) rfl kq (bu rfl) ae) (.nil ?_))
 refine .seq (.seq ?_)
 have hle := Dz.len; have RG := hT.cl.len
 refine .region ?_
 refine .an ?_
 refine .nil (.block ?_)
 refine .dT (fun (n7 : Bool) (cM : List Int) => ⟨[(1, .fp (ab.row n) 0), (3, .aY 103 1 0 ni.length), (4, .v (.bool n7))], [(103, .rows 1 (cM.map ah))]⟩) (fun n7 cM => (cM.length = ni.length) ∧ (EO n Ts cM) ∧ (n7 = false → cM = Ts)) (fun n7 cM => Dp Ts cM + (if n7 then 1 else 0)) true ni (⟨om, Dz.tK hT, fun h => by cases h⟩) (Le.mk (.c2 (.cons (aI rfl gF) (.nil))) (.c (.nil))) (fun n7 cM tq => ?_)
 obtain ⟨nc, Q6, Q7⟩ := tq
 refine .seq (.sr ?_)
 refine .mv ?_
 refine .nil ?_
 refine .cond rfl (fun Dq => ?_) (fun Dq => ?_)
 refine .skip (.block (.sr ?_))
 refine .an ?_
 refine .nil (.sr ?_)
 refine .an ?_
 refine .nil (.block ?_)
 refine .iT (fun (j0 : Bool) (cS : Nat) (gh : List Int) => ⟨[(1, .fp (ab.row n) 0), (3, .aY 103 1 0 ni.length), (4, .v (.bool j0)), (5, vi cS)], [(103, .rows 1 (gh.map ah))]⟩) (fun j0 cS gh => (gh.length = ni.length) ∧ ((cS : Int) ≤ (n.cells.length : Int)) ∧ (TR n Ts cM cS j0 gh)) (fun j0 cS gh => ((n.cells.length : Int) - (cS : Int)).toNat) false 0 cM (⟨om, om, TR.init Q6⟩) (Le.mk (.c2 (.cons (aI rfl gF) (.cons (ak rfl b5) (.nil)))) (.c (.nil))) (fun j0 cS gh Fu => ?_)
 obtain ⟨nc, MF, hR⟩ := Fu
 refine .seq (.sr ?_)
 refine .mv ?_
 refine .fa cb ?_
 refine .ld fD ?_
 refine .vl (Y.len (n := n.cells.length) dD rfl dG) (.vl (Y.lss rfl rfl) (.nil ?_))
 refine .aB rfl (fun uD => ?_) (fun uD => ?_)
 refine .skip ?_
 refine .mQ (fun (nj : Bool) (fY : List Int) => ⟨[(1, .fp (ab.row n) 0), (3, .aY 103 1 0 ni.length), (4, .v (.bool nj)), (5, vi cS)], [(103, .rows 1 (fY.map ah))]⟩) (fun nj fY => (fY.length = ni.length) ∧ (TR n Ts cM (cS + 1) nj fY)) ?_ (fun nj fY Fv => ?_)
 refine .block (.sr ?_)
 refine .fa cb ?_
 refine .ld fD ?_
 refine .mv ?_
 refine .vl (Y.aK (m := cS) dD rfl rfl b5 (ax (d := default) om)) ?_
 refine .vl (Y.aM eb rfl rfl (aH rfl) rfl rfl) (.alloc 106 dN rfl rfl ae (.aj eI rfl rfl rfl rfl rfl rfl (aH rfl) rfl ?_))
 refine .nil (.seq (.seq ?_))
 have h9 := hf.cells cS om; have RH := o9 (n.cells.getD cS default) (getD_in om); have Bi := hR.tK.len
 refine .region ?_
 refine .fa cL ?_
 refine .ld br ?_
 refine .aP Ez (lM (w := ((n.cells.getD cS default).kind))) rfl (.ai rfl rfl .nil) ae rfl (.vl (Y.not rfl) ?_)
 refine .mv ?_
 refine .split (d := 28) rfl (fun wb => ?_) (fun wb => ?_)
 replace wb : ¬ (b7 ((n.cells.getD cS default).kind)) := by simpa using wb
 refine .gz 28 (.gz 28 (.gz 28 ?_))
 refine .gz 28 (.gz 28 (.gz 28 ?_))
 refine .pk ?_
 refine .nil (.aV rfl (.exit ?_))
 exact ⟨j0, gh, ⟨om, hR.pass (.inl wb)⟩, Le.mk (.c2 (.cons (aI rfl gF) (.c (.nil)))) (.c (.nil))⟩
 replace wb : b7 ((n.cells.getD cS default).kind) := by simpa using wb
 have wo := h9.2.2.2 (fun e => by rw [e] at wb; revert wb; unfold b7; omega); have MG := wo; unfold In at MG
 refine .gw 28 (Y.move rfl rfl) (.gw 28 (Y.fieldAddr dx rfl rfl) (.gw 28 (Y.load br rfl rfl rfl rfl) ?_))
 refine .gw 28 (Y.bc (m := ((n.cells.getD cS default).out).toNat) a7 rfl rfl om om) (.gw 28 (Y.load br rfl (a8 (d := 0) om) rfl rfl) (.gw 28 (Y.lss rfl rfl) ?_))
 refine .pk ?_
 refine .nil ?_
 refine .aB rfl (fun ru => ?_) (fun ru => ?_)
 refine .exit ?_
 exact ⟨j0, gh, ⟨om, hR.pass (.inr ru)⟩, Le.mk (.c2 (.cons (aI rfl gF) (.c (.nil)))) (.c (.nil))⟩
 refine .skip (.sr ?_)
 refine .an ?_
 refine .nil (.block ?_)
 refine .iT (fun (iZ : Bool) (iu : Nat) (dm : List Int) => ⟨[(1, .fp (ab.row n) 0), (3, .aY 103 1 0 ni.length), (4, .v (.bool iZ)), (5, vi cS), (6, .ptr 106 0 0 0), (7, vi iu), (29, .aY 103 1 0 ni.length), (30, .ptr 106 0 0 2), (31, vi ((n.cells.getD cS default).out)), (32, .ptr 103 1 (0 + (((n.cells.getD cS default).out).toNat)) 0), (33, vi (gh.getD (((n.cells.getD cS default).out).toNat) 0)), (34, .v (.bool (decide ((gh.getD (((n.cells.getD cS default).out).toNat) 0) < 0))))], [(103, .rows 1 (dm.map ah)), (106, .cells [vi ((n.cells.getD cS default).kind), vi ((n.cells.getD cS default).op), vi ((n.cells.getD cS default).out), .fz 1 (((n.cells.getD cS default).args).map ah), .v (.int .u64 (((n.cells.getD cS default).num : Nat) : Int)), vi ((n.cells.getD cS default).mem)])]⟩) (fun iZ iu dm => (dm.length = ni.length) ∧ ((iu : Int) ≤ ((((n.cells.getD cS default).args).length : Nat) : Int)) ∧ (TI n Ts cM cS iu iZ dm)) (fun iZ iu dm => (((((n.cells.getD cS default).args).length : Nat) : Int) - (iu : Int)).toNat) j0 0 gh (⟨om, om, TI.init hR ru⟩) (Le.mk (.c2 (.cons (aI rfl gF) (.c2 (.cons (ak rfl b5) (.c4 (.c2 (.nil))))))) (.c2 (.nil))) (fun iZ iu dm wa => ?_)
 obtain ⟨nc, Mx, hI⟩ := wa
 refine .seq (.sr ?_)
 refine .mv ?_
 refine .fa bF ?_
 refine .ld bh ?_
 refine .vl (Y.len (n := ((n.cells.getD cS default).args).length) a7 rfl dG) (.vl (Y.lss rfl rfl) (.nil ?_))
 refine .aB rfl (fun Fw => ?_) (fun Fw => ?_)
 have Q8 := h9.1 ((n.cells.getD cS default).args.getD iu 0) (bm om); unfold In at Q8; have uY := hM.e6 (i := cS) om; have hb := hI.tr.tK.lo (n.cells.getD cS default).out wo; have Bn := hT.le hM hO wo
 refine .skip ?_
 refine .mQ (fun (lr : Bool) (lu : List Int) => ⟨[(1, .fp (ab.row n) 0), (3, .aY 103 1 0 ni.length), (4, .v (.bool lr)), (5, vi cS), (6, .ptr 106 0 0 0), (7, vi iu), (29, .aY 103 1 0 ni.length), (30, .ptr 106 0 0 2), (31, vi ((n.cells.getD cS default).out)), (32, .ptr 103 1 (0 + (((n.cells.getD cS default).out).toNat)) 0), (33, vi (gh.getD (((n.cells.getD cS default).out).toNat) 0)), (34, .v (.bool (decide ((gh.getD (((n.cells.getD cS default).out).toNat) 0) < 0))))], [(103, .rows 1 (lu.map ah)), (106, .cells [vi ((n.cells.getD cS default).kind), vi ((n.cells.getD cS default).op), vi ((n.cells.getD cS default).out), .fz 1 (((n.cells.getD cS default).args).map ah), .v (.int .u64 (((n.cells.getD cS default).num : Nat) : Int)), vi ((n.cells.getD cS default).mem)])]⟩) (fun lr lu => (lu.length = ni.length) ∧ (TI n Ts cM cS (iu + 1) lr lu)) ?_ (fun lr lu Jn => ?_)
 refine .block (.seq ?_)
 refine .fN [106] [103, 106] (⟨[(1, .fp (ab.row n) 0), (3, .aY 103 1 0 ni.length), (4, .v (.bool iZ)), (5, .v (.int .i64 (cS : Int))), (6, .ptr 106 0 0 0), (7, .v (.int .i64 (iu : Int))), (8, .v (.int .i64 ((dm.getD (((n.cells.getD cS default).out).toNat) 0) + (e6 n (n.cells.getD cS default))))), (29, .aY 103 1 0 ni.length), (30, .ptr 106 0 0 2), (31, .v (.int .i64 ((n.cells.getD cS default).out))), (32, .ptr 103 1 (0 + (((n.cells.getD cS default).out).toNat)) 0), (33, .v (.int .i64 (gh.getD (((n.cells.getD cS default).out).toNat) 0))), (34, .v (.bool (decide ((gh.getD (((n.cells.getD cS default).out).toNat) 0) < 0))))], [(103, .rows 1 (dm.map ah)), (106, .cells [.v (.int .i64 ((n.cells.getD cS default).kind)), .v (.int .i64 ((n.cells.getD cS default).op)), .v (.int .i64 ((n.cells.getD cS default).out)), .fz 1 (((n.cells.getD cS default).args).map ah), .v (.int .u64 (((n.cells.getD cS default).num : Nat) : Int)), .v (.int .i64 ((n.cells.getD cS default).mem))])]⟩) rfl ?_ ?_
 refine .blind 0 rfl aq (ao.move rfl rfl) ae (.blind 1 rfl aq (ao.fieldAddr dx rfl rfl) ae (.load 2 rfl aq br rfl rfl rfl rfl rfl ae ?_))
 refine .blind 3 rfl aq (ao.bc (m := ((n.cells.getD cS default).out).toNat) a7 rfl rfl om om) ae ?_
 refine .aM 5 rfl aq eh rfl rfl rfl (aH rfl) rfl rfl ae (.aM 6 rfl aq eb rfl rfl rfl (aH rfl) rfl rfl ae (.yn rfl rfl (bV.cells rfl rfl rfl bV.nil) ?_))
 refine .two 4 7 rfl rfl aq ?_ ?_
 refine .vl (Y.load br rfl (a8 (d := 0) om) rfl rfl) ?_
 refine .nil ⟨rfl, ?_⟩
 refine .one 7 rfl aq (.aP Ca (iL (n := n) (c := (n.cells.getD cS default)) hf.mY (hf.cells _ om) (o9 _ (getD_in om))) rfl (.ai rfl rfl (.ai rfl rfl .nil)) ae rfl ?_)
 refine .nil ⟨rfl, ?_⟩
 refine .one 8 rfl aq (.vl (Y.aT rfl rfl bw) ?_)
 refine .nil ⟨rfl, ?_⟩
 refine .one 9 rfl aq ?_
 refine .an ?_
 refine .nil ⟨rfl, ?_⟩
 refine .done aq ?_
 exact Le.mk (.c8 (.c4 (.c (.nil)))) (.c2 (.nil))
 refine .aP Ca (iL (n := n) (c := (n.cells.getD cS default)) hf.mY (hf.cells _ om) (o9 _ (getD_in om))) rfl (.ai rfl rfl (.ai rfl rfl .nil)) ae rfl ?_
 refine .nil ⟨rfl, ?_⟩
 refine .one 4 rfl aq (.vl (Y.load br rfl (a8 (d := 0) om) rfl rfl) ?_)
 refine .nil ⟨rfl, ?_⟩
 refine .one 8 rfl aq (.vl (Y.aT rfl rfl bw) ?_)
 refine .nil ⟨rfl, ?_⟩
 refine .one 9 rfl aq ?_
 refine .an ?_
 refine .nil ⟨rfl, ?_⟩
 refine .done aq ?_
 exact Le.mk (.c8 (.c4 (.c (.nil)))) (.c2 (.nil))
 refine .sr ?_
 refine .mv ?_
 refine .mv ?_
 refine .fa bF ?_
 refine .ld bh ?_
 refine .mv ?_
 refine .vl (Y.aK (m := iu) a7 rfl rfl b5 (ax (d := 0) om)) ?_
 refine .ld br ?_
 refine .vl (Y.bc (m := (((n.cells.getD cS default).args).getD iu 0).toNat) a7 rfl rfl om om) (.vl (Y.load br rfl (a8 (d := 0) om) rfl rfl) ?_)
 refine .vl (Y.gtr rfl rfl) (.nil ?_)
 refine .aB rfl (fun MH => ?_) (fun MH => ?_)
 refine .sr ?_
 refine .mv ?_
 refine .fa bF ?_
 refine .ld bh ?_
 refine .mv ?_
 refine .vl (Y.aK (m := iu) a7 rfl rfl b5 (ax (d := 0) om)) ?_
 refine .ld br ?_
 refine .mv ?_
 refine .vl (Y.bc (m := (((n.cells.getD cS default).args).getD iu 0).toNat) a7 rfl rfl om om) (.dB ((dm.set ((((n.cells.getD cS default).args).getD iu 0).toNat) ((dm.getD (((n.cells.getD cS default).out).toNat) 0) + (e6 n (n.cells.getD cS default)))).map ah) e8 rfl rfl rfl rfl rfl rfl rfl (a8 (d := 0) om) (aH rfl) (cp rfl) ?_)
 refine .nil (.region ?_)
 refine .an ?_
 refine .nil ?_
 exact ⟨true, dm.set ((((n.cells.getD cS default).args).getD iu 0).toNat) ((dm.getD (((n.cells.getD cS default).out).toNat) 0) + (e6 n (n.cells.getD cS default))), ⟨ou, hI.set hM hT om wb om MH⟩, Le.mk (.c2 (.cons (aI rfl gF) (.c8 (.c (.nil))))) (.c2 (.nil))⟩
 refine .skip ?_
 exact ⟨iZ, dm, ⟨om, hI.ai om MH⟩, Le.mk (.c2 (.cons (aI rfl gF) (.c8 (.c (.nil))))) (.c2 (.nil))⟩
 obtain ⟨Gz, MI⟩ := Jn
 refine .region ?_
 refine .mv ?_
 refine .vl (Y.aT rfl rfl bw) ?_
 refine .an ?_
 refine .nil ?_
 exact ⟨lr, iu + 1, lu, ⟨om, om, MI⟩, om, Le.mk (.c2 (.cons (aI rfl gF) (.c2 (.cons (ak rfl b5) (.c4 (.c2 (.nil))))))) (.c2 (.nil))⟩
 refine .exit ?_
 exact ⟨iZ, dm, ⟨om, hI.done om⟩, Le.mk (.c2 (.cons (aI rfl gF) (.c (.nil)))) (.c (.nil))⟩
 obtain ⟨Av, EP⟩ := Fv
 refine .region ?_
 refine .mv ?_
 refine .vl (Y.aT rfl rfl bw) ?_
 refine .an ?_
 refine .nil ?_
 exact ⟨nj, cS + 1, fY, ⟨om, om, EP⟩, om, Le.mk (.c2 (.cons (aI rfl gF) (.cons (ak rfl b5) (.nil)))) (.c (.nil))⟩
 refine .exit ?_
 exact ⟨j0, gh, ⟨om, hR.tK, fun hm => by subst hm; exact hR.eq hf hO hT om⟩, by have h := hR.AZ; rw [if_pos Dq]; omega, Le.mk (.c2 (.cons (aI rfl gF) (.nil))) (.c (.nil))⟩
 refine .exit (.sr ?_)
 refine .mv ?_
 refine .an ?_
 refine .sh (Sh.ji (d := 2) (o := 103) rfl rfl (bu om) ae) ?_
 refine .nil (.sh (Sh.dF (d := 2) (cM.map ah) rfl kq (da.map aD)) (.ret ?_))
 exact ⟨_, _, rfl, rfl, by rw [Q7 (by simpa using Dq)]; rfl, rfl⟩
end Go.Proofs.Ytligpghohcfpnaa
/- Walks through delays. -/
namespace Go.Proofs.Ytligpghohcfpnaa
open Go Go.AW Go.Proofs
theorem wq {x : Int} (h0 : 0 ≤ x) (h1 : x < 256) : az Try.prog 129 [.v (.int .u64 x)] [] [] (fun r o => r = (vi ((eR (x.toNat + 1) : Nat) : Int)) ∧ o = []) := by
 refine az.of Try.func129 rfl rfl rfl (n := 25) ae (aH rfl) ?_
 have RI := xU
 refine .sr ?_
 refine .an ?_
 refine .nil (.seq (.sr ?_))
 refine .mv ?_
 refine .vl (Y.geq rfl rfl) (.nil ?_)
 refine .aB rfl (fun c4 => ?_) (fun c4 => ?_)
 exfalso; omega
 refine .skip (.seq (.sr ?_))
 refine .mv ?_
 refine .vl (Y.geq rfl rfl) (.nil ?_)
 refine .aB rfl (fun c8 => ?_) (fun c8 => ?_)
 exfalso; omega
 refine .skip (.seq (.sr ?_))
 refine .mv ?_
 refine .vl (Y.geq rfl rfl) (.nil ?_)
 refine .aB rfl (fun Jm => ?_) (fun Jm => ?_)
 exfalso; omega
 refine .skip (.sr ?_)
 have xn := zt zQ x.toNat
 refine .mv ?_
 refine .mv ?_
 refine .vl (Y.fo xH sY rfl (by first | rfl | exact IntWalk.u8_in _ om)) (.vl (Y.wQ (b := zQ) (m := (x).toNat) JU rfl rfl om om) (.vl (Y.fo sY py rfl v3) (.vl (Y.aT rfl rfl bw) ?_)))
 refine .an ?_
 refine .nil (.ret ?_)
 exact .ri rfl (by rw [Cp om]; omega)
theorem Aw {x : Int} (h0 : 0 ≤ x) (h1 : x < 256) : az Try.prog 109 [.v (.int .u64 x)] [] [] (fun r o => r = (vi ((eR (x.toNat + 1) : Nat) : Int)) ∧ o = []) := by
 refine az.of Try.func109 rfl rfl rfl (n := 8) ae (aH rfl) (.sr ?_)
 refine .an ?_
 refine .nil (.seq (.cX rfl ?_))
 refine .skip (.sr ?_)
 refine .mv ?_
 refine .aP Io (wq (x := x) (om) (om)) rfl (.ai rfl rfl .nil) ae rfl ?_
 refine .an ?_
 refine .nil (.ret ?_)
 exact .ri rfl (rfl)
theorem nk {x : Int} (h0 : 0 ≤ x) (h1 : x ≤ 256) : az Try.prog 76 [vi x] [] [] (fun r o => r = (vi ((eR x.toNat : Nat) : Int)) ∧ o = []) := by
 refine az.of Try.func76 rfl rfl rfl (n := 9) ae (aH rfl) (.sr ?_)
 refine .an ?_
 refine .nil (.seq (.sr ?_))
 refine .mv ?_
 refine .vl (Y.lss rfl rfl) (.nil ?_)
 refine .aB rfl (fun c4 => ?_) (fun c4 => ?_)
 refine .sr ?_
 refine .an ?_
 refine .nil (.ret ?_)
 exact .ri rfl (by unfold eR; rw [if_pos om]; rfl)
 refine .skip (.sr ?_)
 refine .mv ?_
 refine .vl (Y.iy rfl rfl bw) (.vl (Y.conv py HX rfl (si _ om)) (.aP Ig (Aw (x := (((x - 1).toNat : Nat) : Int)) (om) (om)) rfl (.ai rfl rfl .nil) ae rfl ?_))
 refine .an ?_
 refine .nil (.ret ?_)
 exact .ri rfl (by rw [show ((((x - 1).toNat : Nat) : Int).toNat + 1) = x.toNat by omega])
end Go.Proofs.Ytligpghohcfpnaa
/- The walk of library.Of. -/
namespace Go.Proofs.Ytligpghohcfpnaa
open Go Go.AW Go.Proofs
theorem CG {op x : Int} (hp : Plain op) (h0 : 1 ≤ x) (h1 : x ≤ 64) : az Try.prog 75 [vi op, vi x] [] [] (fun r o => ∃ c : Int, r = .tup [.agg [vi 0, vi x, vi (aN op x.toNat), vi 0, vi 0, vi c], vi 0] ∧ o = []) := by
 refine az.of Try.func75 rfl rfl rfl (n := 184) ae (aH rfl) ?_
 have ER := hp; unfold Plain Gg Seq Unary at ER; have yD := p6 (n := x.toNat) om; have ES := p6 (n := (x + 1).toNat) om; have hle : (x + 1).toNat = x.toNat + 1 := om; have LZ := qx h0 h1 yD; have Ma := qx h0 h1 ES
 refine .sr (.alloc 104 jt rfl rfl ae ?_)
 refine .an ?_
 refine .nil (.seq (.sr ?_))
 refine .mv ?_
 refine .vl (Y.leq rfl rfl) ?_
 refine .mv ?_
 refine .aE (d := 12) rfl (fun Fh => ?_) (fun Fh => ?_)
 refine .gz 12 (.gz 12 ?_)
 refine .pk ?_
 refine .nil (.aV rfl (.sr ?_))
 refine .vl (Y.build mX jt rfl rfl rfl) (.aj cJ rfl rfl rfl rfl rfl rfl (aH rfl) rfl ?_)
 refine .an ?_
 refine .nil (.ret ?_)
 first | (exfalso; omega) | exact ⟨_, _, rfl, rfl, 0, by rw [show aN op x.toNat = 0 by (try rw [hle]); unfold aN; (repeat' split) <;> omega]; rfl, rfl⟩
 refine .gw 12 (Y.move rfl rfl) (.gw 12 (Y.geq rfl rfl) ?_)
 refine .pk ?_
 refine .nil ?_
 refine .aB rfl (fun rG => ?_) (fun rG => ?_)
 refine .sr (.vl (Y.build mX jt rfl rfl rfl) (.aj cJ rfl rfl rfl rfl rfl rfl (aH rfl) rfl ?_))
 refine .an ?_
 refine .nil (.ret ?_)
 first | (exfalso; omega) | exact ⟨_, _, rfl, rfl, 0, by rw [show aN op x.toNat = 0 by (try rw [hle]); unfold aN; (repeat' split) <;> omega]; rfl, rfl⟩
 refine .skip (.seq (.sr ?_))
 refine .mv ?_
 refine .vl (Y.lss rfl rfl) ?_
 refine .mv ?_
 refine .aE (d := 19) rfl (fun s0 => ?_) (fun s0 => ?_)
 refine .gz 19 (.gz 19 ?_)
 refine .pk ?_
 refine .nil (.aV rfl (.sr ?_))
 refine .vl (Y.build mX jt rfl rfl rfl) (.aj cJ rfl rfl rfl rfl rfl rfl (aH rfl) rfl ?_)
 refine .an ?_
 refine .nil (.ret ?_)
 first | (exfalso; omega) | exact ⟨_, _, rfl, rfl, 0, by rw [show aN op x.toNat = 0 by (try rw [hle]); unfold aN; (repeat' split) <;> omega]; rfl, rfl⟩
 refine .gw 19 (Y.move rfl rfl) (.gw 19 (Y.gtr rfl rfl) ?_)
 refine .pk ?_
 refine .nil ?_
 refine .aB rfl (fun my => ?_) (fun my => ?_)
 refine .sr (.vl (Y.build mX jt rfl rfl rfl) (.aj cJ rfl rfl rfl rfl rfl rfl (aH rfl) rfl ?_))
 refine .an ?_
 refine .nil (.ret ?_)
 first | (exfalso; omega) | exact ⟨_, _, rfl, rfl, 0, by rw [show aN op x.toNat = 0 by (try rw [hle]); unfold aN; (repeat' split) <;> omega]; rfl, rfl⟩
 refine .skip (.sr ?_)
 refine .mv ?_
 refine .mv ?_
 refine .aP E5 (nk (x := x) (om) (om)) rfl (.ai rfl rfl .nil) ae rfl ?_
 refine .mv ?_
 refine .vl (Y.aT rfl rfl bw) (.aP E5 (nk (x := (x + 1)) (om) (om)) rfl (.ai rfl rfl .nil) ae rfl ?_)
 refine .an ?_
 refine .an ?_
 refine .an ?_
 refine .nil (.sr ?_)
 refine .mv ?_
 refine .vl (Y.build mX jt rfl rfl rfl) (.alloc 109 jt rfl rfl ae (.aj cJ rfl rfl rfl rfl rfl rfl (aH rfl) rfl ?_))
 refine .nil (.seq (.sr ?_))
 refine .mv ?_
 refine .nil (.block (.seq ?_))
 refine .sr (.vl (Y.eql rfl rfl) ?_)
 refine .an ?_
 refine .nil ?_
 refine .bD rfl (fun Fx => ?_) (fun Fx => ?_)
 refine .skip (.aV rfl (.region ?_))
 refine .mv ?_
 refine .fa eH ?_
 refine .aj e8 rfl rfl rfl rfl rfl rfl (aH rfl) rfl ?_
 refine .fa dW ?_
 refine .aj e8 rfl rfl rfl rfl rfl rfl (aH rfl) rfl (.nil (.sr ?_))
 refine .vl (Y.aM gq rfl rfl (aH rfl) rfl rfl) (.aj cJ rfl rfl rfl rfl rfl rfl (aH rfl) rfl ?_)
 refine .an ?_
 refine .nil (.ret ?_)
 first | (exfalso; omega) | exact ⟨_, _, rfl, rfl, x, by rw [show aN op x.toNat = 20 by (try rw [hle]); unfold aN; (repeat' split) <;> omega]; rfl, rfl⟩
 refine .sr (.vl (Y.eql rfl rfl) ?_)
 refine .an ?_
 refine .nil ?_
 refine .bD rfl (fun Fx => ?_) (fun Fx => ?_)
 refine .skip (.aV rfl (.region ?_))
 refine .mv ?_
 refine .fa eH ?_
 refine .aj e8 rfl rfl rfl rfl rfl rfl (aH rfl) rfl ?_
 refine .fa dW ?_
 refine .aj e8 rfl rfl rfl rfl rfl rfl (aH rfl) rfl (.nil (.sr ?_))
 refine .vl (Y.aM gq rfl rfl (aH rfl) rfl rfl) (.aj cJ rfl rfl rfl rfl rfl rfl (aH rfl) rfl ?_)
 refine .an ?_
 refine .nil (.ret ?_)
 first | (exfalso; omega) | exact ⟨_, _, rfl, rfl, x, by rw [show aN op x.toNat = 20 by (try rw [hle]); unfold aN; (repeat' split) <;> omega]; rfl, rfl⟩
 refine .region (.vl (Y.eql rfl rfl) ?_)
 refine .an ?_
 refine .nil ?_
 refine .bD rfl (fun Fx => ?_) (fun Fx => ?_)
 refine .region ?_
 refine .mv ?_
 refine .fa eH ?_
 refine .aj e8 rfl rfl rfl rfl rfl rfl (aH rfl) rfl ?_
 refine .fa dW ?_
 refine .aj e8 rfl rfl rfl rfl rfl rfl (aH rfl) rfl (.nil (.sr ?_))
 refine .vl (Y.aM gq rfl rfl (aH rfl) rfl rfl) (.aj cJ rfl rfl rfl rfl rfl rfl (aH rfl) rfl ?_)
 refine .an ?_
 refine .nil (.ret ?_)
 first | (exfalso; omega) | exact ⟨_, _, rfl, rfl, x, by rw [show aN op x.toNat = 20 by (try rw [hle]); unfold aN; (repeat' split) <;> omega]; rfl, rfl⟩
 refine .sr (.vl (Y.eql rfl rfl) ?_)
 refine .an ?_
 refine .nil ?_
 refine .aB rfl (fun Fw => ?_) (fun Fw => ?_)
 refine .region ?_
 refine .mv ?_
 refine .vl (Y.bJ rfl rfl om) (.vl (Y.aT rfl rfl bw) ?_)
 refine .mv ?_
 refine .vl (Y.bJ rfl rfl om) ?_
 refine .mv ?_
 refine .vl (Y.bJ rfl rfl om) ?_
 refine .mv ?_
 refine .vl (Y.bJ rfl rfl om) (.vl (Y.aT rfl rfl bw) ?_)
 refine .fa eH ?_
 refine .aj e8 rfl rfl rfl rfl rfl rfl (aH rfl) rfl ?_
 refine .fa dW ?_
 refine .aj e8 rfl rfl rfl rfl rfl rfl (aH rfl) rfl (.nil (.sr ?_))
 refine .vl (Y.aM gq rfl rfl (aH rfl) rfl rfl) (.aj cJ rfl rfl rfl rfl rfl rfl (aH rfl) rfl ?_)
 refine .an ?_
 refine .nil (.ret ?_)
 first | (exfalso; omega) | exact ⟨_, _, rfl, rfl, (3 * x) + ((3 * x) * ((eR x.toNat : Nat) : Int)), by rw [show aN op x.toNat = 40 + (40 * ((eR x.toNat : Nat) : Int)) by (try rw [hle]); unfold aN; (repeat' split) <;> omega]; rfl, rfl⟩
 refine .sr (.vl (Y.eql rfl rfl) ?_)
 refine .an ?_
 refine .nil ?_
 refine .aB rfl (fun DA => ?_) (fun DA => ?_)
 refine .region ?_
 refine .mv ?_
 refine .vl (Y.bJ rfl rfl om) (.vl (Y.aT rfl rfl bw) ?_)
 refine .mv ?_
 refine .vl (Y.bJ rfl rfl om) ?_
 refine .mv ?_
 refine .vl (Y.bJ rfl rfl om) ?_
 refine .mv ?_
 refine .vl (Y.bJ rfl rfl om) (.vl (Y.aT rfl rfl bw) ?_)
 refine .fa eH ?_
 refine .aj e8 rfl rfl rfl rfl rfl rfl (aH rfl) rfl ?_
 refine .fa dW ?_
 refine .aj e8 rfl rfl rfl rfl rfl rfl (aH rfl) rfl (.nil (.sr ?_))
 refine .vl (Y.aM gq rfl rfl (aH rfl) rfl rfl) (.aj cJ rfl rfl rfl rfl rfl rfl (aH rfl) rfl ?_)
 refine .an ?_
 refine .nil (.ret ?_)
 first | (exfalso; omega) | exact ⟨_, _, rfl, rfl, (4 * x) + ((3 * x) * ((eR x.toNat : Nat) : Int)), by rw [show aN op x.toNat = 50 + (40 * ((eR x.toNat : Nat) : Int)) by (try rw [hle]); unfold aN; (repeat' split) <;> omega]; rfl, rfl⟩
 refine .seq (.sr (.vl (Y.eql rfl rfl) ?_))
 refine .an ?_
 refine .nil ?_
 refine .bD rfl (fun GA => ?_) (fun GA => ?_)
 refine .skip (.aV rfl (.region ?_))
 refine .mv ?_
 refine .vl (Y.bJ rfl rfl om) (.vl (Y.aT rfl rfl bw) ?_)
 refine .mv ?_
 refine .vl (Y.bJ rfl rfl om) ?_
 refine .fa eH ?_
 refine .aj e8 rfl rfl rfl rfl rfl rfl (aH rfl) rfl ?_
 refine .fa dW ?_
 refine .aj e8 rfl rfl rfl rfl rfl rfl (aH rfl) rfl (.nil (.sr ?_))
 refine .vl (Y.aM gq rfl rfl (aH rfl) rfl rfl) (.aj cJ rfl rfl rfl rfl rfl rfl (aH rfl) rfl ?_)
 refine .an ?_
 refine .nil (.ret ?_)
 first | (exfalso; omega) | exact ⟨_, _, rfl, rfl, 2 * x, by rw [show aN op x.toNat = 30 + (20 * ((eR x.toNat : Nat) : Int)) by (try rw [hle]); unfold aN; (repeat' split) <;> omega]; rfl, rfl⟩
 refine .region (.vl (Y.eql rfl rfl) ?_)
 refine .an ?_
 refine .nil ?_
 refine .bD rfl (fun GA => ?_) (fun GA => ?_)
 refine .region ?_
 refine .mv ?_
 refine .vl (Y.bJ rfl rfl om) (.vl (Y.aT rfl rfl bw) ?_)
 refine .mv ?_
 refine .vl (Y.bJ rfl rfl om) ?_
 refine .fa eH ?_
 refine .aj e8 rfl rfl rfl rfl rfl rfl (aH rfl) rfl ?_
 refine .fa dW ?_
 refine .aj e8 rfl rfl rfl rfl rfl rfl (aH rfl) rfl (.nil (.sr ?_))
 refine .vl (Y.aM gq rfl rfl (aH rfl) rfl rfl) (.aj cJ rfl rfl rfl rfl rfl rfl (aH rfl) rfl ?_)
 refine .an ?_
 refine .nil (.ret ?_)
 first | (exfalso; omega) | exact ⟨_, _, rfl, rfl, 2 * x, by rw [show aN op x.toNat = 30 + (20 * ((eR x.toNat : Nat) : Int)) by (try rw [hle]); unfold aN; (repeat' split) <;> omega]; rfl, rfl⟩
 refine .seq (.sr (.vl (Y.eql rfl rfl) ?_))
 refine .an ?_
 refine .nil ?_
 refine .bD rfl (fun C6 => ?_) (fun C6 => ?_)
 refine .skip (.aV rfl (.region ?_))
 refine .mv ?_
 refine .vl (Y.bJ rfl rfl om) (.vl (Y.aT rfl rfl bw) ?_)
 refine .mv ?_
 refine .vl (Y.bJ rfl rfl om) ?_
 refine .mv ?_
 refine .vl (Y.bJ rfl rfl om) ?_
 refine .mv ?_
 refine .vl (Y.bJ rfl rfl om) (.vl (Y.aT rfl rfl bw) ?_)
 refine .fa eH ?_
 refine .aj e8 rfl rfl rfl rfl rfl rfl (aH rfl) rfl ?_
 refine .fa dW ?_
 refine .aj e8 rfl rfl rfl rfl rfl rfl (aH rfl) rfl (.nil (.sr ?_))
 refine .vl (Y.aM gq rfl rfl (aH rfl) rfl rfl) (.aj cJ rfl rfl rfl rfl rfl rfl (aH rfl) rfl ?_)
 refine .an ?_
 refine .nil (.ret ?_)
 first | (exfalso; omega) | exact ⟨_, _, rfl, rfl, (4 * x) + ((3 * x) * ((eR (x + 1).toNat : Nat) : Int)), by rw [show aN op x.toNat = 40 + (40 * ((eR (x + 1).toNat : Nat) : Int)) by (try rw [hle]); unfold aN; (repeat' split) <;> omega]; rfl, rfl⟩
 refine .region (.vl (Y.eql rfl rfl) ?_)
 refine .an ?_
 refine .nil ?_
 refine .bD rfl (fun C6 => ?_) (fun C6 => ?_)
 refine .region ?_
 refine .mv ?_
 refine .vl (Y.bJ rfl rfl om) (.vl (Y.aT rfl rfl bw) ?_)
 refine .mv ?_
 refine .vl (Y.bJ rfl rfl om) ?_
 refine .mv ?_
 refine .vl (Y.bJ rfl rfl om) ?_
 refine .mv ?_
 refine .vl (Y.bJ rfl rfl om) (.vl (Y.aT rfl rfl bw) ?_)
 refine .fa eH ?_
 refine .aj e8 rfl rfl rfl rfl rfl rfl (aH rfl) rfl ?_
 refine .fa dW ?_
 refine .aj e8 rfl rfl rfl rfl rfl rfl (aH rfl) rfl (.nil (.sr ?_))
 refine .vl (Y.aM gq rfl rfl (aH rfl) rfl rfl) (.aj cJ rfl rfl rfl rfl rfl rfl (aH rfl) rfl ?_)
 refine .an ?_
 refine .nil (.ret ?_)
 first | (exfalso; omega) | exact ⟨_, _, rfl, rfl, (4 * x) + ((3 * x) * ((eR (x + 1).toNat : Nat) : Int)), by rw [show aN op x.toNat = 40 + (40 * ((eR (x + 1).toNat : Nat) : Int)) by (try rw [hle]); unfold aN; (repeat' split) <;> omega]; rfl, rfl⟩
 refine .seq (.sr (.vl (Y.eql rfl rfl) ?_))
 refine .an ?_
 refine .nil ?_
 refine .bD rfl (fun Fy => ?_) (fun Fy => ?_)
 refine .skip (.aV rfl (.region ?_))
 refine .mv ?_
 refine .vl (Y.bJ rfl rfl om) (.vl (Y.aT rfl rfl bw) ?_)
 refine .mv ?_
 refine .vl (Y.bJ rfl rfl om) ?_
 refine .mv ?_
 refine .vl (Y.bJ rfl rfl om) ?_
 refine .mv ?_
 refine .vl (Y.bJ rfl rfl om) (.vl (Y.aT rfl rfl bw) (.vl (Y.aT rfl rfl bw) ?_))
 refine .fa eH ?_
 refine .aj e8 rfl rfl rfl rfl rfl rfl (aH rfl) rfl ?_
 refine .fa dW ?_
 refine .aj e8 rfl rfl rfl rfl rfl rfl (aH rfl) rfl (.nil (.sr ?_))
 refine .vl (Y.aM gq rfl rfl (aH rfl) rfl rfl) (.aj cJ rfl rfl rfl rfl rfl rfl (aH rfl) rfl ?_)
 refine .an ?_
 refine .nil (.ret ?_)
 first | (exfalso; omega) | exact ⟨_, _, rfl, rfl, ((4 * x) + ((3 * x) * ((eR (x + 1).toNat : Nat) : Int))) + 2, by rw [show aN op x.toNat = 50 + (40 * ((eR (x + 1).toNat : Nat) : Int)) by (try rw [hle]); unfold aN; (repeat' split) <;> omega]; rfl, rfl⟩
 refine .region (.vl (Y.eql rfl rfl) ?_)
 refine .an ?_
 refine .nil ?_
 refine .bD rfl (fun Fy => ?_) (fun Fy => ?_)
 refine .region ?_
 refine .mv ?_
 refine .vl (Y.bJ rfl rfl om) (.vl (Y.aT rfl rfl bw) ?_)
 refine .mv ?_
 refine .vl (Y.bJ rfl rfl om) ?_
 refine .mv ?_
 refine .vl (Y.bJ rfl rfl om) ?_
 refine .mv ?_
 refine .vl (Y.bJ rfl rfl om) (.vl (Y.aT rfl rfl bw) (.vl (Y.aT rfl rfl bw) ?_))
 refine .fa eH ?_
 refine .aj e8 rfl rfl rfl rfl rfl rfl (aH rfl) rfl ?_
 refine .fa dW ?_
 refine .aj e8 rfl rfl rfl rfl rfl rfl (aH rfl) rfl (.nil (.sr ?_))
 refine .vl (Y.aM gq rfl rfl (aH rfl) rfl rfl) (.aj cJ rfl rfl rfl rfl rfl rfl (aH rfl) rfl ?_)
 refine .an ?_
 refine .nil (.ret ?_)
 first | (exfalso; omega) | exact ⟨_, _, rfl, rfl, ((4 * x) + ((3 * x) * ((eR (x + 1).toNat : Nat) : Int))) + 2, by rw [show aN op x.toNat = 50 + (40 * ((eR (x + 1).toNat : Nat) : Int)) by (try rw [hle]); unfold aN; (repeat' split) <;> omega]; rfl, rfl⟩
 refine .sr (.vl (Y.eql rfl rfl) ?_)
 refine .an ?_
 refine .nil ?_
 refine .aB rfl (fun MJ => ?_) (fun MJ => ?_)
 refine .region ?_
 refine .mv ?_
 refine .vl (Y.bJ rfl rfl om) (.vl (Y.aT rfl rfl bw) ?_)
 refine .fa eH ?_
 refine .aj e8 rfl rfl rfl rfl rfl rfl (aH rfl) rfl ?_
 refine .fa dW ?_
 refine .aj e8 rfl rfl rfl rfl rfl rfl (aH rfl) rfl (.nil (.sr ?_))
 refine .vl (Y.aM gq rfl rfl (aH rfl) rfl rfl) (.aj cJ rfl rfl rfl rfl rfl rfl (aH rfl) rfl ?_)
 refine .an ?_
 refine .nil (.ret ?_)
 first | (exfalso; omega) | exact ⟨_, _, rfl, rfl, (3 * x) + 1, by rw [show aN op x.toNat = 50 by (try rw [hle]); unfold aN; (repeat' split) <;> omega]; rfl, rfl⟩
 refine .seq (.sr (.vl (Y.eql rfl rfl) ?_))
 refine .an ?_
 refine .nil ?_
 refine .bD rfl (fun wu => ?_) (fun wu => ?_)
 refine .skip (.aV rfl (.region ?_))
 refine .mv ?_
 refine .vl (Y.bJ rfl rfl om) (.vl (Y.aT rfl rfl bw) ?_)
 refine .mv ?_
 refine .vl (Y.bJ rfl rfl om) ?_
 refine .mv ?_
 refine .vl (Y.bJ rfl rfl om) ?_
 refine .mv ?_
 refine .vl (Y.bJ rfl rfl om) (.vl (Y.aT rfl rfl bw) ?_)
 refine .fa eH ?_
 refine .aj e8 rfl rfl rfl rfl rfl rfl (aH rfl) rfl ?_
 refine .fa dW ?_
 refine .aj e8 rfl rfl rfl rfl rfl rfl (aH rfl) rfl (.nil (.sr ?_))
 refine .vl (Y.aM gq rfl rfl (aH rfl) rfl rfl) (.aj cJ rfl rfl rfl rfl rfl rfl (aH rfl) rfl ?_)
 refine .an ?_
 refine .nil (.ret ?_)
 first | (exfalso; omega) | exact ⟨_, _, rfl, rfl, (2 * x) + ((3 * x) * ((eR x.toNat : Nat) : Int)), by rw [show aN op x.toNat = 30 + (40 * ((eR x.toNat : Nat) : Int)) by (try rw [hle]); unfold aN; (repeat' split) <;> omega]; rfl, rfl⟩
 refine .region (.vl (Y.eql rfl rfl) ?_)
 refine .an ?_
 refine .nil ?_
 refine .bD rfl (fun wu => ?_) (fun wu => ?_)
 refine .region ?_
 refine .mv ?_
 refine .vl (Y.bJ rfl rfl om) (.vl (Y.aT rfl rfl bw) ?_)
 refine .mv ?_
 refine .vl (Y.bJ rfl rfl om) ?_
 refine .mv ?_
 refine .vl (Y.bJ rfl rfl om) ?_
 refine .mv ?_
 refine .vl (Y.bJ rfl rfl om) (.vl (Y.aT rfl rfl bw) ?_)
 refine .fa eH ?_
 refine .aj e8 rfl rfl rfl rfl rfl rfl (aH rfl) rfl ?_
 refine .fa dW ?_
 refine .aj e8 rfl rfl rfl rfl rfl rfl (aH rfl) rfl (.nil (.sr ?_))
 refine .vl (Y.aM gq rfl rfl (aH rfl) rfl rfl) (.aj cJ rfl rfl rfl rfl rfl rfl (aH rfl) rfl ?_)
 refine .an ?_
 refine .nil (.ret ?_)
 first | (exfalso; omega) | exact ⟨_, _, rfl, rfl, (2 * x) + ((3 * x) * ((eR x.toNat : Nat) : Int)), by rw [show aN op x.toNat = 30 + (40 * ((eR x.toNat : Nat) : Int)) by (try rw [hle]); unfold aN; (repeat' split) <;> omega]; rfl, rfl⟩
 refine .sr (.vl (Y.eql rfl rfl) ?_)
 refine .an ?_
 refine .nil ?_
 refine .aB rfl (fun oo => ?_) (fun oo => ?_)
 refine .region ?_
 refine .mv ?_
 refine .vl (Y.bJ rfl rfl om) (.vl (Y.aT rfl rfl bw) ?_)
 refine .mv ?_
 refine .vl (Y.bJ rfl rfl om) ?_
 refine .mv ?_
 refine .vl (Y.bJ rfl rfl om) ?_
 refine .mv ?_
 refine .vl (Y.bJ rfl rfl om) (.vl (Y.aT rfl rfl bw) ?_)
 refine .fa eH ?_
 refine .aj e8 rfl rfl rfl rfl rfl rfl (aH rfl) rfl ?_
 refine .fa dW ?_
 refine .aj e8 rfl rfl rfl rfl rfl rfl (aH rfl) rfl (.nil (.sr ?_))
 refine .vl (Y.aM gq rfl rfl (aH rfl) rfl rfl) (.aj cJ rfl rfl rfl rfl rfl rfl (aH rfl) rfl ?_)
 refine .an ?_
 refine .nil (.ret ?_)
 first | (exfalso; omega) | exact ⟨_, _, rfl, rfl, (4 * x) + ((3 * x) * ((eR x.toNat : Nat) : Int)), by rw [show aN op x.toNat = 50 + (40 * ((eR x.toNat : Nat) : Int)) by (try rw [hle]); unfold aN; (repeat' split) <;> omega]; rfl, rfl⟩
 refine .sr (.vl (Y.eql rfl rfl) ?_)
 refine .an ?_
 refine .nil ?_
 refine .aB rfl (fun Ax => ?_) (fun Ax => ?_)
 refine .region ?_
 refine .mv ?_
 refine .vl (Y.aT rfl rfl bw) (.vl (Y.kU rfl rfl om) (.vl (Y.aT rfl rfl bw) ?_))
 refine .mv ?_
 refine .vl (Y.bJ rfl rfl om) ?_
 refine .mv ?_
 refine .vl (Y.bJ rfl rfl om) ?_
 refine .fa oH ?_
 refine .aj e8 rfl rfl rfl rfl rfl rfl (aH rfl) rfl ?_
 refine .fa oI ?_
 refine .aj e8 rfl rfl rfl rfl rfl rfl (aH rfl) rfl ?_
 refine .fa oJ ?_
 refine .aj e8 rfl rfl rfl rfl rfl rfl (aH rfl) rfl ?_
 refine .fa dW ?_
 refine .aj e8 rfl rfl rfl rfl rfl rfl (aH rfl) rfl (.nil (.sr ?_))
 refine .vl (Y.aM gq rfl rfl (aH rfl) rfl rfl) (.aj cJ rfl rfl rfl rfl rfl rfl (aH rfl) rfl ?_)
 refine .an ?_
 refine .nil (.ret ?_)
 first | (exfalso; omega) | exact ⟨_, _, rfl, rfl, (6 * x) * x, by rw [show aN op x.toNat = 0 by (try rw [hle]); unfold aN; (repeat' split) <;> omega]; rfl, rfl⟩
 refine .seq (.sr (.vl (Y.eql rfl rfl) ?_))
 refine .an ?_
 refine .nil ?_
 refine .bD rfl (fun lT => ?_) (fun lT => ?_)
 refine .skip (.aV rfl (.sr ?_))
 refine .mv ?_
 refine .vl (Y.aT rfl rfl bw) (.vl (Y.iy rfl rfl bw) ?_)
 refine .fa oH ?_
 refine .aj e8 rfl rfl rfl rfl rfl rfl (aH rfl) rfl (.nil (.region ?_))
 refine .mv ?_
 refine .vl (Y.aT rfl rfl bw) (.vl (Y.kU rfl rfl om) (.vl (Y.aT rfl rfl bw) ?_))
 refine .mv ?_
 refine .vl (Y.aT rfl rfl bw) (.vl (Y.kU rfl rfl om) (.vl (Y.aT rfl rfl bw) ?_))
 refine .mv ?_
 refine .vl (Y.bJ rfl rfl om) ?_
 refine .mv ?_
 refine .vl (Y.bJ rfl rfl om) ?_
 refine .fa oI ?_
 refine .aj e8 rfl rfl rfl rfl rfl rfl (aH rfl) rfl ?_
 refine .fa oJ ?_
 refine .aj e8 rfl rfl rfl rfl rfl rfl (aH rfl) rfl ?_
 refine .fa dW ?_
 refine .aj e8 rfl rfl rfl rfl rfl rfl (aH rfl) rfl (.nil (.sr ?_))
 refine .vl (Y.aM gq rfl rfl (aH rfl) rfl rfl) (.aj cJ rfl rfl rfl rfl rfl rfl (aH rfl) rfl ?_)
 refine .an ?_
 refine .nil (.ret ?_)
 first | (exfalso; omega) | exact ⟨_, _, rfl, rfl, (8 * x) * x, by rw [show aN op x.toNat = 0 by (try rw [hle]); unfold aN; (repeat' split) <;> omega]; rfl, rfl⟩
 refine .sr (.vl (Y.eql rfl rfl) ?_)
 refine .an ?_
 refine .nil ?_
 refine .bD rfl (fun lT => ?_) (fun lT => ?_)
 refine .skip (.aV rfl (.sr ?_))
 refine .mv ?_
 refine .vl (Y.aT rfl rfl bw) (.vl (Y.iy rfl rfl bw) ?_)
 refine .fa oH ?_
 refine .aj e8 rfl rfl rfl rfl rfl rfl (aH rfl) rfl (.nil (.region ?_))
 refine .mv ?_
 refine .vl (Y.aT rfl rfl bw) (.vl (Y.kU rfl rfl om) (.vl (Y.aT rfl rfl bw) ?_))
 refine .mv ?_
 refine .vl (Y.aT rfl rfl bw) (.vl (Y.kU rfl rfl om) (.vl (Y.aT rfl rfl bw) ?_))
 refine .mv ?_
 refine .vl (Y.bJ rfl rfl om) ?_
 refine .mv ?_
 refine .vl (Y.bJ rfl rfl om) ?_
 refine .fa oI ?_
 refine .aj e8 rfl rfl rfl rfl rfl rfl (aH rfl) rfl ?_
 refine .fa oJ ?_
 refine .aj e8 rfl rfl rfl rfl rfl rfl (aH rfl) rfl ?_
 refine .fa dW ?_
 refine .aj e8 rfl rfl rfl rfl rfl rfl (aH rfl) rfl (.nil (.sr ?_))
 refine .vl (Y.aM gq rfl rfl (aH rfl) rfl rfl) (.aj cJ rfl rfl rfl rfl rfl rfl (aH rfl) rfl ?_)
 refine .an ?_
 refine .nil (.ret ?_)
 first | (exfalso; omega) | exact ⟨_, _, rfl, rfl, (8 * x) * x, by rw [show aN op x.toNat = 0 by (try rw [hle]); unfold aN; (repeat' split) <;> omega]; rfl, rfl⟩
 refine .sr (.vl (Y.eql rfl rfl) ?_)
 refine .an ?_
 refine .nil ?_
 refine .bD rfl (fun lT => ?_) (fun lT => ?_)
 refine .skip (.aV rfl (.sr ?_))
 refine .mv ?_
 refine .vl (Y.aT rfl rfl bw) (.vl (Y.iy rfl rfl bw) ?_)
 refine .fa oH ?_
 refine .aj e8 rfl rfl rfl rfl rfl rfl (aH rfl) rfl (.nil (.region ?_))
 refine .mv ?_
 refine .vl (Y.aT rfl rfl bw) (.vl (Y.kU rfl rfl om) (.vl (Y.aT rfl rfl bw) ?_))
 refine .mv ?_
 refine .vl (Y.aT rfl rfl bw) (.vl (Y.kU rfl rfl om) (.vl (Y.aT rfl rfl bw) ?_))
 refine .mv ?_
 refine .vl (Y.bJ rfl rfl om) ?_
 refine .mv ?_
 refine .vl (Y.bJ rfl rfl om) ?_
 refine .fa oI ?_
 refine .aj e8 rfl rfl rfl rfl rfl rfl (aH rfl) rfl ?_
 refine .fa oJ ?_
 refine .aj e8 rfl rfl rfl rfl rfl rfl (aH rfl) rfl ?_
 refine .fa dW ?_
 refine .aj e8 rfl rfl rfl rfl rfl rfl (aH rfl) rfl (.nil (.sr ?_))
 refine .vl (Y.aM gq rfl rfl (aH rfl) rfl rfl) (.aj cJ rfl rfl rfl rfl rfl rfl (aH rfl) rfl ?_)
 refine .an ?_
 refine .nil (.ret ?_)
 first | (exfalso; omega) | exact ⟨_, _, rfl, rfl, (8 * x) * x, by rw [show aN op x.toNat = 0 by (try rw [hle]); unfold aN; (repeat' split) <;> omega]; rfl, rfl⟩
 refine .region (.vl (Y.eql rfl rfl) ?_)
 refine .an ?_
 refine .nil ?_
 refine .bD rfl (fun lT => ?_) (fun lT => ?_)
 refine .sr ?_
 refine .mv ?_
 refine .vl (Y.aT rfl rfl bw) (.vl (Y.iy rfl rfl bw) ?_)
 refine .fa oH ?_
 refine .aj e8 rfl rfl rfl rfl rfl rfl (aH rfl) rfl (.nil (.region ?_))
 refine .mv ?_
 refine .vl (Y.aT rfl rfl bw) (.vl (Y.kU rfl rfl om) (.vl (Y.aT rfl rfl bw) ?_))
 refine .mv ?_
 refine .vl (Y.aT rfl rfl bw) (.vl (Y.kU rfl rfl om) (.vl (Y.aT rfl rfl bw) ?_))
 refine .mv ?_
 refine .vl (Y.bJ rfl rfl om) ?_
 refine .mv ?_
 refine .vl (Y.bJ rfl rfl om) ?_
 refine .fa oI ?_
 refine .aj e8 rfl rfl rfl rfl rfl rfl (aH rfl) rfl ?_
 refine .fa oJ ?_
 refine .aj e8 rfl rfl rfl rfl rfl rfl (aH rfl) rfl ?_
 refine .fa dW ?_
 refine .aj e8 rfl rfl rfl rfl rfl rfl (aH rfl) rfl (.nil (.sr ?_))
 refine .vl (Y.aM gq rfl rfl (aH rfl) rfl rfl) (.aj cJ rfl rfl rfl rfl rfl rfl (aH rfl) rfl ?_)
 refine .an ?_
 refine .nil (.ret ?_)
 first | (exfalso; omega) | exact ⟨_, _, rfl, rfl, (8 * x) * x, by rw [show aN op x.toNat = 0 by (try rw [hle]); unfold aN; (repeat' split) <;> omega]; rfl, rfl⟩
 refine .skip (.sr (.vl (Y.aM gq rfl rfl (aH rfl) rfl rfl) ?_))
 refine .aj cJ rfl rfl rfl rfl rfl rfl (aH rfl) rfl ?_
 refine .an ?_
 refine .nil (.ret ?_)
 first | (exfalso; omega) | exact ⟨_, _, rfl, rfl, 0, by rw [show aN op x.toNat = 0 by (try rw [hle]); unfold aN; (repeat' split) <;> omega]; rfl, rfl⟩
end Go.Proofs.Ytligpghohcfpnaa
/- The walk of Cell. -/
namespace Go.Proofs.Ytligpghohcfpnaa
open Go Go.AW Go.Proofs
theorem iG {n : ab} {c : Cell} (hw : ∀ w ∈ n.aa, fj w) (jf : iA n c) (ha : c.args.length ≤ 200) (wJ : n.aa.length ≤ 1000) : az Try.prog 41 [.agg (ab.row n), .agg (Cell.row c)] [] [] (fun r o => r = (vi (e6 n c)) ∧ o = []) := by
 refine az.of Try.func41 rfl rfl rfl (n := 49) ae (aH rfl) (.sr (.box 102 rfl rfl rfl rfl rfl ae ?_))
 refine .box 103 rfl rfl rfl rfl rfl ae ?_
 refine .an ?_
 refine .nil (.seq (.seq ?_))
 refine .sh (Sh.dc 102 rfl rfl) (.sh (Sh.dc 103 rfl rfl) (.region ?_))
 refine .fa cL ?_
 refine .ld br ?_
 refine .nil (.block (.sr ?_))
 refine .vl (Y.eql rfl rfl) ?_
 refine .an ?_
 refine .nil ?_
 refine .aB rfl (fun ET => ?_) (fun ET => ?_)
 refine .sr ?_
 refine .an ?_
 refine .nil (.ret ?_)
 exact .ri rfl (by unfold e6; rw [if_pos cj])
 refine .sr (.vl (Y.eql rfl rfl) ?_)
 refine .an ?_
 refine .nil ?_
 refine .aB rfl (fun Fh => ?_) (fun Fh => ?_)
 refine .seq ?_
 have h5 := zS jf cj; have Md := h5.1; unfold In at Md; have PR := tj hw h5.1; have IL := jf.1 (c.args.getD 0 0) (bm om); have PS := tj hw IL; have Me := IL; unfold In at Me
 refine .region ?_
 refine .fa bN ?_
 refine .ld bh ?_
 refine .fa dx ?_
 refine .ld br ?_
 refine .vl (Y.aK (m := (c.out).toNat) a7 rfl rfl om (ax (d := 0) om)) ?_
 refine .ld br ?_
 refine .an ?_
 refine .nil ?_
 refine .eP (fun (ka : Int) => ⟨[(3, .fp (Cell.row c) 0), (5, vi ka)], []⟩) (fun ka => ka = (if oB c.op then n.av c 0 else n.wd c.out)) ?_ (fun ka EU => ?_)
 refine .sr ?_
 refine .fa eg ?_
 refine .ld br ?_
 refine .aP Ix (na (w := c.op)) rfl (.ai rfl rfl .nil) ae rfl (.nil ?_)
 refine .aB rfl (fun my => ?_) (fun my => ?_)
 refine .gX rfl aq (.val (Y.fieldAddr bN rfl rfl) ae (.val (Y.load bh rfl rfl rfl rfl) ae ?_))
 refine .val (Y.fieldAddr bF rfl rfl) ae (.val (Y.load bh rfl rfl rfl rfl) ae ?_)
 refine .val (Y.aK (m := 0) a7 rfl rfl b5 (ax (d := 0) om)) ae (.val (Y.load br rfl rfl rfl rfl) ae (.val (Y.aK (m := (c.args.getD 0 0).toNat) a7 rfl rfl om (ax (d := 0) om)) ae ?_))
 refine .val (Y.load br rfl rfl rfl rfl) ae (.val (Y.assign rfl rfl) ae (.nil ?_))
 exact ⟨n.aa.getD ((c.args.getD 0 0).toNat) 0, by rw [if_pos cj]; rfl, Le.mk (.c (.cons (ak rfl b5) (.nil))) (.nil)⟩
 refine .skip ?_
 exact ⟨n.aa.getD ((c.out).toNat) 0, by rw [if_neg cj]; rfl, Le.mk (.c (.cons (ak rfl b5) (.nil))) (.nil)⟩
 have h8 : 1 ≤ ka ∧ ka ≤ 64 := by (rw [EU]; split <;> assumption)
 refine .sr ?_
 refine .fa eg ?_
 refine .ld br ?_
 refine .mv ?_
 refine .kz Lw (CG (op := c.op) (x := ka) h5.2.1 h8.1 h8.2) rfl (.ai rfl rfl (.ai rfl rfl .nil)) ae ?_
 rintro _ ⟨Q9, rfl, _⟩
 refine ⟨rfl, ?_⟩
 refine .mv ?_
 refine .vl (Y.extract rfl rfl rfl) (.vl (Y.extract rfl rfl rfl) (.alloc 106 jt rfl rfl ae ?_))
 refine .aj cJ rfl rfl rfl rfl rfl rfl (aH rfl) rfl ?_
 refine .an ?_
 refine .nil (.sr ?_)
 refine .fa eH ?_
 refine .ld br ?_
 refine .an ?_
 refine .nil (.ret ?_)
 exact .ri rfl (by unfold e6; rw [if_neg om, if_pos cj, EU])
 refine .sr (.vl (Y.eql rfl rfl) ?_)
 refine .an ?_
 refine .nil ?_
 refine .aB rfl (fun Fw => ?_) (fun Fw => ?_)
 refine .seq ?_
 have O4 := p6 (n := ((c.args.length : Int) / 2).toNat) om
 refine .region ?_
 refine .fa bF ?_
 refine .ld bh ?_
 refine .vl (Y.len (n := c.args.length) a7 rfl dG) (.vl (Y.kU rfl rfl om) (.aP E5 (nk (x := ((c.args.length : Int) / 2)) (om) (om)) rfl (.ai rfl rfl .nil) ae rfl (.vl (Y.bJ rfl rfl om) (.vl (Y.aT rfl rfl bw) ?_))))
 refine .an ?_
 refine .nil (.ret ?_)
 exact .ri rfl (by unfold e6; rw [if_neg om, if_neg om, if_pos cj, show ((c.args.length : Int) / 2).toNat = c.args.length / 2 by omega])
 refine .skip (.sr ?_)
 refine .an ?_
 refine .nil (.ret ?_)
 exact .ri rfl (by unfold e6; rw [if_neg om, if_neg om, if_neg om])
end Go.Proofs.Ytligpghohcfpnaa
/- Walk through shaped. -/
namespace Go.Proofs.Ytligpghohcfpnaa
open Go Go.AW Go.Proofs
theorem uK {n : ab} {c : Cell} (hs : n.Small) (hc : c.args.length ≤ 17592186043904) : az Try.prog 98 [.agg (ab.row n), .agg (Cell.row c)] [] [] (fun r o => r = .v (.bool (decide (Shaped n c))) ∧ o = []) := by
 refine az.of Try.func98 rfl rfl rfl (n := 132) ae (aH rfl) ?_
 have Kh := hs.ins; have Ki := hs.aw; have MK := hs.streams
 refine .sr (.box 102 rfl rfl rfl rfl rfl ae (.box 103 rfl rfl rfl rfl rfl ae ?_))
 refine .an ?_
 refine .nil (.sr ?_)
 refine .an ?_
 refine .an ?_
 refine .an ?_
 refine .an ?_
 refine .nil (.seq (.sr ?_))
 refine .fa cL ?_
 refine .ld br ?_
 refine .nil (.block (.sr ?_))
 refine .vl (Y.eql rfl rfl) ?_
 refine .an ?_
 refine .nil ?_
 refine .aB rfl (fun Dq => ?_) (fun Dq => ?_)
 refine .region ?_
 refine .an ?_
 refine .nil ?_
 refine .qC (⟨[(2, .ptr 102 0 0 0), (3, .ptr 103 0 0 0), (8, vi (-1))], [(102, .cells (ab.row n)), (103, .cells (Cell.row c))]⟩) (((¬ ((c.args.length : Int) ≠ 0)) ∧ (¬ (c.op ≠ 0)) ∧ ((c.num : Int) ≠ 0)) ∨ ((¬ ((c.args.length : Int) ≠ 0)) ∧ (¬ (c.op ≠ 0)) ∧ (¬ ((c.num : Int) ≠ 0)))) ?_ (fun FA => ?_)
 refine .sr ?_
 refine .fa bF ?_
 refine .ld bh ?_
 refine .vl (Y.len (n := c.args.length) a7 rfl dG) ?_
 refine .mv ?_
 refine .vl (Y.neq rfl rfl) ?_
 refine .mv ?_
 refine .aE (d := 88) rfl (fun oq => ?_) (fun oq => ?_)
 refine .gz 88 (.gz 88 (.gz 88 ?_))
 refine .gz 88 ?_
 refine .pk ?_
 refine .mv ?_
 refine .gz 94 (.gz 94 (.gz 94 ?_))
 refine .gz 94 (.gz 98 (.gz 98 ?_))
 refine .gz 94 ?_
 refine .pk ?_
 refine .nil (.aV rfl (.sr ?_))
 refine .an ?_
 refine .nil (.ret ?_)
 exact .rb rfl (df fU)
 refine .gw 88 (Y.fieldAddr eg rfl rfl) (.gw 88 (Y.load br rfl rfl rfl rfl) (.gw 88 (Y.move rfl rfl) ?_))
 refine .gw 88 (Y.neq rfl rfl) ?_
 refine .pk ?_
 refine .mv ?_
 refine .aE (d := 94) rfl (fun m0 => ?_) (fun m0 => ?_)
 refine .gz 94 (.gz 94 (.gz 94 ?_))
 refine .gz 94 (.gz 98 (.gz 98 ?_))
 refine .gz 94 ?_
 refine .pk ?_
 refine .nil (.aV rfl (.sr ?_))
 refine .an ?_
 refine .nil (.ret ?_)
 exact .rb rfl (df fU)
 refine .gw 94 (Y.fieldAddr dX rfl rfl) (.gw 94 (Y.load gB rfl rfl rfl rfl) (.gw 94 (Y.neq rfl rfl) ?_))
 refine .gw 94 (Y.move rfl rfl) ?_
 refine .aE (d := 98) rfl (fun mz => ?_) (fun mz => ?_)
 refine .gw 98 (Y.move rfl rfl) (.gw 98 (Y.not rfl) (.gw 94 (Y.pick rfl rfl rfl) ?_))
 refine .pk ?_
 refine .nil (.cX rfl (.skip ?_))
 exact ⟨.inl ⟨oq, m0, mz⟩, Le.mk (.c2 (.c (.nil))) (.c2 (.nil))⟩
 refine .gz 98 (.gz 98 (.gw 94 (Y.pick rfl rfl rfl) ?_))
 refine .pk ?_
 refine .nil (.cX rfl (.skip ?_))
 exact ⟨.inr (⟨oq, m0, mz⟩), Le.mk (.c2 (.c (.nil))) (.c2 (.nil))⟩
 refine .seq (.sr ?_)
 refine .mv ?_
 refine .vl (Y.lss rfl rfl) (.nil (.aV rfl ?_))
 refine .sr ?_
 refine .fa cV ?_
 refine .ld br ?_
 refine .vl (Y.eql rfl rfl) ?_
 refine .an ?_
 refine .nil (.ret ?_)
 exact .rb rfl (dd fU)
 refine .sr (.vl (Y.eql rfl rfl) ?_)
 refine .an ?_
 refine .nil ?_
 refine .aB rfl (fun xk => ?_) (fun xk => ?_)
 refine .seq (.j8 rfl (.blind 0 rfl aq (ao.fieldAddr eg rfl rfl) ae ?_))
 refine .blind 3 rfl aq (ao.fieldAddr eg rfl rfl) ae ?_
 refine .two 1 4 rfl rfl aq ?_ ?_
 refine .ld br ?_
 refine .nil ⟨rfl, ?_⟩
 refine .two 2 4 rfl rfl aq ?_ ?_
 refine .aP zL (kK (op := c.op)) rfl (.ai rfl rfl .nil) ae rfl ?_
 refine .nil ⟨rfl, ?_⟩
 refine .dC (n := 0) [4, 5, 6] [] 0 rfl aq (.cn 4 rfl (Y.load br rfl rfl rfl rfl) (.cn 5 rfl (Y.assign rfl rfl) ?_))
 refine .cn 6 rfl (Y.assign rfl rfl) (.nil (.done aq ?_))
 refine .sr ?_
 refine .mv ?_
 refine .vl (Y.eql rfl rfl) (.nil ?_)
 refine .aB rfl (fun Ad => ?_) (fun Ad => ?_)
 refine .sr ?_
 refine .an ?_
 refine .nil (.ret ?_)
 exact .rb rfl (df fU)
 refine .skip (.seq (.sr ?_))
 refine .fa bF ?_
 refine .ld bh ?_
 refine .vl (Y.len (n := c.args.length) a7 rfl dG) ?_
 refine .mv ?_
 refine .vl (Y.neq rfl rfl) ?_
 refine .mv ?_
 refine .aE (d := 88) rfl (fun oq => ?_) (fun oq => ?_)
 refine .gz 88 (.gz 88 (.gz 88 ?_))
 refine .gz 88 ?_
 refine .pk ?_
 refine .mv ?_
 refine .gz 94 (.gz 94 (.gz 94 ?_))
 refine .gz 94 (.gz 98 (.gz 98 ?_))
 refine .gz 94 ?_
 refine .pk ?_
 refine .nil (.aV rfl (.sr ?_))
 refine .an ?_
 refine .nil (.ret ?_)
 exact .rb rfl (df fU)
 refine .gw 88 (Y.fieldAddr eg rfl rfl) (.gw 88 (Y.load br rfl rfl rfl rfl) (.gw 88 (Y.move rfl rfl) ?_))
 refine .gw 88 (Y.neq rfl rfl) ?_
 refine .pk ?_
 refine .mv ?_
 refine .aE (d := 94) rfl (fun m0 => ?_) (fun m0 => ?_)
 refine .gz 94 (.gz 94 (.gz 94 ?_))
 refine .gz 94 (.gz 98 (.gz 98 ?_))
 refine .gz 94 ?_
 refine .pk ?_
 refine .nil (.aV rfl (.sr ?_))
 refine .an ?_
 refine .nil (.ret ?_)
 exact .rb rfl (df fU)
 refine .gw 94 (Y.fieldAddr dX rfl rfl) (.gw 94 (Y.load gB rfl rfl rfl rfl) (.gw 94 (Y.neq rfl rfl) ?_))
 refine .gw 94 (Y.move rfl rfl) ?_
 refine .aE (d := 98) rfl (fun mz => ?_) (fun mz => ?_)
 refine .gw 98 (Y.move rfl rfl) (.gw 98 (Y.not rfl) (.gw 94 (Y.pick rfl rfl rfl) ?_))
 refine .pk ?_
 refine .nil (.aV rfl (.sr ?_))
 refine .an ?_
 refine .nil (.ret ?_)
 exact .rb rfl (df fU)
 refine .gz 98 (.gz 98 (.gw 94 (Y.pick rfl rfl rfl) ?_))
 refine .pk ?_
 refine .nil (.cX rfl (.skip ?_))
 refine .seq (.sr ?_)
 refine .mv ?_
 refine .vl (Y.lss rfl rfl) (.nil (.aV rfl ?_))
 refine .sr ?_
 refine .fa cV ?_
 refine .ld br ?_
 refine .vl (Y.eql rfl rfl) ?_
 refine .an ?_
 refine .nil (.ret ?_)
 exact .rb rfl (dd fU)
 refine .ld br ?_
 refine .nil ⟨rfl, ?_⟩
 refine .one 2 rfl aq (.aP zL (kK (op := c.op)) rfl (.ai rfl rfl .nil) ae rfl ?_)
 refine .nil ⟨rfl, ?_⟩
 refine .dC (n := 0) [5, 6] [] 0 rfl aq (.cn 5 rfl (Y.assign rfl rfl) (.cn 6 rfl (Y.assign rfl rfl) ?_))
 refine .nil (.done aq (.sr ?_))
 refine .mv ?_
 refine .vl (Y.eql rfl rfl) (.nil ?_)
 refine .aB rfl (fun Ad => ?_) (fun Ad => ?_)
 refine .sr ?_
 refine .an ?_
 refine .nil (.ret ?_)
 exact .rb rfl (df fU)
 refine .skip (.seq (.sr ?_))
 refine .fa bF ?_
 refine .ld bh ?_
 refine .vl (Y.len (n := c.args.length) a7 rfl dG) ?_
 refine .mv ?_
 refine .vl (Y.neq rfl rfl) ?_
 refine .mv ?_
 refine .aE (d := 88) rfl (fun oq => ?_) (fun oq => ?_)
 refine .gz 88 (.gz 88 (.gz 88 ?_))
 refine .gz 88 ?_
 refine .pk ?_
 refine .mv ?_
 refine .gz 94 (.gz 94 (.gz 94 ?_))
 refine .gz 94 (.gz 98 (.gz 98 ?_))
 refine .gz 94 ?_
 refine .pk ?_
 refine .nil (.aV rfl (.sr ?_))
 refine .an ?_
 refine .nil (.ret ?_)
 exact .rb rfl (df fU)
 refine .gw 88 (Y.fieldAddr eg rfl rfl) (.gw 88 (Y.load br rfl rfl rfl rfl) (.gw 88 (Y.move rfl rfl) ?_))
 refine .gw 88 (Y.neq rfl rfl) ?_
 refine .pk ?_
 refine .mv ?_
 refine .aE (d := 94) rfl (fun m0 => ?_) (fun m0 => ?_)
 refine .gz 94 (.gz 94 (.gz 94 ?_))
 refine .gz 94 (.gz 98 (.gz 98 ?_))
 refine .gz 94 ?_
 refine .pk ?_
 refine .nil (.aV rfl (.sr ?_))
 refine .an ?_
 refine .nil (.ret ?_)
 exact .rb rfl (df fU)
 refine .gw 94 (Y.fieldAddr dX rfl rfl) (.gw 94 (Y.load gB rfl rfl rfl rfl) (.gw 94 (Y.neq rfl rfl) ?_))
 refine .gw 94 (Y.move rfl rfl) ?_
 refine .aE (d := 98) rfl (fun mz => ?_) (fun mz => ?_)
 refine .gw 98 (Y.move rfl rfl) (.gw 98 (Y.not rfl) (.gw 94 (Y.pick rfl rfl rfl) ?_))
 refine .pk ?_
 refine .nil (.aV rfl (.sr ?_))
 refine .an ?_
 refine .nil (.ret ?_)
 exact .rb rfl (df fU)
 refine .gz 98 (.gz 98 (.gw 94 (Y.pick rfl rfl rfl) ?_))
 refine .pk ?_
 refine .nil (.cX rfl (.skip ?_))
 refine .seq (.sr ?_)
 refine .mv ?_
 refine .vl (Y.lss rfl rfl) (.nil (.aV rfl ?_))
 refine .sr ?_
 refine .fa cV ?_
 refine .ld br ?_
 refine .vl (Y.eql rfl rfl) ?_
 refine .an ?_
 refine .nil (.ret ?_)
 exact .rb rfl (dd fU)
 refine .ld br ?_
 refine .nil ⟨rfl, ?_⟩
 refine .dC (n := 3) [1] [2, 5, 6] 2 rfl aq (.cn 1 rfl (Y.load br rfl rfl rfl rfl) (.nil ?_))
 refine .one 2 rfl aq (.aP zL (kK (op := c.op)) rfl (.ai rfl rfl .nil) ae rfl ?_)
 refine .nil ⟨rfl, ?_⟩
 refine .dC (n := 0) [5, 6] [] 0 rfl aq (.cn 5 rfl (Y.assign rfl rfl) (.cn 6 rfl (Y.assign rfl rfl) ?_))
 refine .nil (.done aq (.sr ?_))
 refine .mv ?_
 refine .vl (Y.eql rfl rfl) (.nil ?_)
 refine .aB rfl (fun Ad => ?_) (fun Ad => ?_)
 refine .sr ?_
 refine .an ?_
 refine .nil (.ret ?_)
 exact .rb rfl (df fU)
 refine .skip (.seq (.sr ?_))
 refine .fa bF ?_
 refine .ld bh ?_
 refine .vl (Y.len (n := c.args.length) a7 rfl dG) ?_
 refine .mv ?_
 refine .vl (Y.neq rfl rfl) ?_
 refine .mv ?_
 refine .aE (d := 88) rfl (fun oq => ?_) (fun oq => ?_)
 refine .gz 88 (.gz 88 (.gz 88 ?_))
 refine .gz 88 ?_
 refine .pk ?_
 refine .mv ?_
 refine .gz 94 (.gz 94 (.gz 94 ?_))
 refine .gz 94 (.gz 98 (.gz 98 ?_))
 refine .gz 94 ?_
 refine .pk ?_
 refine .nil (.aV rfl (.sr ?_))
 refine .an ?_
 refine .nil (.ret ?_)
 exact .rb rfl (df fU)
 refine .gw 88 (Y.fieldAddr eg rfl rfl) (.gw 88 (Y.load br rfl rfl rfl rfl) (.gw 88 (Y.move rfl rfl) ?_))
 refine .gw 88 (Y.neq rfl rfl) ?_
 refine .pk ?_
 refine .mv ?_
 refine .aE (d := 94) rfl (fun m0 => ?_) (fun m0 => ?_)
 refine .gz 94 (.gz 94 (.gz 94 ?_))
 refine .gz 94 (.gz 98 (.gz 98 ?_))
 refine .gz 94 ?_
 refine .pk ?_
 refine .nil (.aV rfl (.sr ?_))
 refine .an ?_
 refine .nil (.ret ?_)
 exact .rb rfl (df fU)
 refine .gw 94 (Y.fieldAddr dX rfl rfl) (.gw 94 (Y.load gB rfl rfl rfl rfl) (.gw 94 (Y.neq rfl rfl) ?_))
 refine .gw 94 (Y.move rfl rfl) ?_
 refine .aE (d := 98) rfl (fun mz => ?_) (fun mz => ?_)
 refine .gw 98 (Y.move rfl rfl) (.gw 98 (Y.not rfl) (.gw 94 (Y.pick rfl rfl rfl) ?_))
 refine .pk ?_
 refine .nil (.aV rfl (.sr ?_))
 refine .an ?_
 refine .nil (.ret ?_)
 exact .rb rfl (df fU)
 refine .gz 98 (.gz 98 (.gw 94 (Y.pick rfl rfl rfl) ?_))
 refine .pk ?_
 refine .nil (.cX rfl (.skip ?_))
 refine .seq (.sr ?_)
 refine .mv ?_
 refine .vl (Y.lss rfl rfl) (.nil (.aV rfl ?_))
 refine .sr ?_
 refine .fa cV ?_
 refine .ld br ?_
 refine .vl (Y.eql rfl rfl) ?_
 refine .an ?_
 refine .nil (.ret ?_)
 exact .rb rfl (dd fU)
 refine .sr (.vl (Y.eql rfl rfl) ?_)
 refine .an ?_
 refine .nil ?_
 refine .aB rfl (fun my => ?_) (fun my => ?_)
 refine .sr ?_
 refine .fa bF ?_
 refine .ld bh ?_
 refine .vl (Y.len (n := c.args.length) a7 rfl dG) ?_
 refine .an ?_
 refine .nil (.sr ?_)
 refine .mv ?_
 refine .vl (Y.lss rfl rfl) ?_
 refine .mv ?_
 refine .aE (d := 29) rfl (fun FB => ?_) (fun FB => ?_)
 refine .gz 29 (.gz 29 (.gz 29 ?_))
 refine .pk ?_
 refine .nil (.aV rfl (.sr ?_))
 refine .an ?_
 refine .nil (.ret ?_)
 exact .rb rfl (df fU)
 refine .gw 29 (Y.move rfl rfl) (.gw 29 (Y.jH rfl rfl om) (.gw 29 (Y.eql rfl rfl) ?_))
 refine .pk ?_
 refine .nil ?_
 refine .aB rfl (fun Fx => ?_) (fun Fx => ?_)
 refine .sr ?_
 refine .an ?_
 refine .nil (.ret ?_)
 exact .rb rfl (df fU)
 refine .skip (.seq (.sr ?_))
 refine .fa bF ?_
 refine .ld bh ?_
 refine .vl (Y.len (n := c.args.length) a7 rfl dG) ?_
 refine .mv ?_
 refine .vl (Y.neq rfl rfl) ?_
 refine .mv ?_
 refine .aE (d := 88) rfl (fun oq => ?_) (fun oq => ?_)
 refine .gz 88 (.gz 88 (.gz 88 ?_))
 refine .gz 88 ?_
 refine .pk ?_
 refine .mv ?_
 refine .gz 94 (.gz 94 (.gz 94 ?_))
 refine .gz 94 (.gz 98 (.gz 98 ?_))
 refine .gz 94 ?_
 refine .pk ?_
 refine .nil (.aV rfl (.sr ?_))
 refine .an ?_
 refine .nil (.ret ?_)
 exact .rb rfl (df fU)
 refine .gw 88 (Y.fieldAddr eg rfl rfl) (.gw 88 (Y.load br rfl rfl rfl rfl) (.gw 88 (Y.move rfl rfl) ?_))
 refine .gw 88 (Y.neq rfl rfl) ?_
 refine .pk ?_
 refine .mv ?_
 refine .aE (d := 94) rfl (fun m0 => ?_) (fun m0 => ?_)
 refine .gz 94 (.gz 94 (.gz 94 ?_))
 refine .gz 94 (.gz 98 (.gz 98 ?_))
 refine .gz 94 ?_
 refine .pk ?_
 refine .nil (.aV rfl (.sr ?_))
 refine .an ?_
 refine .nil (.ret ?_)
 exact .rb rfl (df fU)
 refine .gw 94 (Y.fieldAddr dX rfl rfl) (.gw 94 (Y.load gB rfl rfl rfl rfl) (.gw 94 (Y.neq rfl rfl) ?_))
 refine .gw 94 (Y.move rfl rfl) ?_
 refine .aE (d := 98) rfl (fun mz => ?_) (fun mz => ?_)
 refine .gw 98 (Y.move rfl rfl) (.gw 98 (Y.not rfl) (.gw 94 (Y.pick rfl rfl rfl) ?_))
 refine .pk ?_
 refine .nil (.aV rfl (.sr ?_))
 refine .an ?_
 refine .nil (.ret ?_)
 exact .rb rfl (df fU)
 refine .gz 98 (.gz 98 (.gw 94 (Y.pick rfl rfl rfl) ?_))
 refine .pk ?_
 refine .nil (.cX rfl (.skip ?_))
 refine .seq (.sr ?_)
 refine .mv ?_
 refine .vl (Y.lss rfl rfl) (.nil (.aV rfl ?_))
 refine .sr ?_
 refine .fa cV ?_
 refine .ld br ?_
 refine .vl (Y.eql rfl rfl) ?_
 refine .an ?_
 refine .nil (.ret ?_)
 exact .rb rfl (dd fU)
 refine .sr (.vl (Y.eql rfl rfl) ?_)
 refine .an ?_
 refine .nil ?_
 refine .aB rfl (fun ym => ?_) (fun ym => ?_)
 refine .region ?_
 refine .an ?_
 refine .an ?_
 refine .nil ?_
 refine .qC (⟨[(2, .ptr 102 0 0 0), (3, .ptr 103 0 0 0), (8, vi (-1))], [(102, .cells (ab.row n)), (103, .cells (Cell.row c))]⟩) (((¬ ((c.args.length : Int) ≠ 2)) ∧ (¬ (c.op ≠ 0)) ∧ ((c.num : Int) ≠ 0)) ∨ ((¬ ((c.args.length : Int) ≠ 2)) ∧ (¬ (c.op ≠ 0)) ∧ (¬ ((c.num : Int) ≠ 0)))) ?_ (fun FA => ?_)
 refine .sr ?_
 refine .fa bF ?_
 refine .ld bh ?_
 refine .vl (Y.len (n := c.args.length) a7 rfl dG) ?_
 refine .mv ?_
 refine .vl (Y.neq rfl rfl) ?_
 refine .mv ?_
 refine .aE (d := 88) rfl (fun oq => ?_) (fun oq => ?_)
 refine .gz 88 (.gz 88 (.gz 88 ?_))
 refine .gz 88 ?_
 refine .pk ?_
 refine .mv ?_
 refine .gz 94 (.gz 94 (.gz 94 ?_))
 refine .gz 94 (.gz 98 (.gz 98 ?_))
 refine .gz 94 ?_
 refine .pk ?_
 refine .nil (.aV rfl (.sr ?_))
 refine .an ?_
 refine .nil (.ret ?_)
 exact .rb rfl (df fU)
 refine .gw 88 (Y.fieldAddr eg rfl rfl) (.gw 88 (Y.load br rfl rfl rfl rfl) (.gw 88 (Y.move rfl rfl) ?_))
 refine .gw 88 (Y.neq rfl rfl) ?_
 refine .pk ?_
 refine .mv ?_
 refine .aE (d := 94) rfl (fun m0 => ?_) (fun m0 => ?_)
 refine .gz 94 (.gz 94 (.gz 94 ?_))
 refine .gz 94 (.gz 98 (.gz 98 ?_))
 refine .gz 94 ?_
 refine .pk ?_
 refine .nil (.aV rfl (.sr ?_))
 refine .an ?_
 refine .nil (.ret ?_)
 exact .rb rfl (df fU)
 refine .gw 94 (Y.fieldAddr dX rfl rfl) (.gw 94 (Y.load gB rfl rfl rfl rfl) (.gw 94 (Y.neq rfl rfl) ?_))
 refine .gw 94 (Y.move rfl rfl) ?_
 refine .aE (d := 98) rfl (fun mz => ?_) (fun mz => ?_)
 refine .gw 98 (Y.move rfl rfl) (.gw 98 (Y.not rfl) (.gw 94 (Y.pick rfl rfl rfl) ?_))
 refine .pk ?_
 refine .nil (.cX rfl (.skip ?_))
 exact ⟨.inl ⟨oq, m0, mz⟩, Le.mk (.c2 (.c (.nil))) (.c2 (.nil))⟩
 refine .gz 98 (.gz 98 (.gw 94 (Y.pick rfl rfl rfl) ?_))
 refine .pk ?_
 refine .nil (.cX rfl (.skip ?_))
 exact ⟨.inr (⟨oq, m0, mz⟩), Le.mk (.c2 (.c (.nil))) (.c2 (.nil))⟩
 refine .seq (.sr ?_)
 refine .mv ?_
 refine .vl (Y.lss rfl rfl) (.nil (.aV rfl ?_))
 refine .sr ?_
 refine .fa cV ?_
 refine .ld br ?_
 refine .vl (Y.eql rfl rfl) ?_
 refine .an ?_
 refine .nil (.ret ?_)
 exact .rb rfl (dd fU)
 refine .sr (.vl (Y.eql rfl rfl) ?_)
 refine .an ?_
 refine .nil ?_
 refine .aB rfl (fun ON => ?_) (fun ON => ?_)
 refine .seq (.gX rfl aq (.val (Y.fieldAddr eg rfl rfl) ae ?_))
 refine .val (Y.load br rfl rfl rfl rfl) ae (.val (Y.assign rfl rfl) ae (.val (Y.assign rfl rfl) ae ?_))
 refine .val (Y.assign rfl rfl) ae (.nil (.sr ?_))
 refine .fa eg ?_
 refine .ld br ?_
 refine .vl (Y.lss rfl rfl) ?_
 refine .mv ?_
 refine .aE (d := 43) rfl (fun ML => ?_) (fun ML => ?_)
 refine .gz 43 (.gz 43 (.gz 43 ?_))
 refine .pk ?_
 refine .mv ?_
 refine .gz 48 (.gz 48 (.gz 48 ?_))
 refine .pk ?_
 refine .mv ?_
 refine .gz 53 (.gz 53 (.gz 53 ?_))
 refine .pk ?_
 refine .nil (.aV rfl (.sr ?_))
 refine .an ?_
 refine .nil (.ret ?_)
 exact .rb rfl (df fU)
 refine .gw 43 (Y.fieldAddr eg rfl rfl) (.gw 43 (Y.load br rfl rfl rfl rfl) (.gw 43 (Y.gtr rfl rfl) ?_))
 refine .pk ?_
 refine .mv ?_
 refine .aE (d := 48) rfl (fun IK => ?_) (fun IK => ?_)
 refine .gz 48 (.gz 48 (.gz 48 ?_))
 refine .pk ?_
 refine .mv ?_
 refine .gz 53 (.gz 53 (.gz 53 ?_))
 refine .pk ?_
 refine .nil (.aV rfl (.sr ?_))
 refine .an ?_
 refine .nil (.ret ?_)
 exact .rb rfl (df fU)
 refine .gw 48 (Y.fieldAddr dX rfl rfl) (.gw 48 (Y.load gB rfl rfl rfl rfl) (.gw 48 (Y.lss rfl rfl) ?_))
 refine .pk ?_
 refine .mv ?_
 refine .aE (d := 53) rfl (fun QA => ?_) (fun QA => ?_)
 refine .gz 53 (.gz 53 (.gz 53 ?_))
 refine .pk ?_
 refine .nil (.aV rfl (.sr ?_))
 refine .an ?_
 refine .nil (.ret ?_)
 exact .rb rfl (df fU)
 refine .gw 53 (Y.fieldAddr dX rfl rfl) (.gw 53 (Y.load gB rfl rfl rfl rfl) (.gw 53 (Y.gtr rfl rfl) ?_))
 refine .pk ?_
 refine .nil ?_
 refine .aB rfl (fun MM => ?_) (fun MM => ?_)
 refine .sr ?_
 refine .an ?_
 refine .nil (.ret ?_)
 exact .rb rfl (df fU)
 refine .skip ?_
 refine .qC (⟨[(2, .ptr 102 0 0 0), (3, .ptr 103 0 0 0), (8, vi (-1))], [(102, .cells (ab.row n)), (103, .cells (Cell.row c))]⟩) (((¬ ((c.args.length : Int) ≠ 2)) ∧ (¬ (c.op ≠ c.op)) ∧ ((c.num : Int) ≠ 0)) ∨ ((¬ ((c.args.length : Int) ≠ 2)) ∧ (¬ (c.op ≠ c.op)) ∧ (¬ ((c.num : Int) ≠ 0)))) ?_ (fun FA => ?_)
 refine .sr ?_
 refine .fa bF ?_
 refine .ld bh ?_
 refine .vl (Y.len (n := c.args.length) a7 rfl dG) ?_
 refine .mv ?_
 refine .vl (Y.neq rfl rfl) ?_
 refine .mv ?_
 refine .aE (d := 88) rfl (fun oq => ?_) (fun oq => ?_)
 refine .gz 88 (.gz 88 (.gz 88 ?_))
 refine .gz 88 ?_
 refine .pk ?_
 refine .mv ?_
 refine .gz 94 (.gz 94 (.gz 94 ?_))
 refine .gz 94 (.gz 98 (.gz 98 ?_))
 refine .gz 94 ?_
 refine .pk ?_
 refine .nil (.aV rfl (.sr ?_))
 refine .an ?_
 refine .nil (.ret ?_)
 exact .rb rfl (df fU)
 refine .gw 88 (Y.fieldAddr eg rfl rfl) (.gw 88 (Y.load br rfl rfl rfl rfl) (.gw 88 (Y.move rfl rfl) ?_))
 refine .gw 88 (Y.neq rfl rfl) ?_
 refine .pk ?_
 refine .mv ?_
 refine .aE (d := 94) rfl (fun m0 => ?_) (fun m0 => ?_)
 refine .gz 94 (.gz 94 (.gz 94 ?_))
 refine .gz 94 (.gz 98 (.gz 98 ?_))
 refine .gz 94 ?_
 refine .pk ?_
 refine .nil (.aV rfl (.sr ?_))
 refine .an ?_
 refine .nil (.ret ?_)
 exact .rb rfl (df fU)
 refine .gw 94 (Y.fieldAddr dX rfl rfl) (.gw 94 (Y.load gB rfl rfl rfl rfl) (.gw 94 (Y.neq rfl rfl) ?_))
 refine .gw 94 (Y.move rfl rfl) ?_
 refine .aE (d := 98) rfl (fun mz => ?_) (fun mz => ?_)
 refine .gw 98 (Y.move rfl rfl) (.gw 98 (Y.not rfl) (.gw 94 (Y.pick rfl rfl rfl) ?_))
 refine .pk ?_
 refine .nil (.cX rfl (.skip ?_))
 exact ⟨.inl ⟨oq, m0, mz⟩, Le.mk (.c2 (.c (.nil))) (.c2 (.nil))⟩
 refine .gz 98 (.gz 98 (.gw 94 (Y.pick rfl rfl rfl) ?_))
 refine .pk ?_
 refine .nil (.cX rfl (.skip ?_))
 exact ⟨.inr (⟨oq, m0, mz⟩), Le.mk (.c2 (.c (.nil))) (.c2 (.nil))⟩
 refine .seq (.sr ?_)
 refine .mv ?_
 refine .vl (Y.lss rfl rfl) (.nil (.aV rfl ?_))
 refine .sr ?_
 refine .fa cV ?_
 refine .ld br ?_
 refine .vl (Y.eql rfl rfl) ?_
 refine .an ?_
 refine .nil (.ret ?_)
 exact .rb rfl (dd fU)
 refine .sr (.vl (Y.eql rfl rfl) ?_)
 refine .an ?_
 refine .nil ?_
 refine .aB rfl (fun Kj => ?_) (fun Kj => ?_)
 refine .gX rfl aq (.val (Y.fieldAddr fK rfl rfl) ae (.val (Y.load nD rfl rfl rfl rfl) ae ?_))
 refine .val (Y.len (n := n.aw.length) kJ rfl dG) ae (.val (Y.assign rfl rfl) ae (.val (Y.assign rfl rfl) ae ?_))
 refine .nil (.seq (.sr ?_))
 refine .fa bF ?_
 refine .ld bh ?_
 refine .vl (Y.len (n := c.args.length) a7 rfl dG) ?_
 refine .mv ?_
 refine .vl (Y.neq rfl rfl) ?_
 refine .mv ?_
 refine .aE (d := 88) rfl (fun oq => ?_) (fun oq => ?_)
 refine .gz 88 (.gz 88 (.gz 88 ?_))
 refine .gz 88 ?_
 refine .pk ?_
 refine .mv ?_
 refine .gz 94 (.gz 94 (.gz 94 ?_))
 refine .gz 94 (.gz 98 (.gz 98 ?_))
 refine .gz 94 ?_
 refine .pk ?_
 refine .nil (.aV rfl (.sr ?_))
 refine .an ?_
 refine .nil (.ret ?_)
 exact .rb rfl (df fU)
 refine .gw 88 (Y.fieldAddr eg rfl rfl) (.gw 88 (Y.load br rfl rfl rfl rfl) (.gw 88 (Y.move rfl rfl) ?_))
 refine .gw 88 (Y.neq rfl rfl) ?_
 refine .pk ?_
 refine .mv ?_
 refine .aE (d := 94) rfl (fun m0 => ?_) (fun m0 => ?_)
 refine .gz 94 (.gz 94 (.gz 94 ?_))
 refine .gz 94 (.gz 98 (.gz 98 ?_))
 refine .gz 94 ?_
 refine .pk ?_
 refine .nil (.aV rfl (.sr ?_))
 refine .an ?_
 refine .nil (.ret ?_)
 exact .rb rfl (df fU)
 refine .gw 94 (Y.fieldAddr dX rfl rfl) (.gw 94 (Y.load gB rfl rfl rfl rfl) (.gw 94 (Y.neq rfl rfl) ?_))
 refine .gw 94 (Y.move rfl rfl) ?_
 refine .aE (d := 98) rfl (fun mz => ?_) (fun mz => ?_)
 refine .gw 98 (Y.move rfl rfl) (.gw 98 (Y.not rfl) (.gw 94 (Y.pick rfl rfl rfl) ?_))
 refine .pk ?_
 refine .nil (.aV rfl (.sr ?_))
 refine .an ?_
 refine .nil (.ret ?_)
 exact .rb rfl (df fU)
 refine .gz 98 (.gz 98 (.gw 94 (Y.pick rfl rfl rfl) ?_))
 refine .pk ?_
 refine .nil (.cX rfl (.skip ?_))
 refine .seq (.sr ?_)
 refine .mv ?_
 refine .vl (Y.lss rfl rfl) (.nil ?_)
 refine .aB rfl (fun wv => ?_) (fun wv => ?_)
 refine .sr ?_
 refine .fa cV ?_
 refine .ld br ?_
 refine .vl (Y.eql rfl rfl) ?_
 refine .an ?_
 refine .nil (.ret ?_)
 exact .rb rfl (dd fU)
 refine .skip (.sr ?_)
 refine .fa cV ?_
 refine .ld br ?_
 refine .vl (Y.geq rfl rfl) ?_
 refine .mv ?_
 refine .aE (d := 111) rfl (fun wx => ?_) (fun wx => ?_)
 refine .gw 111 (Y.fieldAddr cV rfl rfl) (.gw 111 (Y.load br rfl rfl rfl rfl) (.gw 111 (Y.move rfl rfl) ?_))
 refine .gw 111 (Y.lss rfl rfl) ?_
 refine .pk ?_
 refine .mv ?_
 refine .aE (d := 117) rfl (fun nE => ?_) (fun nE => ?_)
 refine .gw 117 (Y.fieldAddr cL rfl rfl) (.gw 117 (Y.load br rfl rfl rfl rfl) (.gw 117 (Y.neq rfl rfl) ?_))
 refine .gw 117 (Y.move rfl rfl) ?_
 refine .aE (d := 121) rfl (fun wy => ?_) (fun wy => ?_)
 refine .gz 121 (.gz 121 (.gz 121 ?_))
 refine .gz 121 (.gz 121 (.gz 121 ?_))
 refine .gz 121 (.gz 121 (.gw 117 (Y.pick rfl rfl rfl) ?_))
 refine .pk ?_
 refine .an ?_
 refine .nil (.ret ?_)
 exact .rb rfl (dt fU)
 refine .gw 121 (Y.fieldAddr ef rfl rfl) (.gw 121 (Y.load jS rfl rfl rfl rfl) (.gw 121 (Y.fieldAddr cV rfl rfl) ?_))
 refine .gw 121 (Y.load br rfl rfl rfl rfl) (.gw 121 (Y.aK (m := (c.mem).toNat) gZ rfl rfl om (ax (d := default) om)) ?_)
 refine .gw 121 (Y.fieldAddr kI rfl rfl) (.gw 121 (Y.load vL rfl rfl rfl rfl) (.gw 121 (Y.not rfl) ?_))
 refine .gw 117 (Y.pick rfl rfl rfl) ?_
 refine .pk ?_
 refine .an ?_
 refine .nil (.ret ?_)
 exact .rb rfl (db fU)
 refine .gz 117 (.gz 117 (.gz 117 ?_))
 refine .gz 117 (.gz 121 (.gz 121 ?_))
 refine .gz 121 (.gz 121 (.gz 121 ?_))
 refine .gz 121 (.gz 121 (.gz 121 ?_))
 refine .gz 117 ?_
 refine .pk ?_
 refine .an ?_
 refine .nil (.ret ?_)
 exact .rb rfl (df fU)
 refine .gz 111 (.gz 111 (.gz 111 ?_))
 refine .gz 111 ?_
 refine .pk ?_
 refine .mv ?_
 refine .gz 117 (.gz 117 (.gz 117 ?_))
 refine .gz 117 (.gz 121 (.gz 121 ?_))
 refine .gz 121 (.gz 121 (.gz 121 ?_))
 refine .gz 121 (.gz 121 (.gz 121 ?_))
 refine .gz 117 ?_
 refine .pk ?_
 refine .an ?_
 refine .nil (.ret ?_)
 exact .rb rfl (df fU)
 refine .sr (.vl (Y.eql rfl rfl) ?_)
 refine .an ?_
 refine .nil ?_
 refine .aB rfl (fun xl => ?_) (fun xl => ?_)
 refine .gX rfl aq (.val (Y.fieldAddr fK rfl rfl) ae (.val (Y.load nD rfl rfl rfl rfl) ae ?_))
 refine .val (Y.len (n := n.aw.length) kJ rfl dG) ae (.val (Y.assign rfl rfl) ae (.val (Y.assign rfl rfl) ae ?_))
 refine .nil (.seq (.sr ?_))
 refine .fa bF ?_
 refine .ld bh ?_
 refine .vl (Y.len (n := c.args.length) a7 rfl dG) ?_
 refine .mv ?_
 refine .vl (Y.neq rfl rfl) ?_
 refine .mv ?_
 refine .aE (d := 88) rfl (fun oq => ?_) (fun oq => ?_)
 refine .gz 88 (.gz 88 (.gz 88 ?_))
 refine .gz 88 ?_
 refine .pk ?_
 refine .mv ?_
 refine .gz 94 (.gz 94 (.gz 94 ?_))
 refine .gz 94 (.gz 98 (.gz 98 ?_))
 refine .gz 94 ?_
 refine .pk ?_
 refine .nil (.aV rfl (.sr ?_))
 refine .an ?_
 refine .nil (.ret ?_)
 exact .rb rfl (df fU)
 refine .gw 88 (Y.fieldAddr eg rfl rfl) (.gw 88 (Y.load br rfl rfl rfl rfl) (.gw 88 (Y.move rfl rfl) ?_))
 refine .gw 88 (Y.neq rfl rfl) ?_
 refine .pk ?_
 refine .mv ?_
 refine .aE (d := 94) rfl (fun m0 => ?_) (fun m0 => ?_)
 refine .gz 94 (.gz 94 (.gz 94 ?_))
 refine .gz 94 (.gz 98 (.gz 98 ?_))
 refine .gz 94 ?_
 refine .pk ?_
 refine .nil (.aV rfl (.sr ?_))
 refine .an ?_
 refine .nil (.ret ?_)
 exact .rb rfl (df fU)
 refine .gw 94 (Y.fieldAddr dX rfl rfl) (.gw 94 (Y.load gB rfl rfl rfl rfl) (.gw 94 (Y.neq rfl rfl) ?_))
 refine .gw 94 (Y.move rfl rfl) ?_
 refine .aE (d := 98) rfl (fun mz => ?_) (fun mz => ?_)
 refine .gw 98 (Y.move rfl rfl) (.gw 98 (Y.not rfl) (.gw 94 (Y.pick rfl rfl rfl) ?_))
 refine .pk ?_
 refine .nil (.aV rfl (.sr ?_))
 refine .an ?_
 refine .nil (.ret ?_)
 exact .rb rfl (df fU)
 refine .gz 98 (.gz 98 (.gw 94 (Y.pick rfl rfl rfl) ?_))
 refine .pk ?_
 refine .nil (.cX rfl (.skip ?_))
 refine .seq (.sr ?_)
 refine .mv ?_
 refine .vl (Y.lss rfl rfl) (.nil ?_)
 refine .aB rfl (fun wv => ?_) (fun wv => ?_)
 refine .sr ?_
 refine .fa cV ?_
 refine .ld br ?_
 refine .vl (Y.eql rfl rfl) ?_
 refine .an ?_
 refine .nil (.ret ?_)
 exact .rb rfl (dd fU)
 refine .skip (.sr ?_)
 refine .fa cV ?_
 refine .ld br ?_
 refine .vl (Y.geq rfl rfl) ?_
 refine .mv ?_
 refine .aE (d := 111) rfl (fun wx => ?_) (fun wx => ?_)
 refine .gw 111 (Y.fieldAddr cV rfl rfl) (.gw 111 (Y.load br rfl rfl rfl rfl) (.gw 111 (Y.move rfl rfl) ?_))
 refine .gw 111 (Y.lss rfl rfl) ?_
 refine .pk ?_
 refine .mv ?_
 refine .aE (d := 117) rfl (fun nE => ?_) (fun nE => ?_)
 refine .gw 117 (Y.fieldAddr cL rfl rfl) (.gw 117 (Y.load br rfl rfl rfl rfl) (.gw 117 (Y.neq rfl rfl) ?_))
 refine .gw 117 (Y.move rfl rfl) ?_
 refine .aE (d := 121) rfl (fun wy => ?_) (fun wy => ?_)
 refine .gz 121 (.gz 121 (.gz 121 ?_))
 refine .gz 121 (.gz 121 (.gz 121 ?_))
 refine .gz 121 (.gz 121 (.gw 117 (Y.pick rfl rfl rfl) ?_))
 refine .pk ?_
 refine .an ?_
 refine .nil (.ret ?_)
 exact .rb rfl (dt fU)
 refine .gw 121 (Y.fieldAddr ef rfl rfl) (.gw 121 (Y.load jS rfl rfl rfl rfl) (.gw 121 (Y.fieldAddr cV rfl rfl) ?_))
 refine .gw 121 (Y.load br rfl rfl rfl rfl) (.gw 121 (Y.aK (m := (c.mem).toNat) gZ rfl rfl om (ax (d := default) om)) ?_)
 refine .gw 121 (Y.fieldAddr kI rfl rfl) (.gw 121 (Y.load vL rfl rfl rfl rfl) (.gw 121 (Y.not rfl) ?_))
 refine .gw 117 (Y.pick rfl rfl rfl) ?_
 refine .pk ?_
 refine .an ?_
 refine .nil (.ret ?_)
 exact .rb rfl (db fU)
 refine .gz 117 (.gz 117 (.gz 117 ?_))
 refine .gz 117 (.gz 121 (.gz 121 ?_))
 refine .gz 121 (.gz 121 (.gz 121 ?_))
 refine .gz 121 (.gz 121 (.gz 121 ?_))
 refine .gz 117 ?_
 refine .pk ?_
 refine .an ?_
 refine .nil (.ret ?_)
 exact .rb rfl (df fU)
 refine .gz 111 (.gz 111 (.gz 111 ?_))
 refine .gz 111 ?_
 refine .pk ?_
 refine .mv ?_
 refine .gz 117 (.gz 117 (.gz 117 ?_))
 refine .gz 117 (.gz 121 (.gz 121 ?_))
 refine .gz 121 (.gz 121 (.gz 121 ?_))
 refine .gz 121 (.gz 121 (.gz 121 ?_))
 refine .gz 117 ?_
 refine .pk ?_
 refine .an ?_
 refine .nil (.ret ?_)
 exact .rb rfl (df fU)
 refine .sr (.vl (Y.eql rfl rfl) ?_)
 refine .an ?_
 refine .nil ?_
 refine .aB rfl (fun GA => ?_) (fun GA => ?_)
 refine .sr ?_
 refine .an ?_
 refine .nil (.sr ?_)
 refine .fa dX ?_
 refine .ld gB ?_
 refine .fa kG ?_
 refine .ld bh ?_
 refine .vl (Y.len (n := n.ins.length) a7 rfl dG) (.vl (Y.fo py xH rfl (by first | rfl | exact IntWalk.u64_in _ om)) ?_)
 refine .vl (Y.geq rfl rfl) (.nil ?_)
 refine .aB rfl (fun yq => ?_) (fun yq => ?_)
 refine .sr ?_
 refine .an ?_
 refine .nil (.ret ?_)
 exact .rb rfl (df fU)
 refine .skip ?_
 refine .qC (⟨[(2, .ptr 102 0 0 0), (3, .ptr 103 0 0 0), (8, vi (-1))], [(102, .cells (ab.row n)), (103, .cells (Cell.row c))]⟩) (((¬ ((c.args.length : Int) ≠ 0)) ∧ (¬ (c.op ≠ 0)) ∧ ((c.num : Int) ≠ 0)) ∨ ((¬ ((c.args.length : Int) ≠ 0)) ∧ (¬ (c.op ≠ 0)) ∧ (¬ ((c.num : Int) ≠ 0)))) ?_ (fun FA => ?_)
 refine .sr ?_
 refine .fa bF ?_
 refine .ld bh ?_
 refine .vl (Y.len (n := c.args.length) a7 rfl dG) ?_
 refine .mv ?_
 refine .vl (Y.neq rfl rfl) ?_
 refine .mv ?_
 refine .aE (d := 88) rfl (fun oq => ?_) (fun oq => ?_)
 refine .gz 88 (.gz 88 (.gz 88 ?_))
 refine .gz 88 ?_
 refine .pk ?_
 refine .mv ?_
 refine .gz 94 (.gz 94 (.gz 94 ?_))
 refine .gz 94 (.gz 98 (.gz 98 ?_))
 refine .gz 94 ?_
 refine .pk ?_
 refine .nil (.aV rfl (.sr ?_))
 refine .an ?_
 refine .nil (.ret ?_)
 exact .rb rfl (df fU)
 refine .gw 88 (Y.fieldAddr eg rfl rfl) (.gw 88 (Y.load br rfl rfl rfl rfl) (.gw 88 (Y.move rfl rfl) ?_))
 refine .gw 88 (Y.neq rfl rfl) ?_
 refine .pk ?_
 refine .mv ?_
 refine .aE (d := 94) rfl (fun m0 => ?_) (fun m0 => ?_)
 refine .gz 94 (.gz 94 (.gz 94 ?_))
 refine .gz 94 (.gz 98 (.gz 98 ?_))
 refine .gz 94 ?_
 refine .pk ?_
 refine .nil (.aV rfl (.sr ?_))
 refine .an ?_
 refine .nil (.ret ?_)
 exact .rb rfl (df fU)
 refine .gw 94 (Y.fieldAddr dX rfl rfl) (.gw 94 (Y.load gB rfl rfl rfl rfl) (.gw 94 (Y.neq rfl rfl) ?_))
 refine .gw 94 (Y.move rfl rfl) ?_
 refine .aE (d := 98) rfl (fun mz => ?_) (fun mz => ?_)
 refine .gw 98 (Y.move rfl rfl) (.gw 98 (Y.not rfl) (.gw 94 (Y.pick rfl rfl rfl) ?_))
 refine .pk ?_
 refine .nil (.cX rfl (.skip ?_))
 exact ⟨.inl ⟨oq, m0, mz⟩, Le.mk (.c2 (.c (.nil))) (.c2 (.nil))⟩
 refine .gz 98 (.gz 98 (.gw 94 (Y.pick rfl rfl rfl) ?_))
 refine .pk ?_
 refine .nil (.cX rfl (.skip ?_))
 exact ⟨.inr (⟨oq, m0, mz⟩), Le.mk (.c2 (.c (.nil))) (.c2 (.nil))⟩
 refine .seq (.sr ?_)
 refine .mv ?_
 refine .vl (Y.lss rfl rfl) (.nil (.aV rfl ?_))
 refine .sr ?_
 refine .fa cV ?_
 refine .ld br ?_
 refine .vl (Y.eql rfl rfl) ?_
 refine .an ?_
 refine .nil (.ret ?_)
 exact .rb rfl (dd fU)
 refine .seq (.sr (.vl (Y.eql rfl rfl) ?_))
 refine .an ?_
 refine .nil ?_
 refine .bD rfl (fun Cw => ?_) (fun Cw => ?_)
 refine .skip (.aV rfl (.region ?_))
 refine .fa ef ?_
 refine .ld jS ?_
 refine .vl (Y.len (n := n.streams.length) gZ rfl dG) ?_
 refine .an ?_
 refine .nil (.seq (.sr ?_))
 refine .fa bF ?_
 refine .ld bh ?_
 refine .vl (Y.len (n := c.args.length) a7 rfl dG) ?_
 refine .mv ?_
 refine .vl (Y.neq rfl rfl) ?_
 refine .mv ?_
 refine .aE (d := 88) rfl (fun oq => ?_) (fun oq => ?_)
 refine .gz 88 (.gz 88 (.gz 88 ?_))
 refine .gz 88 ?_
 refine .pk ?_
 refine .mv ?_
 refine .gz 94 (.gz 94 (.gz 94 ?_))
 refine .gz 94 (.gz 98 (.gz 98 ?_))
 refine .gz 94 ?_
 refine .pk ?_
 refine .nil (.aV rfl (.sr ?_))
 refine .an ?_
 refine .nil (.ret ?_)
 exact .rb rfl (df fU)
 refine .gw 88 (Y.fieldAddr eg rfl rfl) (.gw 88 (Y.load br rfl rfl rfl rfl) (.gw 88 (Y.move rfl rfl) ?_))
 refine .gw 88 (Y.neq rfl rfl) ?_
 refine .pk ?_
 refine .mv ?_
 refine .aE (d := 94) rfl (fun m0 => ?_) (fun m0 => ?_)
 refine .gz 94 (.gz 94 (.gz 94 ?_))
 refine .gz 94 (.gz 98 (.gz 98 ?_))
 refine .gz 94 ?_
 refine .pk ?_
 refine .nil (.aV rfl (.sr ?_))
 refine .an ?_
 refine .nil (.ret ?_)
 exact .rb rfl (df fU)
 refine .gw 94 (Y.fieldAddr dX rfl rfl) (.gw 94 (Y.load gB rfl rfl rfl rfl) (.gw 94 (Y.neq rfl rfl) ?_))
 refine .gw 94 (Y.move rfl rfl) ?_
 refine .aE (d := 98) rfl (fun mz => ?_) (fun mz => ?_)
 refine .gw 98 (Y.move rfl rfl) (.gw 98 (Y.not rfl) (.gw 94 (Y.pick rfl rfl rfl) ?_))
 refine .pk ?_
 refine .nil (.aV rfl (.sr ?_))
 refine .an ?_
 refine .nil (.ret ?_)
 exact .rb rfl (df fU)
 refine .gz 98 (.gz 98 (.gw 94 (Y.pick rfl rfl rfl) ?_))
 refine .pk ?_
 refine .nil (.cX rfl (.skip ?_))
 refine .seq (.sr ?_)
 refine .mv ?_
 refine .vl (Y.lss rfl rfl) (.nil ?_)
 refine .aB rfl (fun wv => ?_) (fun wv => ?_)
 refine .sr ?_
 refine .fa cV ?_
 refine .ld br ?_
 refine .vl (Y.eql rfl rfl) ?_
 refine .an ?_
 refine .nil (.ret ?_)
 exact .rb rfl (dd fU)
 refine .skip (.sr ?_)
 refine .fa cV ?_
 refine .ld br ?_
 refine .vl (Y.geq rfl rfl) ?_
 refine .mv ?_
 refine .aE (d := 111) rfl (fun wx => ?_) (fun wx => ?_)
 refine .gw 111 (Y.fieldAddr cV rfl rfl) (.gw 111 (Y.load br rfl rfl rfl rfl) (.gw 111 (Y.move rfl rfl) ?_))
 refine .gw 111 (Y.lss rfl rfl) ?_
 refine .pk ?_
 refine .mv ?_
 refine .aE (d := 117) rfl (fun nE => ?_) (fun nE => ?_)
 refine .gw 117 (Y.fieldAddr cL rfl rfl) (.gw 117 (Y.load br rfl rfl rfl rfl) (.gw 117 (Y.neq rfl rfl) ?_))
 refine .gw 117 (Y.move rfl rfl) ?_
 refine .aE (d := 121) rfl (fun wy => ?_) (fun wy => ?_)
 refine .gz 121 (.gz 121 (.gz 121 ?_))
 refine .gz 121 (.gz 121 (.gz 121 ?_))
 refine .gz 121 (.gz 121 (.gw 117 (Y.pick rfl rfl rfl) ?_))
 refine .pk ?_
 refine .an ?_
 refine .nil (.ret ?_)
 exact .rb rfl (dt fU)
 refine .gw 121 (Y.fieldAddr ef rfl rfl) (.gw 121 (Y.load jS rfl rfl rfl rfl) (.gw 121 (Y.fieldAddr cV rfl rfl) ?_))
 refine .gw 121 (Y.load br rfl rfl rfl rfl) (.gw 121 (Y.aK (m := (c.mem).toNat) gZ rfl rfl om (ax (d := default) om)) ?_)
 refine .gw 121 (Y.fieldAddr kI rfl rfl) (.gw 121 (Y.load vL rfl rfl rfl rfl) (.gw 121 (Y.not rfl) ?_))
 refine .gw 117 (Y.pick rfl rfl rfl) ?_
 refine .pk ?_
 refine .an ?_
 refine .nil (.ret ?_)
 exact .rb rfl (db fU)
 refine .gz 117 (.gz 117 (.gz 117 ?_))
 refine .gz 117 (.gz 121 (.gz 121 ?_))
 refine .gz 121 (.gz 121 (.gz 121 ?_))
 refine .gz 121 (.gz 121 (.gz 121 ?_))
 refine .gz 117 ?_
 refine .pk ?_
 refine .an ?_
 refine .nil (.ret ?_)
 exact .rb rfl (df fU)
 refine .gz 111 (.gz 111 (.gz 111 ?_))
 refine .gz 111 ?_
 refine .pk ?_
 refine .mv ?_
 refine .gz 117 (.gz 117 (.gz 117 ?_))
 refine .gz 117 (.gz 121 (.gz 121 ?_))
 refine .gz 121 (.gz 121 (.gz 121 ?_))
 refine .gz 121 (.gz 121 (.gz 121 ?_))
 refine .gz 117 ?_
 refine .pk ?_
 refine .an ?_
 refine .nil (.ret ?_)
 exact .rb rfl (df fU)
 refine .region (.vl (Y.eql rfl rfl) ?_)
 refine .an ?_
 refine .nil ?_
 refine .bD rfl (fun Cw => ?_) (fun Cw => ?_)
 refine .region ?_
 refine .fa ef ?_
 refine .ld jS ?_
 refine .vl (Y.len (n := n.streams.length) gZ rfl dG) ?_
 refine .an ?_
 refine .nil (.seq (.sr ?_))
 refine .fa bF ?_
 refine .ld bh ?_
 refine .vl (Y.len (n := c.args.length) a7 rfl dG) ?_
 refine .mv ?_
 refine .vl (Y.neq rfl rfl) ?_
 refine .mv ?_
 refine .aE (d := 88) rfl (fun oq => ?_) (fun oq => ?_)
 refine .gz 88 (.gz 88 (.gz 88 ?_))
 refine .gz 88 ?_
 refine .pk ?_
 refine .mv ?_
 refine .gz 94 (.gz 94 (.gz 94 ?_))
 refine .gz 94 (.gz 98 (.gz 98 ?_))
 refine .gz 94 ?_
 refine .pk ?_
 refine .nil (.aV rfl (.sr ?_))
 refine .an ?_
 refine .nil (.ret ?_)
 exact .rb rfl (df fU)
 refine .gw 88 (Y.fieldAddr eg rfl rfl) (.gw 88 (Y.load br rfl rfl rfl rfl) (.gw 88 (Y.move rfl rfl) ?_))
 refine .gw 88 (Y.neq rfl rfl) ?_
 refine .pk ?_
 refine .mv ?_
 refine .aE (d := 94) rfl (fun m0 => ?_) (fun m0 => ?_)
 refine .gz 94 (.gz 94 (.gz 94 ?_))
 refine .gz 94 (.gz 98 (.gz 98 ?_))
 refine .gz 94 ?_
 refine .pk ?_
 refine .nil (.aV rfl (.sr ?_))
 refine .an ?_
 refine .nil (.ret ?_)
 exact .rb rfl (df fU)
 refine .gw 94 (Y.fieldAddr dX rfl rfl) (.gw 94 (Y.load gB rfl rfl rfl rfl) (.gw 94 (Y.neq rfl rfl) ?_))
 refine .gw 94 (Y.move rfl rfl) ?_
 refine .aE (d := 98) rfl (fun mz => ?_) (fun mz => ?_)
 refine .gw 98 (Y.move rfl rfl) (.gw 98 (Y.not rfl) (.gw 94 (Y.pick rfl rfl rfl) ?_))
 refine .pk ?_
 refine .nil (.aV rfl (.sr ?_))
 refine .an ?_
 refine .nil (.ret ?_)
 exact .rb rfl (df fU)
 refine .gz 98 (.gz 98 (.gw 94 (Y.pick rfl rfl rfl) ?_))
 refine .pk ?_
 refine .nil (.cX rfl (.skip ?_))
 refine .seq (.sr ?_)
 refine .mv ?_
 refine .vl (Y.lss rfl rfl) (.nil ?_)
 refine .aB rfl (fun wv => ?_) (fun wv => ?_)
 refine .sr ?_
 refine .fa cV ?_
 refine .ld br ?_
 refine .vl (Y.eql rfl rfl) ?_
 refine .an ?_
 refine .nil (.ret ?_)
 exact .rb rfl (dd fU)
 refine .skip (.sr ?_)
 refine .fa cV ?_
 refine .ld br ?_
 refine .vl (Y.geq rfl rfl) ?_
 refine .mv ?_
 refine .aE (d := 111) rfl (fun wx => ?_) (fun wx => ?_)
 refine .gw 111 (Y.fieldAddr cV rfl rfl) (.gw 111 (Y.load br rfl rfl rfl rfl) (.gw 111 (Y.move rfl rfl) ?_))
 refine .gw 111 (Y.lss rfl rfl) ?_
 refine .pk ?_
 refine .mv ?_
 refine .aE (d := 117) rfl (fun nE => ?_) (fun nE => ?_)
 refine .gw 117 (Y.fieldAddr cL rfl rfl) (.gw 117 (Y.load br rfl rfl rfl rfl) (.gw 117 (Y.neq rfl rfl) ?_))
 refine .gw 117 (Y.move rfl rfl) ?_
 refine .aE (d := 121) rfl (fun wy => ?_) (fun wy => ?_)
 refine .gz 121 (.gz 121 (.gz 121 ?_))
 refine .gz 121 (.gz 121 (.gz 121 ?_))
 refine .gz 121 (.gz 121 (.gw 117 (Y.pick rfl rfl rfl) ?_))
 refine .pk ?_
 refine .an ?_
 refine .nil (.ret ?_)
 exact .rb rfl (dt fU)
 refine .gw 121 (Y.fieldAddr ef rfl rfl) (.gw 121 (Y.load jS rfl rfl rfl rfl) (.gw 121 (Y.fieldAddr cV rfl rfl) ?_))
 refine .gw 121 (Y.load br rfl rfl rfl rfl) (.gw 121 (Y.aK (m := (c.mem).toNat) gZ rfl rfl om (ax (d := default) om)) ?_)
 refine .gw 121 (Y.fieldAddr kI rfl rfl) (.gw 121 (Y.load vL rfl rfl rfl rfl) (.gw 121 (Y.not rfl) ?_))
 refine .gw 117 (Y.pick rfl rfl rfl) ?_
 refine .pk ?_
 refine .an ?_
 refine .nil (.ret ?_)
 exact .rb rfl (db fU)
 refine .gz 117 (.gz 117 (.gz 117 ?_))
 refine .gz 117 (.gz 121 (.gz 121 ?_))
 refine .gz 121 (.gz 121 (.gz 121 ?_))
 refine .gz 121 (.gz 121 (.gz 121 ?_))
 refine .gz 117 ?_
 refine .pk ?_
 refine .an ?_
 refine .nil (.ret ?_)
 exact .rb rfl (df fU)
 refine .gz 111 (.gz 111 (.gz 111 ?_))
 refine .gz 111 ?_
 refine .pk ?_
 refine .mv ?_
 refine .gz 117 (.gz 117 (.gz 117 ?_))
 refine .gz 117 (.gz 121 (.gz 121 ?_))
 refine .gz 121 (.gz 121 (.gz 121 ?_))
 refine .gz 121 (.gz 121 (.gz 121 ?_))
 refine .gz 117 ?_
 refine .pk ?_
 refine .an ?_
 refine .nil (.ret ?_)
 exact .rb rfl (df fU)
 refine .sr ?_
 refine .an ?_
 refine .nil (.ret ?_)
 exact .rb rfl (df (by (simp only [Shaped, Dq, xk, my, ym, ON, Kj, xl, GA, Cw, Cw, Int.reduceEq, Bool.not_eq_true, false_and, true_and, and_true, and_false, or_false, false_or, ne_eq]) <;> (first | omega | grind)))
end Go.Proofs.Ytligpghohcfpnaa
/- Walks through the searches of slices. -/
namespace Go.Proofs.Ytligpghohcfpnaa
open Go Go.AW Go.Proofs
theorem oU {l : List Int} {p : Int → Bool} {g : Nat} {row : List X} (hl : l.length ≤ 17592186043904) (jf : aU Try.prog g = true) (hg : ∀ z ∈ l, az Try.prog g [vi z, .fp row 0] [] [] (fun r o => r = .v (.bool (p z)) ∧ o = [])) : az Try.prog 123 [.fz 1 (l.map ah), .gl (.func g) [] [.fp row 0]] [] [] (fun r o => r = (vi (sQ p l)) ∧ o = []) := by
 refine az.of Try.func123 rfl rfl rfl (n := 19) ae (aH rfl) (.sr ?_)
 refine .an ?_
 refine .nil (.seq (.sr ?_))
 refine .mv ?_
 refine .vl (Y.len (n := l.length) a7 rfl dG) ?_
 refine .mv ?_
 refine .nil (.block ?_)
 refine .lZ (fun (ia : Nat) => ⟨[(0, .fz 1 (l.map ah)), (1, .gl (.func g) [] [.fp row 0]), (7, vi l.length), (8, vi ia)], []⟩) (fun ia => ((ia : Int) ≤ (l.length : Int)) ∧ (∀ j, j < ia → p (l.getD j 0) = false)) (fun ia => ((l.length : Int) - (ia : Int)).toNat) 0 (⟨om, fun j hj => by omega⟩) (Le.mk (.c2 (.c (.cons (ak rfl b5) (.nil)))) (.nil)) (fun ia x6 => ?_)
 obtain ⟨rL, h0⟩ := x6
 refine .sr (.vl (Y.lss rfl rfl) (.nil ?_))
 refine .seq ?_
 refine .aB rfl (fun c9 => ?_) (fun c9 => ?_)
 refine .skip (.seq (.block ?_))
 refine .sr ?_
 refine .mv ?_
 refine .an ?_
 refine .nil (.sr ?_)
 refine .mv ?_
 refine .mv ?_
 refine .mv ?_
 refine .vl (Y.aK (m := ia) a7 rfl rfl b5 (ax (d := 0) om)) ?_
 refine .ld br ?_
 refine .lG rfl jf (hg _ (fX om)) rfl (.ai rfl rfl (.ai rfl rfl .nil)) ae rfl (.nil ?_)
 refine .cond rfl (fun uD => ?_) (fun uD => ?_)
 refine .sr ?_
 refine .mv ?_
 refine .an ?_
 refine .nil (.ret ?_)
 exact .ri rfl (nX h0 om uD)
 refine .skip (.region ?_)
 refine .vl (Y.aT rfl rfl bw) ?_
 refine .mv ?_
 refine .nil ?_
 exact ⟨ia + 1, ⟨om, mU h0 uD⟩, om, Le.mk (.c2 (.c (.cons (ak rfl b5) (.nil)))) (.nil)⟩
 refine .exit (.sr ?_)
 refine .an ?_
 refine .nil (.ret ?_)
 exact .ri rfl (pt (fun j hj => h0 j om))
theorem ja {l : List Int} {p : Int → Bool} {g : Nat} {row : List X} (hl : l.length ≤ 17592186043904) (jf : aU Try.prog g = true) (hg : ∀ z ∈ l, az Try.prog g [vi z, .fp row 0] [] [] (fun r o => r = .v (.bool (p z)) ∧ o = [])) : az Try.prog 95 [.fz 1 (l.map ah), .gl (.func g) [] [.fp row 0]] [] [] (fun r o => r = .v (.bool (l.any p)) ∧ o = []) := by
 refine az.of Try.func95 rfl rfl rfl (n := 9) ae (aH rfl) (.sr ?_)
 refine .an ?_
 refine .nil (.sr ?_)
 refine .mv ?_
 refine .mv ?_
 refine .aP Ij (oU (l := l) hl jf hg) rfl (.ai rfl rfl (.ai rfl rfl .nil)) ae rfl (.vl (Y.geq rfl rfl) ?_)
 refine .an ?_
 refine .nil (.ret ?_)
 exact .rb rfl (qO)
theorem ot {l : List Cell} {p : Cell → Bool} {g : Nat} {row : List X} (hl : l.length ≤ 17592186043904) (jf : aU Try.prog g = true) (hg : ∀ z ∈ l, az Try.prog g [.agg (Cell.row z), .fp row 0] [] [] (fun r o => r = .v (.bool (p z)) ∧ o = [])) : az Try.prog 126 [.fz 6 (l.map Cell.row), .gl (.func g) [] [.fp row 0]] [] [] (fun r o => r = (vi (sQ p l)) ∧ o = []) := by
 refine az.of Try.func126 rfl rfl rfl (n := 19) ae (aH rfl) (.sr ?_)
 refine .an ?_
 refine .nil (.seq (.sr ?_))
 refine .mv ?_
 refine .vl (Y.len (n := l.length) dD rfl dG) ?_
 refine .mv ?_
 refine .nil (.block ?_)
 refine .lZ (fun (ia : Nat) => ⟨[(0, .fz 6 (l.map Cell.row)), (1, .gl (.func g) [] [.fp row 0]), (7, vi l.length), (8, vi ia)], []⟩) (fun ia => ((ia : Int) ≤ (l.length : Int)) ∧ (∀ j, j < ia → p (l.getD j default) = false)) (fun ia => ((l.length : Int) - (ia : Int)).toNat) 0 (⟨om, fun j hj => by omega⟩) (Le.mk (.c2 (.c (.cons (ak rfl b5) (.nil)))) (.nil)) (fun ia x6 => ?_)
 obtain ⟨rL, h0⟩ := x6
 refine .sr (.vl (Y.lss rfl rfl) (.nil ?_))
 refine .seq ?_
 refine .aB rfl (fun c9 => ?_) (fun c9 => ?_)
 refine .skip (.seq (.block ?_))
 refine .sr ?_
 refine .mv ?_
 refine .an ?_
 refine .nil (.sr ?_)
 refine .mv ?_
 refine .mv ?_
 refine .mv ?_
 refine .vl (Y.aK (m := ia) dD rfl rfl b5 (ax (d := default) om)) ?_
 refine .vl (Y.aM eb rfl rfl (aH rfl) rfl rfl) (.lG rfl jf (hg _ (fX om)) rfl (.ai rfl rfl (.ai rfl rfl .nil)) ae rfl (.nil ?_))
 refine .cond rfl (fun uD => ?_) (fun uD => ?_)
 refine .sr ?_
 refine .mv ?_
 refine .an ?_
 refine .nil (.ret ?_)
 exact .ri rfl (nX h0 om uD)
 refine .skip (.region ?_)
 refine .vl (Y.aT rfl rfl bw) ?_
 refine .mv ?_
 refine .nil ?_
 exact ⟨ia + 1, ⟨om, mU h0 uD⟩, om, Le.mk (.c2 (.c (.cons (ak rfl b5) (.nil)))) (.nil)⟩
 refine .exit (.sr ?_)
 refine .an ?_
 refine .nil (.ret ?_)
 exact .ri rfl (pt (fun j hj => h0 j om))
theorem m7 {l : List Cell} {p : Cell → Bool} {g : Nat} {row : List X} (hl : l.length ≤ 17592186043904) (jf : aU Try.prog g = true) (hg : ∀ z ∈ l, az Try.prog g [.agg (Cell.row z), .fp row 0] [] [] (fun r o => r = .v (.bool (p z)) ∧ o = [])) : az Try.prog 100 [.fz 6 (l.map Cell.row), .gl (.func g) [] [.fp row 0]] [] [] (fun r o => r = .v (.bool (l.any p)) ∧ o = []) := by
 refine az.of Try.func100 rfl rfl rfl (n := 9) ae (aH rfl) (.sr ?_)
 refine .an ?_
 refine .nil (.sr ?_)
 refine .mv ?_
 refine .mv ?_
 refine .aP Il (ot (l := l) hl jf hg) rfl (.ai rfl rfl (.ai rfl rfl .nil)) ae rfl (.vl (Y.geq rfl rfl) ?_)
 refine .an ?_
 refine .nil (.ret ?_)
 exact .rb rfl (qO)
theorem r7 {l : List Bool} {b : Bool} (hl : l.length ≤ 140737488351232) : az Try.prog 125 [.fz 1 (l.map ik), .v (.bool b)] [] [] (fun r o => r = (vi (sQ (fun x => b == x) l)) ∧ o = []) := by
 refine az.of Try.func125 rfl rfl rfl (n := 19) ae (aH rfl) (.sr ?_)
 refine .an ?_
 refine .nil (.seq (.sr ?_))
 refine .mv ?_
 refine .vl (Y.len (n := l.length) pz rfl dG) ?_
 refine .mv ?_
 refine .nil (.block ?_)
 refine .lZ (fun (ia : Nat) => ⟨[(0, .fz 1 (l.map ik)), (1, .v (.bool b)), (7, vi l.length), (8, vi ia)], []⟩) (fun ia => ((ia : Int) ≤ (l.length : Int)) ∧ (∀ j, j < ia → (fun x => b == x) (l.getD j false) = false)) (fun ia => ((l.length : Int) - (ia : Int)).toNat) 0 (⟨om, fun j hj => by omega⟩) (Le.mk (.c2 (.c (.cons (ak rfl b5) (.nil)))) (.nil)) (fun ia x6 => ?_)
 obtain ⟨rL, h0⟩ := x6
 refine .sr (.vl (Y.lss rfl rfl) (.nil ?_))
 refine .seq ?_
 refine .aB rfl (fun c9 => ?_) (fun c9 => ?_)
 refine .skip (.seq (.block ?_))
 refine .sr ?_
 refine .mv ?_
 refine .an ?_
 refine .nil (.sr ?_)
 refine .mv ?_
 refine .mv ?_
 refine .mv ?_
 refine .vl (Y.aK (m := ia) pz rfl rfl b5 (ax (d := false) om)) ?_
 refine .ld vL ?_
 refine .vl (Y.Ku PI rfl rfl) (.nil ?_)
 refine .cond rfl (fun uD => ?_) (fun uD => ?_)
 refine .sr ?_
 refine .mv ?_
 refine .an ?_
 refine .nil (.ret ?_)
 exact .ri rfl (nX (d := false) h0 om uD)
 refine .skip (.region ?_)
 refine .vl (Y.aT rfl rfl bw) ?_
 refine .mv ?_
 refine .nil ?_
 exact ⟨ia + 1, ⟨om, mU h0 uD⟩, om, Le.mk (.c2 (.c (.cons (ak rfl b5) (.nil)))) (.nil)⟩
 refine .exit (.sr ?_)
 refine .an ?_
 refine .nil (.ret ?_)
 exact .ri rfl (pt (d := false) (fun j hj => h0 j om))
theorem oV {l : List Bool} {b : Bool} (hl : l.length ≤ 140737488351232) : az Try.prog 99 [.fz 1 (l.map ik), .v (.bool b)] [] [] (fun r o => r = .v (.bool (l.any (fun x => b == x))) ∧ o = []) := by
 refine az.of Try.func99 rfl rfl rfl (n := 9) ae (aH rfl) (.sr ?_)
 refine .an ?_
 refine .nil (.sr ?_)
 refine .mv ?_
 refine .mv ?_
 refine .aP Ik (r7 (l := l) (b := b) (om)) rfl (.ai rfl rfl (.ai rfl rfl .nil)) ae rfl (.vl (Y.geq rfl rfl) ?_)
 refine .an ?_
 refine .nil (.ret ?_)
 exact .rb rfl (qO)
end Go.Proofs.Ytligpghohcfpnaa
/- The walk through formed. -/
namespace Go.Proofs.Ytligpghohcfpnaa
open Go Go.AW Go.Proofs
theorem fk {i : Int} {n : ab} : az Try.prog 94 [vi i, .fp (ab.row n) 0] [] [] (fun r o => r = .v (.bool (decide (In i n.aa.length))) ∧ o = []) := by
 refine az.of Try.func94 rfl rfl rfl (n := 13) ae (aH rfl) (.sr ?_)
 refine .an ?_
 refine .nil (.sr ?_)
 refine .mv ?_
 refine .vl (Y.geq rfl rfl) ?_
 refine .mv ?_
 refine .aE (d := 6) rfl (fun c6 => ?_) (fun c6 => ?_)
 refine .gw 6 (Y.move rfl rfl) (.gw 6 (Y.fieldAddr bN rfl rfl) (.gw 6 (Y.load bh rfl rfl rfl rfl) ?_))
 refine .gw 6 (Y.len (n := n.aa.length) a7 rfl dG) (.gw 6 (Y.lss rfl rfl) ?_)
 refine .pk ?_
 refine .an ?_
 refine .nil (.ret ?_)
 exact .rb rfl (dd (by (simp only [In]) <;> (first | omega | grind)))
 refine .gz 6 (.gz 6 (.gz 6 ?_))
 refine .gz 6 (.gz 6 ?_)
 refine .pk ?_
 refine .an ?_
 refine .nil (.ret ?_)
 exact .rb rfl (df (by (simp only [In]) <;> (first | omega | grind)))
theorem tB {i : Int} {n : ab} : az Try.prog 96 [vi i, .fp ([.gl (.func 94) [] [.fp (ab.row n) 0]]) 0] [] [] (fun r o => r = .v (.bool (!decide (In i n.aa.length))) ∧ o = []) := by
 refine az.of Try.func96 rfl rfl rfl (n := 8) ae (aH rfl) (.sr ?_)
 refine .an ?_
 refine .nil (.sr ?_)
 refine .ld vM ?_
 refine .mv ?_
 refine .lG rfl vJ (fk (i := i)) rfl (.ai rfl rfl (.ai rfl rfl .nil)) ae rfl (.vl (Y.not rfl) ?_)
 refine .an ?_
 refine .nil (.ret ?_)
 exact .rb rfl (rfl)
theorem tC {i : Int} {n : ab} : az Try.prog 97 [vi i, .fp ([.gl (.func 94) [] [.fp (ab.row n) 0]]) 0] [] [] (fun r o => r = .v (.bool (!decide (In i n.aa.length))) ∧ o = []) := by
 refine az.of Try.func97 rfl rfl rfl (n := 8) ae (aH rfl) (.sr ?_)
 refine .an ?_
 refine .nil (.sr ?_)
 refine .ld vM ?_
 refine .mv ?_
 refine .lG rfl vJ (fk (i := i)) rfl (.ai rfl rfl (.ai rfl rfl .nil)) ae rfl (.vl (Y.not rfl) ?_)
 refine .an ?_
 refine .nil (.ret ?_)
 exact .rb rfl (rfl)
theorem uL {n : ab} (hs : n.Small) (QB : n.aa.length + n.ins.length ≤ 17592186044416) : az Try.prog 57 [.agg (ab.row n)] [] [] (fun r o => r = .v (.bool (decide (aW n))) ∧ o = []) := by
 refine az.of Try.func57 rfl rfl rfl (n := 234) ae (aH rfl) ?_
 have M7 := hs.name; have QC := hs.aa; have QD := hs.cells; have Kh := hs.ins; have Ki := hs.aw; have MK := hs.streams; have QE := hs.aX; have RJ := hs.data; have MN := hs.bI
 have Jo : ([n.aa, n.ins] : List (List Int)).flatten = n.aa ++ n.ins := by simp
 have Bm : (([n.aa, n.ins] : List (List Int)).flatten).length = n.aa.length + n.ins.length := by simp
 refine .sr (.box 101 rfl rfl rfl rfl rfl ae ?_)
 refine .an ?_
 refine .nil (.seq (.sr ?_))
 refine .fa Et ?_
 refine .ld L9 ?_
 refine .aP E7 (od (s := n.name) (by first | assumption | omega)) rfl (.ai rfl rfl .nil) ae rfl (.vl (Y.not rfl) ?_)
 refine .mv ?_
 refine .split (d := 17) rfl (fun Fa => ?_) (fun Fa => ?_)
 replace Fa : ¬ (jr n.name) := by simpa using Fa
 refine .gz 17 (.gz 17 (.gz 17 ?_))
 refine .gz 17 ?_
 refine .pk ?_
 refine .mv ?_
 refine .gz 23 (.gz 23 (.gz 23 ?_))
 refine .gz 23 ?_
 refine .pk ?_
 refine .mv ?_
 refine .gz 29 (.gz 29 (.gz 29 ?_))
 refine .gz 29 ?_
 refine .pk ?_
 refine .mv ?_
 refine .gz 35 (.gz 35 (.gz 35 ?_))
 refine .gz 35 ?_
 refine .pk ?_
 refine .mv ?_
 refine .gz 41 (.gz 41 (.gz 41 ?_))
 refine .gz 41 (.gz 41 (.gz 41 ?_))
 refine .gz 41 ?_
 refine .pk ?_
 refine .mv ?_
 refine .gz 50 (.gz 50 (.gz 50 ?_))
 refine .gz 50 (.gz 50 (.gz 50 ?_))
 refine .gz 50 ?_
 refine .pk ?_
 refine .nil (.aV rfl (.sr ?_))
 refine .an ?_
 refine .nil (.ret ?_)
 exact .rb rfl (df (fun h => by have h1 := h.name; have h2 := h.cK; have h3 := h.cv; have h4 := h.iq; have h5 := h.bO; have h6 := h.cP; have h7 := h.eY; first | omega | contradiction))
 replace Fa : jr n.name := by simpa using Fa
 refine .gw 17 (Y.fieldAddr cb rfl rfl) (.gw 17 (Y.load fD rfl rfl rfl rfl) (.gw 17 (Y.len (n := n.cells.length) dD rfl dG) ?_))
 refine .gw 17 (Y.gtr rfl rfl) ?_
 refine .pk ?_
 refine .mv ?_
 refine .aE (d := 23) rfl (fun GB => ?_) (fun GB => ?_)
 refine .gz 23 (.gz 23 (.gz 23 ?_))
 refine .gz 23 ?_
 refine .pk ?_
 refine .mv ?_
 refine .gz 29 (.gz 29 (.gz 29 ?_))
 refine .gz 29 ?_
 refine .pk ?_
 refine .mv ?_
 refine .gz 35 (.gz 35 (.gz 35 ?_))
 refine .gz 35 ?_
 refine .pk ?_
 refine .mv ?_
 refine .gz 41 (.gz 41 (.gz 41 ?_))
 refine .gz 41 (.gz 41 (.gz 41 ?_))
 refine .gz 41 ?_
 refine .pk ?_
 refine .mv ?_
 refine .gz 50 (.gz 50 (.gz 50 ?_))
 refine .gz 50 (.gz 50 (.gz 50 ?_))
 refine .gz 50 ?_
 refine .pk ?_
 refine .nil (.aV rfl (.sr ?_))
 refine .an ?_
 refine .nil (.ret ?_)
 exact .rb rfl (df (fun h => by have h1 := h.name; have h2 := h.cK; have h3 := h.cv; have h4 := h.iq; have h5 := h.bO; have h6 := h.cP; have h7 := h.eY; first | omega | contradiction))
 refine .gw 23 (Y.fieldAddr bN rfl rfl) (.gw 23 (Y.load bh rfl rfl rfl rfl) (.gw 23 (Y.len (n := n.aa.length) a7 rfl dG) ?_))
 refine .gw 23 (Y.gtr rfl rfl) ?_
 refine .pk ?_
 refine .mv ?_
 refine .aE (d := 29) rfl (fun FB => ?_) (fun FB => ?_)
 refine .gz 29 (.gz 29 (.gz 29 ?_))
 refine .gz 29 ?_
 refine .pk ?_
 refine .mv ?_
 refine .gz 35 (.gz 35 (.gz 35 ?_))
 refine .gz 35 ?_
 refine .pk ?_
 refine .mv ?_
 refine .gz 41 (.gz 41 (.gz 41 ?_))
 refine .gz 41 (.gz 41 (.gz 41 ?_))
 refine .gz 41 ?_
 refine .pk ?_
 refine .mv ?_
 refine .gz 50 (.gz 50 (.gz 50 ?_))
 refine .gz 50 (.gz 50 (.gz 50 ?_))
 refine .gz 50 ?_
 refine .pk ?_
 refine .nil (.aV rfl (.sr ?_))
 refine .an ?_
 refine .nil (.ret ?_)
 exact .rb rfl (df (fun h => by have h1 := h.name; have h2 := h.cK; have h3 := h.cv; have h4 := h.iq; have h5 := h.bO; have h6 := h.cP; have h7 := h.eY; first | omega | contradiction))
 refine .gw 29 (Y.fieldAddr fK rfl rfl) (.gw 29 (Y.load nD rfl rfl rfl rfl) (.gw 29 (Y.len (n := n.aw.length) kJ rfl dG) ?_))
 refine .gw 29 (Y.gtr rfl rfl) ?_
 refine .pk ?_
 refine .mv ?_
 refine .aE (d := 35) rfl (fun ru => ?_) (fun ru => ?_)
 refine .gz 35 (.gz 35 (.gz 35 ?_))
 refine .gz 35 ?_
 refine .pk ?_
 refine .mv ?_
 refine .gz 41 (.gz 41 (.gz 41 ?_))
 refine .gz 41 (.gz 41 (.gz 41 ?_))
 refine .gz 41 ?_
 refine .pk ?_
 refine .mv ?_
 refine .gz 50 (.gz 50 (.gz 50 ?_))
 refine .gz 50 (.gz 50 (.gz 50 ?_))
 refine .gz 50 ?_
 refine .pk ?_
 refine .nil (.aV rfl (.sr ?_))
 refine .an ?_
 refine .nil (.ret ?_)
 exact .rb rfl (df (fun h => by have h1 := h.name; have h2 := h.cK; have h3 := h.cv; have h4 := h.iq; have h5 := h.bO; have h6 := h.cP; have h7 := h.eY; first | omega | contradiction))
 refine .gw 35 (Y.fieldAddr ef rfl rfl) (.gw 35 (Y.load jS rfl rfl rfl rfl) (.gw 35 (Y.len (n := n.streams.length) gZ rfl dG) ?_))
 refine .gw 35 (Y.gtr rfl rfl) ?_
 refine .pk ?_
 refine .mv ?_
 refine .aE (d := 41) rfl (fun vX => ?_) (fun vX => ?_)
 refine .gz 41 (.gz 41 (.gz 41 ?_))
 refine .gz 41 (.gz 41 (.gz 41 ?_))
 refine .gz 41 ?_
 refine .pk ?_
 refine .mv ?_
 refine .gz 50 (.gz 50 (.gz 50 ?_))
 refine .gz 50 (.gz 50 (.gz 50 ?_))
 refine .gz 50 ?_
 refine .pk ?_
 refine .nil (.aV rfl (.sr ?_))
 refine .an ?_
 refine .nil (.ret ?_)
 exact .rb rfl (df (fun h => by have h1 := h.name; have h2 := h.cK; have h3 := h.cv; have h4 := h.iq; have h5 := h.bO; have h6 := h.cP; have h7 := h.eY; first | omega | contradiction))
 refine .gw 41 (Y.fieldAddr jQ rfl rfl) (.gw 41 (Y.load bh rfl rfl rfl rfl) (.gw 41 (Y.len (n := n.aX.length) a7 rfl dG) ?_))
 refine .gw 41 (Y.fieldAddr ef rfl rfl) (.gw 41 (Y.load jS rfl rfl rfl rfl) (.gw 41 (Y.len (n := n.streams.length) gZ rfl dG) ?_))
 refine .gw 41 (Y.neq rfl rfl) ?_
 refine .pk ?_
 refine .mv ?_
 refine .aE (d := 50) rfl (fun QF => ?_) (fun QF => ?_)
 refine .gz 50 (.gz 50 (.gz 50 ?_))
 refine .gz 50 (.gz 50 (.gz 50 ?_))
 refine .gz 50 ?_
 refine .pk ?_
 refine .nil (.aV rfl (.sr ?_))
 refine .an ?_
 refine .nil (.ret ?_)
 exact .rb rfl (df (fun h => by have h1 := h.name; have h2 := h.cK; have h3 := h.cv; have h4 := h.iq; have h5 := h.bO; have h6 := h.cP; have h7 := h.eY; first | omega | contradiction))
 refine .gw 50 (Y.fieldAddr kH rfl rfl) (.gw 50 (Y.load bh rfl rfl rfl rfl) (.gw 50 (Y.len (n := n.data.length) a7 rfl dG) ?_))
 refine .gw 50 (Y.fieldAddr ef rfl rfl) (.gw 50 (Y.load jS rfl rfl rfl rfl) (.gw 50 (Y.len (n := n.streams.length) gZ rfl dG) ?_))
 refine .gw 50 (Y.neq rfl rfl) ?_
 refine .pk ?_
 refine .nil ?_
 refine .aB rfl (fun Kj => ?_) (fun Kj => ?_)
 refine .sr ?_
 refine .an ?_
 refine .nil (.ret ?_)
 exact .rb rfl (df (fun h => by have h1 := h.name; have h2 := h.cK; have h3 := h.cv; have h4 := h.iq; have h5 := h.bO; have h6 := h.cP; have h7 := h.eY; first | omega | contradiction))
 refine .skip (.seq (.sr ?_))
 refine .fa bN ?_
 refine .ld bh ?_
 refine .fa kG ?_
 refine .ld bh ?_
 refine .buildSlice (([n.aa, n.ins] : List (List Int)).map nC) rO zM rfl rfl rfl rfl rfl (ay (s := 1) (f := nC) (fun _ => rfl)) rfl rfl rfl ae ?_
 refine .sh (Sh.dF (d := 63) (([n.aa, n.ins] : List (List Int)).map nC) rfl kq (da.map qM)) (.aP Iw (qb (ls := ([n.aa, n.ins] : List (List Int))) (by simp) (by simp; omega)) rfl (.ai rfl rfl .nil) ae rfl (.vl (Y.len (n := (([n.aa, n.ins] : List (List Int)).flatten).length) a7 rfl dG) ?_))
 refine .mv ?_
 refine .nil (.block (.sh (Sh.dF (d := 64) ((([n.aa, n.ins] : List (List Int)).flatten).map ah) rfl kq (da.map aD)) ?_))
 refine .lZ (fun (lv : Nat) => ⟨[(1, .ptr 101 0 0 0), (64, .fz 1 ((([n.aa, n.ins] : List (List Int)).flatten).map ah)), (65, vi (((([n.aa, n.ins] : List (List Int)).flatten).length : Nat) : Int)), (66, vi lv)], [(101, .cells (ab.row n))]⟩) (fun lv => ((lv : Int) ≤ (((([n.aa, n.ins] : List (List Int)).flatten).length : Nat) : Int)) ∧ (∀ j, j < lv → fj (([n.aa, n.ins] : List (List Int)).flatten.getD j 0))) (fun lv => ((((([n.aa, n.ins] : List (List Int)).flatten).length : Nat) : Int) - (lv : Int)).toNat) 0 (⟨om, fun j hj => by omega⟩) (Le.mk (.c2 (.c (.cons (ak rfl b5) (.nil)))) (.c (.nil))) (fun lv IY => ?_)
 obtain ⟨OA, hw⟩ := IY
 refine .sr (.vl (Y.lss rfl rfl) (.nil ?_))
 refine .seq ?_
 refine .aB rfl (fun MO => ?_) (fun MO => ?_)
 refine .skip (.seq (.block ?_))
 refine .sr (.vl (Y.aK (m := lv) a7 rfl rfl b5 (ax (d := 0) om)) ?_)
 refine .ld br ?_
 refine .an ?_
 refine .nil (.sr ?_)
 refine .mv ?_
 refine .aP E8 (pF (w := ((([n.aa, n.ins] : List (List Int)).flatten).getD lv 0))) rfl (.ai rfl rfl .nil) ae rfl (.vl (Y.not rfl) (.nil ?_))
 refine .cond rfl (fun Jp => ?_) (fun Jp => ?_)
 replace Jp : ¬ (fj ((([n.aa, n.ins] : List (List Int)).flatten).getD lv 0)) := by simpa using Jp
 refine .sr ?_
 refine .an ?_
 refine .nil (.ret ?_)
 exact .rb rfl (df (fun h => by have h1 := h.wide lv (by rw [List.length_append]; omega); rw [← Jo] at h1; contradiction))
 replace Jp : fj ((([n.aa, n.ins] : List (List Int)).flatten).getD lv 0) := by simpa using Jp
 refine .skip (.region ?_)
 refine .vl (Y.aT rfl rfl om) ?_
 refine .mv ?_
 refine .nil ?_
 exact ⟨lv + 1, ⟨om, iU hw cj⟩, om, Le.mk (.c2 (.c (.cons (ak rfl b5) (.nil)))) (.c (.nil))⟩
 refine .exit (.seq (.sr ?_))
 refine .fa fK ?_
 refine .ld nD ?_
 refine .vl (Y.len (n := n.aw.length) kJ rfl dG) ?_
 refine .mv ?_
 refine .nil (.block ?_)
 refine .lZ (fun (eA : Nat) => ⟨[(1, .ptr 101 0 0 0), (75, .fz 5 (n.aw.map dV.row)), (76, vi n.aw.length), (77, vi eA)], [(101, .cells (ab.row n))]⟩) (fun eA => ((eA : Int) ≤ (n.aw.length : Int)) ∧ (∀ j, j < eA → kY (n.aw.getD j default))) (fun eA => ((n.aw.length : Int) - (eA : Int)).toNat) 0 (⟨om, fun j hj => by omega⟩) (Le.mk (.c2 (.c (.cons (ak rfl b5) (.nil)))) (.c (.nil))) (fun eA FC => ?_)
 obtain ⟨MP, hm⟩ := FC
 refine .sr (.vl (Y.lss rfl rfl) (.nil ?_))
 refine .seq ?_
 refine .aB rfl (fun C6 => ?_) (fun C6 => ?_)
 refine .skip (.seq (.block ?_))
 refine .sr (.vl (Y.aK (m := eA) kJ rfl rfl b5 (ax (d := default) om)) ?_)
 refine .vl (Y.aM L7 rfl rfl (aH rfl) rfl rfl) (.alloc 106 qi rfl rfl ae (.aj LC rfl rfl rfl rfl rfl rfl (aH rfl) rfl ?_))
 refine .nil (.sr ?_)
 have RK := hs.mS _ (fX (l := n.aw) (i := eA) (d := default) om)
 refine .fa Eu ?_
 refine .ld L9 ?_
 refine .aP E7 (od (s := ((n.aw.getD eA default).name)) (by first | assumption | omega)) rfl (.ai rfl rfl .nil) ae rfl (.vl (Y.not rfl) ?_)
 refine .mv ?_
 refine .split (d := 85) rfl (fun Jq => ?_) (fun Jq => ?_)
 replace Jq : ¬ (jr ((n.aw.getD eA default).name)) := by simpa using Jq
 refine .gz 85 (.gz 85 (.gz 85 ?_))
 refine .gz 85 ?_
 refine .pk ?_
 refine .mv ?_
 refine .gz 91 (.gz 91 (.gz 91 ?_))
 refine .pk ?_
 refine .mv ?_
 refine .gz 96 (.gz 96 (.gz 96 ?_))
 refine .pk ?_
 refine .mv ?_
 refine .gz 101 (.gz 101 (.gz 101 ?_))
 refine .pk ?_
 refine .mv ?_
 refine .gz 106 (.gz 106 (.gz 106 ?_))
 refine .pk ?_
 refine .nil (.aV rfl (.sr ?_))
 refine .an ?_
 refine .nil (.ret ?_)
 exact .rb rfl (df (fun h => by have h1 := h.aw eA om; unfold kY at h1; obtain ⟨a1, a2, a3, a4, a5, a6⟩ := h1; first | contradiction | omega))
 replace Jq : jr ((n.aw.getD eA default).name) := by simpa using Jq
 refine .gw 85 (Y.fieldAddr qV rfl rfl) (.gw 85 (Y.load br rfl rfl rfl rfl) (.aO (d := 85) rfl ae rfl ?_))
 refine .aP E8 (pF (w := ((n.aw.getD eA default).width))) rfl (.ai rfl rfl .nil) ae rfl (.gw 85 (Y.not rfl) ?_)
 refine .pk ?_
 refine .mv ?_
 refine .split (d := 91) rfl (fun Jr => ?_) (fun Jr => ?_)
 replace Jr : ¬ (fj ((n.aw.getD eA default).width)) := by simpa using Jr
 refine .gz 91 (.gz 91 (.gz 91 ?_))
 refine .pk ?_
 refine .mv ?_
 refine .gz 96 (.gz 96 (.gz 96 ?_))
 refine .pk ?_
 refine .mv ?_
 refine .gz 101 (.gz 101 (.gz 101 ?_))
 refine .pk ?_
 refine .mv ?_
 refine .gz 106 (.gz 106 (.gz 106 ?_))
 refine .pk ?_
 refine .nil (.aV rfl (.sr ?_))
 refine .an ?_
 refine .nil (.ret ?_)
 exact .rb rfl (df (fun h => by have h1 := h.aw eA om; unfold kY at h1; obtain ⟨a1, a2, a3, a4, a5, a6⟩ := h1; first | contradiction | omega))
 replace Jr : fj ((n.aw.getD eA default).width) := by simpa using Jr
 refine .gw 91 (Y.fieldAddr zJ rfl rfl) (.gw 91 (Y.load br rfl rfl rfl rfl) (.gw 91 (Y.lss rfl rfl) ?_))
 refine .pk ?_
 refine .mv ?_
 refine .aE (d := 96) rfl (fun MQ => ?_) (fun MQ => ?_)
 refine .gz 96 (.gz 96 (.gz 96 ?_))
 refine .pk ?_
 refine .mv ?_
 refine .gz 101 (.gz 101 (.gz 101 ?_))
 refine .pk ?_
 refine .mv ?_
 refine .gz 106 (.gz 106 (.gz 106 ?_))
 refine .pk ?_
 refine .nil (.aV rfl (.sr ?_))
 refine .an ?_
 refine .nil (.ret ?_)
 exact .rb rfl (df (fun h => by have h1 := h.aw eA om; unfold kY at h1; obtain ⟨a1, a2, a3, a4, a5, a6⟩ := h1; first | contradiction | omega))
 refine .gw 96 (Y.fieldAddr zJ rfl rfl) (.gw 96 (Y.load br rfl rfl rfl rfl) (.gw 96 (Y.gtr rfl rfl) ?_))
 refine .pk ?_
 refine .mv ?_
 refine .aE (d := 101) rfl (fun MR => ?_) (fun MR => ?_)
 refine .gz 101 (.gz 101 (.gz 101 ?_))
 refine .pk ?_
 refine .mv ?_
 refine .gz 106 (.gz 106 (.gz 106 ?_))
 refine .pk ?_
 refine .nil (.aV rfl (.sr ?_))
 refine .an ?_
 refine .nil (.ret ?_)
 exact .rb rfl (df (fun h => by have h1 := h.aw eA om; unfold kY at h1; obtain ⟨a1, a2, a3, a4, a5, a6⟩ := h1; first | contradiction | omega))
 refine .gw 101 (Y.fieldAddr Ev rfl rfl) (.gw 101 (Y.load br rfl rfl rfl rfl) (.gw 101 (Y.neq rfl rfl) ?_))
 refine .pk ?_
 refine .mv ?_
 refine .aE (d := 106) rfl (fun MS => ?_) (fun MS => ?_)
 refine .gz 106 (.gz 106 (.gz 106 ?_))
 refine .pk ?_
 refine .nil (.aV rfl (.sr ?_))
 refine .an ?_
 refine .nil (.ret ?_)
 exact .rb rfl (df (fun h => by have h1 := h.aw eA om; unfold kY at h1; obtain ⟨a1, a2, a3, a4, a5, a6⟩ := h1; first | contradiction | omega))
 refine .gw 106 (Y.fieldAddr Ew rfl rfl) (.gw 106 (Y.load br rfl rfl rfl rfl) (.gw 106 (Y.neq rfl rfl) ?_))
 refine .pk ?_
 refine .nil ?_
 refine .aB rfl (fun FD => ?_) (fun FD => ?_)
 refine .sr ?_
 refine .an ?_
 refine .nil (.ret ?_)
 exact .rb rfl (df (fun h => by have h1 := h.aw eA om; unfold kY at h1; obtain ⟨a1, a2, a3, a4, a5, a6⟩ := h1; first | contradiction | omega))
 refine .skip (.region ?_)
 refine .vl (Y.aT rfl rfl om) ?_
 refine .mv ?_
 refine .nil ?_
 exact ⟨eA + 1, ⟨om, iU hm (by unfold kY; refine ⟨?_, ?_, ?_, ?_, ?_, ?_⟩ <;> first | assumption | omega)⟩, om, Le.mk (.c2 (.c (.cons (ak rfl b5) (.nil)))) (.c (.nil))⟩
 refine .exit (.sr (.sh (Sh.dc 101 rfl rfl) ?_))
 refine .vl (Y.makeFunc rfl rfl rfl rfl) (.alloc 107 LG rfl rfl ae (.aj LA rfl rfl rfl rfl rfl rfl (aH rfl) rfl ?_))
 refine .nil (.seq (.seq ?_))
 refine .sh (Sh.dc 107 rfl rfl) (.region ?_)
 refine .fa ef ?_
 refine .ld jS ?_
 refine .vl (Y.len (n := n.streams.length) gZ rfl dG) ?_
 refine .mv ?_
 refine .nil (.block ?_)
 refine .lZ (fun (bn : Nat) => ⟨[(1, .fp (ab.row n) 0), (7, .fp ([.gl (.func 94) [] [.fp (ab.row n) 0]]) 0), (114, .fz 3 (n.streams.map bE.row)), (115, vi n.streams.length), (116, vi bn)], []⟩) (fun bn => ((bn : Int) ≤ (n.streams.length : Int)) ∧ (∀ j, j < bn → k9 n j)) (fun bn => ((n.streams.length : Int) - (bn : Int)).toNat) 0 (⟨om, fun j hj => by omega⟩) (Le.mk (.c4 (.cons (ak rfl b5) (.nil))) (.nil)) (fun bn Am => ?_)
 obtain ⟨Jf, yT⟩ := Am
 refine .sr (.vl (Y.lss rfl rfl) (.nil ?_))
 refine .seq ?_
 refine .aB rfl (fun nE => ?_) (fun nE => ?_)
 refine .skip ?_
 refine .zk (fun (r8 : Bool) (r9 : Bool) (rA : Bool) (rB : Bool) => ⟨[(1, .fp (ab.row n) 0), (7, .fp ([.gl (.func 94) [] [.fp (ab.row n) 0]]) 0), (114, .fz 3 (n.streams.map bE.row)), (115, vi n.streams.length), (116, vi bn), (126, .ptr 109 0 0 1), (127, vi ((n.streams.getD bn default).width)), (128, .v (.bool (decide (fj ((n.streams.getD bn default).width))))), (129, .v (.bool (!decide (fj ((n.streams.getD bn default).width))))), (132, .gl (.func 94) [] [.fp (ab.row n) 0]), (133, .fp (ab.row n) 6), (134, .fz 1 (n.aX.map ah)), (135, vi bn), (136, .fp (ah (n.aX.getD bn 0)) 0), (137, vi (n.aX.getD bn 0)), (138, .v (.bool (decide (In (n.aX.getD bn 0) n.aa.length)))), (139, .v (.bool (!decide (In (n.aX.getD bn 0) n.aa.length)))), (142, .ptr 109 0 0 2), (143, .v (.bool ((n.streams.getD bn default).out))), (144, .v (.bool r8)), (153, .v (.bool r9)), (156, .ptr 109 0 0 2), (157, .v (.bool ((n.streams.getD bn default).out))), (158, .v (.bool (!((n.streams.getD bn default).out)))), (159, .v (.bool rA)), (166, .v (.bool rB))], [(109, .cells [.v (.string ((n.streams.getD bn default).name)), vi ((n.streams.getD bn default).width), .v (.bool ((n.streams.getD bn default).out))])]⟩) (fun r8 r9 rA rB => k9 n bn) ?_ (fun r8 r9 rA rB wz => ?_)
 refine .block (.sr ?_)
 have RL := hs.mT _ (fX (l := n.streams) (i := bn) (d := default) om)
 refine .mv ?_
 refine .vl (Y.aK (m := bn) gZ rfl rfl b5 (ax (d := default) om)) ?_
 refine .vl (Y.aM I3 rfl rfl (aH rfl) rfl rfl) (.alloc 109 p3 rfl rfl ae ?_)
 refine .an ?_
 refine .aj I4 rfl rfl rfl rfl rfl rfl (aH rfl) rfl (.nil (.seq ?_))
 refine .j8 rfl (.dC (n := 45) [0, 1] [2, 3, 4, 5, 6, 7, 8, 9, 10, 11, 12, 13, 14, 15, 16, 17, 18, 19, 20, 21, 22, 23, 24, 25, 26, 27, 28, 29, 30, 31, 32, 33, 34, 35, 36, 37, 38, 39, 40, 41, 42, 43, 44, 45, 46] 2 rfl aq (.cn 0 rfl (Y.fieldAddr Ex rfl rfl) ?_))
 refine .cn 1 rfl (Y.load L9 rfl rfl rfl rfl) (.nil (.one 2 rfl aq ?_))
 refine .aP E7 (od (s := ((n.streams.getD bn default).name)) (by first | assumption | omega)) rfl (.ai rfl rfl .nil) ae rfl ?_
 refine .nil ⟨rfl, ?_⟩
 refine .dC (n := 40) [3, 4, 5, 6] [7, 8, 9, 10, 11, 12, 13, 14, 15, 16, 17, 18, 19, 20, 21, 22, 23, 24, 25, 26, 27, 28, 29, 30, 31, 32, 33, 34, 35, 36, 37, 38, 39, 40, 41, 42, 43, 44, 45, 46] 7 rfl aq (.cn 3 rfl (Y.not rfl) (.cn 4 rfl (Y.move rfl rfl) ?_))
 refine .split (d := 125) rfl (fun vY => ?_) (fun vY => ?_)
 replace vY : ¬ (jr ((n.streams.getD bn default).name)) := by simpa using vY
 refine .sk 5 rfl rfl rfl rfl (.sk 6 rfl rfl rfl rfl (.nil ?_))
 refine .bU 7 rfl aq rfl ae ae rfl rfl (.bU 8 rfl aq rfl ae ae rfl rfl (.dC (n := 30) [9, 10, 11, 12, 13, 14, 15, 16] [17, 18, 19, 20, 21, 22, 23, 24, 25, 26, 27, 28, 29, 30, 31, 32, 33, 34, 35, 36, 37, 38, 39, 40, 41, 42, 43, 44, 45, 46] 17 rfl aq ?_))
 refine .cn 9 rfl (Y.pick rfl rfl rfl) (.cn 10 rfl (Y.move rfl rfl) (.sk 11 rfl rfl rfl rfl ?_))
 refine .sk 12 rfl rfl rfl rfl (.sk 13 rfl rfl rfl rfl (.sk 14 rfl rfl rfl rfl ?_))
 refine .sk 15 rfl rfl rfl rfl (.sk 16 rfl rfl rfl rfl (.nil ?_))
 refine .bU 17 rfl aq rfl ae ae rfl rfl (.bU 18 rfl aq rfl ae ae rfl rfl (.dC (n := 17) [19, 20, 21, 22, 23, 24, 25, 26, 27, 28, 29] [30, 31, 32, 33, 34, 35, 36, 37, 38, 39, 40, 41, 42, 43, 44, 45, 46] 30 rfl aq ?_))
 refine .cn 19 rfl (Y.pick rfl rfl rfl) (.cn 20 rfl (Y.move rfl rfl) (.sk 21 rfl rfl rfl rfl ?_))
 refine .sk 22 rfl rfl rfl rfl (.sk 23 rfl rfl rfl rfl (.sk 24 rfl rfl rfl rfl ?_))
 refine .sk 25 rfl rfl rfl rfl (.sk 26 rfl rfl rfl rfl (.sk 27 rfl rfl rfl rfl ?_))
 refine .sk 28 rfl rfl rfl rfl (.sk 29 rfl rfl rfl rfl (.nil ?_))
 refine .bU 30 rfl aq rfl ae ae rfl rfl (.bU 31 rfl aq rfl ae ae rfl rfl (.bU 32 rfl aq rfl ae ae rfl rfl ?_))
 refine .dC (n := 0) [33, 34, 35, 36, 37, 38, 39, 40, 41, 42, 43, 44, 45, 46] [] 0 rfl aq (.cn 33 rfl (Y.pick rfl rfl rfl) (.cn 34 rfl (Y.move rfl rfl) ?_))
 refine .sk 35 rfl rfl rfl rfl (.sk 36 rfl rfl rfl rfl (.sk 37 rfl rfl rfl rfl ?_))
 refine .sk 38 rfl rfl rfl rfl (.sk 39 rfl rfl rfl rfl (.sk 40 rfl rfl rfl rfl ?_))
 refine .sk 41 rfl rfl rfl rfl (.sk 42 rfl rfl rfl rfl (.sk 43 rfl rfl rfl rfl ?_))
 refine .sk 44 rfl rfl rfl rfl (.sk 45 rfl rfl rfl rfl (.cn 46 rfl (Y.pick rfl rfl rfl) ?_))
 refine .nil (.done aq (.aV rfl ?_))
 refine .sr ?_
 refine .an ?_
 refine .nil (.ret ?_)
 exact .rb rfl (df (fun h => by have h1 := h.strs bn om; unfold k9 at h1; obtain ⟨a1, a2, a3, a4, a5⟩ := h1; first | contradiction | grind))
 replace vY : jr ((n.streams.getD bn default).name) := by simpa using vY
 refine .rn 5 rfl rfl rfl (Y.fieldAddr qW rfl rfl) (.rn 6 rfl rfl rfl (Y.load br rfl rfl rfl rfl) (.nil ?_))
 refine .one 7 rfl aq (.aO (d := 125) rfl ae rfl (.aP E8 (pF (w := ((n.streams.getD bn default).width))) rfl (.ai rfl rfl .nil) ae rfl ?_))
 refine .nil ⟨rfl, ?_⟩
 refine .dC (n := 30) [8, 9, 10, 11, 12, 13, 14, 15, 16] [17, 18, 19, 20, 21, 22, 23, 24, 25, 26, 27, 28, 29, 30, 31, 32, 33, 34, 35, 36, 37, 38, 39, 40, 41, 42, 43, 44, 45, 46] 17 rfl aq (.rn 8 rfl rfl rfl (Y.not rfl) (.cn 9 rfl (Y.pick rfl rfl rfl) ?_))
 refine .cn 10 rfl (Y.move rfl rfl) ?_
 refine .split (d := 131) rfl (fun oo => ?_) (fun oo => ?_)
 replace oo : ¬ (fj ((n.streams.getD bn default).width)) := by simpa using oo
 refine .sk 11 rfl rfl rfl rfl (.sk 12 rfl rfl rfl rfl (.sk 13 rfl rfl rfl rfl ?_))
 refine .sk 14 rfl rfl rfl rfl (.sk 15 rfl rfl rfl rfl (.sk 16 rfl rfl rfl rfl ?_))
 refine .nil (.bU 17 rfl aq rfl ae ae rfl rfl (.bU 18 rfl aq rfl ae ae rfl rfl ?_))
 refine .dC (n := 17) [19, 20, 21, 22, 23, 24, 25, 26, 27, 28, 29] [30, 31, 32, 33, 34, 35, 36, 37, 38, 39, 40, 41, 42, 43, 44, 45, 46] 30 rfl aq (.cn 19 rfl (Y.pick rfl rfl rfl) (.cn 20 rfl (Y.move rfl rfl) ?_))
 refine .sk 21 rfl rfl rfl rfl (.sk 22 rfl rfl rfl rfl (.sk 23 rfl rfl rfl rfl ?_))
 refine .sk 24 rfl rfl rfl rfl (.sk 25 rfl rfl rfl rfl (.sk 26 rfl rfl rfl rfl ?_))
 refine .sk 27 rfl rfl rfl rfl (.sk 28 rfl rfl rfl rfl (.sk 29 rfl rfl rfl rfl ?_))
 refine .nil (.bU 30 rfl aq rfl ae ae rfl rfl (.bU 31 rfl aq rfl ae ae rfl rfl ?_))
 refine .bU 32 rfl aq rfl ae ae rfl rfl (.dC (n := 0) [33, 34, 35, 36, 37, 38, 39, 40, 41, 42, 43, 44, 45, 46] [] 0 rfl aq (.cn 33 rfl (Y.pick rfl rfl rfl) ?_))
 refine .cn 34 rfl (Y.move rfl rfl) (.sk 35 rfl rfl rfl rfl (.sk 36 rfl rfl rfl rfl ?_))
 refine .sk 37 rfl rfl rfl rfl (.sk 38 rfl rfl rfl rfl (.sk 39 rfl rfl rfl rfl ?_))
 refine .sk 40 rfl rfl rfl rfl (.sk 41 rfl rfl rfl rfl (.sk 42 rfl rfl rfl rfl ?_))
 refine .sk 43 rfl rfl rfl rfl (.sk 44 rfl rfl rfl rfl (.sk 45 rfl rfl rfl rfl ?_))
 refine .cn 46 rfl (Y.pick rfl rfl rfl) (.nil (.done aq ?_))
 refine .aV rfl (.sr ?_)
 refine .an ?_
 refine .nil (.ret ?_)
 exact .rb rfl (df (fun h => by have h1 := h.strs bn om; unfold k9 at h1; obtain ⟨a1, a2, a3, a4, a5⟩ := h1; first | contradiction | grind))
 replace oo : fj ((n.streams.getD bn default).width) := by simpa using oo
 refine .rn 11 rfl rfl rfl (Y.load vM rfl rfl rfl rfl) (.rn 12 rfl rfl rfl (Y.fieldAddr jQ rfl rfl) (.rn 13 rfl rfl rfl (Y.load bh rfl rfl rfl rfl) ?_))
 refine .rn 14 rfl rfl rfl (Y.move rfl rfl) (.rn 15 rfl rfl rfl (Y.aK (m := bn) a7 rfl rfl b5 (ax (d := 0) om)) ?_)
 refine .rn 16 rfl rfl rfl (Y.load br rfl rfl rfl rfl) (.nil (.one 17 rfl aq ?_))
 refine .aO (d := 131) rfl ae rfl (.lG rfl vJ (fk (i := (n.aX.getD bn 0))) rfl (.ai rfl rfl (.ai rfl rfl .nil)) ae rfl ?_)
 refine .nil ⟨rfl, ?_⟩
 refine .dC (n := 17) [18, 19, 20, 21, 22, 23, 24, 25, 26, 27, 28, 29] [30, 31, 32, 33, 34, 35, 36, 37, 38, 39, 40, 41, 42, 43, 44, 45, 46] 30 rfl aq (.rn 18 rfl rfl rfl (Y.not rfl) (.cn 19 rfl (Y.pick rfl rfl rfl) ?_))
 refine .cn 20 rfl (Y.move rfl rfl) ?_
 refine .split (d := 141) rfl (fun Ay => ?_) (fun Ay => ?_)
 replace Ay : ¬ (In (n.aX.getD bn 0) n.aa.length) := by simpa using Ay
 refine .sk 21 rfl rfl rfl rfl (.sk 22 rfl rfl rfl rfl (.sk 23 rfl rfl rfl rfl ?_))
 refine .sk 24 rfl rfl rfl rfl (.sk 25 rfl rfl rfl rfl (.sk 26 rfl rfl rfl rfl ?_))
 refine .sk 27 rfl rfl rfl rfl (.sk 28 rfl rfl rfl rfl (.sk 29 rfl rfl rfl rfl ?_))
 refine .nil (.bU 30 rfl aq rfl ae ae rfl rfl (.bU 31 rfl aq rfl ae ae rfl rfl ?_))
 refine .bU 32 rfl aq rfl ae ae rfl rfl (.dC (n := 0) [33, 34, 35, 36, 37, 38, 39, 40, 41, 42, 43, 44, 45, 46] [] 0 rfl aq (.cn 33 rfl (Y.pick rfl rfl rfl) ?_))
 refine .cn 34 rfl (Y.move rfl rfl) (.sk 35 rfl rfl rfl rfl (.sk 36 rfl rfl rfl rfl ?_))
 refine .sk 37 rfl rfl rfl rfl (.sk 38 rfl rfl rfl rfl (.sk 39 rfl rfl rfl rfl ?_))
 refine .sk 40 rfl rfl rfl rfl (.sk 41 rfl rfl rfl rfl (.sk 42 rfl rfl rfl rfl ?_))
 refine .sk 43 rfl rfl rfl rfl (.sk 44 rfl rfl rfl rfl (.sk 45 rfl rfl rfl rfl ?_))
 refine .cn 46 rfl (Y.pick rfl rfl rfl) (.nil (.done aq ?_))
 refine .aV rfl (.sr ?_)
 refine .an ?_
 refine .nil (.ret ?_)
 exact .rb rfl (df (fun h => by have h1 := h.strs bn om; unfold k9 at h1; obtain ⟨a1, a2, a3, a4, a5⟩ := h1; first | contradiction | grind))
 replace Ay : In (n.aX.getD bn 0) n.aa.length := by simpa using Ay
 refine .rn 21 rfl rfl rfl (Y.fieldAddr kI rfl rfl) (.rn 22 rfl rfl rfl (Y.load vL rfl rfl rfl rfl) (.rn 23 rfl rfl rfl (Y.move rfl rfl) ?_))
 refine .split (d := 144) rfl (fun CH => ?_) (fun CH => ?_)
 refine .rn 24 rfl rfl rfl (Y.load vM rfl rfl rfl rfl) (.rn 25 rfl rfl rfl (Y.fieldAddr kH rfl rfl) (.rn 26 rfl rfl rfl (Y.load bh rfl rfl rfl rfl) ?_))
 refine .rn 27 rfl rfl rfl (Y.move rfl rfl) (.rn 28 rfl rfl rfl (Y.aK (m := bn) a7 rfl rfl b5 (ax (d := 0) om)) ?_)
 refine .rn 29 rfl rfl rfl (Y.load br rfl rfl rfl rfl) (.nil (.one 30 rfl aq ?_))
 refine .aO (d := 144) rfl ae rfl (.lG rfl vJ (fk (i := (n.data.getD bn 0))) rfl (.ai rfl rfl (.ai rfl rfl .nil)) ae rfl ?_)
 refine .nil ⟨rfl, ?_⟩
 refine .dC (n := 0) [31, 32, 33, 34, 35, 36, 37, 38, 39, 40, 41, 42, 43, 44, 45, 46] [] 0 rfl aq (.rn 31 rfl rfl rfl (Y.not rfl) (.rn 32 rfl rfl rfl (Y.pick rfl rfl rfl) ?_))
 refine .cn 33 rfl (Y.pick rfl rfl rfl) (.cn 34 rfl (Y.move rfl rfl) ?_)
 refine .split (d := 155) rfl (fun Az => ?_) (fun Az => ?_)
 replace Az : ¬ (In (n.data.getD bn 0) n.aa.length) := by simpa using Az
 refine .sk 35 rfl rfl rfl rfl (.sk 36 rfl rfl rfl rfl (.sk 37 rfl rfl rfl rfl ?_))
 refine .sk 38 rfl rfl rfl rfl (.sk 39 rfl rfl rfl rfl (.sk 40 rfl rfl rfl rfl ?_))
 refine .sk 41 rfl rfl rfl rfl (.sk 42 rfl rfl rfl rfl (.sk 43 rfl rfl rfl rfl ?_))
 refine .sk 44 rfl rfl rfl rfl (.sk 45 rfl rfl rfl rfl (.cn 46 rfl (Y.pick rfl rfl rfl) ?_))
 refine .nil (.done aq (.aV rfl ?_))
 refine .sr ?_
 refine .an ?_
 refine .nil (.ret ?_)
 exact .rb rfl (df (fun h => by have h1 := h.strs bn om; unfold k9 at h1; obtain ⟨a1, a2, a3, a4, a5⟩ := h1; first | contradiction | grind))
 replace Az : In (n.data.getD bn 0) n.aa.length := by simpa using Az
 refine .rn 35 rfl rfl rfl (Y.fieldAddr kI rfl rfl) (.rn 36 rfl rfl rfl (Y.load vL rfl rfl rfl rfl) (.rn 37 rfl rfl rfl (Y.not rfl) ?_))
 refine .rn 38 rfl rfl rfl (Y.move rfl rfl) ?_
 refine .split (d := 159) rfl (fun lT => ?_) (fun lT => ?_)
 replace lT : ((n.streams.getD bn default).out) = false := by simpa using lT
 refine .rn 39 rfl rfl rfl (Y.fieldAddr kH rfl rfl) (.rn 40 rfl rfl rfl (Y.load bh rfl rfl rfl rfl) (.rn 41 rfl rfl rfl (Y.move rfl rfl) ?_))
 refine .rn 42 rfl rfl rfl (Y.aK (m := bn) a7 rfl rfl b5 (ax (d := 0) om)) ?_
 refine .rn 43 rfl rfl rfl (Y.load br rfl rfl rfl rfl) (.rn 44 rfl rfl rfl (Y.neq rfl rfl) (.rn 45 rfl rfl rfl (Y.pick rfl rfl rfl) ?_))
 refine .cn 46 rfl (Y.pick rfl rfl rfl) (.nil (.done aq ?_))
 refine .aB rfl (fun AA => ?_) (fun AA => ?_)
 refine .sr ?_
 refine .an ?_
 refine .nil (.ret ?_)
 exact .rb rfl (df (fun h => by have h1 := h.strs bn om; unfold k9 at h1; obtain ⟨a1, a2, a3, a4, a5⟩ := h1; first | contradiction | grind))
 refine .skip ?_
 exact ⟨true, (!decide (In (n.data.getD bn 0) n.aa.length)), true, decide ((n.data.getD bn 0) ≠ (-1)), by unfold k9; grind, Le.mk (.c8 (.c8 (.c2 (.c (.cons (aI rfl gF) (.cons (aI rfl gF) (.c2 (.c (.cons (aI rfl gF) (.cons (aI rfl gF) (.nil))))))))))) (.c (.nil))⟩
 replace lT : ((n.streams.getD bn default).out) = true := by simpa using lT
 refine .sk 39 rfl rfl rfl rfl (.sk 40 rfl rfl rfl rfl (.sk 41 rfl rfl rfl rfl ?_))
 refine .sk 42 rfl rfl rfl rfl (.sk 43 rfl rfl rfl rfl (.sk 44 rfl rfl rfl rfl ?_))
 refine .rn 45 rfl rfl rfl (Y.pick rfl rfl rfl) (.cn 46 rfl (Y.pick rfl rfl rfl) (.nil ?_))
 refine .done aq (.cX rfl (.skip ?_))
 exact ⟨true, (!decide (In (n.data.getD bn 0) n.aa.length)), false, false, by unfold k9; grind, Le.mk (.c8 (.c8 (.c2 (.c (.cons (aI rfl gF) (.cons (aI rfl gF) (.c2 (.c (.cons (aI rfl gF) (.cons (aI rfl gF) (.nil))))))))))) (.c (.nil))⟩
 refine .sk 24 rfl rfl rfl rfl (.sk 25 rfl rfl rfl rfl (.sk 26 rfl rfl rfl rfl ?_))
 refine .sk 27 rfl rfl rfl rfl (.sk 28 rfl rfl rfl rfl (.sk 29 rfl rfl rfl rfl ?_))
 refine .nil (.bU 30 rfl aq rfl ae ae rfl rfl (.bU 31 rfl aq rfl ae ae rfl rfl ?_))
 refine .dC (n := 0) [32, 33, 34, 35, 36, 37, 38, 39, 40, 41, 42, 43, 44, 45, 46] [] 0 rfl aq (.rn 32 rfl rfl rfl (Y.pick rfl rfl rfl) (.cn 33 rfl (Y.pick rfl rfl rfl) ?_))
 refine .cn 34 rfl (Y.move rfl rfl) (.rn 35 rfl rfl rfl (Y.fieldAddr kI rfl rfl) (.rn 36 rfl rfl rfl (Y.load vL rfl rfl rfl rfl) ?_))
 refine .rn 37 rfl rfl rfl (Y.not rfl) (.rn 38 rfl rfl rfl (Y.move rfl rfl) ?_)
 refine .split (d := 159) rfl (fun lT => ?_) (fun lT => ?_)
 replace lT : ((n.streams.getD bn default).out) = false := by simpa using lT
 refine .rn 39 rfl rfl rfl (Y.fieldAddr kH rfl rfl) (.rn 40 rfl rfl rfl (Y.load bh rfl rfl rfl rfl) (.rn 41 rfl rfl rfl (Y.move rfl rfl) ?_))
 refine .rn 42 rfl rfl rfl (Y.aK (m := bn) a7 rfl rfl b5 (ax (d := 0) om)) ?_
 refine .rn 43 rfl rfl rfl (Y.load br rfl rfl rfl rfl) (.rn 44 rfl rfl rfl (Y.neq rfl rfl) (.rn 45 rfl rfl rfl (Y.pick rfl rfl rfl) ?_))
 refine .cn 46 rfl (Y.pick rfl rfl rfl) (.nil (.done aq ?_))
 refine .aB rfl (fun AA => ?_) (fun AA => ?_)
 refine .sr ?_
 refine .an ?_
 refine .nil (.ret ?_)
 exact .rb rfl (df (fun h => by have h1 := h.strs bn om; unfold k9 at h1; obtain ⟨a1, a2, a3, a4, a5⟩ := h1; first | contradiction | grind))
 refine .skip ?_
 exact ⟨false, false, true, decide ((n.data.getD bn 0) ≠ (-1)), by unfold k9; grind, Le.mk (.c8 (.c8 (.c2 (.c (.cons (aI rfl gF) (.cons (aI rfl gF) (.c2 (.c (.cons (aI rfl gF) (.cons (aI rfl gF) (.nil))))))))))) (.c (.nil))⟩
 replace lT : ((n.streams.getD bn default).out) = true := by simpa using lT
 refine .sk 39 rfl rfl rfl rfl (.sk 40 rfl rfl rfl rfl (.sk 41 rfl rfl rfl rfl ?_))
 refine .sk 42 rfl rfl rfl rfl (.sk 43 rfl rfl rfl rfl (.sk 44 rfl rfl rfl rfl ?_))
 refine .rn 45 rfl rfl rfl (Y.pick rfl rfl rfl) (.cn 46 rfl (Y.pick rfl rfl rfl) (.nil ?_))
 refine .done aq (.cX rfl (.skip ?_))
 exact ⟨false, false, false, false, by unfold k9; grind, Le.mk (.c8 (.c8 (.c2 (.c (.cons (aI rfl gF) (.cons (aI rfl gF) (.c2 (.c (.cons (aI rfl gF) (.cons (aI rfl gF) (.nil))))))))))) (.c (.nil))⟩
 refine .region (.vl (Y.aT rfl rfl om) ?_)
 refine .mv ?_
 refine .nil ?_
 exact ⟨bn + 1, ⟨om, iU yT wz⟩, om, Le.mk (.c4 (.cons (ak rfl b5) (.nil))) (.nil)⟩
 refine .exit (.seq (.sr ?_))
 refine .ld vM ?_
 refine .fa nY ?_
 refine .ld br ?_
 refine .lG rfl vJ (fk (i := n.freeze)) rfl (.ai rfl rfl (.ai rfl rfl .nil)) ae rfl (.vl (Y.not rfl) ?_)
 refine .mv ?_
 refine .split (d := 174) rfl (fun AB => ?_) (fun AB => ?_)
 replace AB : ¬ (In n.freeze n.aa.length) := by simpa using AB
 refine .gz 174 (.gz 174 (.gz 174 ?_))
 refine .gz 174 (.gz 174 ?_)
 refine .pk ?_
 refine .mv ?_
 refine .gz 181 (.gz 181 (.gz 181 ?_))
 refine .gz 181 ?_
 refine .pk ?_
 refine .nil (.aV rfl (.sr ?_))
 refine .an ?_
 refine .nil (.ret ?_)
 exact .rb rfl (df (fun h => by have h1 := h.freeze; have h2 := h.done; contradiction))
 replace AB : In n.freeze n.aa.length := by simpa using AB
 refine .gw 174 (Y.load vM rfl rfl rfl rfl) (.gw 174 (Y.fieldAddr qU rfl rfl) (.gw 174 (Y.load br rfl rfl rfl rfl) ?_))
 refine .aO (d := 174) rfl ae rfl (.lG rfl vJ (fk (i := n.done)) rfl (.ai rfl rfl (.ai rfl rfl .nil)) ae rfl (.gw 174 (Y.not rfl) ?_))
 refine .pk ?_
 refine .mv ?_
 refine .split (d := 181) rfl (fun AD => ?_) (fun AD => ?_)
 replace AD : ¬ (In n.done n.aa.length) := by simpa using AD
 refine .gz 181 (.gz 181 (.gz 181 ?_))
 refine .gz 181 ?_
 refine .pk ?_
 refine .nil (.aV rfl (.sr ?_))
 refine .an ?_
 refine .nil (.ret ?_)
 exact .rb rfl (df (fun h => by have h1 := h.freeze; have h2 := h.done; contradiction))
 replace AD : In n.done n.aa.length := by simpa using AD
 refine .gw 181 (Y.fieldAddr jy rfl rfl) (.gw 181 (Y.load bh rfl rfl rfl rfl) (.gw 181 (Y.makeFunc rfl rfl rfl rfl) ?_))
 refine .aO (d := 181) rfl ae rfl ?_
 refine .aP I0 (ja (l := n.bI) (p := fun z => !decide (In z n.aa.length)) (om) L2 (fun z _ => tB)) rfl (.ai rfl rfl (.ai rfl rfl .nil)) ae rfl ?_
 refine .pk ?_
 refine .nil ?_
 refine .cond rfl (fun FE => ?_) (fun FE => ?_)
 refine .sr ?_
 refine .an ?_
 refine .nil (.ret ?_)
 exact .rb rfl (df (fun h => absurd h.bI (nw.1 cj)))
 refine .skip (.sr ?_)
 refine .fa bN ?_
 refine .ld bh ?_
 refine .vl (Y.len (n := n.aa.length) a7 rfl dG) (.makeSlice (n := n.aa.length) pz LF rfl rfl rfl rfl om om ae ?_)
 refine .dU rfl ae (.sh (Sh.ed (d := 10) (n := n.aa.length) 110 ((List.replicate n.aa.length false).map ik) rfl kq (bu (by simp)) ae) (.nil ?_))
 refine .seq (.sr ?_)
 refine .fa cb ?_
 refine .ld fD ?_
 refine .vl (Y.len (n := n.cells.length) dD rfl dG) ?_
 refine .mv ?_
 refine .nil (.block ?_)
 refine .dT (fun (bT : Nat) (dO : List Bool) => ⟨[(1, .fp (ab.row n) 0), (7, .fp ([.gl (.func 94) [] [.fp (ab.row n) 0]]) 0), (10, .aY 110 1 0 n.aa.length), (192, .fz 6 (n.cells.map Cell.row)), (193, vi n.cells.length), (194, vi bT)], [(110, .rows 1 (dO.map ik))]⟩) (fun bT dO => (dO.length = n.aa.length) ∧ ((bT : Int) ≤ (n.cells.length : Int)) ∧ (tH n bT dO) ∧ (∀ j, j < bT → iA n (n.cells.getD j default))) (fun bT dO => ((n.cells.length : Int) - (bT : Int)).toNat) 0 (List.replicate n.aa.length false) (⟨ig, ig, tH.init n, fun j hj => by omega⟩) (Le.mk (.c4 (.c (.cons (ak rfl b5) (.nil)))) (.c (.nil))) (fun bT dO FF => ?_)
 obtain ⟨DB, MT, hd, hc⟩ := FF
 refine .sr (.vl (Y.lss rfl rfl) (.nil ?_))
 refine .seq ?_
 refine .aB rfl (fun MU => ?_) (fun MU => ?_)
 refine .skip ?_
 refine .eP (fun (fZ : List Bool) => ⟨[(1, .fp (ab.row n) 0), (7, .fp ([.gl (.func 94) [] [.fp (ab.row n) 0]]) 0), (10, .aY 110 1 0 n.aa.length), (192, .fz 6 (n.cells.map Cell.row)), (193, vi n.cells.length), (194, vi bT), (203, .agg [.v (.string n.name), .fz 1 (n.aa.map ah), .fz 6 (n.cells.map Cell.row), .fz 1 (n.ins.map ah), .fz 5 (n.aw.map dV.row), .fz 3 (n.streams.map bE.row), .fz 1 (n.aX.map ah), .fz 1 (n.data.map ah), vi n.freeze, vi n.done, .fz 1 (n.bI.map ah)]), (204, .agg [vi ((n.cells.getD bT default).kind), vi ((n.cells.getD bT default).op), vi ((n.cells.getD bT default).out), .fz 1 (((n.cells.getD bT default).args).map ah), .v (.int .u64 (((n.cells.getD bT default).num : Nat) : Int)), vi ((n.cells.getD bT default).mem)]), (205, .v (.bool (decide (Shaped n (n.cells.getD bT default))))), (206, .v (.bool (!decide (Shaped n (n.cells.getD bT default)))))], [(110, .rows 1 (fZ.map ik))]⟩) (fun fZ => (fZ.length = n.aa.length) ∧ (iA n (n.cells.getD bT default) ∧ tH n (bT + 1) fZ)) ?_ (fun fZ Js => ?_)
 refine .block (.sr ?_)
 refine .vl (Y.aK (m := bT) dD rfl rfl b5 (ax (d := default) om)) ?_
 refine .vl (Y.aM eb rfl rfl (aH rfl) rfl rfl) (.alloc 112 dN rfl rfl ae (.aj eI rfl rfl rfl rfl rfl rfl (aH rfl) rfl ?_))
 refine .nil (.seq (.sr ?_))
 have QG := hs.args (n.cells.getD bT default) (fX om)
 refine .fa bF ?_
 refine .ld bh ?_
 refine .vl (Y.makeFunc rfl rfl rfl rfl) ?_
 refine .aP I0 (ja (l := ((n.cells.getD bT default).args)) (p := fun z => !decide (In z n.aa.length)) (om) L3 (fun z _ => tC)) rfl (.ai rfl rfl (.ai rfl rfl .nil)) ae rfl ?_
 refine .mv ?_
 refine .split (d := 202) rfl (fun MV => ?_) (fun MV => ?_)
 refine .gz 202 (.gz 202 (.gz 202 ?_))
 refine .gz 202 ?_
 refine .pk ?_
 refine .nil (.aV rfl (.sr ?_))
 refine .an ?_
 refine .nil (.ret ?_)
 exact .rb rfl (df (fun h => by have h1 := h.cells bT om; obtain ⟨a1, a2, a3, a4⟩ := h1; first | contradiction | exact absurd a1 (nw.1 cj) | (have := a3 cj; contradiction) | (have := a4 cj; contradiction)))
 refine .gw 202 (Y.aM eh rfl rfl (aH rfl) rfl rfl) (.gw 202 (Y.aM eb rfl rfl (aH rfl) rfl rfl) (.aO (d := 202) rfl ae rfl ?_))
 refine .aP L4 (uK (n := n) (c := (n.cells.getD bT default)) hs (by first | assumption | omega)) rfl (.ai rfl rfl (.ai rfl rfl .nil)) ae rfl (.gw 202 (Y.not rfl) ?_)
 refine .pk ?_
 refine .nil ?_
 refine .cond rfl (fun AE => ?_) (fun AE => ?_)
 replace AE : ¬ (Shaped n (n.cells.getD bT default)) := by simpa using AE
 refine .sr ?_
 refine .an ?_
 refine .nil (.ret ?_)
 exact .rb rfl (df (fun h => by have h1 := h.cells bT om; obtain ⟨a1, a2, a3, a4⟩ := h1; first | contradiction | exact absurd a1 (nw.1 cj) | (have := a3 cj; contradiction) | (have := a4 cj; contradiction)))
 replace AE : Shaped n (n.cells.getD bT default) := by simpa using AE
 refine .skip (.seq (.sr ?_))
 refine .fa cL ?_
 refine .ld br ?_
 refine .vl (Y.eql rfl rfl) (.nil ?_)
 refine .aB rfl (fun MW => ?_) (fun MW => ?_)
 refine .seq (.sr ?_)
 refine .fa dx ?_
 refine .ld br ?_
 refine .vl (Y.neq rfl rfl) (.nil ?_)
 refine .aB rfl (fun MX => ?_) (fun MX => ?_)
 refine .sr ?_
 refine .an ?_
 refine .nil (.ret ?_)
 exact .rb rfl (df (fun h => by have h1 := h.cells bT om; obtain ⟨a1, a2, a3, a4⟩ := h1; first | contradiction | exact absurd a1 (nw.1 cj) | (have := a3 cj; contradiction) | (have := a4 cj; contradiction)))
 refine .skip (.exit ?_)
 exact ⟨dO, ⟨om, ⟨⟨kF cj, cj, fun _ => by omega, fun h => absurd cj h⟩, hd.skip om cj⟩⟩, Le.mk (.c8 (.c2 (.nil))) (.c (.nil))⟩
 refine .skip (.seq (.sr ?_))
 refine .ld vM ?_
 refine .fa dx ?_
 refine .ld br ?_
 refine .lG rfl vJ (fk (i := ((n.cells.getD bT default).out))) rfl (.ai rfl rfl (.ai rfl rfl .nil)) ae rfl (.vl (Y.not rfl) ?_)
 refine .mv ?_
 refine .split (d := 219) rfl (fun AF => ?_) (fun AF => ?_)
 replace AF : ¬ (In ((n.cells.getD bT default).out) n.aa.length) := by simpa using AF
 refine .gz 219 (.gz 219 (.gz 219 ?_))
 refine .gz 219 (.gz 219 ?_)
 refine .pk ?_
 refine .nil (.aV rfl (.sr ?_))
 refine .an ?_
 refine .nil (.ret ?_)
 exact .rb rfl (df (fun h => by have h1 := h.cells bT om; obtain ⟨a1, a2, a3, a4⟩ := h1; first | contradiction | exact absurd a1 (nw.1 cj) | (have := a3 cj; contradiction) | (have := a4 cj; contradiction)))
 replace AF : In ((n.cells.getD bT default).out) n.aa.length := by simpa using AF
 refine .gw 219 (Y.move rfl rfl) (.gw 219 (Y.fieldAddr dx rfl rfl) (.gw 219 (Y.load br rfl rfl rfl rfl) ?_))
 refine .gw 219 (Y.bc (m := ((n.cells.getD bT default).out).toNat) pz rfl rfl ig ig) (.gw 219 (Y.load vL rfl (a8 (d := false) ig) rfl rfl) ?_)
 refine .pk ?_
 refine .nil ?_
 refine .cond rfl (fun MY => ?_) (fun MY => ?_)
 refine .sr ?_
 refine .an ?_
 refine .nil (.ret ?_)
 exact .rb rfl (df (fun h => tH.dup hd om cj cj cj h))
 refine .skip (.region ?_)
 refine .mv ?_
 refine .fa dx ?_
 refine .ld br ?_
 refine .vl (Y.bc (m := ((n.cells.getD bT default).out).toNat) pz rfl rfl ig ig) (.dB ((dO.set (((n.cells.getD bT default).out).toNat) true).map ik) JT rfl rfl rfl rfl rfl rfl rfl (a8 (d := false) ig) (aH rfl) (cp rfl) (.nil ?_))
 exact ⟨dO.set (((n.cells.getD bT default).out).toNat) true, ⟨ig, ⟨⟨kF cj, cj, fun h => absurd h cj, fun _ => by assumption⟩, hd.step om cj cj DB cj⟩⟩, Le.mk (.c8 (.c2 (.nil))) (.c (.nil))⟩
 obtain ⟨GC, Jt⟩ := Js
 refine .region (.vl (Y.aT rfl rfl om) ?_)
 refine .mv ?_
 refine .nil ?_
 exact ⟨bT + 1, fZ, ⟨om, om, Jt.2, iU hc Jt.1⟩, om, Le.mk (.c4 (.c (.cons (ak rfl b5) (.nil)))) (.c (.nil))⟩
 refine .exit (.sr ?_)
 refine .mv ?_
 refine .iz [110] L5 (oV (l := dO) (b := false) (om)) rfl (.cB rfl rfl (b8 om) (b9 om) (.ai rfl rfl .nil)) (jL rfl (bl v5)) ae rfl trivial (.vl (Y.not rfl) ?_)
 refine .an ?_
 refine .nil (.ret ?_)
 exact .rb rfl (db ((tH.all (d := dO) (by rw [show n.cells.length = bT by omega]; exact hd) DB).trans ⟨fun h => ⟨cj, om, om, om, om, om, om, fun j hj => by have := hw j (by rw [List.length_append] at hj; omega); rw [Jo] at this; exact this, fun j hj => hm j om, fun j hj => yT j om, cj, cj, kF cj, fun j hj => hc j om, h⟩, fun h => h.iB⟩))
end Go.Proofs.Ytligpghohcfpnaa
/- The walk through fits. -/
namespace Go.Proofs.Ytligpghohcfpnaa
open Go Go.AW Go.Proofs
theorem yz {n : ab} {c : Cell} (hs : n.Small) (hc : c.args.length ≤ 17592186043904) (hn : c.num < 18446744073709551616) (Ah : Shaped n c) (hw : wS n c) : az Try.prog 102 [.agg (ab.row n), .agg (Cell.row c)] [] [] (fun r o => r = .v (.bool (decide (Fits n c))) ∧ o = []) := by
 refine az.of Try.func102 rfl rfl rfl (n := 239) ae (aH rfl) ?_
 have Kh := hs.ins; have Ki := hs.aw; have MK := hs.streams; have ho := hw.out; have M7 := hs.aa
 refine .sr (.box 102 rfl rfl rfl rfl rfl ae (.box 103 rfl rfl rfl rfl rfl ae ?_))
 refine .an ?_
 refine .nil (.sr ?_)
 refine .an ?_
 refine .nil ?_
 refine .eP (fun (ib : Int) => ⟨[(2, .ptr 102 0 0 0), (3, .ptr 103 0 0 0), (5, vi ib)], [(102, .cells (ab.row n)), (103, .cells (Cell.row c))]⟩) (fun ib => ib = n.ow c) ?_ (fun ib w4 => ?_)
 refine .sr ?_
 refine .fa dx ?_
 refine .ld br ?_
 refine .vl (Y.geq rfl rfl) (.nil ?_)
 refine .aB rfl (fun xk => ?_) (fun xk => ?_)
 refine .region ?_
 refine .fa bN ?_
 refine .ld bh ?_
 refine .fa dx ?_
 refine .ld br ?_
 refine .vl (Y.aK (m := (c.out).toNat) a7 rfl rfl om (ax (d := 0) om)) ?_
 refine .ld br ?_
 refine .an ?_
 refine .nil ?_
 exact ⟨n.aa.getD ((c.out).toNat) 0, by unfold ab.ow ab.wd; rw [if_pos xk], Le.mk (.c2 (.cons (ak rfl b5) (.nil))) (.c2 (.nil))⟩
 refine .skip ?_
 exact ⟨0, by unfold ab.ow; rw [if_neg xk], Le.mk (.c2 (.cons (ak rfl b5) (.nil))) (.c2 (.nil))⟩
 refine .sr ?_
 refine .fa bF ?_
 refine .ld bh ?_
 refine .vl (Y.len (n := c.args.length) a7 rfl dG) (.makeSlice (n := c.args.length) a7 e0 rfl rfl rfl rfl om om ae ?_)
 refine .dU rfl ae (.sh (Sh.ed (d := 6) (n := c.args.length) 106 ((List.replicate c.args.length 0).map ah) rfl kq (bu (by simp)) ae) (.nil ?_))
 refine .seq (.sr ?_)
 refine .fa bF ?_
 refine .ld bh ?_
 refine .vl (Y.len (n := c.args.length) a7 rfl dG) ?_
 refine .mv ?_
 refine .nil (.block ?_)
 refine .dT (fun (bM : Nat) (kN : List Int) => ⟨[(2, .ptr 102 0 0 0), (3, .ptr 103 0 0 0), (5, vi ib), (6, .aY 106 1 0 c.args.length), (25, .fz 1 (c.args.map ah)), (26, vi c.args.length), (27, vi bM)], [(102, .cells (ab.row n)), (103, .cells (Cell.row c)), (106, .rows 1 (kN.map ah))]⟩) (fun bM kN => (kN.length = c.args.length) ∧ ((bM : Int) ≤ (c.args.length : Int)) ∧ (∀ j, j < bM → kN.getD j 0 = n.av c j)) (fun bM kN => ((c.args.length : Int) - (bM : Int)).toNat) 0 (List.replicate c.args.length 0) (⟨ou, ou, fun j hj => by omega⟩) (Le.mk (.c4 (.c2 (.cons (ak rfl b5) (.nil)))) (.c2 (.c (.nil)))) (fun bM kN Fu => ?_)
 obtain ⟨xo, MF, ha⟩ := Fu
 refine .sr (.vl (Y.lss rfl rfl) (.nil ?_))
 refine .seq ?_
 refine .aB rfl (fun wb => ?_) (fun wb => ?_)
 refine .skip (.seq (.block ?_))
 refine .sr ?_
 refine .mv ?_
 refine .vl (Y.aK (m := bM) a7 rfl rfl b5 (ax (d := 0) om)) ?_
 refine .ld br ?_
 refine .an ?_
 refine .an ?_
 refine .nil (.region ?_)
 have II := hw.arg (k := bM) om
 refine .mv ?_
 refine .mv ?_
 refine .fa bN ?_
 refine .ld bh ?_
 refine .mv ?_
 refine .vl (Y.aK (m := (c.args.getD bM 0).toNat) a7 rfl rfl om (ax (d := 0) om)) ?_
 refine .ld br ?_
 refine .vl (Y.bc (m := bM) a7 rfl rfl b5 om) (.dB ((kN.set bM (n.aa.getD ((c.args.getD bM 0).toNat) 0)).map ah) e8 rfl rfl rfl rfl rfl rfl rfl (a8 (d := 0) om) (aH rfl) (cp rfl) ?_)
 refine .nil (.region ?_)
 refine .vl (Y.aT rfl rfl bw) ?_
 refine .mv ?_
 refine .nil ?_
 exact ⟨bM + 1, kN.set bM (n.aa.getD ((c.args.getD bM 0).toNat) 0), ⟨ou, ou, xD ha rfl om⟩, om, Le.mk (.c4 (.c2 (.cons (ak rfl b5) (.nil)))) (.c2 (.c (.nil)))⟩
 refine .exit (.seq (.seq ?_))
 have RM : 0 < c.args.length → kN.getD 0 0 = n.av c 0 := fun h => ha 0 om
 have OO : 1 < c.args.length → kN.getD 1 0 = n.av c 1 := fun h => ha 1 om
 have RN : 2 < c.args.length → kN.getD 2 0 = n.av c 2 := fun h => ha 2 om
 refine .region ?_
 refine .fa cL ?_
 refine .ld br ?_
 refine .nil (.block (.sr ?_))
 refine .vl (Y.eql rfl rfl) ?_
 refine .an ?_
 refine .nil ?_
 refine .aB rfl (fun ML => ?_) (fun ML => ?_)
 refine .seq (.j8 rfl (.blind 0 rfl aq (ao.move rfl rfl) ae ?_))
 refine .blind 1 rfl aq (ao.fieldAddr dX rfl rfl) ae (.blind 4 rfl aq (ao.fieldAddr dX rfl rfl) ae ?_)
 refine .two 2 5 rfl rfl aq ?_ ?_
 refine .ld gB ?_
 refine .nil ⟨rfl, ?_⟩
 refine .two 3 5 rfl rfl aq ?_ ?_
 refine .aP xK (j9 (w := ib) (x := c.num) (om)) rfl (.ai rfl rfl (.ai rfl rfl .nil)) ae rfl ?_
 refine .nil ⟨rfl, ?_⟩
 refine .dC (n := 0) [5, 6, 7] [] 0 rfl aq (.cn 5 rfl (Y.load gB rfl rfl rfl rfl) (.cn 6 rfl (Y.eql rfl rfl) ?_))
 refine .cn 7 rfl (Y.assign rfl rfl) (.nil (.done aq ?_))
 refine .ret ?_
 exact .rb rfl (dd uW)
 refine .ld gB ?_
 refine .nil ⟨rfl, ?_⟩
 refine .one 3 rfl aq (.aP xK (j9 (w := ib) (x := c.num) (om)) rfl (.ai rfl rfl (.ai rfl rfl .nil)) ae rfl ?_)
 refine .nil ⟨rfl, ?_⟩
 refine .dC (n := 0) [6, 7] [] 0 rfl aq (.cn 6 rfl (Y.eql rfl rfl) (.cn 7 rfl (Y.assign rfl rfl) ?_))
 refine .nil (.done aq (.ret ?_))
 exact .rb rfl (dd uW)
 refine .ld gB ?_
 refine .nil ⟨rfl, ?_⟩
 refine .dC (n := 3) [2] [3, 6, 7] 3 rfl aq (.cn 2 rfl (Y.load gB rfl rfl rfl rfl) (.nil ?_))
 refine .one 3 rfl aq (.aP xK (j9 (w := ib) (x := c.num) (om)) rfl (.ai rfl rfl (.ai rfl rfl .nil)) ae rfl ?_)
 refine .nil ⟨rfl, ?_⟩
 refine .dC (n := 0) [6, 7] [] 0 rfl aq (.cn 6 rfl (Y.eql rfl rfl) (.cn 7 rfl (Y.assign rfl rfl) ?_))
 refine .nil (.done aq (.ret ?_))
 exact .rb rfl (dd uW)
 refine .sr (.vl (Y.eql rfl rfl) ?_)
 refine .an ?_
 refine .nil ?_
 refine .aB rfl (fun xp => ?_) (fun xp => ?_)
 have hk := Ah.k2 xp
 refine .seq (.sr ?_)
 refine .fa eg ?_
 refine .ld br ?_
 refine .nil (.block (.sr ?_))
 refine .vl (Y.eql rfl rfl) ?_
 refine .an ?_
 refine .nil ?_
 refine .aB rfl (fun MZ => ?_) (fun MZ => ?_)
 refine .sr ?_
 refine .mv ?_
 refine .vl (Y.bc (m := 0) a7 rfl rfl b5 bw) (.vl (Y.load br rfl (a8 (d := 0) om) rfl rfl) (.vl (Y.eql rfl rfl) ?_))
 refine .mv ?_
 refine .aE (d := 62) rfl (fun Ju => ?_) (fun Ju => ?_)
 refine .gw 62 (Y.move rfl rfl) (.gw 62 (Y.bc (m := 1) a7 rfl rfl b5 om) (.gw 62 (Y.load br rfl (a8 (d := 0) om) rfl rfl) ?_))
 refine .gw 62 (Y.move rfl rfl) (.gw 62 (Y.eql rfl rfl) ?_)
 refine .pk ?_
 refine .mv ?_
 refine .aE (d := 69) rfl (fun Gn => ?_) (fun Gn => ?_)
 refine .gw 69 (Y.move rfl rfl) (.gw 69 (Y.bc (m := 2) a7 rfl rfl b5 om) (.gw 69 (Y.load br rfl (a8 (d := 0) om) rfl rfl) ?_))
 refine .gw 69 (Y.move rfl rfl) (.gw 69 (Y.eql rfl rfl) ?_)
 refine .pk ?_
 refine .an ?_
 refine .nil (.ret ?_)
 exact .rb rfl (dd (by (simp only [Fits, fH, oB, ← w4, xp, Int.reduceEq, Bool.not_eq_true, false_and, true_and, and_true, and_false, or_false, false_or, ne_eq]) <;> omega))
 refine .gz 69 (.gz 69 (.gz 69 ?_))
 refine .gz 69 (.gz 69 ?_)
 refine .pk ?_
 refine .an ?_
 refine .nil (.ret ?_)
 exact .rb rfl (df (by (simp only [Fits, fH, oB, ← w4, xp, Int.reduceEq, Bool.not_eq_true, false_and, true_and, and_true, and_false, or_false, false_or, ne_eq]) <;> omega))
 refine .gz 62 (.gz 62 (.gz 62 ?_))
 refine .gz 62 (.gz 62 ?_)
 refine .pk ?_
 refine .mv ?_
 refine .gz 69 (.gz 69 (.gz 69 ?_))
 refine .gz 69 (.gz 69 ?_)
 refine .pk ?_
 refine .an ?_
 refine .nil (.ret ?_)
 exact .rb rfl (df (by (simp only [Fits, fH, oB, ← w4, xp, Int.reduceEq, Bool.not_eq_true, false_and, true_and, and_true, and_false, or_false, false_or, ne_eq]) <;> omega))
 refine .seq (.sr (.vl (Y.eql rfl rfl) ?_))
 refine .an ?_
 refine .nil ?_
 refine .bD rfl (fun yq => ?_) (fun yq => ?_)
 refine .skip (.aV rfl (.sr ?_))
 refine .mv ?_
 refine .vl (Y.bc (m := 0) a7 rfl rfl b5 bw) (.vl (Y.load br rfl (a8 (d := 0) om) rfl rfl) ?_)
 refine .mv ?_
 refine .vl (Y.leq rfl rfl) ?_
 refine .an ?_
 refine .nil (.ret ?_)
 exact .rb rfl (dd (by (simp only [Fits, fH, oB, ← w4, xp, Int.reduceEq, Bool.not_eq_true, false_and, true_and, and_true, and_false, or_false, false_or, ne_eq]) <;> omega))
 refine .region (.vl (Y.eql rfl rfl) ?_)
 refine .an ?_
 refine .nil ?_
 refine .bD rfl (fun yq => ?_) (fun yq => ?_)
 refine .sr ?_
 refine .mv ?_
 refine .vl (Y.bc (m := 0) a7 rfl rfl b5 bw) (.vl (Y.load br rfl (a8 (d := 0) om) rfl rfl) ?_)
 refine .mv ?_
 refine .vl (Y.leq rfl rfl) ?_
 refine .an ?_
 refine .nil (.ret ?_)
 exact .rb rfl (dd (by (simp only [Fits, fH, oB, ← w4, xp, Int.reduceEq, Bool.not_eq_true, false_and, true_and, and_true, and_false, or_false, false_or, ne_eq]) <;> omega))
 refine .sr (.vl (Y.eql rfl rfl) ?_)
 refine .an ?_
 refine .nil ?_
 refine .aB rfl (fun QH => ?_) (fun QH => ?_)
 refine .sr ?_
 refine .mv ?_
 refine .vl (Y.bc (m := 0) a7 rfl rfl b5 bw) (.vl (Y.load br rfl (a8 (d := 0) om) rfl rfl) ?_)
 refine .mv ?_
 refine .vl (Y.geq rfl rfl) ?_
 refine .an ?_
 refine .nil (.ret ?_)
 exact .rb rfl (dd (by (simp only [Fits, fH, oB, ← w4, xp, Int.reduceEq, Bool.not_eq_true, false_and, true_and, and_true, and_false, or_false, false_or, ne_eq]) <;> omega))
 refine .skip (.seq (.sr ?_))
 refine .fa eg ?_
 refine .ld br ?_
 refine .aP Ix (na (w := c.op)) rfl (.ai rfl rfl .nil) ae rfl (.nil ?_)
 refine .aB rfl (fun Fy => ?_) (fun Fy => ?_)
 unfold oB at Fy
 refine .seq (.gX rfl aq (.val (Y.move rfl rfl) ae ?_))
 refine .val (Y.eql rfl rfl) ae (.val (Y.move rfl rfl) ae ?_)
 refine .aE (d := 96) rfl (fun MQ => ?_) (fun MQ => ?_)
 refine .aO (d := 96) rfl ae rfl (.val (Y.move rfl rfl) ae (.aO (d := 96) rfl ae rfl ?_))
 refine .val (Y.bc (m := 0) a7 rfl rfl b5 om) ae (.aO (d := 96) rfl ae rfl (.val (Y.load br rfl (a8 (d := 0) om) rfl rfl) ae ?_))
 refine .aO (d := 96) rfl ae rfl (.val (Y.move rfl rfl) ae (.aO (d := 96) rfl ae rfl ?_))
 refine .val (Y.bc (m := 1) a7 rfl rfl b5 om) ae (.aO (d := 96) rfl ae rfl (.val (Y.load br rfl (a8 (d := 0) om) rfl rfl) ae ?_))
 refine .aO (d := 96) rfl ae rfl (.val (Y.eql rfl rfl) ae (.val (Y.pick rfl rfl rfl) ae ?_))
 refine .val (Y.assign rfl rfl) ae (.nil (.ret ?_))
 exact .rb rfl (dd (by (simp only [Fits, fH, oB, ← w4, xp, Int.reduceEq, Bool.not_eq_true, false_and, true_and, and_true, and_false, or_false, false_or, ne_eq]) <;> omega))
 refine .aG (d := 96) rfl ae ae rfl rfl (.aG (d := 96) rfl ae ae rfl rfl (.aG (d := 96) rfl ae ae rfl rfl ?_))
 refine .aG (d := 96) rfl ae ae rfl rfl (.aG (d := 96) rfl ae ae rfl rfl (.aG (d := 96) rfl ae ae rfl rfl ?_))
 refine .aG (d := 96) rfl ae ae rfl rfl (.val (Y.pick rfl rfl rfl) ae (.val (Y.assign rfl rfl) ae ?_))
 refine .nil (.ret ?_)
 exact .rb rfl (df (by (simp only [Fits, fH, oB, ← w4, xp, Int.reduceEq, Bool.not_eq_true, false_and, true_and, and_true, and_false, or_false, false_or, ne_eq]) <;> omega))
 unfold oB at Fy
 refine .skip (.sr ?_)
 refine .mv ?_
 refine .vl (Y.bc (m := 0) a7 rfl rfl b5 bw) (.vl (Y.load br rfl (a8 (d := 0) om) rfl rfl) ?_)
 refine .mv ?_
 refine .vl (Y.eql rfl rfl) ?_
 refine .mv ?_
 refine .aE (d := 110) rfl (fun FD => ?_) (fun FD => ?_)
 refine .gw 110 (Y.move rfl rfl) (.gw 110 (Y.bc (m := 1) a7 rfl rfl b5 om) (.gw 110 (Y.load br rfl (a8 (d := 0) om) rfl rfl) ?_))
 refine .gw 110 (Y.move rfl rfl) (.gw 110 (Y.eql rfl rfl) ?_)
 refine .pk ?_
 refine .an ?_
 refine .nil (.ret ?_)
 exact .rb rfl (dd (by (simp only [Fits, fH, oB, ← w4, xp, Int.reduceEq, Bool.not_eq_true, false_and, true_and, and_true, and_false, or_false, false_or, ne_eq]) <;> omega))
 refine .gz 110 (.gz 110 (.gz 110 ?_))
 refine .gz 110 (.gz 110 ?_)
 refine .pk ?_
 refine .an ?_
 refine .nil (.ret ?_)
 exact .rb rfl (df (by (simp only [Fits, fH, oB, ← w4, xp, Int.reduceEq, Bool.not_eq_true, false_and, true_and, and_true, and_false, or_false, false_or, ne_eq]) <;> omega))
 refine .sr (.vl (Y.eql rfl rfl) ?_)
 refine .an ?_
 refine .nil ?_
 refine .aB rfl (fun nE => ?_) (fun nE => ?_)
 have hk := Ah.k3 nE
 refine .seq (.sr ?_)
 refine .mv ?_
 refine .vl (Y.len (n := c.args.length) a7 rfl rfl) ?_
 refine .mv ?_
 refine .nil (.block ?_)
 refine .lZ (fun (ca : Nat) => ⟨[(5, vi ib), (119, .aY 106 1 0 c.args.length), (120, vi c.args.length), (121, vi ca)], [(106, .rows 1 (kN.map ah))]⟩) (fun ca => ((ca : Int) ≤ (c.args.length : Int)) ∧ (∀ k, k < ca → jN n c k)) (fun ca => ((c.args.length : Int) - (ca : Int)).toNat) 0 (⟨om, fun k hk => by omega⟩) (Le.mk (.c2 (.c (.cons (ak rfl b5) (.nil)))) (.c (.nil))) (fun ca FG => ?_)
 obtain ⟨Na, hm⟩ := FG
 refine .sr (.vl (Y.lss rfl rfl) (.nil ?_))
 refine .seq ?_
 refine .aB rfl (fun FH => ?_) (fun FH => ?_)
 refine .skip ?_
 refine .mQ (fun (kj : Bool) (km : Bool) => ⟨[(5, vi ib), (119, .aY 106 1 0 c.args.length), (120, vi c.args.length), (121, vi ca), (134, vi ca), (135, vi ((ca : Int) % 2)), (136, .v (.bool (decide (((ca : Int) % 2) = 1)))), (137, .v (.bool kj)), (141, .v (.bool km))], [(106, .rows 1 (kN.map ah))]⟩) (fun kj km => ((((ca : Int) % 2) = 0) ∧ (¬ ((kN.getD ca 0) ≠ 1)) ∧ (((ca : Int) % 2) = 1) ∧ (¬ ((kN.getD ca 0) ≠ ib)) ∧ (kj = true) ∧ (km = (decide ((kN.getD ca 0) ≠ ib)))) ∨ ((((ca : Int) % 2) = 0) ∧ (¬ ((kN.getD ca 0) ≠ 1)) ∧ (¬ (((ca : Int) % 2) = 1)) ∧ (kj = false) ∧ (km = false)) ∨ ((¬ (((ca : Int) % 2) = 0)) ∧ (((ca : Int) % 2) = 1) ∧ (¬ ((kN.getD ca 0) ≠ ib)) ∧ (kj = true) ∧ (km = (decide ((kN.getD ca 0) ≠ ib)))) ∨ ((¬ (((ca : Int) % 2) = 0)) ∧ (¬ (((ca : Int) % 2) = 1)) ∧ (kj = false) ∧ (km = false))) ?_ (fun kj km Jv => ?_)
 refine .block (.sr ?_)
 refine .mv ?_
 refine .vl (Y.bc (m := ca) a7 rfl rfl b5 om) (.vl (Y.load br rfl (a8 (d := 0) om) rfl rfl) ?_)
 refine .an ?_
 refine .an ?_
 refine .nil (.sr ?_)
 refine .mv ?_
 refine .vl (Y.jH rfl rfl bw) (.vl (Y.eql rfl rfl) ?_)
 refine .mv ?_
 refine .aE (d := 129) rfl (fun AG => ?_) (fun AG => ?_)
 refine .gw 129 (Y.move rfl rfl) (.gw 129 (Y.neq rfl rfl) ?_)
 refine .pk ?_
 refine .mv ?_
 refine .aE (d := 133) rfl (fun FI => ?_) (fun FI => ?_)
 refine .gz 133 (.gz 133 (.gz 133 ?_))
 refine .gz 133 (.gz 137 (.gz 137 ?_))
 refine .gz 137 (.gz 133 ?_)
 refine .pk ?_
 refine .nil (.aV rfl (.sr ?_))
 refine .an ?_
 refine .nil (.ret ?_)
 exact .rb rfl (df (fun h => by simp only [Fits, nE, Int.reduceEq, Bool.not_eq_true, false_and, true_and, and_true, and_false, or_false, false_or, ne_eq] at h; have h1 := h ca om; have h2 := ha ca om; unfold jN at h1; omega))
 refine .gw 133 (Y.move rfl rfl) (.gw 133 (Y.jH rfl rfl om) ?_)
 refine .gw 133 (Y.eql rfl rfl) (.gw 133 (Y.move rfl rfl) ?_)
 refine .aE (d := 137) rfl (fun oe => ?_) (fun oe => ?_)
 refine .gw 137 (Y.move rfl rfl) (.gw 137 (Y.move rfl rfl) (.gw 137 (Y.neq rfl rfl) ?_))
 refine .gw 133 (Y.pick rfl rfl rfl) ?_
 refine .pk ?_
 refine .nil ?_
 refine .aB rfl (fun AH => ?_) (fun AH => ?_)
 refine .sr ?_
 refine .an ?_
 refine .nil (.ret ?_)
 exact .rb rfl (df (fun h => by simp only [Fits, nE, Int.reduceEq, Bool.not_eq_true, false_and, true_and, and_true, and_false, or_false, false_or, ne_eq] at h; have h1 := h ca om; have h2 := ha ca om; unfold jN at h1; omega))
 refine .skip ?_
 exact ⟨true, decide ((kN.getD ca 0) ≠ ib), .inl ⟨AG, FI, oe, AH, rfl, rfl⟩, Le.mk (.c4 (.c2 (.c (.cons (aI rfl gF) (.cons (aI rfl gF) (.nil)))))) (.c (.nil))⟩
 refine .gz 137 (.gz 137 (.gz 137 ?_))
 refine .gw 133 (Y.pick rfl rfl rfl) ?_
 refine .pk ?_
 refine .nil (.cX rfl (.skip ?_))
 exact ⟨false, false, .inr (.inl ⟨AG, FI, oe, rfl, rfl⟩), Le.mk (.c4 (.c2 (.c (.cons (aI rfl gF) (.cons (aI rfl gF) (.nil)))))) (.c (.nil))⟩
 refine .gz 129 (.gz 129 ?_)
 refine .pk ?_
 refine .mv ?_
 refine .gw 133 (Y.move rfl rfl) (.gw 133 (Y.jH rfl rfl om) ?_)
 refine .gw 133 (Y.eql rfl rfl) (.gw 133 (Y.move rfl rfl) ?_)
 refine .aE (d := 137) rfl (fun oe => ?_) (fun oe => ?_)
 refine .gw 137 (Y.move rfl rfl) (.gw 137 (Y.move rfl rfl) (.gw 137 (Y.neq rfl rfl) ?_))
 refine .gw 133 (Y.pick rfl rfl rfl) ?_
 refine .pk ?_
 refine .nil ?_
 refine .aB rfl (fun AH => ?_) (fun AH => ?_)
 refine .sr ?_
 refine .an ?_
 refine .nil (.ret ?_)
 exact .rb rfl (df (fun h => by simp only [Fits, nE, Int.reduceEq, Bool.not_eq_true, false_and, true_and, and_true, and_false, or_false, false_or, ne_eq] at h; have h1 := h ca om; have h2 := ha ca om; unfold jN at h1; omega))
 refine .skip ?_
 exact ⟨true, decide ((kN.getD ca 0) ≠ ib), .inr (.inr (.inl ⟨AG, oe, AH, rfl, rfl⟩)), Le.mk (.c4 (.c2 (.c (.cons (aI rfl gF) (.cons (aI rfl gF) (.nil)))))) (.c (.nil))⟩
 refine .gz 137 (.gz 137 (.gz 137 ?_))
 refine .gw 133 (Y.pick rfl rfl rfl) ?_
 refine .pk ?_
 refine .nil (.cX rfl (.skip ?_))
 exact ⟨false, false, .inr (.inr (.inr (⟨AG, oe, rfl, rfl⟩))), Le.mk (.c4 (.c2 (.c (.cons (aI rfl gF) (.cons (aI rfl gF) (.nil)))))) (.c (.nil))⟩
 refine .region (.vl (Y.aT rfl rfl bw) ?_)
 refine .mv ?_
 refine .nil ?_
 exact ⟨ca + 1, ⟨om, z5 hm (by have h2 := ha ca om; unfold jN; omega)⟩, om, Le.mk (.c2 (.c (.cons (ak rfl b5) (.nil)))) (.c (.nil))⟩
 refine .exit (.sr ?_)
 refine .an ?_
 refine .nil (.ret ?_)
 exact .rb rfl (dt (by simp only [Fits, nE, Int.reduceEq, Bool.not_eq_true, false_and, true_and, and_true, and_false, or_false, false_or, ne_eq]; exact fun k hk => hm k om))
 refine .sr (.vl (Y.eql rfl rfl) ?_)
 refine .an ?_
 refine .nil ?_
 refine .aB rfl (fun CH => ?_) (fun CH => ?_)
 have hk := Ah.k4 CH
 refine .seq (.j8 rfl (.blind 0 rfl aq (ao.move rfl rfl) ae ?_))
 refine .one 1 rfl aq (.vl (Y.bc (m := 0) a7 rfl rfl b5 bw) ?_)
 refine .nil ⟨rfl, ?_⟩
 refine .one 2 rfl aq (.vl (Y.load br rfl (a8 (d := 0) om) rfl rfl) ?_)
 refine .nil ⟨rfl, ?_⟩
 refine .one 3 rfl aq (.vl (Y.eql rfl rfl) ?_)
 refine .nil ⟨rfl, ?_⟩
 refine .blind 4 rfl aq (ao.move rfl rfl) ae ?_
 refine .aE (d := 150) rfl (fun Nb => ?_) (fun Nb => ?_)
 refine .eX 5 rfl aq rfl ae rfl (ao.move rfl rfl) ae (.eX 8 rfl aq rfl ae rfl (ao.move rfl rfl) ae (.one 6 rfl aq ?_))
 refine .gw 150 (Y.bc (m := 1) a7 rfl rfl b5 om) ?_
 refine .nil ⟨rfl, ?_⟩
 refine .one 7 rfl aq (.gw 150 (Y.load br rfl (a8 (d := 0) om) rfl rfl) ?_)
 refine .nil ⟨rfl, ?_⟩
 refine .one 9 rfl aq (.gw 150 (Y.eql rfl rfl) ?_)
 refine .nil ⟨rfl, ?_⟩
 refine .one 10 rfl aq ?_
 refine .pk ?_
 refine .nil ⟨rfl, ?_⟩
 refine .blind 11 rfl aq (ao.move rfl rfl) ae ?_
 refine .aE (d := 157) rfl (fun Nc => ?_) (fun Nc => ?_)
 refine .eX 12 rfl aq rfl ae rfl (ao.move rfl rfl) ae (.eX 13 rfl aq rfl ae rfl (ao.fieldAddr dX rfl rfl) ae (.eX 16 rfl aq rfl ae rfl (ao.fieldAddr dX rfl rfl) ae ?_))
 refine .two 14 17 rfl rfl aq ?_ ?_
 refine .gw 157 (Y.load gB rfl rfl rfl rfl) ?_
 refine .nil ⟨rfl, ?_⟩
 refine .two 15 17 rfl rfl aq ?_ ?_
 refine .aO (d := 157) rfl ae rfl (.aP xK (j9 (w := ib) (x := c.num) (om)) rfl (.ai rfl rfl (.ai rfl rfl .nil)) ae rfl ?_)
 refine .nil ⟨rfl, ?_⟩
 refine .dC (n := 0) [17, 18, 19, 20] [] 0 rfl aq (.rn 17 rfl rfl rfl (Y.load gB rfl rfl rfl rfl) (.rn 18 rfl rfl rfl (Y.eql rfl rfl) ?_))
 refine .cn 19 rfl (Y.pick rfl rfl rfl) (.cn 20 rfl (Y.assign rfl rfl) (.nil ?_))
 refine .done aq (.ret ?_)
 exact .rb rfl (dd uW)
 refine .gw 157 (Y.load gB rfl rfl rfl rfl) ?_
 refine .nil ⟨rfl, ?_⟩
 refine .one 15 rfl aq (.aO (d := 157) rfl ae rfl ?_)
 refine .aP xK (j9 (w := ib) (x := c.num) (om)) rfl (.ai rfl rfl (.ai rfl rfl .nil)) ae rfl ?_
 refine .nil ⟨rfl, ?_⟩
 refine .dC (n := 0) [18, 19, 20] [] 0 rfl aq (.rn 18 rfl rfl rfl (Y.eql rfl rfl) (.cn 19 rfl (Y.pick rfl rfl rfl) ?_))
 refine .cn 20 rfl (Y.assign rfl rfl) (.nil (.done aq ?_))
 refine .ret ?_
 exact .rb rfl (dd uW)
 refine .gw 157 (Y.load gB rfl rfl rfl rfl) ?_
 refine .nil ⟨rfl, ?_⟩
 refine .dC (n := 4) [14] [15, 18, 19, 20] 15 rfl aq (.rn 14 rfl rfl rfl (Y.load gB rfl rfl rfl rfl) (.nil ?_))
 refine .one 15 rfl aq (.aO (d := 157) rfl ae rfl ?_)
 refine .aP xK (j9 (w := ib) (x := c.num) (om)) rfl (.ai rfl rfl (.ai rfl rfl .nil)) ae rfl ?_
 refine .nil ⟨rfl, ?_⟩
 refine .dC (n := 0) [18, 19, 20] [] 0 rfl aq (.rn 18 rfl rfl rfl (Y.eql rfl rfl) (.cn 19 rfl (Y.pick rfl rfl rfl) ?_))
 refine .cn 20 rfl (Y.assign rfl rfl) (.nil (.done aq ?_))
 refine .ret ?_
 exact .rb rfl (dd uW)
 refine .bU 12 rfl aq rfl ae ae rfl rfl (.bU 13 rfl aq rfl ae ae rfl rfl (.bU 14 rfl aq rfl ae ae rfl rfl ?_))
 refine .bU 15 rfl aq rfl ae ae rfl rfl (.bU 16 rfl aq rfl ae ae rfl rfl (.bU 17 rfl aq rfl ae ae rfl rfl ?_))
 refine .bU 18 rfl aq rfl ae ae rfl rfl (.dC (n := 0) [19, 20] [] 0 rfl aq (.cn 19 rfl (Y.pick rfl rfl rfl) ?_))
 refine .cn 20 rfl (Y.assign rfl rfl) (.nil (.done aq ?_))
 refine .ret ?_
 exact .rb rfl (df uW)
 refine .bU 5 rfl aq rfl ae ae rfl rfl (.bU 6 rfl aq rfl ae ae rfl rfl (.bU 7 rfl aq rfl ae ae rfl rfl ?_))
 refine .bU 8 rfl aq rfl ae ae rfl rfl (.bU 9 rfl aq rfl ae ae rfl rfl (.one 10 rfl aq ?_))
 refine .pk ?_
 refine .nil ⟨rfl, ?_⟩
 refine .blind 11 rfl aq (ao.move rfl rfl) ae (.bU 12 rfl aq rfl ae ae rfl rfl (.bU 13 rfl aq rfl ae ae rfl rfl ?_))
 refine .bU 14 rfl aq rfl ae ae rfl rfl (.bU 15 rfl aq rfl ae ae rfl rfl (.bU 16 rfl aq rfl ae ae rfl rfl ?_))
 refine .bU 17 rfl aq rfl ae ae rfl rfl (.bU 18 rfl aq rfl ae ae rfl rfl (.dC (n := 0) [19, 20] [] 0 rfl aq ?_))
 refine .cn 19 rfl (Y.pick rfl rfl rfl) (.cn 20 rfl (Y.assign rfl rfl) (.nil ?_))
 refine .done aq (.ret ?_)
 exact .rb rfl (df uW)
 refine .sr (.vl (Y.eql rfl rfl) ?_)
 refine .an ?_
 refine .nil ?_
 refine .aB rfl (fun Jw => ?_) (fun Jw => ?_)
 have hk := Ah.k5 Jw
 refine .sr ?_
 refine .mv ?_
 refine .vl (Y.bc (m := 0) a7 rfl rfl b5 bw) (.vl (Y.load br rfl (a8 (d := 0) om) rfl rfl) ?_)
 refine .mv ?_
 refine .vl (Y.eql rfl rfl) ?_
 refine .mv ?_
 refine .aE (d := 173) rfl (fun Nd => ?_) (fun Nd => ?_)
 refine .gw 173 (Y.move rfl rfl) (.gw 173 (Y.bc (m := 1) a7 rfl rfl b5 om) (.gw 173 (Y.load br rfl (a8 (d := 0) om) rfl rfl) ?_))
 refine .gw 173 (Y.move rfl rfl) (.gw 173 (Y.eql rfl rfl) ?_)
 refine .pk ?_
 refine .an ?_
 refine .nil (.ret ?_)
 exact .rb rfl (dd uW)
 refine .gz 173 (.gz 173 (.gz 173 ?_))
 refine .gz 173 (.gz 173 ?_)
 refine .pk ?_
 refine .an ?_
 refine .nil (.ret ?_)
 exact .rb rfl (df uW)
 refine .sr (.vl (Y.eql rfl rfl) ?_)
 refine .an ?_
 refine .nil ?_
 refine .aB rfl (fun Jx => ?_) (fun Jx => ?_)
 have hk := Ah.k6 Jx
 refine .sr ?_
 refine .mv ?_
 refine .vl (Y.bc (m := 0) a7 rfl rfl b5 bw) (.vl (Y.load br rfl (a8 (d := 0) om) rfl rfl) (.vl (Y.eql rfl rfl) ?_))
 refine .mv ?_
 refine .aE (d := 186) rfl (fun FE => ?_) (fun FE => ?_)
 refine .gw 186 (Y.fieldAddr fK rfl rfl) (.gw 186 (Y.load nD rfl rfl rfl rfl) (.gw 186 (Y.fieldAddr cV rfl rfl) ?_))
 refine .gw 186 (Y.load br rfl rfl rfl rfl) (.gw 186 (Y.aK (m := (c.mem).toNat) kJ rfl rfl om (ax (d := default) om)) ?_)
 refine .gw 186 (Y.fieldAddr qV rfl rfl) (.gw 186 (Y.load br rfl rfl rfl rfl) (.gw 186 (Y.move rfl rfl) ?_))
 refine .gw 186 (Y.eql rfl rfl) ?_
 refine .pk ?_
 refine .an ?_
 refine .nil (.ret ?_)
 exact .rb rfl (dd uW)
 refine .gz 186 (.gz 186 (.gz 186 ?_))
 refine .gz 186 (.gz 186 (.gz 186 ?_))
 refine .gz 186 (.gz 186 (.gz 186 ?_))
 refine .pk ?_
 refine .an ?_
 refine .nil (.ret ?_)
 exact .rb rfl (df uW)
 refine .sr (.vl (Y.eql rfl rfl) ?_)
 refine .an ?_
 refine .nil ?_
 refine .aB rfl (fun Jy => ?_) (fun Jy => ?_)
 have hk := Ah.k7 Jy
 refine .seq (.gX rfl aq (.val (Y.move rfl rfl) ae ?_))
 refine .val (Y.bc (m := 0) a7 rfl rfl b5 om) ae (.val (Y.load br rfl (a8 (d := 0) om) rfl rfl) ae ?_)
 refine .val (Y.eql rfl rfl) ae (.val (Y.move rfl rfl) ae ?_)
 refine .aE (d := 203) rfl (fun Nf => ?_) (fun Nf => ?_)
 refine .aO (d := 203) rfl ae rfl (.val (Y.fieldAddr fK rfl rfl) ae (.aO (d := 203) rfl ae rfl ?_))
 refine .val (Y.load nD rfl rfl rfl rfl) ae (.aO (d := 203) rfl ae rfl (.val (Y.fieldAddr cV rfl rfl) ae ?_))
 refine .aO (d := 203) rfl ae rfl (.val (Y.load br rfl rfl rfl rfl) ae (.aO (d := 203) rfl ae rfl ?_))
 refine .val (Y.aK (m := (c.mem).toNat) kJ rfl rfl om (ax (d := default) om)) ae ?_
 refine .aO (d := 203) rfl ae rfl (.val (Y.fieldAddr qV rfl rfl) ae (.aO (d := 203) rfl ae rfl ?_))
 refine .val (Y.load br rfl rfl rfl rfl) ae (.aO (d := 203) rfl ae rfl (.val (Y.move rfl rfl) ae ?_))
 refine .aO (d := 203) rfl ae rfl (.val (Y.bc (m := 2) a7 rfl rfl b5 om) ae (.aO (d := 203) rfl ae rfl (.val (Y.load br rfl (a8 (d := 0) om) rfl rfl) ae ?_)))
 refine .aO (d := 203) rfl ae rfl (.val (Y.eql rfl rfl) ae (.val (Y.pick rfl rfl rfl) ae ?_))
 refine .val (Y.assign rfl rfl) ae (.nil (.ret ?_))
 exact .rb rfl (dd uW)
 refine .aG (d := 203) rfl ae ae rfl rfl (.aG (d := 203) rfl ae ae rfl rfl (.aG (d := 203) rfl ae ae rfl rfl ?_))
 refine .aG (d := 203) rfl ae ae rfl rfl (.aG (d := 203) rfl ae ae rfl rfl (.aG (d := 203) rfl ae ae rfl rfl ?_))
 refine .aG (d := 203) rfl ae ae rfl rfl (.aG (d := 203) rfl ae ae rfl rfl (.aG (d := 203) rfl ae ae rfl rfl ?_))
 refine .aG (d := 203) rfl ae ae rfl rfl (.aG (d := 203) rfl ae ae rfl rfl (.val (Y.pick rfl rfl rfl) ae ?_))
 refine .val (Y.assign rfl rfl) ae (.nil (.ret ?_))
 exact .rb rfl (df uW)
 refine .sr (.vl (Y.eql rfl rfl) ?_)
 refine .an ?_
 refine .nil ?_
 refine .aB rfl (fun Jz => ?_) (fun Jz => ?_)
 have hk := Ah.k8 Jz
 refine .sr ?_
 refine .fa kG ?_
 refine .ld bh ?_
 refine .fa dX ?_
 refine .ld gB ?_
 refine .vl (Y.aK (m := c.num) a7 rfl rfl b5 (ax (d := 0) om)) ?_
 refine .ld br ?_
 refine .mv ?_
 refine .vl (Y.eql rfl rfl) ?_
 refine .an ?_
 refine .nil (.ret ?_)
 exact .rb rfl (dd uW)
 refine .sr (.vl (Y.eql rfl rfl) ?_)
 refine .an ?_
 refine .nil ?_
 refine .aB rfl (fun Ng => ?_) (fun Ng => ?_)
 refine .sr ?_
 refine .mv ?_
 refine .vl (Y.eql rfl rfl) ?_
 refine .an ?_
 refine .nil (.ret ?_)
 exact .rb rfl (dd uW)
 have JQ : c.kind = 10 := by have := Ah.kind; omega
 have hk := Ah.JQ JQ
 refine .skip (.sr ?_)
 refine .fa ef ?_
 refine .ld jS ?_
 refine .fa cV ?_
 refine .ld br ?_
 refine .vl (Y.aK (m := (c.mem).toNat) gZ rfl rfl om (ax (d := default) om)) ?_
 refine .fa qW ?_
 refine .ld br ?_
 refine .mv ?_
 refine .vl (Y.eql rfl rfl) ?_
 refine .an ?_
 refine .nil (.ret ?_)
 exact .rb rfl (dd (by (simp only [Fits, fH, oB, ← w4, JQ, Int.reduceEq, Bool.not_eq_true, false_and, true_and, and_true, and_false, or_false, false_or, ne_eq]) <;> omega))
end Go.Proofs.Ytligpghohcfpnaa
/- The walk through aa. -/
namespace Go.Proofs.Ytligpghohcfpnaa
open Go Go.AW Go.Proofs
theorem tD {n : ab} {c : Cell} (hs : n.Small) (hf : aW n) (hc : c ∈ n.cells) : az Try.prog 101 [.agg (Cell.row c), .fp (ab.row n) 0] [] [] (fun r o => r = .v (.bool (!decide (Fits n c))) ∧ o = []) := by
 refine az.of Try.func101 rfl rfl rfl (n := 8) ae (aH rfl) (.sr (.box 102 rfl rfl rfl rfl rfl ae ?_))
 refine .an ?_
 refine .nil (.sr (.vl (Y.aM eh rfl rfl (aH rfl) rfl rfl) ?_))
 refine .vl (Y.aM eb rfl rfl (aH rfl) rfl rfl) (.aP Ia (yz (n := n) (c := c) hs (hs.args _ hc) (hs.zz _ hc) (hf.cell hc).2.1 (hf.cell hc).HH) rfl (.ai rfl rfl (.ai rfl rfl .nil)) ae rfl (.vl (Y.not rfl) ?_))
 refine .an ?_
 refine .nil (.ret ?_)
 exact .rb rfl (rfl)
theorem uM {n : ab} (hs : n.Small) (hf : aW n) : az Try.prog 58 [.agg (ab.row n)] [] [] (fun r o => r = .v (.bool (decide (Fit n))) ∧ o = []) := by
 refine az.of Try.func58 rfl rfl rfl (n := 63) ae (aH rfl) ?_
 have M7 := hf.cP; have QC := hf.eY; have QD := hf.bO; have Kh := hf.freeze; have Ki := hf.done; unfold In at Kh Ki; have MK := hf.cv; have QE := hf.cK
 refine .sr (.box 101 rfl rfl rfl rfl rfl ae ?_)
 refine .an ?_
 refine .nil (.seq (.sr ?_))
 refine .fa bN ?_
 refine .ld bh ?_
 refine .fa nY ?_
 refine .ld br ?_
 refine .vl (Y.aK (m := (n.freeze).toNat) a7 rfl rfl om (ax (d := 0) om)) ?_
 refine .ld br ?_
 refine .vl (Y.neq rfl rfl) ?_
 refine .mv ?_
 refine .aE (d := 12) rfl (fun Fh => ?_) (fun Fh => ?_)
 refine .gz 12 (.gz 12 (.gz 12 ?_))
 refine .gz 12 (.gz 12 (.gz 12 ?_))
 refine .gz 12 ?_
 refine .pk ?_
 refine .nil (.aV rfl (.sr ?_))
 refine .an ?_
 refine .nil (.ret ?_)
 exact .rb rfl (df (fun h => by have h1 := h.freeze; have h2 := h.done; unfold ab.wd at h1 h2; first | contradiction | omega))
 refine .gw 12 (Y.fieldAddr bN rfl rfl) (.gw 12 (Y.load bh rfl rfl rfl rfl) (.gw 12 (Y.fieldAddr qU rfl rfl) ?_))
 refine .gw 12 (Y.load br rfl rfl rfl rfl) (.gw 12 (Y.aK (m := (n.done).toNat) a7 rfl rfl om (ax (d := 0) om)) ?_)
 refine .gw 12 (Y.load br rfl rfl rfl rfl) (.gw 12 (Y.neq rfl rfl) ?_)
 refine .pk ?_
 refine .nil ?_
 refine .aB rfl (fun Af => ?_) (fun Af => ?_)
 refine .sr ?_
 refine .an ?_
 refine .nil (.ret ?_)
 exact .rb rfl (df (fun h => by have h1 := h.freeze; have h2 := h.done; unfold ab.wd at h1 h2; first | contradiction | omega))
 refine .skip (.seq (.sr ?_))
 refine .fa ef ?_
 refine .ld jS ?_
 refine .vl (Y.len (n := n.streams.length) gZ rfl dG) ?_
 refine .mv ?_
 refine .nil (.block ?_)
 refine .lZ (fun (fC : Nat) => ⟨[(1, .ptr 101 0 0 0), (22, .fz 3 (n.streams.map bE.row)), (23, vi n.streams.length), (24, vi fC)], [(101, .cells (ab.row n))]⟩) (fun fC => ((fC : Int) ≤ (n.streams.length : Int)) ∧ (∀ j, j < fC → mV n j)) (fun fC => ((n.streams.length : Int) - (fC : Int)).toNat) 0 (⟨om, fun j hj => by omega⟩) (Le.mk (.c2 (.c (.cons (ak rfl b5) (.nil)))) (.c (.nil))) (fun fC IY => ?_)
 obtain ⟨OA, yT⟩ := IY
 refine .sr (.vl (Y.lss rfl rfl) (.nil ?_))
 refine .seq ?_
 refine .aB rfl (fun yo => ?_) (fun yo => ?_)
 refine .skip ?_
 refine .mQ (fun (w5 : Bool) (w6 : Bool) => ⟨[(1, .ptr 101 0 0 0), (22, .fz 3 (n.streams.map bE.row)), (23, vi n.streams.length), (24, vi fC), (40, .ptr 104 0 0 2), (41, .v (.bool ((n.streams.getD fC default).out))), (42, .v (.bool w5)), (55, .v (.bool w6))], [(101, .cells (ab.row n)), (104, .cells [.v (.string ((n.streams.getD fC default).name)), vi ((n.streams.getD fC default).width), .v (.bool ((n.streams.getD fC default).out))])]⟩) (fun w5 w6 => mV n fC) ?_ (fun w5 w6 EU => ?_)
 refine .block (.sr ?_)
 refine .mv ?_
 refine .vl (Y.aK (m := fC) gZ rfl rfl b5 (ax (d := default) om)) ?_
 refine .vl (Y.aM I3 rfl rfl (aH rfl) rfl rfl) (.alloc 104 p3 rfl rfl ae ?_)
 refine .an ?_
 refine .aj I4 rfl rfl rfl rfl rfl rfl (aH rfl) rfl (.nil (.seq ?_))
 refine .gX rfl aq ?_
 obtain ⟨_, _, OO, Kc, _⟩ := hf.strs fC om
 unfold In at OO Kc
 refine .val (Y.fieldAddr bN rfl rfl) ae (.val (Y.load bh rfl rfl rfl rfl) ae (.val (Y.fieldAddr jQ rfl rfl) ae ?_))
 refine .val (Y.load bh rfl rfl rfl rfl) ae (.val (Y.move rfl rfl) ae ?_)
 refine .val (Y.aK (m := fC) a7 rfl rfl b5 (ax (d := 0) om)) ae (.val (Y.load br rfl rfl rfl rfl) ae (.val (Y.aK (m := (n.aX.getD fC 0).toNat) a7 rfl rfl om (ax (d := 0) om)) ae ?_))
 refine .val (Y.load br rfl rfl rfl rfl) ae (.val (Y.neq rfl rfl) ae (.val (Y.move rfl rfl) ae ?_))
 refine .aE (d := 39) rfl (fun il => ?_) (fun il => ?_)
 refine .aG (d := 39) rfl ae ae rfl rfl (.aG (d := 39) rfl ae ae rfl rfl (.aG (d := 39) rfl ae ae rfl rfl ?_))
 refine .aG (d := 42) rfl ae ae rfl rfl (.aG (d := 42) rfl ae ae rfl rfl (.aG (d := 42) rfl ae ae rfl rfl ?_))
 refine .aG (d := 42) rfl ae ae rfl rfl (.aG (d := 42) rfl ae ae rfl rfl (.aG (d := 42) rfl ae ae rfl rfl ?_))
 refine .aG (d := 42) rfl ae ae rfl rfl (.aG (d := 42) rfl ae ae rfl rfl (.aG (d := 42) rfl ae ae rfl rfl ?_))
 refine .aG (d := 42) rfl ae ae rfl rfl (.aG (d := 42) rfl ae ae rfl rfl (.aG (d := 42) rfl ae ae rfl rfl ?_))
 refine .aG (d := 39) rfl ae ae rfl rfl (.val (Y.pick rfl rfl rfl) ae (.nil ?_))
 refine .aV rfl (.sr ?_)
 refine .an ?_
 refine .nil (.ret ?_)
 exact .rb rfl (df (fun h => by have h1 := h.strs fC om; unfold mV ab.wd at h1; grind))
 refine .aO (d := 39) rfl ae rfl (.val (Y.fieldAddr kI rfl rfl) ae (.aO (d := 39) rfl ae rfl ?_))
 refine .val (Y.load vL rfl rfl rfl rfl) ae (.aO (d := 39) rfl ae rfl (.val (Y.move rfl rfl) ae ?_))
 refine .split (d := 42) rfl (fun DC => ?_) (fun DC => ?_)
 have RP := Kc cj
 refine .aO (d := 42) rfl ae rfl (.val (Y.fieldAddr bN rfl rfl) ae (.aO (d := 42) rfl ae rfl ?_))
 refine .val (Y.load bh rfl rfl rfl rfl) ae (.aO (d := 42) rfl ae rfl (.val (Y.fieldAddr kH rfl rfl) ae ?_))
 refine .aO (d := 42) rfl ae rfl (.val (Y.load bh rfl rfl rfl rfl) ae (.aO (d := 42) rfl ae rfl ?_))
 refine .val (Y.move rfl rfl) ae (.aO (d := 42) rfl ae rfl ?_)
 refine .val (Y.aK (m := fC) a7 rfl rfl b5 (ax (d := 0) om)) ae ?_
 refine .aO (d := 42) rfl ae rfl (.val (Y.load br rfl rfl rfl rfl) ae (.aO (d := 42) rfl ae rfl ?_))
 refine .val (Y.aK (m := (n.data.getD fC 0).toNat) a7 rfl rfl om (ax (d := 0) om)) ae ?_
 refine .aO (d := 42) rfl ae rfl (.val (Y.load br rfl rfl rfl rfl) ae (.aO (d := 42) rfl ae rfl ?_))
 refine .val (Y.fieldAddr qW rfl rfl) ae (.aO (d := 42) rfl ae rfl (.val (Y.load br rfl rfl rfl rfl) ae ?_))
 refine .aO (d := 42) rfl ae rfl (.val (Y.neq rfl rfl) ae (.aO (d := 39) rfl ae rfl ?_))
 refine .val (Y.pick rfl rfl rfl) ae (.val (Y.pick rfl rfl rfl) ae (.nil ?_))
 refine .aB rfl (fun MZ => ?_) (fun MZ => ?_)
 refine .sr ?_
 refine .an ?_
 refine .nil (.ret ?_)
 exact .rb rfl (df (fun h => by have h1 := h.strs fC om; unfold mV ab.wd at h1; grind))
 refine .skip ?_
 exact ⟨true, decide ((n.aa.getD ((n.data.getD fC 0).toNat) 0) ≠ ((n.streams.getD fC default).width)), by unfold mV ab.wd; grind, Le.mk (.c4 (.c2 (.cons (aI rfl gF) (.cons (aI rfl gF) (.nil))))) (.c2 (.nil))⟩
 refine .aG (d := 42) rfl ae ae rfl rfl (.aG (d := 42) rfl ae ae rfl rfl (.aG (d := 42) rfl ae ae rfl rfl ?_))
 refine .aG (d := 42) rfl ae ae rfl rfl (.aG (d := 42) rfl ae ae rfl rfl (.aG (d := 42) rfl ae ae rfl rfl ?_))
 refine .aG (d := 42) rfl ae ae rfl rfl (.aG (d := 42) rfl ae ae rfl rfl (.aG (d := 42) rfl ae ae rfl rfl ?_))
 refine .aG (d := 42) rfl ae ae rfl rfl (.aG (d := 42) rfl ae ae rfl rfl (.aG (d := 42) rfl ae ae rfl rfl ?_))
 refine .aO (d := 39) rfl ae rfl (.val (Y.pick rfl rfl rfl) ae (.val (Y.pick rfl rfl rfl) ae ?_))
 refine .nil (.cX rfl (.skip ?_))
 exact ⟨false, false, by unfold mV ab.wd; grind, Le.mk (.c4 (.c2 (.cons (aI rfl gF) (.cons (aI rfl gF) (.nil))))) (.c2 (.nil))⟩
 refine .region (.vl (Y.aT rfl rfl bw) ?_)
 refine .mv ?_
 refine .nil ?_
 exact ⟨fC + 1, ⟨om, iU yT EU⟩, om, Le.mk (.c2 (.c (.cons (ak rfl b5) (.nil)))) (.c (.nil))⟩
 refine .exit (.sr ?_)
 refine .fa cb ?_
 refine .ld fD ?_
 refine .sh (Sh.dc 101 rfl rfl) (.vl (Y.makeFunc rfl rfl rfl rfl) ?_)
 refine .aP HY (m7 (l := n.cells) (p := fun z => !decide (Fits n z)) (om) HZ (fun z hz => tD hs hf hz)) rfl (.ai rfl rfl (.ai rfl rfl .nil)) ae rfl ?_
 refine .vl (Y.not rfl) ?_
 refine .an ?_
 refine .nil (.ret ?_)
 exact .rb rfl (db (ug (by unfold ab.wd; omega) (by unfold ab.wd; omega) (fun j hj => yT j om)))
end Go.Proofs.Ytligpghohcfpnaa
/- The walk through Order. -/
namespace Go.Proofs.Ytligpghohcfpnaa
open Go Go.AW Go.Proofs
theorem rC {n : ab} (hs : n.Small) (QB : n.aa.length + n.ins.length ≤ 17592186044416) : az Try.prog 20 [.agg (ab.row n)] [] [] (fun r o => ∃ (l : List Int) (e : Int), qR n l e ∧ r = .tup [.ep 1 (l.map ah), vi e] ∧ o = []) := by
 refine az.of Try.func20 rfl rfl rfl (n := 169) ae (aH rfl) (.sr (.box 101 rfl rfl rfl rfl rfl ae ?_))
 refine .an ?_
 refine .an ?_
 refine .nil (.seq (.sr ?_))
 refine .vl (Y.aM eh rfl rfl (aH rfl) rfl rfl) (.aP Ls (uL (n := n) hs (om)) rfl (.ai rfl rfl .nil) ae rfl ?_)
 refine .vl (Y.not rfl) (.nil ?_)
 refine .cond rfl (fun my => ?_) (fun my => ?_)
 replace my : ¬ (aW n) := by simpa using my
 refine .sr ?_
 refine .an ?_
 refine .an ?_
 refine .nil (.sh (Sh.Br (d := 2) 1 rfl) (.ret ?_))
 exact ⟨_, _, rfl, rfl, ([] : List Int), 3, .inl ⟨cj, rfl, rfl⟩, rfl, rfl⟩
 replace my : aW n := by simpa using my
 have hf : aW n := by assumption
 refine .skip (.seq (.sr ?_))
 refine .vl (Y.aM eh rfl rfl (aH rfl) rfl rfl) (.aP Lt (uM (n := n) hs cj) rfl (.ai rfl rfl .nil) ae rfl (.vl (Y.not rfl) ?_))
 refine .nil ?_
 refine .cond rfl (fun yo => ?_) (fun yo => ?_)
 replace yo : ¬ (Fit n) := by simpa using yo
 refine .sr ?_
 refine .an ?_
 refine .an ?_
 refine .nil (.sh (Sh.Br (d := 2) 1 rfl) (.ret ?_))
 exact ⟨_, _, rfl, rfl, ([] : List Int), 13, .inr (.inl ⟨cj, cj, rfl, rfl⟩), rfl, rfl⟩
 replace yo : Fit n := by simpa using yo
 have OP : Fit n := by assumption
 have K3 := hf.cK; have Od := hf.cv
 refine .skip (.sr ?_)
 refine .an ?_
 refine .sh (Sh.nil (d := 4) 104 1 rfl ae) (.nil (.sr ?_))
 refine .fa cb ?_
 refine .ld fD ?_
 refine .vl (Y.len (n := n.cells.length) dD rfl dG) (.makeSlice (n := n.cells.length) a7 e0 rfl rfl rfl rfl om om ae ?_)
 refine .dU rfl ae (.sh (Sh.ed (d := 5) (n := n.cells.length) 105 ((List.replicate n.cells.length 0).map ah) rfl kq (bu (by simp)) ae) (.nil ?_))
 refine .sr ?_
 refine .fa bN ?_
 refine .ld bh ?_
 refine .vl (Y.len (n := n.aa.length) a7 rfl dG) (.makeSlice (n := n.aa.length) rO zM rfl rfl rfl rfl om om ae ?_)
 refine .sh (Sh.BN (d := 33) 1 rfl) (.dU rfl ae (.sh (Sh.ed (d := 6) (n := n.aa.length) 106 ((List.replicate n.aa.length []).map mw) rfl kq (bu (by simp)) ae) ?_))
 refine .nil (.sr ?_)
 refine .fa bN ?_
 refine .ld bh ?_
 refine .vl (Y.len (n := n.aa.length) a7 rfl dG) (.makeSlice (n := n.aa.length) pz LF rfl rfl rfl rfl om om ae ?_)
 refine .dU rfl ae (.sh (Sh.ed (d := 7) (n := n.aa.length) 107 ((List.replicate n.aa.length false).map ik) rfl kq (bu (by simp)) ae) (.nil ?_))
 refine .seq (.sr ?_)
 refine .fa cb ?_
 refine .ld fD ?_
 refine .vl (Y.len (n := n.cells.length) dD rfl dG) ?_
 refine .mv ?_
 refine .nil (.block ?_)
 refine .dT (fun (fR : Nat) (ec : List Bool) => ⟨[(1, .ptr 101 0 0 0), (4, .aY 104 1 0 0), (5, .aY 105 1 0 n.cells.length), (6, .aY 106 1 0 n.aa.length), (7, .aY 107 1 0 n.aa.length), (39, .fz 6 (n.cells.map Cell.row)), (40, vi n.cells.length), (41, vi fR)], [(101, .cells (ab.row n)), (104, .rows 1 (([] : List Int).map ah)), (105, .rows 1 ((List.replicate n.cells.length 0).map ah)), (106, .rows 1 ((List.replicate n.aa.length []).map mw)), (107, .rows 1 (ec.map ik))]⟩) (fun fR ec => (ec.length = n.aa.length) ∧ ((fR : Int) ≤ (n.cells.length : Int)) ∧ (eQ n fR ec)) (fun fR ec => ((n.cells.length : Int) - (fR : Int)).toNat) 0 (List.replicate n.aa.length false) (⟨ig, ig, eQ.init n⟩) (Le.mk (.c4 (.c2 (.c (.cons (ak rfl b5) (.nil))))) (.c4 (.c (.nil)))) (fun fR ec FC => ?_)
 obtain ⟨J0, MP, Nh⟩ := FC
 refine .sr (.vl (Y.lss rfl rfl) (.nil ?_))
 refine .seq ?_
 refine .aB rfl (fun DC => ?_) (fun DC => ?_)
 refine .skip ?_
 refine .eP (fun (jC : List Bool) => ⟨[(1, .ptr 101 0 0 0), (4, .aY 104 1 0 0), (5, .aY 105 1 0 n.cells.length), (6, .aY 106 1 0 n.aa.length), (7, .aY 107 1 0 n.aa.length), (39, .fz 6 (n.cells.map Cell.row)), (40, vi n.cells.length), (41, vi fR)], [(101, .cells (ab.row n)), (104, .rows 1 (([] : List Int).map ah)), (105, .rows 1 ((List.replicate n.cells.length 0).map ah)), (106, .rows 1 ((List.replicate n.aa.length []).map mw)), (107, .rows 1 (jC.map ik))]⟩) (fun jC => (jC.length = n.aa.length) ∧ (eQ n (fR + 1) jC)) ?_ (fun jC J1 => ?_)
 refine .block (.sr ?_)
 refine .vl (Y.aK (m := fR) dD rfl rfl b5 (ax (d := default) om)) ?_
 refine .vl (Y.aM eb rfl rfl (aH rfl) rfl rfl) (.alloc 109 dN rfl rfl ae (.aj eI rfl rfl rfl rfl rfl rfl (aH rfl) rfl ?_))
 refine .nil (.sr ?_)
 refine .fa cL ?_
 refine .ld br ?_
 refine .aP xI (jA (w := ((n.cells.getD fR default).kind))) rfl (.ai rfl rfl .nil) ae rfl (.nil ?_)
 refine .aB rfl (fun Kk => ?_) (fun Kk => ?_)
 have Ni := hf.eG (bB.jl (n := n) (i := (fR : Int)) ⟨⟨om, om⟩, Kk⟩)
 rw [mW] at Ni
 have tt := Ni; unfold In at tt
 refine .region ?_
 refine .mv ?_
 refine .fa dx ?_
 refine .ld br ?_
 refine .vl (Y.bc (m := ((n.cells.getD fR default).out).toNat) pz rfl rfl om om) (.dB ((ec.set (((n.cells.getD fR default).out).toNat) true).map ik) JT rfl rfl rfl rfl rfl rfl rfl (a8 (d := false) om) (aH rfl) (cp rfl) (.nil ?_))
 exact ⟨ec.set (((n.cells.getD fR default).out).toNat) true, ⟨ig, Nh.step om J0 Kk Ni⟩, Le.mk (.c8 (.nil)) (.c4 (.c (.nil)))⟩
 refine .skip ?_
 exact ⟨ec, ⟨om, Nh.skip Kk⟩, Le.mk (.c8 (.nil)) (.c4 (.c (.nil)))⟩
 obtain ⟨GD, FJ⟩ := J1
 refine .region (.vl (Y.aT rfl rfl om) ?_)
 refine .mv ?_
 refine .nil ?_
 exact ⟨fR + 1, jC, ⟨om, om, FJ⟩, om, Le.mk (.c4 (.c2 (.c (.cons (ak rfl b5) (.nil))))) (.c4 (.c (.nil)))⟩
 refine .exit (.seq (.seq ?_))
 have J2 : eQ n n.cells.length ec := by rw [show n.cells.length = fR by omega]; exact Nh
 refine .region ?_
 refine .fa cb ?_
 refine .ld fD ?_
 refine .vl (Y.len (n := n.cells.length) dD rfl dG) ?_
 refine .mv ?_
 refine .nil (.block ?_)
 refine .dT (fun (eZ : Nat) (ek : List Int) => ⟨[(1, .ptr 101 0 0 0), (4, .aY 104 1 0 ek.length), (5, .aY 105 1 0 n.cells.length), (6, .aY 106 1 0 n.aa.length), (7, .aY 107 1 0 n.aa.length), (54, .fz 6 (n.cells.map Cell.row)), (55, vi n.cells.length), (56, vi eZ)], [(101, .cells (ab.row n)), (104, .rows 1 (ek.map ah)), (105, .rows 1 ((List.replicate n.cells.length 0).map ah)), (106, .rows 1 ((List.replicate n.aa.length []).map mw)), (107, .rows 1 (ec.map ik))]⟩) (fun eZ ek => ((eZ : Int) ≤ (n.cells.length : Int)) ∧ (ek = gP n eZ)) (fun eZ ek => ((n.cells.length : Int) - (eZ : Int)).toNat) 0 ([] : List Int) (⟨ig, rfl⟩) (Le.mk (.c (.cons (cf rfl ig) (.c4 (.c (.cons (ak rfl b5) (.nil)))))) (.c4 (.c (.nil)))) (fun eZ ek FK => ?_)
 obtain ⟨Nj, Kl⟩ := FK
 refine .sr (.vl (Y.lss rfl rfl) (.nil ?_))
 refine .seq ?_
 refine .aB rfl (fun MM => ?_) (fun MM => ?_)
 refine .skip ?_
 refine .eP (fun (lx : List Int) => ⟨[(1, .ptr 101 0 0 0), (4, .aY 104 1 0 lx.length), (5, .aY 105 1 0 n.cells.length), (6, .aY 106 1 0 n.aa.length), (7, .aY 107 1 0 n.aa.length), (54, .fz 6 (n.cells.map Cell.row)), (55, vi n.cells.length), (56, vi eZ)], [(101, .cells (ab.row n)), (104, .rows 1 (lx.map ah)), (105, .rows 1 ((List.replicate n.cells.length 0).map ah)), (106, .rows 1 ((List.replicate n.aa.length []).map mw)), (107, .rows 1 (ec.map ik))]⟩) (fun lx => lx = gP n (eZ + 1)) ?_ (fun lx Nk => ?_)
 refine .block (.sr ?_)
 refine .mv ?_
 refine .vl (Y.aK (m := eZ) dD rfl rfl b5 (ax (d := default) om)) ?_
 refine .vl (Y.aM eb rfl rfl (aH rfl) rfl rfl) (.alloc 111 dN rfl rfl ae ?_)
 refine .an ?_
 refine .aj eI rfl rfl rfl rfl rfl rfl (aH rfl) rfl (.nil (.sr ?_))
 have EX := z7 n eZ; rw [← Kl] at EX
 refine .fa cL ?_
 refine .ld br ?_
 refine .aP xI (jA (w := ((n.cells.getD eZ default).kind))) rfl (.ai rfl rfl .nil) ae rfl (.vl (Y.not rfl) (.nil ?_))
 refine .cond rfl (fun yI => ?_) (fun yI => ?_)
 replace yI : ¬ (b7 ((n.cells.getD eZ default).kind)) := by simpa using yI
 refine .region ?_
 refine .mv ?_
 refine .mv ?_
 refine .buildSlice (([(eZ : Int)] : List Int).map ah) a7 e0 rfl rfl rfl rfl rfl (ay (s := 1) (f := ah) (fun _ => rfl)) rfl rfl rfl ae ?_
 refine .bs ((ek ++ ([(eZ : Int)] : List Int)).map ah) (ek ++ ([(eZ : Int)] : List Int)).length a7 e0 rfl rfl rfl rfl (bL ig) (bq ig) (cE ig) ig ig ae ae ?_
 refine .an ?_
 refine .nil ?_
 exact ⟨ek ++ ([(eZ : Int)] : List Int), by rw [sn, if_neg yI, Kl], Le.mk (.c (.cons (cf rfl om) (.c4 (.c2 (.nil))))) (.c4 (.c (.nil)))⟩
 replace yI : b7 ((n.cells.getD eZ default).kind) := by simpa using yI
 refine .skip ?_
 exact ⟨ek, by rw [sn, if_pos yI, Kl, List.append_nil], Le.mk (.c (.cons (cf rfl om) (.c4 (.c2 (.nil))))) (.c4 (.c (.nil)))⟩
 refine .region (.vl (Y.aT rfl rfl om) ?_)
 refine .mv ?_
 refine .nil ?_
 exact ⟨eZ + 1, lx, ⟨om, Nk⟩, om, Le.mk (.c (.cons (cf rfl om) (.c4 (.c (.cons (ak rfl b5) (.nil)))))) (.c4 (.c (.nil)))⟩
 refine .exit (.sr ?_)
 refine .an ?_
 refine .sh (Sh.nil (d := 12) 112 1 rfl ae) (.nil (.seq ?_))
 refine .sr ?_
 refine .fa cb ?_
 refine .ld fD ?_
 refine .vl (Y.len (n := n.cells.length) dD rfl dG) ?_
 refine .mv ?_
 refine .nil (.block ?_)
 refine .wO (fun (bx : Nat) (cU : List Int) (bf : List (List Int)) (cT : List Int) => ⟨[(1, .ptr 101 0 0 0), (4, .aY 104 1 0 ek.length), (5, .aY 105 1 0 n.cells.length), (6, .aY 106 1 0 n.aa.length), (7, .aY 107 1 0 n.aa.length), (12, .aY 112 1 0 cT.length), (71, .fz 6 (n.cells.map Cell.row)), (72, vi n.cells.length), (73, vi bx)], [(101, .cells (ab.row n)), (104, .rows 1 (ek.map ah)), (105, .rows 1 (cU.map ah)), (106, .rows 1 (bf.map mw)), (107, .rows 1 (ec.map ik)), (112, .rows 1 (cT.map ah))]⟩) (fun bx cU bf cT => (cU.length = n.cells.length) ∧ (bf.length = n.aa.length) ∧ ((bx : Int) ≤ (n.cells.length : Int)) ∧ (BI n bx cU bf cT)) (fun bx cU bf cT => ((n.cells.length : Int) - (bx : Int)).toNat) 0 (List.replicate n.cells.length 0) (List.replicate n.aa.length []) ([] : List Int) (⟨ig, ig, ig, BI.init n⟩) (Le.mk (.c4 (.c (.cons (cf rfl ig) (.c2 (.cons (ak rfl b5) (.nil)))))) (.c4 (.c2 (.nil)))) (fun bx cU bf cT Nl => ?_)
 obtain ⟨sD, xo, QI, FL⟩ := Nl
 refine .sr (.vl (Y.lss rfl rfl) (.nil ?_))
 refine .seq ?_
 refine .aB rfl (fun uB => ?_) (fun uB => ?_)
 refine .skip ?_
 refine .wN (fun (fb : List Int) (iH : List (List Int)) (gK : List Int) => ⟨[(1, .ptr 101 0 0 0), (4, .aY 104 1 0 ek.length), (5, .aY 105 1 0 n.cells.length), (6, .aY 106 1 0 n.aa.length), (7, .aY 107 1 0 n.aa.length), (12, .aY 112 1 0 gK.length), (71, .fz 6 (n.cells.map Cell.row)), (72, vi n.cells.length), (73, vi bx)], [(101, .cells (ab.row n)), (104, .rows 1 (ek.map ah)), (105, .rows 1 (fb.map ah)), (106, .rows 1 (iH.map mw)), (107, .rows 1 (ec.map ik)), (112, .rows 1 (gK.map ah))]⟩) (fun fb iH gK => (fb.length = n.cells.length) ∧ ((iH.length = n.aa.length) ∧ (BI n (bx + 1) fb iH gK))) ?_ (fun fb iH gK J3 => ?_)
 refine .block (.sr ?_)
 refine .mv ?_
 refine .vl (Y.aK (m := bx) dD rfl rfl b5 (ax (d := default) om)) ?_
 refine .vl (Y.aM eb rfl rfl (aH rfl) rfl rfl) (.alloc 114 dN rfl rfl ae ?_)
 refine .an ?_
 refine .aj eI rfl rfl rfl rfl rfl rfl (aH rfl) rfl (.nil (.seq ?_))
 refine .sr ?_
 have QG := hs.args (n.cells.getD bx default) (fX om)
 have CK := FL.rl
 refine .fa cL ?_
 refine .ld br ?_
 refine .aP xI (jA (w := ((n.cells.getD bx default).kind))) rfl (.ai rfl rfl .nil) ae rfl (.vl (Y.not rfl) (.nil ?_))
 refine .cond rfl (fun yJ => ?_) (fun yJ => ?_)
 replace yJ : ¬ (b7 ((n.cells.getD bx default).kind)) := by simpa using yJ
 refine .exit ?_
 exact ⟨cU, bf, cT, ⟨om, ⟨om, FL.skip om yJ⟩⟩, Le.mk (.c4 (.c (.cons (cf rfl om) (.c2 (.c (.nil)))))) (.c4 (.c2 (.nil)))⟩
 replace yJ : b7 ((n.cells.getD bx default).kind) := by simpa using yJ
 refine .skip (.seq (.sr ?_))
 refine .fa bF ?_
 refine .ld bh ?_
 refine .vl (Y.len (n := ((n.cells.getD bx default).args).length) a7 rfl dG) ?_
 refine .mv ?_
 refine .nil (.block ?_)
 refine .iT (fun (dP : Nat) (cI : List Int) (dh : List (List Int)) => ⟨[(1, .ptr 101 0 0 0), (4, .aY 104 1 0 ek.length), (5, .aY 105 1 0 n.cells.length), (6, .aY 106 1 0 n.aa.length), (7, .aY 107 1 0 n.aa.length), (12, .aY 112 1 0 cT.length), (13, vi bx), (71, .fz 6 (n.cells.map Cell.row)), (72, vi n.cells.length), (73, vi bx), (83, .fz 1 (((n.cells.getD bx default).args).map ah)), (84, vi ((((n.cells.getD bx default).args).length : Nat) : Int)), (85, vi dP)], [(101, .cells (ab.row n)), (104, .rows 1 (ek.map ah)), (105, .rows 1 (cI.map ah)), (106, .rows 1 (dh.map mw)), (107, .rows 1 (ec.map ik)), (112, .rows 1 (cT.map ah))]⟩) (fun dP cI dh => (cI.length = n.cells.length) ∧ (dh.length = n.aa.length) ∧ ((dP : Int) ≤ ((((n.cells.getD bx default).args).length : Nat) : Int)) ∧ (BJ n bx dP cU bf cI dh)) (fun dP cI dh => (((((n.cells.getD bx default).args).length : Nat) : Int) - (dP : Int)).toNat) 0 cU bf (⟨om, om, om, BJ.init FL om⟩) (Le.mk (.c8 (.c4 (.cons (ak rfl b5) (.nil)))) (.c4 (.c2 (.nil)))) (fun dP cI dh FG => ?_)
 obtain ⟨sD, xo, Na, GF⟩ := FG
 refine .sr (.vl (Y.lss rfl rfl) (.nil ?_))
 refine .seq ?_
 refine .aB rfl (fun J4 => ?_) (fun J4 => ?_)
 refine .skip ?_
 refine .mQ (fun (fc : List Int) (iI : List (List Int)) => ⟨[(1, .ptr 101 0 0 0), (4, .aY 104 1 0 ek.length), (5, .aY 105 1 0 n.cells.length), (6, .aY 106 1 0 n.aa.length), (7, .aY 107 1 0 n.aa.length), (12, .aY 112 1 0 cT.length), (13, vi bx), (71, .fz 6 (n.cells.map Cell.row)), (72, vi n.cells.length), (73, vi bx), (83, .fz 1 (((n.cells.getD bx default).args).map ah)), (84, vi ((((n.cells.getD bx default).args).length : Nat) : Int)), (85, vi dP)], [(101, .cells (ab.row n)), (104, .rows 1 (ek.map ah)), (105, .rows 1 (fc.map ah)), (106, .rows 1 (iI.map mw)), (107, .rows 1 (ec.map ik)), (112, .rows 1 (cT.map ah))]⟩) (fun fc iI => (fc.length = n.cells.length) ∧ ((iI.length = n.aa.length) ∧ (BJ n bx (dP + 1) cU bf fc iI))) ?_ (fun fc iI J5 => ?_)
 refine .block (.sr ?_)
 refine .vl (Y.aK (m := dP) a7 rfl rfl b5 (ax (d := 0) om)) ?_
 refine .ld br ?_
 refine .an ?_
 refine .nil (.sr ?_)
 have GG := hf.gY (i := (bx : Int)) ⟨om, om⟩ (bm (i := dP) (by rw [mW]; omega))
 rw [mW] at GG
 have Nm := GG; unfold In at Nm
 have s6 := GF.Ei
 have Bi := BJ.len FL GF GG
 have Kb := z9 hs (bx + 1); rw [qQ om] at Kb
 refine .mv ?_
 refine .mv ?_
 refine .vl (Y.bc (m := (((n.cells.getD bx default).args).getD dP 0).toNat) pz rfl rfl om om) (.vl (Y.load vL rfl (a8 (d := false) om) rfl rfl) (.nil ?_))
 refine .cond rfl (fun Km => ?_) (fun Km => ?_)
 refine .sr ?_
 refine .mv ?_
 refine .mv ?_
 refine .vl (Y.bc (m := bx) a7 rfl rfl b5 om) (.vl (Y.load br rfl (a8 (d := 0) ig) rfl rfl) (.vl (Y.aT rfl rfl om) (.vl (Y.bc (m := bx) a7 rfl rfl b5 om) (.dB ((cI.set bx ((cI.getD bx 0) + 1)).map ah) e8 rfl rfl rfl rfl rfl rfl rfl (a8 (d := 0) om) (aH rfl) (cp rfl) ?_))))
 refine .nil (.region ?_)
 refine .mv ?_
 refine .mv ?_
 refine .mv ?_
 refine .mv ?_
 refine .vl (Y.bc (m := (((n.cells.getD bx default).args).getD dP 0).toNat) rO rfl rfl om om) (.HE ((dh.map mw).set (0 + ((((n.cells.getD bx default).args).getD dP 0).toNat)) [.no]) bh rfl rfl (a8 (d := []) om) rfl rfl ae ?_)
 refine .mv ?_
 refine .buildSlice (([(bx : Int)] : List Int).map ah) a7 e0 rfl rfl rfl rfl rfl (ay (s := 1) (f := ah) (fun _ => rfl)) rfl rfl rfl ae ?_
 refine .sh (Sh.ed (d := 104) (n := (dh.getD ((((n.cells.getD bx default).args).getD dP 0).toNat) []).length) 204 ((dh.getD ((((n.cells.getD bx default).args).getD dP 0).toNat) []).map ah) rfl kq (bu rfl) ae) (.bs (((dh.getD ((((n.cells.getD bx default).args).getD dP 0).toNat) []) ++ ([(bx : Int)] : List Int)).map ah) ((dh.getD ((((n.cells.getD bx default).args).getD dP 0).toNat) []) ++ ([(bx : Int)] : List Int)).length a7 e0 rfl rfl rfl rfl (bL ig) (bq ig) (cE ig) ig ig ae ae (.vl (Y.bc (m := (((n.cells.getD bx default).args).getD dP 0).toNat) rO rfl rfl om om) (.sh (Sh.ji (d := 107) (o := 204) rfl rfl (bu om) ae) (.BL ((dh.set ((((n.cells.getD bx default).args).getD dP 0).toNat) ((dh.getD ((((n.cells.getD bx default).args).getD dP 0).toNat) []) ++ ([(bx : Int)] : List Int))).map mw) fg rfl rfl rfl (BO om) ae (zw rfl) (.nil ?_)))))
 exact ⟨cI.set bx ((cI.getD bx 0) + 1), dh.set ((((n.cells.getD bx default).args).getD dP 0).toNat) ((dh.getD ((((n.cells.getD bx default).args).getD dP 0).toNat) []) ++ ([(bx : Int)] : List Int)), ⟨ig, ⟨ig, GF.step om sD xo om GG ((eQ.all J2 GG).1 Km)⟩⟩, Le.mk (.c8 (.c4 (.c (.nil)))) (.c4 (.c2 (.nil)))⟩
 refine .skip ?_
 exact ⟨cI, dh, ⟨om, ⟨om, GF.skip om (fun h => by rw [(eQ.all J2 GG).2 h] at Km; cases Km)⟩⟩, Le.mk (.c8 (.c4 (.c (.nil)))) (.c4 (.c2 (.nil)))⟩
 obtain ⟨GH, GI, FM⟩ := J5
 refine .region (.vl (Y.aT rfl rfl om) ?_)
 refine .mv ?_
 refine .nil ?_
 exact ⟨dP + 1, fc, iI, ⟨om, om, om, FM⟩, om, Le.mk (.c8 (.c4 (.cons (ak rfl b5) (.nil)))) (.c4 (.c2 (.nil)))⟩
 refine .exit (.sr ?_)
 refine .mv ?_
 refine .mv ?_
 refine .vl (Y.bc (m := bx) a7 rfl rfl b5 om) (.vl (Y.load br rfl (a8 (d := 0) ig) rfl rfl) ?_)
 refine .vl (Y.eql rfl rfl) (.nil ?_)
 refine .aB rfl (fun AI => ?_) (fun AI => ?_)
 refine .region ?_
 refine .mv ?_
 refine .mv ?_
 refine .buildSlice (([(bx : Int)] : List Int).map ah) a7 e0 rfl rfl rfl rfl rfl (ay (s := 1) (f := ah) (fun _ => rfl)) rfl rfl rfl ae ?_
 refine .bs ((cT ++ ([(bx : Int)] : List Int)).map ah) (cT ++ ([(bx : Int)] : List Int)).length a7 e0 rfl rfl rfl rfl (bL ig) (bq ig) (cE ig) ig ig ae ae ?_
 refine .an ?_
 refine .nil ?_
 exact ⟨cI, dh, cT ++ ([(bx : Int)] : List Int), ⟨om, ⟨om, (BJ.fin FL om yJ (by rw [show (n.cells.getD bx default).args.length = dP by omega]; exact GF)).1 AI⟩⟩, Le.mk (.c4 (.c (.cons (cf rfl om) (.c2 (.c (.nil)))))) (.c4 (.c2 (.nil)))⟩
 refine .skip ?_
 exact ⟨cI, dh, cT, ⟨om, ⟨om, (BJ.fin FL om yJ (by rw [show (n.cells.getD bx default).args.length = dP by omega]; exact GF)).2 AI⟩⟩, Le.mk (.c4 (.c (.cons (cf rfl om) (.c2 (.c (.nil)))))) (.c4 (.c2 (.nil)))⟩
 obtain ⟨GJ, GK, Nn⟩ := J3
 refine .region (.vl (Y.aT rfl rfl om) ?_)
 refine .mv ?_
 refine .nil ?_
 exact ⟨bx + 1, fb, iH, gK, ⟨om, om, om, Nn⟩, om, Le.mk (.c4 (.c (.cons (cf rfl om) (.c2 (.cons (ak rfl b5) (.nil)))))) (.c4 (.c2 (.nil)))⟩
 refine .exit (.seq (.block ?_))
 have FN : BI n n.cells.length cU bf cT := by rw [show n.cells.length = bx by omega]; exact FL
 have OQ := FN.us
 refine .sh (Sh.ji (d := 6) (o := 106) rfl rfl (bu om) ae) (.sh (Sh.vz (d := 6) (l := bf) (f := mw) (g := nC) zx rfl) ?_)
 refine .iT (fun (eS : List Int) (eM : List Int) (aJ : List Int) => ⟨[(1, .ptr 101 0 0 0), (4, .aY 104 1 0 eS.length), (5, .aY 105 1 0 n.cells.length), (6, .fz 1 (bf.map nC)), (12, .aY 112 1 0 aJ.length)], [(101, .cells (ab.row n)), (104, .rows 1 (eS.map ah)), (105, .rows 1 (eM.map ah)), (112, .rows 1 (aJ.map ah))]⟩) (fun eS eM aJ => (eM.length = n.cells.length) ∧ (∃ done, eS = gP n n.cells.length ++ done ∧ KI n done aJ eM)) (fun eS eM aJ => n.cells.length - eS.length) ek cU cT (⟨om, ⟨[], by rw [Kl, show eZ = n.cells.length by omega, List.append_nil], FN.ki⟩⟩) (Le.mk (.c (.cons (cf rfl om) (.c2 (.cons (cf rfl om) (.nil))))) (.c4 (.nil))) (fun eS eM aJ No => ?_)
 obtain ⟨sD, hK⟩ := No
 refine .seq (.sr ?_)
 refine .mv ?_
 refine .vl (Y.len (n := aJ.length) a7 rfl rfl) (.vl (Y.gtr rfl rfl) (.nil ?_))
 refine .aB rfl (fun FH => ?_) (fun FH => ?_)
 obtain ⟨done, mu, uU⟩ := hK
 have qq := uU.len
 rw [← mu] at qq
 have oy := uU.cm (aJ.getD 0 0) (List.mem_append.2 (.inr (bm om)))
 have PC := oy.1
 have FO := hf.eG oy.jl
 have Np := FO; unfold In ab.cell at Np
 have CX : ∀ x, bB n x → (bf.getD (((n.cells.getD ((aJ.getD 0 0).toNat) default).out).toNat) []).count x = (n.cell x).args.count (n.cell (aJ.getD 0 0)).out := fun x hx => OQ.AZ _ x FO ⟨_, oy, rfl⟩ hx
 have Kn : ∀ x ∈ (bf.getD (((n.cells.getD ((aJ.getD 0 0).toNat) default).out).toNat) []), bB n x := fun x hx => OQ.mem _ x FO hx
 have QJ := FN.ul _ FO; unfold ab.cell at QJ
 have Kb := z9 hs n.cells.length
 refine .skip (.block (.sr ?_))
 refine .mv ?_
 refine .vl (Y.bc (m := 0) a7 rfl rfl b5 om) (.vl (Y.load br rfl (a8 (d := 0) ig) rfl rfl) ?_)
 refine .an ?_
 refine .nil (.sr ?_)
 refine .mv ?_
 refine .vl (Y.yN (l := 1) (h := aJ.length) a7 rfl (.some rfl) (.none _) om om) ?_
 refine .an ?_
 refine .sh (Sh.CW (d := 12) (o := 112) ((aJ.drop 1).map ah) rfl rfl ig (xA ig) ae) ?_
 refine .nil (.sr ?_)
 refine .mv ?_
 refine .mv ?_
 refine .buildSlice (([aJ.getD 0 0] : List Int).map ah) a7 e0 rfl rfl rfl rfl rfl (ay (s := 1) (f := ah) (fun _ => rfl)) rfl rfl rfl ae ?_
 refine .bs ((eS ++ ([aJ.getD 0 0] : List Int)).map ah) (eS ++ ([aJ.getD 0 0] : List Int)).length a7 e0 rfl rfl rfl rfl (bL ig) (bq ig) (cE ig) ig ig ae ae ?_
 refine .an ?_
 refine .nil (.sr ?_)
 refine .mv ?_
 refine .fa cb ?_
 refine .ld fD ?_
 refine .mv ?_
 refine .vl (Y.aK (m := (aJ.getD 0 0).toNat) dD rfl rfl om (ax (d := default) om)) ?_
 refine .fa dx ?_
 refine .ld br ?_
 refine .vl (Y.aK (m := ((n.cells.getD ((aJ.getD 0 0).toNat) default).out).toNat) rO rfl rfl om (ax (d := []) om)) ?_
 refine .ld bh ?_
 refine .vl (Y.len (n := (bf.getD (((n.cells.getD ((aJ.getD 0 0).toNat) default).out).toNat) []).length) a7 rfl dG) ?_
 refine .mv ?_
 refine .nil (.block ?_)
 refine .iT (fun (cQ : Nat) (ck : List Int) (ey : List Int) => ⟨[(1, .ptr 101 0 0 0), (4, .aY 104 1 0 ((eS ++ ([aJ.getD 0 0] : List Int)).length)), (5, .aY 105 1 0 n.cells.length), (6, .fz 1 (bf.map nC)), (12, .aY 112 1 0 ey.length), (140, .fz 1 ((bf.getD (((n.cells.getD ((aJ.getD 0 0).toNat) default).out).toNat) []).map ah)), (141, vi (((bf.getD (((n.cells.getD ((aJ.getD 0 0).toNat) default).out).toNat) []).length : Nat) : Int)), (142, vi cQ)], [(101, .cells (ab.row n)), (104, .rows 1 ((eS ++ ([aJ.getD 0 0] : List Int)).map ah)), (105, .rows 1 (ck.map ah)), (112, .rows 1 (ey.map ah))]⟩) (fun cQ ck ey => (ck.length = n.cells.length) ∧ ((cQ : Int) ≤ (((bf.getD (((n.cells.getD ((aJ.getD 0 0).toNat) default).out).toNat) []).length : Nat) : Int)) ∧ (KJ n done (aJ.getD 0 0) (bf.getD (((n.cells.getD ((aJ.getD 0 0).toNat) default).out).toNat) []) cQ ey ck)) (fun cQ ck ey => ((((bf.getD (((n.cells.getD ((aJ.getD 0 0).toNat) default).out).toNat) []).length : Nat) : Int) - (cQ : Int)).toNat) 0 eM (aJ.drop 1) (⟨ig, ig, KJ.init uU om⟩) (Le.mk (.c4 (.cons (cf rfl ig) (.c2 (.cons (ak rfl b5) (.nil))))) (.c4 (.nil))) (fun cQ ck ey Nq => ?_)
 obtain ⟨sD, QK, Ko⟩ := Nq
 refine .sr (.vl (Y.lss rfl rfl) (.nil ?_))
 refine .seq ?_
 refine .aB rfl (fun Nr => ?_) (fun Nr => ?_)
 refine .skip ?_
 refine .eP (fun (gL : List Int) => ⟨[(1, .ptr 101 0 0 0), (4, .aY 104 1 0 ((eS ++ ([aJ.getD 0 0] : List Int)).length)), (5, .aY 105 1 0 n.cells.length), (6, .fz 1 (bf.map nC)), (12, .aY 112 1 0 gL.length), (140, .fz 1 ((bf.getD (((n.cells.getD ((aJ.getD 0 0).toNat) default).out).toNat) []).map ah)), (141, vi (((bf.getD (((n.cells.getD ((aJ.getD 0 0).toNat) default).out).toNat) []).length : Nat) : Int)), (142, vi cQ)], [(101, .cells (ab.row n)), (104, .rows 1 ((eS ++ ([aJ.getD 0 0] : List Int)).map ah)), (105, .rows 1 ((ck.set (((bf.getD (((n.cells.getD ((aJ.getD 0 0).toNat) default).out).toNat) []).getD cQ 0).toNat) ((ck.getD (((bf.getD (((n.cells.getD ((aJ.getD 0 0).toNat) default).out).toNat) []).getD cQ 0).toNat) 0) - 1)).map ah)), (112, .rows 1 (gL.map ah))]⟩) (fun gL => KJ n done (aJ.getD 0 0) (bf.getD (((n.cells.getD ((aJ.getD 0 0).toNat) default).out).toNat) []) (cQ + 1) gL (ck.set ((bf.getD (((n.cells.getD ((aJ.getD 0 0).toNat) default).out).toNat) []).getD cQ 0).toNat (ck.getD ((bf.getD (((n.cells.getD ((aJ.getD 0 0).toNat) default).out).toNat) []).getD cQ 0).toNat 0 - 1))) ?_ (fun gL Ns => ?_)
 refine .block (.sr ?_)
 refine .vl (Y.aK (m := cQ) a7 rfl rfl b5 (ax (d := 0) om)) ?_
 refine .ld br ?_
 refine .an ?_
 refine .nil (.sr ?_)
 have KZ := Ko.bound hf hs om CX Kn
 have RQ := (Kn _ (bm (l := (bf.getD (((n.cells.getD ((aJ.getD 0 0).toNat) default).out).toNat) [])) (i := cQ) om)).1
 refine .mv ?_
 refine .mv ?_
 refine .vl (Y.bc (m := ((bf.getD (((n.cells.getD ((aJ.getD 0 0).toNat) default).out).toNat) []).getD cQ 0).toNat) a7 rfl rfl om om) (.vl (Y.load br rfl (a8 (d := 0) ig) rfl rfl) (.vl (Y.iy rfl rfl om) (.vl (Y.bc (m := ((bf.getD (((n.cells.getD ((aJ.getD 0 0).toNat) default).out).toNat) []).getD cQ 0).toNat) a7 rfl rfl om om) (.dB ((ck.set (((bf.getD (((n.cells.getD ((aJ.getD 0 0).toNat) default).out).toNat) []).getD cQ 0).toNat) ((ck.getD (((bf.getD (((n.cells.getD ((aJ.getD 0 0).toNat) default).out).toNat) []).getD cQ 0).toNat) 0) - 1)).map ah) e8 rfl rfl rfl rfl rfl rfl rfl (a8 (d := 0) om) (aH rfl) (cp rfl) ?_))))
 refine .nil (.sr ?_)
 refine .mv ?_
 refine .mv ?_
 refine .vl (Y.bc (m := ((bf.getD (((n.cells.getD ((aJ.getD 0 0).toNat) default).out).toNat) []).getD cQ 0).toNat) a7 rfl rfl om om) (.vl (Y.load br rfl (a8 (d := 0) ig) rfl rfl) ?_)
 refine .vl (Y.eql rfl rfl) (.nil ?_)
 refine .aB rfl (fun w7 => ?_) (fun w7 => ?_)
 rw [bo, if_pos ⟨rfl, om⟩] at w7
 refine .region ?_
 refine .mv ?_
 refine .mv ?_
 refine .buildSlice (([(bf.getD (((n.cells.getD ((aJ.getD 0 0).toNat) default).out).toNat) []).getD cQ 0] : List Int).map ah) a7 e0 rfl rfl rfl rfl rfl (ay (s := 1) (f := ah) (fun _ => rfl)) rfl rfl rfl ae ?_
 refine .bs ((ey ++ ([(bf.getD (((n.cells.getD ((aJ.getD 0 0).toNat) default).out).toNat) []).getD cQ 0] : List Int)).map ah) (ey ++ ([(bf.getD (((n.cells.getD ((aJ.getD 0 0).toNat) default).out).toNat) []).getD cQ 0] : List Int)).length a7 e0 rfl rfl rfl rfl (bL ig) (bq ig) (cE ig) ig ig ae ae ?_
 refine .an ?_
 refine .nil ?_
 exact ⟨ey ++ ([(bf.getD (((n.cells.getD ((aJ.getD 0 0).toNat) default).out).toNat) []).getD cQ 0] : List Int), (Ko.step hf sD om CX Kn).1 w7, Le.mk (.c4 (.cons (cf rfl om) (.c2 (.c (.nil))))) (.c4 (.nil))⟩
 rw [bo, if_pos ⟨rfl, om⟩] at w7
 refine .skip ?_
 exact ⟨ey, (Ko.step hf sD om CX Kn).2 w7, Le.mk (.c4 (.cons (cf rfl om) (.c2 (.c (.nil))))) (.c4 (.nil))⟩
 refine .region (.vl (Y.aT rfl rfl om) ?_)
 refine .mv ?_
 refine .nil ?_
 exact ⟨cQ + 1, ck.set (((bf.getD (((n.cells.getD ((aJ.getD 0 0).toNat) default).out).toNat) []).getD cQ 0).toNat) ((ck.getD (((bf.getD (((n.cells.getD ((aJ.getD 0 0).toNat) default).out).toNat) []).getD cQ 0).toNat) 0) - 1), gL, ⟨ig, ig, Ns⟩, om, Le.mk (.c4 (.cons (cf rfl ig) (.c2 (.cons (ak rfl b5) (.nil))))) (.c4 (.nil))⟩
 refine .exit ?_
 exact ⟨eS ++ ([aJ.getD 0 0] : List Int), ck, ey, ⟨om, ⟨done ++ [(aJ.getD 0 0)], by rw [mu, List.append_assoc], KJ.fin hf uU (bm om) (by rw [show (bf.getD (((n.cells.getD ((aJ.getD 0 0).toNat) default).out).toNat) []).length = cQ by omega]; exact Ko) CX⟩⟩, by rw [List.length_append]; simp only [List.length_cons, List.length_nil]; omega, Le.mk (.c (.cons (cf rfl om) (.c2 (.cons (cf rfl om) (.nil))))) (.c4 (.nil))⟩
 obtain ⟨done, mu, uU⟩ := hK
 have QL : aJ = [] := List.eq_nil_of_length_eq_zero om
 subst QL
 refine .exit (.seq (.sr ?_))
 refine .mv ?_
 refine .vl (Y.len (n := eS.length) a7 rfl rfl) ?_
 refine .fa cb ?_
 refine .ld fD ?_
 refine .vl (Y.len (n := n.cells.length) dD rfl dG) (.vl (Y.lss rfl rfl) (.nil ?_))
 refine .aB rfl (fun AA => ?_) (fun AA => ?_)
 refine .sr ?_
 refine .an ?_
 refine .an ?_
 refine .nil (.sh (Sh.Br (d := 2) 1 rfl) (.ret ?_))
 exact ⟨_, _, rfl, rfl, ([] : List Int), 12, .inr (.inr (.inl ⟨hf, OP, uU.HN (by rw [← mu]; omega), rfl, rfl⟩)), rfl, rfl⟩
 refine .skip (.sr ?_)
 refine .mv ?_
 refine .an ?_
 refine .sh (Sh.ji (d := 2) (o := 104) rfl rfl (bu om) ae) ?_
 refine .an ?_
 refine .nil (.ret ?_)
 exact ⟨_, _, rfl, rfl, eS, 0, .inr (.inr (.inr ⟨hf, OP, (uU.ok hf (by rw [← mu]; omega)).1, by rw [mu]; exact (uU.ok hf (by rw [← mu]; omega)).2, rfl⟩)), rfl, rfl⟩
end Go.Proofs.Ytligpghohcfpnaa
