/- The walk through Order. -/
import Derived.Test.YtlimckldnjmabaaSynx0
import Derived.Test.YtlimckldnjmabaaSynx1
import Derived.Test.YtlimckldnjmabaaAWx2
set_option linter.unusedSimpArgs false
set_option linter.unusedVariables false
set_option linter.unusedSectionVars false
set_option maxRecDepth 4000
set_option maxHeartbeats 8000000
namespace Go.Proofs.Ytlimckldnjmabaa
open Go Go.AW Go.Proofs
theorem uq {n : ab} (hs : n.Small) (Iq : n.ai.length + n.ins.length ≤ 17592186044416) : al Try.prog 52 [.agg (ab.row n)] [] [] (fun r o => ∃ (l : List Int) (e : Int), kE n l e ∧ r = .tup [.di 1 (l.map aq), vi e] ∧ o = []) := by
 refine al.of Try.func52 rfl rfl rfl (n := 169) ah (b7 rfl) (.sr (.box 101 rfl rfl rfl rfl rfl ah ?_))
 refine .an ?_
 refine .an ?_
 refine .nil (.seq (.sr ?_))
 refine .vl (Y.za vO rfl rfl (b7 rfl) rfl rfl) (.bd FO (sE (n := n) hs (om)) rfl (.ao rfl rfl .nil) ah rfl ?_)
 refine .vl (Y.zk rfl) (.nil ?_)
 refine .iR rfl (fun lV => ?_) (fun lV => ?_)
 refine .sr ?_
 refine .an ?_
 refine .an ?_
 refine .nil (.sh (Sh.pM (d := 2) 1 rfl) (.ret ?_))
 exact ⟨_, _, rfl, rfl, ([] : List Int), 3, .inl ⟨je, rfl, rfl⟩, rfl, rfl⟩
 have hf : bq n := by assumption
 refine .skip (.seq (.sr ?_))
 refine .vl (Y.za vO rfl rfl (b7 rfl) rfl rfl) (.bd FP (sF (n := n) hs je) rfl (.ao rfl rfl .nil) ah rfl (.vl (Y.zk rfl) ?_))
 refine .nil ?_
 refine .iR rfl (fun K0 => ?_) (fun K0 => ?_)
 refine .sr ?_
 refine .an ?_
 refine .an ?_
 refine .nil (.sh (Sh.pM (d := 2) 1 rfl) (.ret ?_))
 exact ⟨_, _, rfl, rfl, ([] : List Int), 13, .inr (.inl ⟨je, je, rfl, rfl⟩), rfl, rfl⟩
 have DF : Fit n := by assumption
 have IC := hf.ej; have Mb := hf.dO
 refine .skip (.sr ?_)
 refine .an ?_
 refine .sh (Sh.nil (d := 4) 104 1 rfl ah) (.nil (.sr ?_))
 refine .fa gm ?_
 refine .ld nW ?_
 refine .vl (Y.qw (n := n.cells.length) jz rfl gT) (.makeSlice (n := n.cells.length) a8 fv rfl rfl rfl rfl om om ah ?_)
 refine .bh rfl ah (.sh (Sh.gj (d := 5) (n := n.cells.length) 105 ((List.replicate n.cells.length 0).map aq) rfl jW (bn (by simp)) ah) (.nil ?_))
 refine .sr ?_
 refine .fa fw ?_
 refine .ld cZ ?_
 refine .vl (Y.qw (n := n.ai.length) a8 rfl gT) (.makeSlice (n := n.ai.length) iC Av rfl rfl rfl rfl om om ah ?_)
 refine .sh (Sh.Ah (d := 33) 1 rfl) (.bh rfl ah (.sh (Sh.gj (d := 6) (n := n.ai.length) 106 ((List.replicate n.ai.length []).map lQ) rfl jW (bn (by simp)) ah) ?_))
 refine .nil (.sr ?_)
 refine .fa fw ?_
 refine .ld cZ ?_
 refine .vl (Y.qw (n := n.ai.length) a8 rfl gT) (.makeSlice (n := n.ai.length) sv My rfl rfl rfl rfl om om ah ?_)
 refine .bh rfl ah (.sh (Sh.gj (d := 7) (n := n.ai.length) 107 ((List.replicate n.ai.length false).map ke) rfl jW (bn (by simp)) ah) (.nil ?_))
 refine .seq (.sr ?_)
 refine .fa gm ?_
 refine .ld nW ?_
 refine .vl (Y.qw (n := n.cells.length) jz rfl gT) ?_
 refine .mv ?_
 refine .nil (.block ?_)
 refine .k0 (fun (eI : Nat) (du : List Bool) => ⟨[(1, .ptr 101 0 0 0), (4, .aY 104 1 0 0), (5, .aY 105 1 0 n.cells.length), (6, .aY 106 1 0 n.ai.length), (7, .aY 107 1 0 n.ai.length), (39, .fz 6 (n.cells.map Cell.row)), (40, vi n.cells.length), (41, vi eI)], [(101, .cells (ab.row n)), (104, .rows 1 (([] : List Int).map aq)), (105, .rows 1 ((List.replicate n.cells.length 0).map aq)), (106, .rows 1 ((List.replicate n.ai.length []).map lQ)), (107, .rows 1 (du.map ke))]⟩) (fun eI du => (du.length = n.ai.length) ∧ ((eI : Int) ≤ (n.cells.length : Int)) ∧ (dY n eI du)) (fun eI du => ((n.cells.length : Int) - (eI : Int)).toNat) 0 (List.replicate n.ai.length false) (⟨fZ, fZ, dY.init n⟩) (Le.mk (.c4 (.c2 (.c (.cons (ak rfl bg) .nil)))) (.c4 (.c .nil))) (fun eI du DA => ?_)
 obtain ⟨Co, Kb, K3⟩ := DA
 refine .sr (.vl (Y.zb rfl rfl) (.nil ?_))
 refine .seq ?_
 refine .ay rfl (fun Hf => ?_) (fun Hf => ?_)
 refine .skip ?_
 refine .jw (fun (ik : List Bool) => ⟨[(1, .ptr 101 0 0 0), (4, .aY 104 1 0 0), (5, .aY 105 1 0 n.cells.length), (6, .aY 106 1 0 n.ai.length), (7, .aY 107 1 0 n.ai.length), (39, .fz 6 (n.cells.map Cell.row)), (40, vi n.cells.length), (41, vi eI)], [(101, .cells (ab.row n)), (104, .rows 1 (([] : List Int).map aq)), (105, .rows 1 ((List.replicate n.cells.length 0).map aq)), (106, .rows 1 ((List.replicate n.ai.length []).map lQ)), (107, .rows 1 (ik.map ke))]⟩) (fun ik => (ik.length = n.ai.length) ∧ (dY n (eI + 1) ik)) ?_ (fun ik Hg => ?_)
 refine .block (.sr ?_)
 refine .vl (Y.qr (m := eI) jz rfl rfl bg (aw (d := default) om)) ?_
 refine .vl (Y.za rm rfl rfl (b7 rfl) rfl rfl) (.alloc 109 nh rfl rfl ah (.aj Au rfl rfl rfl rfl rfl rfl (b7 rfl) rfl ?_))
 refine .nil (.sr ?_)
 refine .fa ji ?_
 refine .ld aZ ?_
 refine .bd CY (nu (w := ((n.cells.getD eI default).kind))) rfl (.ao rfl rfl .nil) ah rfl (.nil ?_)
 refine .ay rfl (fun Is => ?_) (fun Is => ?_)
 have It := hf.iV (bf.gP (n := n) (i := (eI : Int)) ⟨⟨om, om⟩, Is⟩)
 rw [kC] at It
 have FL := It; unfold In at FL
 refine .region ?_
 refine .mv ?_
 refine .fa kF ?_
 refine .ld aZ ?_
 refine .vl (Y.qs (m := ((n.cells.getD eI default).out).toNat) sv rfl rfl om om) (.ky ((du.set (((n.cells.getD eI default).out).toNat) true).map ke) Mx rfl rfl rfl rfl rfl rfl rfl (aS (d := false) om) (b7 rfl) (g9 rfl) (.nil (⟨du.set (((n.cells.getD eI default).out).toNat) true, ⟨fZ, K3.step om Co Is It⟩, Le.mk (.c4 (.c2 (.c (.c .nil)))) (.c4 (.c .nil))⟩)))
 refine .skip (⟨du, ⟨om, K3.skip Is⟩, Le.mk (.c4 (.c2 (.c (.c .nil)))) (.c4 (.c .nil))⟩)
 obtain ⟨E8, K4⟩ := Hg
 refine .region (.vl (Y.qb rfl rfl om) ?_)
 refine .mv ?_
 refine .nil (⟨eI + 1, ik, ⟨om, om, K4⟩, om, Le.mk (.c4 (.c2 (.c (.cons (ak rfl bg) .nil)))) (.c4 (.c .nil))⟩)
 refine .exit (.seq (.seq ?_))
 have Hh : dY n n.cells.length du := by rw [show n.cells.length = eI by omega]; exact K3
 refine .region ?_
 refine .fa gm ?_
 refine .ld nW ?_
 refine .vl (Y.qw (n := n.cells.length) jz rfl gT) ?_
 refine .mv ?_
 refine .nil (.block ?_)
 refine .k0 (fun (eJ : Nat) (dG : List Int) => ⟨[(1, .ptr 101 0 0 0), (4, .aY 104 1 0 dG.length), (5, .aY 105 1 0 n.cells.length), (6, .aY 106 1 0 n.ai.length), (7, .aY 107 1 0 n.ai.length), (54, .fz 6 (n.cells.map Cell.row)), (55, vi n.cells.length), (56, vi eJ)], [(101, .cells (ab.row n)), (104, .rows 1 (dG.map aq)), (105, .rows 1 ((List.replicate n.cells.length 0).map aq)), (106, .rows 1 ((List.replicate n.ai.length []).map lQ)), (107, .rows 1 (du.map ke))]⟩) (fun eJ dG => ((eJ : Int) ≤ (n.cells.length : Int)) ∧ (dG = fM n eJ)) (fun eJ dG => ((n.cells.length : Int) - (eJ : Int)).toNat) 0 ([] : List Int) (⟨fZ, rfl⟩) (Le.mk (.c (.cons (aL rfl fZ) (.c4 (.c (.cons (ak rfl bg) .nil))))) (.c4 (.c .nil))) (fun eJ dG K5 => ?_)
 obtain ⟨Pm, Iu⟩ := K5
 refine .sr (.vl (Y.zb rfl rfl) (.nil ?_))
 refine .seq ?_
 refine .ay rfl (fun vo => ?_) (fun vo => ?_)
 refine .skip ?_
 refine .jw (fun (j1 : List Int) => ⟨[(1, .ptr 101 0 0 0), (4, .aY 104 1 0 j1.length), (5, .aY 105 1 0 n.cells.length), (6, .aY 106 1 0 n.ai.length), (7, .aY 107 1 0 n.ai.length), (54, .fz 6 (n.cells.map Cell.row)), (55, vi n.cells.length), (56, vi eJ)], [(101, .cells (ab.row n)), (104, .rows 1 (j1.map aq)), (105, .rows 1 ((List.replicate n.cells.length 0).map aq)), (106, .rows 1 ((List.replicate n.ai.length []).map lQ)), (107, .rows 1 (du.map ke))]⟩) (fun j1 => j1 = fM n (eJ + 1)) ?_ (fun j1 DG => ?_)
 refine .block (.sr ?_)
 refine .mv ?_
 refine .vl (Y.qr (m := eJ) jz rfl rfl bg (aw (d := default) om)) ?_
 refine .vl (Y.za rm rfl rfl (b7 rfl) rfl rfl) (.alloc 111 nh rfl rfl ah ?_)
 refine .an ?_
 refine .aj Au rfl rfl rfl rfl rfl rfl (b7 rfl) rfl (.nil (.sr ?_))
 have Pn := x7 n eJ; rw [← Iu] at Pn
 refine .fa ji ?_
 refine .ld aZ ?_
 refine .bd CY (nu (w := ((n.cells.getD eJ default).kind))) rfl (.ao rfl rfl .nil) ah rfl (.vl (Y.zk rfl) (.nil ?_))
 refine .iR rfl (fun K6 => ?_) (fun K6 => ?_)
 refine .region ?_
 refine .mv ?_
 refine .mv ?_
 refine .buildSlice (([(eJ : Int)] : List Int).map aq) a8 fv rfl rfl rfl rfl rfl (a9 (s := 1) (f := aq) (fun _ => rfl)) rfl rfl rfl ah ?_
 refine .xn aq (dG ++ ([(eJ : Int)] : List Int)) a8 fv rfl rfl rfl rfl (cb fZ) (bE fZ) (dg fZ) fZ fZ ah ah ?_
 refine .an ?_
 refine .nil ⟨dG ++ ([(eJ : Int)] : List Int), by rw [qB, if_neg K6, Iu], Le.mk (.c (.cons (aL rfl om) (.c4 (.c (.c .nil))))) (.c4 (.c .nil))⟩
 refine .skip ⟨dG, by rw [qB, if_pos K6, Iu, List.append_nil], Le.mk (.c (.cons (aL rfl om) (.c4 (.c (.c .nil))))) (.c4 (.c .nil))⟩
 refine .region (.vl (Y.qb rfl rfl om) ?_)
 refine .mv ?_
 refine .nil (⟨eJ + 1, j1, ⟨om, DG⟩, om, Le.mk (.c (.cons (aL rfl om) (.c4 (.c (.cons (ak rfl bg) .nil))))) (.c4 (.c .nil))⟩)
 refine .exit (.sr ?_)
 refine .an ?_
 refine .sh (Sh.nil (d := 12) 112 1 rfl ah) (.nil (.seq ?_))
 refine .sr ?_
 refine .fa gm ?_
 refine .ld nW ?_
 refine .vl (Y.qw (n := n.cells.length) jz rfl gT) ?_
 refine .mv ?_
 refine .nil (.block ?_)
 refine .BK (fun (bl : Nat) (bX : List Int) (aT : List (List Int)) (cj : List Int) => ⟨[(1, .ptr 101 0 0 0), (4, .aY 104 1 0 dG.length), (5, .aY 105 1 0 n.cells.length), (6, .aY 106 1 0 n.ai.length), (7, .aY 107 1 0 n.ai.length), (12, .aY 112 1 0 cj.length), (71, .fz 6 (n.cells.map Cell.row)), (72, vi n.cells.length), (73, vi bl)], [(101, .cells (ab.row n)), (104, .rows 1 (dG.map aq)), (105, .rows 1 (bX.map aq)), (106, .rows 1 (aT.map lQ)), (107, .rows 1 (du.map ke)), (112, .rows 1 (cj.map aq))]⟩) (fun bl bX aT cj => (bX.length = n.cells.length) ∧ (aT.length = n.ai.length) ∧ ((bl : Int) ≤ (n.cells.length : Int)) ∧ (BI n bl bX aT cj)) (fun bl bX aT cj => ((n.cells.length : Int) - (bl : Int)).toNat) 0 (List.replicate n.cells.length 0) (List.replicate n.ai.length []) ([] : List Int) (⟨fZ, fZ, fZ, BI.init n⟩) (Le.mk (.c4 (.c (.cons (aL rfl fZ) (.c2 (.cons (ak rfl bg) .nil))))) (.c4 (.c (.c .nil)))) (fun bl bX aT cj K7 => ?_)
 obtain ⟨qI, yt, Po, DH⟩ := K7
 refine .sr (.vl (Y.zb rfl rfl) (.nil ?_))
 refine .seq ?_
 refine .ay rfl (fun Pp => ?_) (fun Pp => ?_)
 refine .skip ?_
 refine .BH (fun (ec : List Int) (gu : List (List Int)) (fG : List Int) => ⟨[(1, .ptr 101 0 0 0), (4, .aY 104 1 0 dG.length), (5, .aY 105 1 0 n.cells.length), (6, .aY 106 1 0 n.ai.length), (7, .aY 107 1 0 n.ai.length), (12, .aY 112 1 0 fG.length), (71, .fz 6 (n.cells.map Cell.row)), (72, vi n.cells.length), (73, vi bl)], [(101, .cells (ab.row n)), (104, .rows 1 (dG.map aq)), (105, .rows 1 (ec.map aq)), (106, .rows 1 (gu.map lQ)), (107, .rows 1 (du.map ke)), (112, .rows 1 (fG.map aq))]⟩) (fun ec gu fG => (ec.length = n.cells.length) ∧ ((gu.length = n.ai.length) ∧ (BI n (bl + 1) ec gu fG))) ?_ (fun ec gu fG Hi => ?_)
 refine .block (.sr ?_)
 refine .mv ?_
 refine .vl (Y.qr (m := bl) jz rfl rfl bg (aw (d := default) om)) ?_
 refine .vl (Y.za rm rfl rfl (b7 rfl) rfl rfl) (.alloc 114 nh rfl rfl ah ?_)
 refine .an ?_
 refine .aj Au rfl rfl rfl rfl rfl rfl (b7 rfl) rfl (.nil (.seq ?_))
 refine .sr ?_
 have Pf := hs.args (n.cells.getD bl default) (eP om)
 have EU := DH.rl
 refine .fa ji ?_
 refine .ld aZ ?_
 refine .bd CY (nu (w := ((n.cells.getD bl default).kind))) rfl (.ao rfl rfl .nil) ah rfl (.vl (Y.zk rfl) (.nil ?_))
 refine .iR rfl (fun E9 => ?_) (fun E9 => ?_)
 refine .exit (⟨bX, aT, cj, ⟨om, ⟨om, DH.skip om E9⟩⟩, Le.mk (.c4 (.c (.cons (aL rfl om) (.c2 (.c .nil))))) (.c4 (.c (.c .nil)))⟩)
 refine .skip (.seq (.sr ?_))
 refine .fa en ?_
 refine .ld cZ ?_
 refine .vl (Y.qw (n := ((n.cells.getD bl default).args).length) a8 rfl gT) ?_
 refine .mv ?_
 refine .nil (.block ?_)
 refine .eW (fun (dk : Nat) (bP : List Int) (cz : List (List Int)) => ⟨[(1, .ptr 101 0 0 0), (4, .aY 104 1 0 dG.length), (5, .aY 105 1 0 n.cells.length), (6, .aY 106 1 0 n.ai.length), (7, .aY 107 1 0 n.ai.length), (12, .aY 112 1 0 cj.length), (13, vi bl), (71, .fz 6 (n.cells.map Cell.row)), (72, vi n.cells.length), (73, vi bl), (83, .fz 1 (((n.cells.getD bl default).args).map aq)), (84, vi ((((n.cells.getD bl default).args).length : Nat) : Int)), (85, vi dk)], [(101, .cells (ab.row n)), (104, .rows 1 (dG.map aq)), (105, .rows 1 (bP.map aq)), (106, .rows 1 (cz.map lQ)), (107, .rows 1 (du.map ke)), (112, .rows 1 (cj.map aq))]⟩) (fun dk bP cz => (bP.length = n.cells.length) ∧ (cz.length = n.ai.length) ∧ ((dk : Int) ≤ ((((n.cells.getD bl default).args).length : Nat) : Int)) ∧ (BJ n bl dk bX aT bP cz)) (fun dk bP cz => (((((n.cells.getD bl default).args).length : Nat) : Int) - (dk : Int)).toNat) 0 bX aT (⟨om, om, om, BJ.init DH om⟩) (Le.mk (.c8 (.c4 (.cons (ak rfl bg) .nil))) (.c4 (.c (.c .nil)))) (fun dk bP cz DC => ?_)
 obtain ⟨qI, yt, Ku, EA⟩ := DC
 refine .sr (.vl (Y.zb rfl rfl) (.nil ?_))
 refine .seq ?_
 refine .ay rfl (fun K8 => ?_) (fun K8 => ?_)
 refine .skip ?_
 refine .ly (fun (ed : List Int) (gv : List (List Int)) => ⟨[(1, .ptr 101 0 0 0), (4, .aY 104 1 0 dG.length), (5, .aY 105 1 0 n.cells.length), (6, .aY 106 1 0 n.ai.length), (7, .aY 107 1 0 n.ai.length), (12, .aY 112 1 0 cj.length), (13, vi bl), (71, .fz 6 (n.cells.map Cell.row)), (72, vi n.cells.length), (73, vi bl), (83, .fz 1 (((n.cells.getD bl default).args).map aq)), (84, vi ((((n.cells.getD bl default).args).length : Nat) : Int)), (85, vi dk)], [(101, .cells (ab.row n)), (104, .rows 1 (dG.map aq)), (105, .rows 1 (ed.map aq)), (106, .rows 1 (gv.map lQ)), (107, .rows 1 (du.map ke)), (112, .rows 1 (cj.map aq))]⟩) (fun ed gv => (ed.length = n.cells.length) ∧ ((gv.length = n.ai.length) ∧ (BJ n bl (dk + 1) bX aT ed gv))) ?_ (fun ed gv Hj => ?_)
 refine .block (.sr ?_)
 refine .vl (Y.qr (m := dk) a8 rfl rfl bg (aw (d := 0) om)) ?_
 refine .ld aZ ?_
 refine .an ?_
 refine .nil (.sr ?_)
 have EB := hf.l5 (i := (bl : Int)) ⟨om, om⟩ (dr (i := dk) (by rw [kC]; omega))
 rw [kC] at EB
 have K9 := EB; unfold In at K9
 have Ey := EA.CP
 have EC := BJ.len DH EA EB
 have MK := x9 hs (bl + 1); rw [oS om] at MK
 refine .mv ?_
 refine .mv ?_
 refine .vl (Y.qs (m := (((n.cells.getD bl default).args).getD dk 0).toNat) sv rfl rfl om om) (.vl (Y.qz xI rfl (aS (d := false) om) rfl rfl) (.nil ?_))
 refine .cond rfl (fun Iv => ?_) (fun Iv => ?_)
 refine .sr ?_
 refine .mv ?_
 refine .mv ?_
 refine .vl (Y.qs (m := bl) a8 rfl rfl bg om) (.vl (Y.qz aZ rfl (aS (d := 0) fZ) rfl rfl) (.vl (Y.qb rfl rfl om) (.vl (Y.qs (m := bl) a8 rfl rfl bg om) (.ky ((bP.set bl ((bP.getD bl 0) + 1)).map aq) cT rfl rfl rfl rfl rfl rfl rfl (aS (d := 0) om) (b7 rfl) (g9 rfl) ?_))))
 refine .nil (.region ?_)
 refine .mv ?_
 refine .mv ?_
 refine .mv ?_
 refine .mv ?_
 refine .vl (Y.qs (m := (((n.cells.getD bl default).args).getD dk 0).toNat) iC rfl rfl om om) (.FB ((cz.map lQ).set (0 + ((((n.cells.getD bl default).args).getD dk 0).toNat)) [.no]) cZ rfl rfl (aS (d := []) om) rfl rfl ah ?_)
 refine .mv ?_
 refine .buildSlice (([(bl : Int)] : List Int).map aq) a8 fv rfl rfl rfl rfl rfl (a9 (s := 1) (f := aq) (fun _ => rfl)) rfl rfl rfl ah ?_
 refine .sh (Sh.gj (d := 104) (n := (cz.getD ((((n.cells.getD bl default).args).getD dk 0).toNat) []).length) 204 ((cz.getD ((((n.cells.getD bl default).args).getD dk 0).toNat) []).map aq) rfl jW (bn rfl) ah) (.xn aq ((cz.getD ((((n.cells.getD bl default).args).getD dk 0).toNat) []) ++ ([(bl : Int)] : List Int)) a8 fv rfl rfl rfl rfl (cb fZ) (bE fZ) (dg fZ) fZ fZ ah ah (.vl (Y.qs (m := (((n.cells.getD bl default).args).getD dk 0).toNat) iC rfl rfl om om) (.sh (Sh.cU (d := 107) (o := 204) rfl rfl (bn om) ah) (.Af ((cz.set ((((n.cells.getD bl default).args).getD dk 0).toNat) ((cz.getD ((((n.cells.getD bl default).args).getD dk 0).toNat) []) ++ ([(bl : Int)] : List Int))).map lQ) At rfl rfl rfl (Ai om) ah (xw rfl) (.nil (⟨bP.set bl ((bP.getD bl 0) + 1), cz.set ((((n.cells.getD bl default).args).getD dk 0).toNat) ((cz.getD ((((n.cells.getD bl default).args).getD dk 0).toNat) []) ++ ([(bl : Int)] : List Int)), ⟨fZ, ⟨fZ, EA.step om qI yt om EB ((dY.all Hh EB).1 Iv)⟩⟩, Le.mk (.c8 (.c4 (.c .nil))) (.c4 (.c (.c .nil)))⟩))))))
 refine .skip (⟨bP, cz, ⟨om, ⟨om, EA.skip om (fun h => by rw [(dY.all Hh EB).2 h] at Iv; cases Iv)⟩⟩, Le.mk (.c8 (.c4 (.c .nil))) (.c4 (.c (.c .nil)))⟩)
 obtain ⟨ED, EE, KA⟩ := Hj
 refine .region (.vl (Y.qb rfl rfl om) ?_)
 refine .mv ?_
 refine .nil (⟨dk + 1, ed, gv, ⟨om, om, om, KA⟩, om, Le.mk (.c8 (.c4 (.cons (ak rfl bg) .nil))) (.c4 (.c (.c .nil)))⟩)
 refine .exit (.sr ?_)
 refine .mv ?_
 refine .mv ?_
 refine .vl (Y.qs (m := bl) a8 rfl rfl bg om) (.vl (Y.qz aZ rfl (aS (d := 0) fZ) rfl rfl) ?_)
 refine .vl (Y.qk rfl rfl) (.nil ?_)
 refine .ay rfl (fun DI => ?_) (fun DI => ?_)
 refine .region ?_
 refine .mv ?_
 refine .mv ?_
 refine .buildSlice (([(bl : Int)] : List Int).map aq) a8 fv rfl rfl rfl rfl rfl (a9 (s := 1) (f := aq) (fun _ => rfl)) rfl rfl rfl ah ?_
 refine .xn aq (cj ++ ([(bl : Int)] : List Int)) a8 fv rfl rfl rfl rfl (cb fZ) (bE fZ) (dg fZ) fZ fZ ah ah ?_
 refine .an ?_
 refine .nil (⟨bP, cz, cj ++ ([(bl : Int)] : List Int), ⟨om, ⟨om, (BJ.fin DH om E9 (by rw [show (n.cells.getD bl default).args.length = dk by omega]; exact EA)).1 DI⟩⟩, Le.mk (.c4 (.c (.cons (aL rfl om) (.c2 (.c .nil))))) (.c4 (.c (.c .nil)))⟩)
 refine .skip (⟨bP, cz, cj, ⟨om, ⟨om, (BJ.fin DH om E9 (by rw [show (n.cells.getD bl default).args.length = dk by omega]; exact EA)).2 DI⟩⟩, Le.mk (.c4 (.c (.cons (aL rfl om) (.c2 (.c .nil))))) (.c4 (.c (.c .nil)))⟩)
 obtain ⟨EF, EG, KB⟩ := Hi
 refine .region (.vl (Y.qb rfl rfl om) ?_)
 refine .mv ?_
 refine .nil (⟨bl + 1, ec, gu, fG, ⟨om, om, om, KB⟩, om, Le.mk (.c4 (.c (.cons (aL rfl om) (.c2 (.cons (ak rfl bg) .nil))))) (.c4 (.c (.c .nil)))⟩)
 refine .exit (.seq (.block ?_))
 have DJ : BI n n.cells.length bX aT cj := by rw [show n.cells.length = bl by omega]; exact DH
 have ML := DJ.us
 refine .sh (Sh.cU (d := 6) (o := 106) rfl rfl (bn om) ah) (.sh (Sh.tN (d := 6) (l := aT) (f := lQ) (g := gY) xy rfl) ?_)
 refine .eW (fun (er : List Int) (dR : List Int) (aB : List Int) => ⟨[(1, .ptr 101 0 0 0), (4, .aY 104 1 0 er.length), (5, .aY 105 1 0 n.cells.length), (6, .fz 1 (aT.map gY)), (12, .aY 112 1 0 aB.length)], [(101, .cells (ab.row n)), (104, .rows 1 (er.map aq)), (105, .rows 1 (dR.map aq)), (112, .rows 1 (aB.map aq))]⟩) (fun er dR aB => (dR.length = n.cells.length) ∧ (∃ done, er = fM n n.cells.length ++ done ∧ KI n done aB dR)) (fun er dR aB => n.cells.length - er.length) dG bX cj (⟨om, ⟨[], by rw [Iu, show eJ = n.cells.length by omega, List.append_nil], DJ.ki⟩⟩) (Le.mk (.c (.cons (aL rfl om) (.c2 (.cons (aL rfl om) .nil)))) (.c2 (.c (.c .nil)))) (fun er dR aB DK => ?_)
 obtain ⟨qI, hK⟩ := DK
 refine .seq (.sr ?_)
 refine .mv ?_
 refine .vl (Y.qw (n := aB.length) a8 rfl rfl) (.vl (Y.qq rfl rfl) (.nil ?_))
 refine .ay rfl (fun DD => ?_) (fun DD => ?_)
 obtain ⟨done, mu, pE⟩ := hK
 have lH := pE.len
 rw [← mu] at lH
 have me := pE.cm (aB.getD 0 0) (List.mem_append.2 (.inr (dr om)))
 have OA := me.1
 have Dw := hf.iV me.gP
 have KC := Dw; unfold In ab.cell at KC
 have BN : ∀ x, bf n x → (aT.getD (((n.cells.getD ((aB.getD 0 0).toNat) default).out).toNat) []).count x = (n.cell x).args.count (n.cell (aB.getD 0 0)).out := fun x hx => ML.O8 _ x Dw ⟨_, me, rfl⟩ hx
 have Iw : ∀ x ∈ (aT.getD (((n.cells.getD ((aB.getD 0 0).toNat) default).out).toNat) []), bf n x := fun x hx => ML.mem _ x Dw hx
 have Pq := DJ.ul _ Dw; unfold ab.cell at Pq
 have MK := x9 hs n.cells.length
 refine .skip (.block (.sr ?_))
 refine .mv ?_
 refine .vl (Y.qs (m := 0) a8 rfl rfl bg om) (.vl (Y.qz aZ rfl (aS (d := 0) fZ) rfl rfl) ?_)
 refine .an ?_
 refine .nil (.sr ?_)
 refine .mv ?_
 refine .vl (Y.zv (l := 1) (h := aB.length) a8 rfl (.some rfl) (.none _) om om) ?_
 refine .an ?_
 refine .sh (Sh.BM (d := 12) (o := 112) ((aB.drop 1).map aq) rfl rfl fZ (vJ fZ) ah) ?_
 refine .nil (.sr ?_)
 refine .mv ?_
 refine .mv ?_
 refine .buildSlice (([aB.getD 0 0] : List Int).map aq) a8 fv rfl rfl rfl rfl rfl (a9 (s := 1) (f := aq) (fun _ => rfl)) rfl rfl rfl ah ?_
 refine .xn aq (er ++ ([aB.getD 0 0] : List Int)) a8 fv rfl rfl rfl rfl (cb fZ) (bE fZ) (dg fZ) fZ fZ ah ah ?_
 refine .an ?_
 refine .nil (.sr ?_)
 refine .mv ?_
 refine .fa gm ?_
 refine .ld nW ?_
 refine .mv ?_
 refine .vl (Y.qr (m := (aB.getD 0 0).toNat) jz rfl rfl om (aw (d := default) om)) ?_
 refine .fa kF ?_
 refine .ld aZ ?_
 refine .vl (Y.qr (m := ((n.cells.getD ((aB.getD 0 0).toNat) default).out).toNat) iC rfl rfl om (aw (d := []) om)) ?_
 refine .ld cZ ?_
 refine .vl (Y.qw (n := (aT.getD (((n.cells.getD ((aB.getD 0 0).toNat) default).out).toNat) []).length) a8 rfl gT) ?_
 refine .mv ?_
 refine .nil (.block ?_)
 refine .eW (fun (cd : Nat) (bD : List Int) (dS : List Int) => ⟨[(1, .ptr 101 0 0 0), (4, .aY 104 1 0 ((er ++ ([aB.getD 0 0] : List Int)).length)), (5, .aY 105 1 0 n.cells.length), (6, .fz 1 (aT.map gY)), (12, .aY 112 1 0 dS.length), (140, .fz 1 ((aT.getD (((n.cells.getD ((aB.getD 0 0).toNat) default).out).toNat) []).map aq)), (141, vi (((aT.getD (((n.cells.getD ((aB.getD 0 0).toNat) default).out).toNat) []).length : Nat) : Int)), (142, vi cd)], [(101, .cells (ab.row n)), (104, .rows 1 ((er ++ ([aB.getD 0 0] : List Int)).map aq)), (105, .rows 1 (bD.map aq)), (112, .rows 1 (dS.map aq))]⟩) (fun cd bD dS => (bD.length = n.cells.length) ∧ ((cd : Int) ≤ (((aT.getD (((n.cells.getD ((aB.getD 0 0).toNat) default).out).toNat) []).length : Nat) : Int)) ∧ (KJ n done (aB.getD 0 0) (aT.getD (((n.cells.getD ((aB.getD 0 0).toNat) default).out).toNat) []) cd dS bD)) (fun cd bD dS => ((((aT.getD (((n.cells.getD ((aB.getD 0 0).toNat) default).out).toNat) []).length : Nat) : Int) - (cd : Int)).toNat) 0 dR (aB.drop 1) (⟨fZ, fZ, KJ.init pE om⟩) (Le.mk (.c4 (.cons (aL rfl fZ) (.c2 (.cons (ak rfl bg) .nil)))) (.c2 (.c (.c .nil)))) (fun cd bD dS KD => ?_)
 obtain ⟨qI, Pr, Ix⟩ := KD
 refine .sr (.vl (Y.zb rfl rfl) (.nil ?_))
 refine .seq ?_
 refine .ay rfl (fun KE => ?_) (fun KE => ?_)
 refine .skip ?_
 refine .jw (fun (fH : List Int) => ⟨[(1, .ptr 101 0 0 0), (4, .aY 104 1 0 ((er ++ ([aB.getD 0 0] : List Int)).length)), (5, .aY 105 1 0 n.cells.length), (6, .fz 1 (aT.map gY)), (12, .aY 112 1 0 fH.length), (140, .fz 1 ((aT.getD (((n.cells.getD ((aB.getD 0 0).toNat) default).out).toNat) []).map aq)), (141, vi (((aT.getD (((n.cells.getD ((aB.getD 0 0).toNat) default).out).toNat) []).length : Nat) : Int)), (142, vi cd)], [(101, .cells (ab.row n)), (104, .rows 1 ((er ++ ([aB.getD 0 0] : List Int)).map aq)), (105, .rows 1 ((bD.set (((aT.getD (((n.cells.getD ((aB.getD 0 0).toNat) default).out).toNat) []).getD cd 0).toNat) ((bD.getD (((aT.getD (((n.cells.getD ((aB.getD 0 0).toNat) default).out).toNat) []).getD cd 0).toNat) 0) - 1)).map aq)), (112, .rows 1 (fH.map aq))]⟩) (fun fH => KJ n done (aB.getD 0 0) (aT.getD (((n.cells.getD ((aB.getD 0 0).toNat) default).out).toNat) []) (cd + 1) fH (bD.set ((aT.getD (((n.cells.getD ((aB.getD 0 0).toNat) default).out).toNat) []).getD cd 0).toNat (bD.getD ((aT.getD (((n.cells.getD ((aB.getD 0 0).toNat) default).out).toNat) []).getD cd 0).toNat 0 - 1))) ?_ (fun fH KF => ?_)
 refine .block (.sr ?_)
 refine .vl (Y.qr (m := cd) a8 rfl rfl bg (aw (d := 0) om)) ?_
 refine .ld aZ ?_
 refine .an ?_
 refine .nil (.sr ?_)
 have Jl := Ix.bound hf hs om BN Iw
 have QE := (Iw _ (dr (l := (aT.getD (((n.cells.getD ((aB.getD 0 0).toNat) default).out).toNat) [])) (i := cd) om)).1
 refine .mv ?_
 refine .mv ?_
 refine .vl (Y.qs (m := ((aT.getD (((n.cells.getD ((aB.getD 0 0).toNat) default).out).toNat) []).getD cd 0).toNat) a8 rfl rfl om om) (.vl (Y.qz aZ rfl (aS (d := 0) fZ) rfl rfl) (.vl (Y.zx rfl rfl om) (.vl (Y.qs (m := ((aT.getD (((n.cells.getD ((aB.getD 0 0).toNat) default).out).toNat) []).getD cd 0).toNat) a8 rfl rfl om om) (.ky ((bD.set (((aT.getD (((n.cells.getD ((aB.getD 0 0).toNat) default).out).toNat) []).getD cd 0).toNat) ((bD.getD (((aT.getD (((n.cells.getD ((aB.getD 0 0).toNat) default).out).toNat) []).getD cd 0).toNat) 0) - 1)).map aq) cT rfl rfl rfl rfl rfl rfl rfl (aS (d := 0) om) (b7 rfl) (g9 rfl) ?_))))
 refine .nil (.sr ?_)
 refine .mv ?_
 refine .mv ?_
 refine .vl (Y.qs (m := ((aT.getD (((n.cells.getD ((aB.getD 0 0).toNat) default).out).toNat) []).getD cd 0).toNat) a8 rfl rfl om om) (.vl (Y.qz aZ rfl (aS (d := 0) fZ) rfl rfl) ?_)
 refine .vl (Y.qk rfl rfl) (.nil ?_)
 refine .ay rfl (fun yx => ?_) (fun yx => ?_)
 rw [bJ, if_pos ⟨rfl, om⟩] at yx
 refine .region ?_
 refine .mv ?_
 refine .mv ?_
 refine .buildSlice (([(aT.getD (((n.cells.getD ((aB.getD 0 0).toNat) default).out).toNat) []).getD cd 0] : List Int).map aq) a8 fv rfl rfl rfl rfl rfl (a9 (s := 1) (f := aq) (fun _ => rfl)) rfl rfl rfl ah ?_
 refine .xn aq (dS ++ ([(aT.getD (((n.cells.getD ((aB.getD 0 0).toNat) default).out).toNat) []).getD cd 0] : List Int)) a8 fv rfl rfl rfl rfl (cb fZ) (bE fZ) (dg fZ) fZ fZ ah ah ?_
 refine .an ?_
 refine .nil ⟨dS ++ ([(aT.getD (((n.cells.getD ((aB.getD 0 0).toNat) default).out).toNat) []).getD cd 0] : List Int), (Ix.step hf qI om BN Iw).1 yx, Le.mk (.c4 (.cons (aL rfl om) (.c2 (.c .nil)))) (.c2 (.c (.c .nil)))⟩
 rw [bJ, if_pos ⟨rfl, om⟩] at yx
 refine .skip ⟨dS, (Ix.step hf qI om BN Iw).2 yx, Le.mk (.c4 (.cons (aL rfl om) (.c2 (.c .nil)))) (.c2 (.c (.c .nil)))⟩
 refine .region (.vl (Y.qb rfl rfl om) ?_)
 refine .mv ?_
 refine .nil (⟨cd + 1, bD.set (((aT.getD (((n.cells.getD ((aB.getD 0 0).toNat) default).out).toNat) []).getD cd 0).toNat) ((bD.getD (((aT.getD (((n.cells.getD ((aB.getD 0 0).toNat) default).out).toNat) []).getD cd 0).toNat) 0) - 1), fH, ⟨fZ, fZ, KF⟩, om, Le.mk (.c4 (.cons (aL rfl fZ) (.c2 (.cons (ak rfl bg) .nil)))) (.c2 (.c (.c .nil)))⟩)
 refine .exit (⟨er ++ ([aB.getD 0 0] : List Int), bD, dS, ⟨om, ⟨done ++ [(aB.getD 0 0)], by rw [mu, List.append_assoc], KJ.fin hf pE (dr om) (by rw [show (aT.getD (((n.cells.getD ((aB.getD 0 0).toNat) default).out).toNat) []).length = cd by omega]; exact Ix) BN⟩⟩, by rw [List.length_append]; simp only [List.length_cons, List.length_nil]; omega, Le.mk (.c (.cons (aL rfl om) (.c2 (.cons (aL rfl om) .nil)))) (.c2 (.c (.c .nil)))⟩)
 obtain ⟨done, mu, pE⟩ := hK
 have Ps : aB = [] := List.eq_nil_of_length_eq_zero om
 subst Ps
 refine .exit (.seq (.sr ?_))
 refine .mv ?_
 refine .vl (Y.qw (n := er.length) a8 rfl rfl) ?_
 refine .fa gm ?_
 refine .ld nW ?_
 refine .vl (Y.qw (n := n.cells.length) jz rfl gT) (.vl (Y.zb rfl rfl) (.nil ?_))
 refine .ay rfl (fun yr => ?_) (fun yr => ?_)
 refine .sr ?_
 refine .an ?_
 refine .an ?_
 refine .nil (.sh (Sh.pM (d := 2) 1 rfl) (.ret ?_))
 exact ⟨_, _, rfl, rfl, ([] : List Int), 12, .inr (.inr (.inl ⟨hf, DF, pE.FH (by rw [← mu]; omega), rfl, rfl⟩)), rfl, rfl⟩
 refine .skip (.sr ?_)
 refine .mv ?_
 refine .an ?_
 refine .sh (Sh.cU (d := 2) (o := 104) rfl rfl (bn om) ah) ?_
 refine .an ?_
 refine .nil (.ret ?_)
 exact ⟨_, _, rfl, rfl, er, 0, .inr (.inr (.inr ⟨hf, DF, (pE.ok hf (by rw [← mu]; omega)).1, by rw [mu]; exact (pE.ok hf (by rw [← mu]; omega)).2, rfl⟩)), rfl, rfl⟩
open Go Go.AW Go.Proofs
theorem ur {n : ab} (hs : n.Small) (Iq : n.ai.length + n.ins.length ≤ 17592186044416) : al Try.prog 77 [.agg (ab.row n)] [] [] (fun r o => r = (vi (m6 n)) ∧ o = []) := by
 refine al.of Try.func77 rfl rfl rfl (n := 11) ah (b7 rfl) (.sr (.box 101 rfl rfl rfl rfl rfl ah ?_))
 refine .an ?_
 refine .nil (.sr (.vl (Y.za vO rfl rfl (b7 rfl) rfl rfl) ?_))
 refine .jV Jw (uq (n := n) hs (om)) rfl (.ao rfl rfl .nil) ah ?_
 rintro _ ⟨l7, e7, Pt, rfl, _⟩
 refine ⟨rfl, ?_⟩
 refine .nM rfl ah (.jx rfl rfl ah (.vl (Y.qm rfl rfl rfl) ?_))
 refine .bh rfl ah (.sh (Sh.cq (d := 3) (l7.map aq) rfl jW (de.map bV)) ?_)
 refine .an ?_
 refine .nil (.sr ?_)
 refine .mv ?_
 refine .an ?_
 refine .nil (.ret ?_)
 exact .ri rfl (Pt.err)
open Go Go.AW Go.Proofs
end Go.Proofs.Ytlimckldnjmabaa
namespace Go.Proofs.Ytlimckldnjmabaa
open Go Go.AW Go.Proofs
open Go Go.AW Go.Proofs
end Go.Proofs.Ytlimckldnjmabaa
namespace Go.Proofs.Ytlimckldnjmabaa
open Go Go.AW Go.Proofs
theorem jn {l : List Int} (hl : l.length ≤ 17592186043904) : al Try.prog 123 [.fz 1 (l.map aq)] [] [] (fun r o => r = .di 1 (l.map aq) ∧ o = []) := by
 refine al.of Try.func123 rfl rfl rfl (n := 8) ah (b7 rfl) (.sr ?_)
 refine .an ?_
 refine .nil (.seq (.sr ?_))
 refine .mv ?_
 refine .BP a8 rfl rfl ah (fun b4 AR => ?_)
 refine .nil ?_
 refine .cond rfl (fun c4 => ?_) (fun c4 => ?_)
 refine .sr ?_
 refine .an ?_
 refine .nil (.sh (Sh.pM (d := 2) 1 rfl) (.ret ?_))
 exact ⟨_, _, rfl, rfl, (z8 (fun (z0 : List Int) => X.di 1 (z0.map aq)) (by have := AR je; simpa using this : ([] : List Int) = l) : X.di 1 (([] : List Int).map aq) = X.di 1 (l.map aq)), rfl⟩
 refine .skip (.sr ?_)
 refine .buildSlice (([] : List Int).map aq) a8 fv rfl rfl rfl rfl rfl (a9 (s := 1) (f := aq) (fun _ => rfl)) rfl rfl rfl ah ?_
 refine .mv ?_
 refine .sh (Sh.gj (d := 5) (n := ([] : List Int).length) 105 (([] : List Int).map aq) rfl jW (bn rfl) ah) (.oG ((([] : List Int) ++ l).map aq) (([] : List Int) ++ l).length a8 fv rfl rfl rfl rfl (cb aC) (bE aC) (dg aC) aC aC ah ah ?_)
 refine .an ?_
 refine .sh (Sh.cU (d := 2) (o := 105) rfl rfl (bn om) ah) ?_
 refine .nil (.ret ?_)
 exact ⟨_, _, rfl, rfl, (z8 (fun (z0 : List Int) => X.di 1 (z0.map aq)) (rfl : (([] : List Int) ++ l) = l) : X.di 1 ((([] : List Int) ++ l).map aq) = X.di 1 (l.map aq)), rfl⟩
open Go Go.AW Go.Proofs
set_option maxRecDepth 4000 in
set_option maxHeartbeats 1000000 in
theorem gx {gl : List Gate} (ox : gl.length ≤ 100000000) {k a b : Int} : al Try.prog 125 [.ptr 0 0 0 0, .v (.int .i64 k), .v (.int .i64 a), .v (.int .i64 b)] [.cells [.aY 1 3 0 gl.length], .rows 3 (gl.map Gate.row)] [0] (fun r o => r = (.v (.int .i64 (gl.length : Int))) ∧ o = [.cells [.aY 1 3 0 ((gl ++ [(⟨k, a, b⟩ : Gate)]).length)], .rows 3 ((gl ++ [(⟨k, a, b⟩ : Gate)]).map Gate.row)]) := by
 refine al.of Try.func125 rfl rfl rfl (n := 28) ah (Nat.le_of_ble_eq_true rfl) (ae.sr ?_)
 refine .an ?_
 refine aa.nil (ae.sr ?_)
 refine .mv ?_
 refine .mv ?_
 refine .vl (Y.zj rfl rfl) ?_
 refine .fa ot ?_
 refine .ld Dc ?_
 refine .mv ?_
 refine .mv ?_
 refine .mv ?_
 refine .vl (Y.qg Gz sx rfl rfl rfl) ?_
 refine aa.buildSlice (([(⟨k, a, b⟩ : Gate)] : List Gate).map Gate.row) oZ sx rfl rfl rfl rfl rfl (a9 (s := 3) (f := Gate.row) (fun _ => rfl)) rfl rfl rfl ah ?_
 refine aa.bZ ((gl ++ ([(⟨k, a, b⟩ : Gate)] : List Gate)).map Gate.row) (gl ++ ([(⟨k, a, b⟩ : Gate)] : List Gate)).length oZ sx rfl rfl rfl rfl (cb aC) (bE aC) (dg aC) aC aC ah ah ?_
 refine .vl (Y.zj rfl rfl) ?_
 refine .fa ot ?_
 refine aa.aj JE rfl rfl rfl rfl rfl rfl (Nat.le_of_ble_eq_true rfl) rfl (aa.nil (ae.sr ?_))
 refine .mv ?_
 refine .vl (Y.zj rfl rfl) ?_
 refine .fa ot ?_
 refine .ld Dc ?_
 refine .vl (Y.qw (n := (gl ++ ([(⟨k, a, b⟩ : Gate)] : List Gate)).length) oZ rfl rfl) ?_
 refine .vl (Y.zx rfl rfl aC) ?_
 refine .an ?_
 refine aa.nil (ae.ret ?_)
 exact ⟨_, _, rfl, rfl, z8 (fun (z0 : Int) => X.v (.int .i64 z0)) (by simp : (((gl ++ [(⟨k, a, b⟩ : Gate)]).length : Nat) : Int) - 1 = (gl.length : Int)), rfl⟩
set_option maxRecDepth 4000 in
set_option maxHeartbeats 1000000 in
theorem fV {gl : List Gate} (ox : gl.length ≤ 100000000) {a : Int} : al Try.prog 95 [.ptr 0 0 0 0, .v (.int .i64 a)] [.cells [.aY 1 3 0 gl.length], .rows 3 (gl.map Gate.row)] [0] (fun r o => r = (.v (.int .i64 (gl.length : Int))) ∧ o = [.cells [.aY 1 3 0 ((gl ++ [(⟨4, a, 0⟩ : Gate)]).length)], .rows 3 ((gl ++ [(⟨4, a, 0⟩ : Gate)]).map Gate.row)]) := by
 refine al.of Try.func95 rfl rfl rfl (n := 8) ah (Nat.le_of_ble_eq_true rfl) (ae.sr ?_)
 refine .an ?_
 refine aa.nil (ae.sr ?_)
 refine .mv ?_
 refine .mv ?_
 refine aa.bm [0, 1] [] oY (gx (gl := gl) (k := 4) (a := a) (b := 0) om) rfl (.named rfl rfl (.ao rfl rfl (.ao rfl rfl (.ao rfl rfl .nil)))) ⟨rfl, rfl, trivial⟩ rfl ah (fun _ h => by cases h) (fun _ h => by cases h) ah ah ?_
 rintro r aD ⟨rfl, rfl⟩ _
 refine ⟨⟨rfl, (by intro ob aP; simp only [List.mem_cons, List.not_mem_nil, or_false] at aP; rcases aP with rfl | rfl <;> rfl), .inl rfl⟩, ?_⟩
 refine .an ?_
 refine aa.nil (ae.ret ?_)
 exact ⟨_, _, rfl, rfl, rfl, rfl⟩
set_option maxRecDepth 4000 in
set_option maxHeartbeats 1000000 in
theorem fk {gl : List Gate} (ox : gl.length ≤ 100000000) {a : Int} {b : Int} : al Try.prog 96 [.ptr 0 0 0 0, .v (.int .i64 a), .v (.int .i64 b)] [.cells [.aY 1 3 0 gl.length], .rows 3 (gl.map Gate.row)] [0] (fun r o => r = (.v (.int .i64 (gl.length : Int))) ∧ o = [.cells [.aY 1 3 0 ((gl ++ [(⟨5, a, b⟩ : Gate)]).length)], .rows 3 ((gl ++ [(⟨5, a, b⟩ : Gate)]).map Gate.row)]) := by
 refine al.of Try.func96 rfl rfl rfl (n := 11) ah (Nat.le_of_ble_eq_true rfl) (ae.sr ?_)
 refine .an ?_
 refine aa.nil (ae.sr ?_)
 refine .mv ?_
 refine .mv ?_
 refine .mv ?_
 refine aa.bm [0, 1] [] oY (gx (gl := gl) (k := 5) (a := a) (b := b) om) rfl (.named rfl rfl (.ao rfl rfl (.ao rfl rfl (.ao rfl rfl .nil)))) ⟨rfl, rfl, trivial⟩ rfl ah (fun _ h => by cases h) (fun _ h => by cases h) ah ah ?_
 rintro r aD ⟨rfl, rfl⟩ _
 refine ⟨⟨rfl, (by intro ob aP; simp only [List.mem_cons, List.not_mem_nil, or_false] at aP; rcases aP with rfl | rfl <;> rfl), .inl rfl⟩, ?_⟩
 refine .an ?_
 refine aa.nil (ae.ret ?_)
 exact ⟨_, _, rfl, rfl, rfl, rfl⟩
set_option maxRecDepth 4000 in
set_option maxHeartbeats 1000000 in
theorem mG {gl : List Gate} (ox : gl.length ≤ 100000000) {a : Int} {b : Int} : al Try.prog 143 [.ptr 0 0 0 0, .v (.int .i64 a), .v (.int .i64 b)] [.cells [.aY 1 3 0 gl.length], .rows 3 (gl.map Gate.row)] [0] (fun r o => r = (.v (.int .i64 (gl.length : Int))) ∧ o = [.cells [.aY 1 3 0 ((gl ++ [(⟨6, a, b⟩ : Gate)]).length)], .rows 3 ((gl ++ [(⟨6, a, b⟩ : Gate)]).map Gate.row)]) := by
 refine al.of Try.func143 rfl rfl rfl (n := 11) ah (Nat.le_of_ble_eq_true rfl) (ae.sr ?_)
 refine .an ?_
 refine aa.nil (ae.sr ?_)
 refine .mv ?_
 refine .mv ?_
 refine .mv ?_
 refine aa.bm [0, 1] [] oY (gx (gl := gl) (k := 6) (a := a) (b := b) om) rfl (.named rfl rfl (.ao rfl rfl (.ao rfl rfl (.ao rfl rfl .nil)))) ⟨rfl, rfl, trivial⟩ rfl ah (fun _ h => by cases h) (fun _ h => by cases h) ah ah ?_
 rintro r aD ⟨rfl, rfl⟩ _
 refine ⟨⟨rfl, (by intro ob aP; simp only [List.mem_cons, List.not_mem_nil, or_false] at aP; rcases aP with rfl | rfl <;> rfl), .inl rfl⟩, ?_⟩
 refine .an ?_
 refine aa.nil (ae.ret ?_)
 exact ⟨_, _, rfl, rfl, rfl, rfl⟩
set_option maxRecDepth 4000 in
set_option maxHeartbeats 1000000 in
theorem j2 {gl : List Gate} (ox : gl.length ≤ 100000000) {a : Int} {b : Int} : al Try.prog 175 [.ptr 0 0 0 0, .v (.int .i64 a), .v (.int .i64 b)] [.cells [.aY 1 3 0 gl.length], .rows 3 (gl.map Gate.row)] [0] (fun r o => r = (.v (.int .i64 (gl.length : Int))) ∧ o = [.cells [.aY 1 3 0 ((gl ++ [(⟨7, a, b⟩ : Gate)]).length)], .rows 3 ((gl ++ [(⟨7, a, b⟩ : Gate)]).map Gate.row)]) := by
 refine al.of Try.func175 rfl rfl rfl (n := 11) ah (Nat.le_of_ble_eq_true rfl) (ae.sr ?_)
 refine .an ?_
 refine aa.nil (ae.sr ?_)
 refine .mv ?_
 refine .mv ?_
 refine .mv ?_
 refine aa.bm [0, 1] [] oY (gx (gl := gl) (k := 7) (a := a) (b := b) om) rfl (.named rfl rfl (.ao rfl rfl (.ao rfl rfl (.ao rfl rfl .nil)))) ⟨rfl, rfl, trivial⟩ rfl ah (fun _ h => by cases h) (fun _ h => by cases h) ah ah ?_
 rintro r aD ⟨rfl, rfl⟩ _
 refine ⟨⟨rfl, (by intro ob aP; simp only [List.mem_cons, List.not_mem_nil, or_false] at aP; rcases aP with rfl | rfl <;> rfl), .inl rfl⟩, ?_⟩
 refine .an ?_
 refine aa.nil (ae.ret ?_)
 exact ⟨_, _, rfl, rfl, rfl, rfl⟩
set_option maxRecDepth 4000 in
set_option maxHeartbeats 1000000 in
theorem ez {gl : List Gate} (ox : gl.length ≤ 100000000) : al Try.prog 178 [.ptr 0 0 0 0] [.cells [.aY 1 3 0 gl.length], .rows 3 (gl.map Gate.row)] [0] (fun r o => r = (.v (.int .i64 (gl.length : Int))) ∧ o = [.cells [.aY 1 3 0 ((gl ++ [(⟨1, 0, 0⟩ : Gate)]).length)], .rows 3 ((gl ++ [(⟨1, 0, 0⟩ : Gate)]).map Gate.row)]) := by
 refine al.of Try.func178 rfl rfl rfl (n := 5) ah (Nat.le_of_ble_eq_true rfl) (ae.sr ?_)
 refine .an ?_
 refine aa.nil (ae.sr ?_)
 refine .mv ?_
 refine aa.bm [0, 1] [] oY (gx (gl := gl) (k := 1) (a := 0) (b := 0) om) rfl (.named rfl rfl (.ao rfl rfl (.ao rfl rfl (.ao rfl rfl .nil)))) ⟨rfl, rfl, trivial⟩ rfl ah (fun _ h => by cases h) (fun _ h => by cases h) ah ah ?_
 rintro r aD ⟨rfl, rfl⟩ _
 refine ⟨⟨rfl, (by intro ob aP; simp only [List.mem_cons, List.not_mem_nil, or_false] at aP; rcases aP with rfl | rfl <;> rfl), .inl rfl⟩, ?_⟩
 refine .an ?_
 refine aa.nil (ae.ret ?_)
 exact ⟨_, _, rfl, rfl, rfl, rfl⟩
open Go Go.AW Go.Proofs
set_option maxRecDepth 4000 in
set_option maxHeartbeats 1000000 in
theorem choose_spec {gl : List Gate} (ox : gl.length ≤ 90000000) {s v y n : Int} : al Try.prog 97 [.ptr 0 0 0 0, .v (.int .i64 s), .v (.int .i64 v), .v (.int .i64 y), .v (.int .i64 n)] [.cells [.aY 1 3 0 gl.length], .rows 3 (gl.map Gate.row)] [0] (fun r o => r = (.v (.int .i64 ((gl.length : Int) + 2))) ∧ o = [.cells [.aY 1 3 0 ((ub gl s v y n).length)], .rows 3 ((ub gl s v y n).map Gate.row)]) := by
 refine al.of Try.func97 rfl rfl rfl (n := 25) ah (Nat.le_of_ble_eq_true rfl) (ae.sr ?_)
 refine .an ?_
 refine aa.nil (ae.sr ?_)
 refine .mv ?_
 refine .mv ?_
 refine .mv ?_
 refine aa.bm [0, 1] [] pQ (fk (gl := gl) (a := s) (b := y) om) rfl (.named rfl rfl (.ao rfl rfl (.ao rfl rfl .nil))) ⟨rfl, rfl, trivial⟩ rfl ah (fun _ h => by cases h) (fun _ h => by cases h) ah ah ?_
 rintro r aD ⟨rfl, rfl⟩ _
 refine ⟨⟨rfl, (by intro ob aP; simp only [List.mem_cons, List.not_mem_nil, or_false] at aP; rcases aP with rfl | rfl <;> rfl), .inl rfl⟩, ?_⟩
 refine .an ?_
 refine aa.nil (ae.sr ?_)
 refine .mv ?_
 refine .mv ?_
 refine .mv ?_
 refine aa.bm [0, 1] [] pQ (fk (gl := gl ++ [(⟨5, s, y⟩ : Gate)]) (a := v) (b := n) aC) rfl (.named rfl rfl (.ao rfl rfl (.ao rfl rfl .nil))) ⟨rfl, rfl, trivial⟩ rfl ah (fun _ h => by cases h) (fun _ h => by cases h) ah ah ?_
 rintro r aD ⟨rfl, rfl⟩ _
 refine ⟨⟨rfl, (by intro ob aP; simp only [List.mem_cons, List.not_mem_nil, or_false] at aP; rcases aP with rfl | rfl <;> rfl), .inl rfl⟩, ?_⟩
 refine .an ?_
 refine aa.nil (ae.sr ?_)
 refine .mv ?_
 refine .mv ?_
 refine .mv ?_
 refine aa.bm [0, 1] [] sw (mG (gl := (gl ++ [(⟨5, s, y⟩ : Gate)]) ++ [(⟨5, v, n⟩ : Gate)]) (a := (gl.length : Int)) (b := (((gl ++ [(⟨5, s, y⟩ : Gate)]).length : Nat) : Int)) aC) rfl (.named rfl rfl (.ao rfl rfl (.ao rfl rfl .nil))) ⟨rfl, rfl, trivial⟩ rfl ah (fun _ h => by cases h) (fun _ h => by cases h) ah ah ?_
 rintro r aD ⟨rfl, rfl⟩ _
 refine ⟨⟨rfl, (by intro ob aP; simp only [List.mem_cons, List.not_mem_nil, or_false] at aP; rcases aP with rfl | rfl <;> rfl), .inl rfl⟩, ?_⟩
 refine .an ?_
 refine aa.nil (ae.ret ?_)
 exact ⟨_, _, rfl, rfl, z8 (fun (z0 : Int) => X.v (.int .i64 z0)) (by simp [Int.add_assoc]), by rw [← AI]; rfl⟩
set_option maxRecDepth 4000 in
set_option maxHeartbeats 1000000 in
theorem nv {c : Int} {gl : List Gate} (hg : Good gl) (ox : gl.length ≤ 50000000) {k t u : Int} {a b : List Int} {f h e : Nat → List Bool → Bool} (hk : 5 ≤ k ∧ k ≤ 7) (ha : Ws c gl a f t) (hb : Ws c gl b h t) (hl : a.length = b.length) (wa : a.length ≤ 1000) (hu : t + 20 ≤ u) (he : ∀ i ins, e i ins = if k = 5 then (f i ins && h i ins) else if k = 6 then (f i ins || h i ins) else (f i ins ^^ h i ins)) : al Try.prog 128 [.ptr 0 0 0 0, .v (.int .i64 k), .fz 1 (a.map aq), .fz 1 (b.map aq)] [.cells [.aY 1 3 0 gl.length], .rows 3 (gl.map Gate.row)] [0] (fun r o => ∃ (l : List Gate) (out : List Int), Ext gl l ∧ l.length ≤ gl.length + a.length ∧ out.length = a.length ∧ Ws c l out e u ∧ r = .di 1 (out.map aq) ∧ o = [.cells [.aY 1 3 0 l.length], .rows 3 (l.map Gate.row)]) := by
 refine al.of Try.func128 rfl rfl rfl (n := 32) ah (Nat.le_of_ble_eq_true rfl) (ae.sr ?_)
 refine .an ?_
 refine aa.nil (ae.sr ?_)
 refine .an ?_
 refine aa.sh (Sh.nil (d := 9) 109 1 rfl ah) (aa.nil (ae.seq ?_))
 refine ae.sr ?_
 refine .mv ?_
 refine .vl (Y.qw (n := a.length) a8 rfl (congrArg some (List.length_map ..))) ?_
 refine .mv ?_
 refine aa.nil (ae.block ?_)
 refine ae.eW (fun (gE : Nat) (aI : List Gate) (jL : List Int) => ⟨[(0, .ptr 0 0 0 0), (1, .v (.int .i64 k)), (2, .fz 1 (a.map aq)), (3, .fz 1 (b.map aq)), (9, .aY 109 1 0 jL.length), (12, .v (.int .i64 (a.length : Int))), (13, .v (.int .i64 (gE : Int)))], [(0, .cells [.aY 1 3 0 aI.length]), (1, .rows 3 (aI.map Gate.row)), (109, .rows 1 (jL.map aq))]⟩) (fun (gE : Nat) (aI : List Gate) (jL : List Int) => ((gE : Int) ≤ (a.length : Int)) ∧ (s7 c gl aI jL e u gE)) (fun (gE : Nat) (aI : List Gate) (jL : List Int) => ((a.length : Int) - (gE : Int)).toNat) 0 gl ([] : List Int) (⟨pD, s7.init hg⟩) (Le.mk (.c (.c (.c (.c (.cons (aL rfl aC) (.c (.cons (ak rfl bg) (.nil)))))))) (.cons (aH rfl ig) (.c (.c (.nil))))) (fun gE aI jL pU => ?_)
 obtain ⟨Dy, hM⟩ := pU
 refine ae.sr (.vl (Y.zb rfl rfl) (aa.nil ?_))
 refine ae.seq ?_
 refine ae.ay rfl (fun ym => ?_) (fun ym => ?_)
 refine ae.skip (ae.seq (ae.block ?_))
 refine ae.sr ?_
 refine .mv ?_
 refine .an ?_
 refine aa.nil ?_
 have KG := hM.len; have oB := hM.ol
 refine ae.cC rfl (aR.blind 0 rfl aX (aJ.move rfl rfl) ah (aR.bj (n := 4) [1, 2, 3, 4, 5, 6, 7, 8, 9, 10] [11, 12, 13, 14] 11 rfl aX ?_))
 refine .cn 1 rfl (Y.zf rfl rfl) (.cn 2 rfl (Y.zf rfl rfl) (.cn 3 rfl (Y.zf rfl rfl) ?_))
 refine .cn 4 rfl (Y.zf rfl rfl) ?_
 refine .cn 5 rfl (Y.qr (m := gE) a8 rfl rfl bg (aw (d := 0) om)) ?_
 refine .cn 6 rfl (Y.qz aZ rfl rfl rfl rfl) (.cn 7 rfl (Y.zf rfl rfl) (.cn 8 rfl (Y.zf rfl rfl) ?_))
 refine .cn 9 rfl (Y.qr (m := gE) a8 rfl rfl bg (aw (d := 0) om)) ?_
 refine .cn 10 rfl (Y.qz aZ rfl rfl rfl rfl) (AQ.nil (aR.one 11 rfl aX ?_))
 refine aa.bm [0, 1] [] oY (gx (gl := aI) (k := k) (a := a.getD gE 0) (b := b.getD gE 0) om) rfl (.named rfl rfl (.ao rfl rfl (.ao rfl rfl (.ao rfl rfl .nil)))) ⟨rfl, rfl, trivial⟩ rfl ah (fun _ h => by cases h) (fun _ h => by cases h) ah ah ?_
 rintro r aD ⟨rfl, rfl⟩ _
 refine ⟨⟨rfl, (by intro ob aP; simp only [List.mem_cons, List.not_mem_nil, or_false] at aP; rcases aP with rfl | rfl <;> rfl), .inl rfl⟩, ?_⟩
 refine aa.nil ⟨rfl, ?_⟩
 refine aR.one 12 rfl aX ?_
 refine aa.buildSlice (([(aI.length : Int)] : List Int).map aq) a8 fv rfl rfl rfl rfl rfl (a9 (s := 1) (f := aq) (fun _ => rfl)) rfl rfl rfl ah ?_
 refine aa.nil ⟨rfl, ?_⟩
 refine aR.one 13 rfl aX ?_
 refine aa.bZ ((jL ++ ([(aI.length : Int)] : List Int)).map aq) (jL ++ ([(aI.length : Int)] : List Int)).length a8 fv rfl rfl rfl rfl (cb aC) (bE aC) (dg aC) aC aC ah ah ?_
 refine aa.nil ⟨rfl, ?_⟩
 refine aR.bj (n := 0) [14] [] 0 rfl aX (.cn 14 rfl (Y.qe rfl rfl) (AQ.nil ?_))
 refine aR.done aX (ae.region ?_)
 refine .vl (Y.qb rfl rfl aC) ?_
 refine .mv ?_
 refine aa.nil ?_
 exact ⟨gE + 1, aI ++ [(⟨k, a.getD gE 0, b.getD gE 0⟩ : Gate)], jL ++ ([(aI.length : Int)] : List Int), ⟨om, hM.two hk (ha.bit gE om) (hb.bit gE om) hu (he gE)⟩, om, Le.mk (.c (.c (.c (.c (.cons (aL rfl om) (.c (.cons (ak rfl bg) (.nil)))))))) (.cons (aH rfl ig) (.c (.c (.nil))))⟩
 refine ae.exit (ae.sr ?_)
 refine .mv ?_
 refine .an ?_
 refine aa.sh (Sh.cU (d := 8) (o := 109) rfl rfl (bn om) ah) ?_
 refine aa.nil (ae.ret ?_)
 exact ⟨_, _, rfl, rfl, _, _, hM.ext, by have := hM.len; omega, by have := hM.ol; omega, hM.ws, rfl, rfl⟩
set_option maxRecDepth 4000 in
set_option maxHeartbeats 1000000 in
theorem wb {c : Int} {gl : List Gate} (hg : Good gl) (ox : gl.length ≤ 50000000) {t : Int} {a : List Int} {f : Nat → List Bool → Bool} (ha : Ws c gl a f t) (wa : a.length ≤ 1000) : al Try.prog 177 [.ptr 0 0 0 0, .fz 1 (a.map aq)] [.cells [.aY 1 3 0 gl.length], .rows 3 (gl.map Gate.row)] [0] (fun r o => ∃ (l : List Gate) (out : List Int), Ext gl l ∧ l.length ≤ gl.length + a.length ∧ out.length = a.length ∧ Ws c l out (fun k ins => !f k ins) (t + 10) ∧ r = .di 1 (out.map aq) ∧ o = [.cells [.aY 1 3 0 l.length], .rows 3 (l.map Gate.row)]) := by
 refine al.of Try.func177 rfl rfl rfl (n := 22) ah (Nat.le_of_ble_eq_true rfl) (ae.sr ?_)
 refine .an ?_
 refine aa.nil (ae.sr ?_)
 refine .an ?_
 refine aa.sh (Sh.nil (d := 5) 105 1 rfl ah) (aa.nil (ae.seq ?_))
 refine ae.sr ?_
 refine .mv ?_
 refine .vl (Y.qw (n := a.length) a8 rfl (congrArg some (List.length_map ..))) ?_
 refine .mv ?_
 refine aa.nil (ae.block ?_)
 refine ae.eW (fun (kL : Nat) (aI : List Gate) (aQ : List Int) => ⟨[(0, .ptr 0 0 0 0), (5, .aY 105 1 0 aQ.length), (8, .fz 1 (a.map aq)), (9, .v (.int .i64 (a.length : Int))), (10, .v (.int .i64 (kL : Int)))], [(0, .cells [.aY 1 3 0 aI.length]), (1, .rows 3 (aI.map Gate.row)), (105, .rows 1 (aQ.map aq))]⟩) (fun (kL : Nat) (aI : List Gate) (aQ : List Int) => ((kL : Int) ≤ (a.length : Int)) ∧ (s7 c gl aI aQ (fun k ins => !f k ins) (t + 10) kL)) (fun (kL : Nat) (aI : List Gate) (aQ : List Int) => ((a.length : Int) - (kL : Int)).toNat) 0 gl ([] : List Int) (⟨pD, s7.init hg⟩) (Le.mk (.c (.cons (aL rfl aC) (.c (.c (.cons (ak rfl bg) (.nil)))))) (.cons (aH rfl ig) (.c (.c (.nil))))) (fun kL aI aQ pU => ?_)
 obtain ⟨Dy, hM⟩ := pU
 refine ae.sr (.vl (Y.zb rfl rfl) (aa.nil ?_))
 refine ae.seq ?_
 refine ae.ay rfl (fun Ck => ?_) (fun Ck => ?_)
 refine ae.skip (ae.seq (ae.block ?_))
 refine ae.sr ?_
 refine .vl (Y.qr (m := kL) a8 rfl rfl bg (aw (d := 0) om)) ?_
 refine .ld aZ ?_
 refine .an ?_
 refine aa.nil ?_
 have KG := hM.len; have oB := hM.ol
 refine ae.region ?_
 refine .mv ?_
 refine .mv ?_
 refine .mv ?_
 refine aa.bm [0, 1] [] rp (fV (gl := aI) (a := a.getD kL 0) om) rfl (.named rfl rfl (.ao rfl rfl .nil)) ⟨rfl, rfl, trivial⟩ rfl ah (fun _ h => by cases h) (fun _ h => by cases h) ah ah ?_
 rintro r aD ⟨rfl, rfl⟩ _
 refine ⟨⟨rfl, (by intro ob aP; simp only [List.mem_cons, List.not_mem_nil, or_false] at aP; rcases aP with rfl | rfl <;> rfl), .inl rfl⟩, ?_⟩
 refine aa.buildSlice (([(aI.length : Int)] : List Int).map aq) a8 fv rfl rfl rfl rfl rfl (a9 (s := 1) (f := aq) (fun _ => rfl)) rfl rfl rfl ah ?_
 refine aa.bZ ((aQ ++ ([(aI.length : Int)] : List Int)).map aq) (aQ ++ ([(aI.length : Int)] : List Int)).length a8 fv rfl rfl rfl rfl (cb aC) (bE aC) (dg aC) aC aC ah ah ?_
 refine .an ?_
 refine aa.nil (ae.region ?_)
 refine .vl (Y.qb rfl rfl aC) ?_
 refine .mv ?_
 refine aa.nil ?_
 exact ⟨kL + 1, aI ++ [(⟨4, a.getD kL 0, 0⟩ : Gate)], aQ ++ ([(aI.length : Int)] : List Int), ⟨om, hM.not ha om⟩, om, Le.mk (.c (.cons (aL rfl om) (.c (.c (.cons (ak rfl bg) (.nil)))))) (.cons (aH rfl ig) (.c (.c (.nil))))⟩
 refine ae.exit (ae.sr ?_)
 refine .mv ?_
 refine .an ?_
 refine aa.sh (Sh.cU (d := 4) (o := 105) rfl rfl (bn om) ah) ?_
 refine aa.nil (ae.ret ?_)
 exact ⟨_, _, rfl, rfl, _, _, hM.ext, by have := hM.len; omega, by have := hM.ol; omega, hM.ws, rfl, rfl⟩
open Go Go.AW Go.Proofs
set_option maxRecDepth 4000 in
set_option maxHeartbeats 1000000 in
theorem sG {c : Int} {gl : List Gate} (hg : Good gl) (ox : gl.length ≤ 50000000) {t : Int} {a : List Int} {f : Nat → List Bool → Bool} (ha : Ws c gl a f t) (wa : a.length ≤ 5000) (ht : 0 ≤ t) : al Try.prog 142 [.ptr 0 0 0 0, .fz 1 (a.map aq)] [.cells [.aY 1 3 0 gl.length], .rows 3 (gl.map Gate.row)] [0] (fun r o => ∃ (l : List Gate) (x : Int), Ext gl l ∧ l.length ≤ gl.length + a.length + 1 ∧ Wr c l x (fun ins => gR (fun k => f k ins) a.length) (t + 20 * (bH a.length : Int)) ∧ r = .v (.int .i64 x) ∧ o = [.cells [.aY 1 3 0 l.length], .rows 3 (l.map Gate.row)]) := by
 refine al.of Try.func142 rfl rfl rfl (n := 53) ah (Nat.le_of_ble_eq_true rfl) (ae.sr ?_)
 refine .an ?_
 refine aa.nil (ae.seq (ae.sr ?_))
 refine .mv ?_
 refine .vl (Y.qw (n := a.length) a8 rfl (congrArg some (List.length_map ..))) (.vl (Y.qk rfl rfl) (aa.nil ?_))
 refine ae.ay rfl (fun c9 => ?_) (fun c9 => ?_)
 refine ae.sr ?_
 refine .mv ?_
 refine aa.bm [0, 1] [] xL (ez (gl := gl) aC) rfl (.named rfl rfl .nil) ⟨rfl, rfl, trivial⟩ rfl ah (fun _ h => by cases h) (fun _ h => by cases h) ah ah ?_
 rintro r aD ⟨rfl, rfl⟩ _
 refine ⟨⟨rfl, (by intro ob aP; simp only [List.mem_cons, List.not_mem_nil, or_false] at aP; rcases aP with rfl | rfl <;> rfl), .inl rfl⟩, ?_⟩
 refine .an ?_
 refine aa.nil (ae.ret ?_)
 exact ⟨_, _, rfl, rfl, _, _, Ext.JF hg ah, by simp, (Wr.zero om).as fun ins => by rw [show a.length = 0 by omega]; rfl, rfl, rfl⟩
 refine ae.skip (ae.seq (ae.block ?_))
 refine ae.k0 (fun (fN : List Int) (aI : List Gate) => ⟨[(0, .ptr 0 0 0 0), (1, .fz 1 (fN.map aq))], [(0, .cells [.aY 1 3 0 aI.length]), (1, .rows 3 (aI.map Gate.row))]⟩) (fun (fN : List Int) (aI : List Gate) => (nn c gl f a.length t aI fN)) (fun (fN : List Int) (aI : List Gate) => fN.length) a gl (nn.init hg ha om) (Le.mk (.c (.c (.nil))) (.cons (aH rfl ig) (.c (.nil)))) (fun fN aI pU => ?_)
 have hI := pU
 refine ae.seq (ae.sr ?_)
 refine .mv ?_
 refine .vl (Y.qw (n := fN.length) a8 rfl (congrArg some (List.length_map ..))) (.vl (Y.qq rfl rfl) (aa.nil ?_))
 refine ae.ay rfl (fun ym => ?_) (fun ym => ?_)
 refine ae.skip (ae.block (ae.seq ?_))
 have v7 := hI.lo; have lH := hI.len; have QF := hI.ext.len; have hex : ∃ f t, Ws c aI fN f t := (by obtain ⟨f1, t1, h1, _⟩ := hI.ex; exact ⟨f1, t1, h1⟩)
 refine ae.region ?_
 refine .an ?_
 refine aa.sh (Sh.nil (d := 5) 105 1 rfl ah) (aa.nil (ae.seq ?_))
 refine ae.sr ?_
 refine .an ?_
 refine aa.nil (ae.block ?_)
 refine ae.eW (fun (nw : Nat) (gV : List Gate) (eS : List Int) => ⟨[(0, .ptr 0 0 0 0), (1, .fz 1 (fN.map aq)), (5, .aY 105 1 0 eS.length), (6, .v (.int .i64 (nw : Int)))], [(0, .cells [.aY 1 3 0 gV.length]), (1, .rows 3 (gV.map Gate.row)), (105, .rows 1 (eS.map aq))]⟩) (fun (nw : Nat) (gV : List Gate) (eS : List Int) => (ph c aI fN gV eS nw)) (fun (nw : Nat) (gV : List Gate) (eS : List Int) => fN.length - nw) 0 aI ([] : List Int) (ph.init hI.ext.dC) (Le.mk (.c (.c (.cons (aL rfl aC) (.cons (ak rfl bg) (.nil))))) (.cons (aH rfl ig) (.c (.c (.nil))))) (fun nw gV eS Ks => ?_)
 have hJ := Ks
 refine ae.seq (ae.seq ?_)
 have KH := hJ.hi
 refine ae.region ?_
 refine .mv ?_
 refine .vl (Y.qb rfl rfl aC) ?_
 refine .mv ?_
 refine .vl (Y.qw (n := fN.length) a8 rfl (congrArg some (List.length_map ..))) (.vl (Y.zb rfl rfl) (aa.nil ?_))
 refine ae.ay rfl (fun r5 => ?_) (fun r5 => ?_)
 refine ae.skip (ae.seq (ae.block ?_))
 have kT := hJ.len; have KL := hJ.nl; have KM := hJ.even
 refine ae.cC rfl (aR.blind 0 rfl aX (aJ.move rfl rfl) ah (aR.bj (n := 4) [1, 2, 3, 4, 5, 6, 7, 8, 9, 10] [11, 12, 13, 14] 11 rfl aX ?_))
 refine .cn 1 rfl (Y.zf rfl rfl) (.cn 2 rfl (Y.zf rfl rfl) (.cn 3 rfl (Y.zf rfl rfl) ?_))
 refine .cn 4 rfl (Y.qr (m := nw) a8 rfl rfl bg (aw (d := 0) om)) ?_
 refine .cn 5 rfl (Y.qz aZ rfl rfl rfl rfl) (.cn 6 rfl (Y.zf rfl rfl) (.cn 7 rfl (Y.zf rfl rfl) ?_))
 refine .cn 8 rfl (Y.qb rfl rfl om) ?_
 refine .cn 9 rfl (Y.qr (m := nw + 1) a8 rfl rfl bg (aw (d := 0) om)) ?_
 refine .cn 10 rfl (Y.qz aZ rfl rfl rfl rfl) (AQ.nil (aR.one 11 rfl aX ?_))
 refine aa.bm [0, 1] [] sw (mG (gl := gV) (a := fN.getD nw 0) (b := fN.getD (nw + 1) 0) om) rfl (.named rfl rfl (.ao rfl rfl (.ao rfl rfl .nil))) ⟨rfl, rfl, trivial⟩ rfl ah (fun _ h => by cases h) (fun _ h => by cases h) ah ah ?_
 rintro r aD ⟨rfl, rfl⟩ _
 refine ⟨⟨rfl, (by intro ob aP; simp only [List.mem_cons, List.not_mem_nil, or_false] at aP; rcases aP with rfl | rfl <;> rfl), .inl rfl⟩, ?_⟩
 refine aa.nil ⟨rfl, ?_⟩
 refine aR.one 12 rfl aX ?_
 refine aa.buildSlice (([(gV.length : Int)] : List Int).map aq) a8 fv rfl rfl rfl rfl rfl (a9 (s := 1) (f := aq) (fun _ => rfl)) rfl rfl rfl ah ?_
 refine aa.nil ⟨rfl, ?_⟩
 refine aR.one 13 rfl aX ?_
 refine aa.bZ ((eS ++ ([(gV.length : Int)] : List Int)).map aq) (eS ++ ([(gV.length : Int)] : List Int)).length a8 fv rfl rfl rfl rfl (cb aC) (bE aC) (dg aC) aC aC ah ah ?_
 refine aa.nil ⟨rfl, ?_⟩
 refine aR.bj (n := 0) [14] [] 0 rfl aX (.cn 14 rfl (Y.qe rfl rfl) (AQ.nil ?_))
 refine aR.done aX (ae.region ?_)
 refine .mv ?_
 refine .vl (Y.qb rfl rfl aC) ?_
 refine .an ?_
 refine aa.nil ?_
 exact ⟨nw + 2, gV ++ [(⟨6, fN.getD nw 0, fN.getD (nw + 1) 0⟩ : Gate)], eS ++ ([(gV.length : Int)] : List Int), hJ.step om hex, om, Le.mk (.c (.c (.cons (aL rfl aC) (.cons (ak rfl bg) (.nil))))) (.cons (aH rfl ig) (.c (.c (.nil))))⟩
 refine ae.exit ?_
 refine ae.jw (fun (fI : List Int) => ⟨[(0, .ptr 0 0 0 0), (5, .aY 105 1 0 fI.length)], [(0, .cells [.aY 1 3 0 gV.length]), (1, .rows 3 (gV.map Gate.row)), (105, .rows 1 (fI.map aq))]⟩) (fun (fI : List Int) => nn c gl f a.length t gV fI ∧ fI.length < fN.length) ?_ (fun fI rA => ?_)
 refine ae.seq ?_
 have kT := hJ.len; have KL := hJ.nl; have KM := hJ.even; have KH := hJ.hi
 refine ae.region ?_
 refine .mv ?_
 refine .vl (Y.qw (n := fN.length) a8 rfl (congrArg some (List.length_map ..))) ?_
 refine .vl (Y.zp rfl rfl om) ?_
 refine .vl (Y.qk rfl rfl) (aa.nil ?_)
 refine ae.ay rfl (fun nt => ?_) (fun nt => ?_)
 refine ae.region ?_
 refine .mv ?_
 refine .mv ?_
 refine .mv ?_
 refine .vl (Y.qw (n := fN.length) a8 rfl (congrArg some (List.length_map ..))) ?_
 refine .vl (Y.zx rfl rfl aC) ?_
 refine .vl (Y.qr (m := ((fN.length : Int) - 1).toNat) a8 rfl rfl om (aw (d := 0) om)) ?_
 refine .ld aZ ?_
 refine aa.buildSlice (([fN.getD (((fN.length : Int) - 1).toNat) 0] : List Int).map aq) a8 fv rfl rfl rfl rfl rfl (a9 (s := 1) (f := aq) (fun _ => rfl)) rfl rfl rfl ah ?_
 refine aa.bZ ((eS ++ ([fN.getD (((fN.length : Int) - 1).toNat) 0] : List Int)).map aq) (eS ++ ([fN.getD (((fN.length : Int) - 1).toNat) 0] : List Int)).length a8 fv rfl rfl rfl rfl (cb aC) (bE aC) (dg aC) aC aC ah ah ?_
 refine .an ?_
 refine aa.nil ?_
 exact ⟨eS ++ ([fN.getD (((fN.length : Int) - 1).toNat) 0] : List Int), by have hx := hI.GO hJ om om om; rw [show fN.length - 1 = ((fN.length : Int) - 1).toNat by omega] at hx; exact ⟨hx, by rw [List.length_append, List.length_singleton]; omega⟩, Le.mk (.c (.cons (aL rfl om) (.nil))) (.c (.c (.c (.nil))))⟩
 refine ae.skip ?_
 exact ⟨eS, ⟨hI.next hJ om om om, om⟩, Le.mk (.c (.cons (aL rfl om) (.nil))) (.c (.c (.c (.nil))))⟩
 refine ae.sh (Sh.cU (d := 5) (o := 105) rfl rfl (bn om) ah) ?_
 refine ae.sh (Sh.cq (d := 5) (fI.map aq) rfl jW (de.map bV)) (ae.region ?_)
 refine .mv ?_
 refine .an ?_
 refine aa.nil ?_
 exact ⟨fI, gV, rA.1, by have := rA.2; omega, Le.mk (.c (.c (.nil))) (.cons (aH rfl ig) (.c (.nil)))⟩
 refine ae.exit (ae.seq ?_)
 have v7 := hI.lo
 refine ae.region ?_
 refine .mv ?_
 refine .vl (Y.qr (m := 0) a8 rfl rfl bg (aw (d := 0) om)) ?_
 refine .ld aZ ?_
 refine .an ?_
 refine aa.nil (ae.ret ?_)
 exact ⟨_, _, rfl, rfl, _, _, hI.ext, by have := hI.len; omega, hI.done om, rfl, rfl⟩
open Go Go.AW Go.Proofs
set_option maxHeartbeats 1000000 in
theorem kM {l : List aN} (hl : l.length ≤ 8796093022208) : al Try.prog 198 [.fz 2 (l.map aN.row)] [] [] (fun r o => r = .di 2 (l.map aN.row) ∧ o = []) := by
 refine al.of Try.func198 rfl rfl rfl (n := 8) ah (Nat.le_of_ble_eq_true rfl) (ae.sr ?_)
 refine .an ?_
 refine aa.nil (ae.seq (ae.sr ?_))
 refine .mv ?_
 refine aa.BP cK rfl rfl ah (fun b4 AR => ?_)
 refine aa.nil ?_
 refine ae.cond rfl (fun c4 => ?_) (fun c4 => ?_)
 refine ae.sr ?_
 refine .an ?_
 refine aa.nil (ae.sh (Sh.pM (d := 2) 2 rfl) (ae.ret ?_))
 exact ⟨_, _, rfl, rfl, (z8 (fun (z0 : List aN) => X.di 2 (z0.map aN.row)) (by have := AR je; simpa using this : ([] : List aN) = l) : X.di 2 (([] : List aN).map aN.row) = X.di 2 (l.map aN.row)), rfl⟩
 refine ae.skip (ae.sr ?_)
 refine aa.buildSlice (([] : List aN).map aN.row) cK fD rfl rfl rfl rfl rfl (a9 (s := 2) (f := aN.row) (fun _ => rfl)) rfl rfl rfl ah ?_
 refine .mv ?_
 refine aa.sh (Sh.gj (d := 5) (n := ([] : List aN).length) 105 (([] : List aN).map aN.row) rfl jW (bn rfl) ah) ?_
 refine aa.oG ((([] : List aN) ++ l).map aN.row) (([] : List aN) ++ l).length cK fD rfl rfl rfl rfl (cb aC) (bE aC) (dg aC) aC aC ah ah ?_
 refine .an ?_
 refine aa.sh (Sh.cU (d := 2) (o := 105) rfl rfl (bn om) ah) ?_
 refine aa.nil (ae.ret ?_)
 exact ⟨_, _, rfl, rfl, (z8 (fun (z0 : List aN) => X.di 2 (z0.map aN.row)) (rfl : (([] : List aN) ++ l) = l) : X.di 2 ((([] : List aN) ++ l).map aN.row) = X.di 2 (l.map aN.row)), rfl⟩
set_option maxRecDepth 4000 in
set_option maxHeartbeats 1000000 in
theorem nS {c : Int} {gl : List Gate} (hg : Good gl) (ox : gl.length ≤ 40000000) {w : Nat} {t : Int} {a b : List Int} {A B : List Bool → BitVec w} (ha : Wd c gl a w A t) (hb : Wd c gl b w B t) (hw : 1 ≤ w ∧ w ≤ 64) (ht : 0 ≤ t) : al Try.prog 130 [.ptr 0 0 0 0, .fz 1 (a.map aq), .fz 1 (b.map aq)] [.cells [.aY 1 3 0 gl.length], .rows 3 (gl.map Gate.row)] [0] (fun r o => ∃ (l : List Gate) (x : Int), Ext gl l ∧ l.length ≤ gl.length + 200 ∧ Wr c l x (fun ins => decide (A ins ≠ B ins)) (t + 20 + 20 * (bH w : Int)) ∧ r = .v (.int .i64 x) ∧ o = [.cells [.aY 1 3 0 l.length], .rows 3 (l.map Gate.row)]) := by
 refine al.of Try.func130 rfl rfl rfl (n := 31) ah (Nat.le_of_ble_eq_true rfl) ?_
 have wa := ha.len; have EC := hb.len
 refine ae.sr ?_
 refine .an ?_
 refine aa.nil (ae.sr ?_)
 refine .an ?_
 refine aa.sh (Sh.nil (d := 7) 107 1 rfl ah) (aa.nil (ae.seq ?_))
 refine ae.sr ?_
 refine .mv ?_
 refine .vl (Y.qw (n := a.length) a8 rfl (congrArg some (List.length_map ..))) ?_
 refine .mv ?_
 refine aa.nil (ae.block ?_)
 refine ae.eW (fun (dz : Nat) (aI : List Gate) (gF : List Int) => ⟨[(0, .ptr 0 0 0 0), (1, .fz 1 (a.map aq)), (2, .fz 1 (b.map aq)), (7, .aY 107 1 0 gF.length), (10, .v (.int .i64 (a.length : Int))), (11, .v (.int .i64 (dz : Int)))], [(0, .cells [.aY 1 3 0 aI.length]), (1, .rows 3 (aI.map Gate.row)), (107, .rows 1 (gF.map aq))]⟩) (fun (dz : Nat) (aI : List Gate) (gF : List Int) => ((dz : Int) ≤ (a.length : Int)) ∧ (s7 c gl aI gF (fun k ins => (A ins).getLsbD k ^^ (B ins).getLsbD k) (t + 20) dz)) (fun (dz : Nat) (aI : List Gate) (gF : List Int) => ((a.length : Int) - (dz : Int)).toNat) 0 gl ([] : List Int) (⟨pD, s7.init hg⟩) (Le.mk (.c (.c (.c (.cons (aL rfl aC) (.c (.cons (ak rfl bg) (.nil))))))) (.cons (aH rfl ig) (.c (.c (.nil))))) (fun dz aI gF pU => ?_)
 obtain ⟨Dy, hM⟩ := pU
 refine ae.sr (.vl (Y.zb rfl rfl) (aa.nil ?_))
 refine ae.seq ?_
 refine ae.ay rfl (fun vp => ?_) (fun vp => ?_)
 refine ae.skip (ae.seq (ae.block ?_))
 refine ae.sr ?_
 refine .mv ?_
 refine .an ?_
 refine aa.nil ?_
 have KG := hM.len; have oB := hM.ol
 refine ae.cC rfl (aR.blind 0 rfl aX (aJ.move rfl rfl) ah (aR.bj (n := 4) [1, 2, 3, 4, 5, 6, 7, 8, 9] [10, 11, 12, 13] 10 rfl aX ?_))
 refine .cn 1 rfl (Y.zf rfl rfl) (.cn 2 rfl (Y.zf rfl rfl) (.cn 3 rfl (Y.zf rfl rfl) ?_))
 refine .cn 4 rfl (Y.qr (m := dz) a8 rfl rfl bg (aw (d := 0) om)) ?_
 refine .cn 5 rfl (Y.qz aZ rfl rfl rfl rfl) (.cn 6 rfl (Y.zf rfl rfl) (.cn 7 rfl (Y.zf rfl rfl) ?_))
 refine .cn 8 rfl (Y.qr (m := dz) a8 rfl rfl bg (aw (d := 0) om)) ?_
 refine .cn 9 rfl (Y.qz aZ rfl rfl rfl rfl) (AQ.nil (aR.one 10 rfl aX ?_))
 refine aa.bm [0, 1] [] qD (j2 (gl := aI) (a := a.getD dz 0) (b := b.getD dz 0) om) rfl (.named rfl rfl (.ao rfl rfl (.ao rfl rfl .nil))) ⟨rfl, rfl, trivial⟩ rfl ah (fun _ h => by cases h) (fun _ h => by cases h) ah ah ?_
 rintro r aD ⟨rfl, rfl⟩ _
 refine ⟨⟨rfl, (by intro ob aP; simp only [List.mem_cons, List.not_mem_nil, or_false] at aP; rcases aP with rfl | rfl <;> rfl), .inl rfl⟩, ?_⟩
 refine aa.nil ⟨rfl, ?_⟩
 refine aR.one 11 rfl aX ?_
 refine aa.buildSlice (([(aI.length : Int)] : List Int).map aq) a8 fv rfl rfl rfl rfl rfl (a9 (s := 1) (f := aq) (fun _ => rfl)) rfl rfl rfl ah ?_
 refine aa.nil ⟨rfl, ?_⟩
 refine aR.one 12 rfl aX ?_
 refine aa.bZ ((gF ++ ([(aI.length : Int)] : List Int)).map aq) (gF ++ ([(aI.length : Int)] : List Int)).length a8 fv rfl rfl rfl rfl (cb aC) (bE aC) (dg aC) aC aC ah ah ?_
 refine aa.nil ⟨rfl, ?_⟩
 refine aR.bj (n := 0) [13] [] 0 rfl aX (.cn 13 rfl (Y.qe rfl rfl) (AQ.nil ?_))
 refine aR.done aX (ae.region ?_)
 refine .vl (Y.qb rfl rfl aC) ?_
 refine .mv ?_
 refine aa.nil ?_
 exact ⟨dz + 1, aI ++ [(⟨7, a.getD dz 0, b.getD dz 0⟩ : Gate)], gF ++ ([(aI.length : Int)] : List Int), ⟨om, hM.two (k := 7) (f := fun k ins => (A ins).getLsbD k) (h := fun k ins => (B ins).getLsbD k) ah (ha.bit dz om) (hb.bit dz om) (Int.le_refl _) (fun ins => rfl)⟩, om, Le.mk (.c (.c (.c (.cons (aL rfl om) (.c (.cons (ak rfl bg) (.nil))))))) (.cons (aH rfl ig) (.c (.c (.nil))))⟩
 refine ae.exit (ae.seq ?_)
 refine ae.sh (Sh.cU (d := 7) (o := 107) rfl rfl (bn om) ah) ?_
 refine ae.sh (Sh.cq (d := 7) (gF.map aq) rfl jW (de.map bV)) ?_
 have KG := hM.len; have oB := hM.ol; have KN := hM.ext.dC
 refine ae.region ?_
 refine .mv ?_
 refine .mv ?_
 refine aa.bm [0, 1] [] BZ (sG (gl := aI) KN aC (a := gF) hM.ws aC aC) rfl (.named rfl rfl (.ao rfl rfl .nil)) ⟨rfl, rfl, trivial⟩ rfl ah (fun _ h => by cases h) (fun _ h => by cases h) ah ah ?_
 rintro r aD ⟨QG, QH, KO, MM, Hk, rfl, rfl⟩ _
 refine ⟨⟨rfl, (by intro ob aP; simp only [List.mem_cons, List.not_mem_nil, or_false] at aP; rcases aP with rfl | rfl <;> rfl), .inl rfl⟩, ?_⟩
 refine .an ?_
 refine aa.nil (ae.ret ?_)
 exact ⟨_, _, rfl, rfl, _, _, hM.ext.trans KO, om, (by rw [show gF.length = w by omega] at Hk; exact Hk.as fun ins => Dn), rfl, rfl⟩
open Go Go.AW Go.Proofs
set_option maxRecDepth 4000 in
set_option maxHeartbeats 1000000 in
theorem sH {c : Int} {gl : List Gate} (hg : Good gl) (ox : gl.length ≤ 50000000) {t : Int} {ps : List aN} {G P : Nat → List Bool → Bool} (hp : Wp c gl ps G P t) (hn : ps.length ≤ 64) : al Try.prog 195 [.ptr 0 0 0 0, .fz 2 (ps.map aN.row)] [.cells [.aY 1 3 0 gl.length], .rows 3 (gl.map Gate.row)] [0] (fun r o => ∃ (l : List Gate) (out : List aN), Ext gl l ∧ l.length ≤ gl.length + 1152 ∧ out.length = ps.length ∧ (∀ i, i < ps.length → Wr c l (out.getD i default).g (fun ins => ca (fun k => G k ins) (fun k => P k ins) 0 (i + 1) false) (t + 40 * (bH ps.length : Int))) ∧ r = .fz 2 (out.map aN.row) ∧ o = [.cells [.aY 1 3 0 l.length], .rows 3 (l.map Gate.row)]) := by
 refine al.of Try.func195 rfl rfl rfl (n := 78) ah (Nat.le_of_ble_eq_true rfl) (ae.sr ?_)
 refine .an ?_
 refine aa.nil (ae.sr ?_)
 refine .mv ?_
 refine aa.bd Cb (kM (l := ps) (om)) rfl (.ao rfl rfl .nil) ah rfl ?_
 refine aa.bh rfl ah (aa.sh (Sh.cq (d := 5) (ps.map aN.row) rfl jW (de.map aN.cM)) (aa.nil ?_))
 refine ae.seq (ae.sr ?_)
 refine .an ?_
 refine aa.nil (ae.block ?_)
 refine ae.eW (fun (aQ : List aN) (fc : Nat) (aI : List Gate) => ⟨[(0, .ptr 0 0 0 0), (5, .fz 2 (aQ.map aN.row)), (6, .v (.int .i64 (fc : Int)))], [(0, .cells [.aY 1 3 0 aI.length]), (1, .rows 3 (aI.map Gate.row))]⟩) (fun (aQ : List aN) (fc : Nat) (aI : List Gate) => (∃ j, mC c gl G P t ps.length aI aQ fc j)) (fun (aQ : List aN) (fc : Nat) (aI : List Gate) => ps.length - fc) ps 1 gl (⟨0, mC.init hg hp⟩) (Le.mk (.c (.c (.cons (ak rfl bg) (.nil)))) (.cons (aH rfl ig) (.c (.nil)))) (fun aQ fc aI pU => ?_)
 have hI := pU
 refine ae.seq (ae.sr ?_)
 refine .mv ?_
 refine .mv ?_
 refine .vl (Y.qw (n := aQ.length) cK rfl (congrArg some (List.length_map ..))) (.vl (Y.zb rfl rfl) (aa.nil ?_))
 refine ae.ay rfl (fun pH => ?_) (fun pH => ?_)
 refine ae.skip (ae.seq (ae.block ?_))
 refine ae.seq ?_
 obtain ⟨j, hI⟩ := hI; have QI := hI.Dq; have oB := hI.ol; have KP := hI.len; have kT := hI.jl; have Iy : bH ps.length ≤ 6 := jJ om; have Pu : 3 * ps.length * j ≤ 1152 := Nat.le_trans (Nat.mul_le_mul_left _ kT) (Nat.mul_le_mul (show 3 * ps.length ≤ 192 by omega) Iy)
 refine ae.region ?_
 refine .mv ?_
 refine aa.bd Cb (kM (l := aQ) (om)) rfl (.ao rfl rfl .nil) ah rfl ?_
 refine aa.bh rfl ah (aa.sh (Sh.gj (d := 7) (n := aQ.length) 107 (aQ.map aN.row) rfl jW (bn rfl) ah) (aa.nil ?_))
 refine ae.seq (ae.sr ?_)
 refine .mv ?_
 refine .an ?_
 refine aa.nil (ae.block ?_)
 refine ae.eW (fun (bS : Nat) (eh : List Gate) (dh : List aN) => ⟨[(0, .ptr 0 0 0 0), (5, .fz 2 (aQ.map aN.row)), (6, .v (.int .i64 (fc : Int))), (7, .aY 107 2 0 aQ.length), (8, .v (.int .i64 (bS : Int)))], [(0, .cells [.aY 1 3 0 eh.length]), (1, .rows 3 (eh.map Gate.row)), (107, .rows 2 (dh.map aN.row))]⟩) (fun (bS : Nat) (eh : List Gate) (dh : List aN) => (dh.length = aQ.length) ∧ ((bS : Int) ≤ (aQ.length : Int)) ∧ (mD c aI G P t ps.length aQ fc j eh dh bS)) (fun (bS : Nat) (eh : List Gate) (dh : List aN) => ps.length - bS) fc aI aQ (⟨om, om, mD.init hI⟩) (Le.mk (.c (.c (.c (.c (.cons (ak rfl bg) (.nil)))))) (.cons (aH rfl ig) (.c (.c (.nil))))) (fun bS eh dh KQ => ?_)
 obtain ⟨Co, QJ, hJ⟩ := KQ
 refine ae.seq (ae.sr ?_)
 refine .mv ?_
 refine .mv ?_
 refine .vl (Y.qw (n := aQ.length) cK rfl (congrArg some (List.length_map ..))) (.vl (Y.zb rfl rfl) (aa.nil ?_))
 refine ae.ay rfl (fun zG => ?_) (fun zG => ?_)
 refine ae.skip ?_
 refine ae.ly (fun (ny : List Gate) (j3 : List aN) => ⟨[(0, .ptr 0 0 0 0), (5, .fz 2 (aQ.map aN.row)), (6, .v (.int .i64 (fc : Int))), (7, .aY 107 2 0 aQ.length), (8, .v (.int .i64 (bS : Int)))], [(0, .cells [.aY 1 3 0 ny.length]), (1, .rows 3 (ny.map Gate.row)), (107, .rows 2 (j3.map aN.row))]⟩) (fun (ny : List Gate) (j3 : List aN) => (j3.length = aQ.length) ∧ (mD c aI G P t ps.length aQ fc j ny j3 (bS + 1))) ?_ (fun ny j3 KR => ?_)
 refine ae.block (ae.seq ?_)
 have v7 := hJ.lo; have QK := hJ.len; have QL := hJ.nl
 refine ae.oe 13 rfl aX (aG.val (Y.zf rfl rfl) ah (aG.val (Y.zf rfl rfl) ah ?_))
 refine aG.val (Y.zf rfl rfl) ah ?_
 refine aG.val (Y.qr (m := bS) cK rfl rfl bg (aw (d := default) om)) ah ?_
 refine aG.val (Y.qo ia rfl rfl) ah (aG.val (Y.qz aZ rfl rfl rfl rfl) ah (aG.val (Y.zf rfl rfl) ah ?_))
 refine aG.val (Y.zf rfl rfl) ah (aG.val (Y.zf rfl rfl) ah ?_)
 refine aG.val (Y.zx rfl rfl om) ah ?_
 refine aG.val (Y.qr (m := ((bS : Int) - (fc : Int)).toNat) cK rfl rfl om (aw (d := default) om)) ah ?_
 refine aG.val (Y.qo iY rfl rfl) ah (aG.val (Y.qz aZ rfl rfl rfl rfl) ah (aG.nil ?_))
 refine aa.bm [0, 1] [] pQ (fk (gl := eh) (a := (aQ.getD bS default).p) (b := (aQ.getD (((bS : Int) - (fc : Int)).toNat) default).g) om) rfl (.named rfl rfl (.ao rfl rfl (.ao rfl rfl .nil))) ⟨rfl, rfl, trivial⟩ rfl ah (fun _ h => by cases h) (fun _ h => by cases h) ah ah ?_
 rintro r aD ⟨rfl, rfl⟩ _
 refine ⟨⟨rfl, (by intro ob aP; simp only [List.mem_cons, List.not_mem_nil, or_false] at aP; rcases aP with rfl | rfl <;> rfl), .inl rfl⟩, ?_⟩
 refine .an ?_
 refine aa.nil (ae.sr ?_)
 refine .mv ?_
 refine .mv ?_
 refine .mv ?_
 refine .mv ?_
 refine .mv ?_
 refine .vl (Y.qr (m := bS) cK rfl rfl bg (aw (d := default) om)) ?_
 refine .fa iY ?_
 refine .ld aZ ?_
 refine .mv ?_
 refine aa.bm [0, 1] [] sw (mG (gl := eh ++ [(⟨5, (aQ.getD bS default).p, (aQ.getD (((bS : Int) - (fc : Int)).toNat) default).g⟩ : Gate)]) (a := (aQ.getD bS default).g) (b := (eh.length : Int)) aC) rfl (.named rfl rfl (.ao rfl rfl (.ao rfl rfl .nil))) ⟨rfl, rfl, trivial⟩ rfl ah (fun _ h => by cases h) (fun _ h => by cases h) ah ah ?_
 rintro r aD ⟨rfl, rfl⟩ _
 refine ⟨⟨rfl, (by intro ob aP; simp only [List.mem_cons, List.not_mem_nil, or_false] at aP; rcases aP with rfl | rfl <;> rfl), .inl rfl⟩, ?_⟩
 refine .vl (Y.qs (m := bS) cK rfl rfl bg om) ?_
 refine .fa iY ?_
 refine aa.ky ((dh.set bS (⟨(((eh ++ [(⟨5, (aQ.getD bS default).p, (aQ.getD (((bS : Int) - (fc : Int)).toNat) default).g⟩ : Gate)]).length : Nat) : Int), (dh.getD bS default).p⟩ : aN)).map aN.row) cT rfl rfl rfl rfl rfl rfl rfl (aS (d := default) om) (Nat.le_of_ble_eq_true rfl) (g9 rfl) ?_
 refine aa.nil (ae.sr ?_)
 refine .mv ?_
 refine .mv ?_
 refine .vl (Y.zx rfl rfl aC) ?_
 refine .mv ?_
 refine .vl (Y.qp rfl rfl) (aa.nil ?_)
 refine ae.ay rfl (fun vo => ?_) (fun vo => ?_)
 refine ae.cC rfl (aR.blind 0 rfl aX (aJ.move rfl rfl) ah (aR.blind 1 rfl aX (aJ.move rfl rfl) ah ?_))
 refine aR.bj (n := 4) [2, 3, 4, 5, 6, 7, 8, 9, 10, 11, 12, 13, 14] [15, 16, 17, 18] 15 rfl aX (.cn 2 rfl (Y.zf rfl rfl) (.cn 3 rfl (Y.zf rfl rfl) ?_))
 refine .cn 4 rfl (Y.zf rfl rfl) ?_
 refine .cn 5 rfl (Y.qr (m := bS) cK rfl rfl bg (aw (d := default) om)) ?_
 refine .cn 6 rfl (Y.qo ia rfl rfl) (.cn 7 rfl (Y.qz aZ rfl rfl rfl rfl) (.cn 8 rfl (Y.zf rfl rfl) ?_))
 refine .cn 9 rfl (Y.zf rfl rfl) (.cn 10 rfl (Y.zf rfl rfl) ?_)
 refine .cn 11 rfl (Y.zx rfl rfl om) ?_
 refine .cn 12 rfl (Y.qr (m := ((bS : Int) - (fc : Int)).toNat) cK rfl rfl om (aw (d := default) om)) ?_
 refine .cn 13 rfl (Y.qo ia rfl rfl) (.cn 14 rfl (Y.qz aZ rfl rfl rfl rfl) (AQ.nil ?_))
 refine aR.one 15 rfl aX ?_
 refine aa.bm [0, 1] [] pQ (fk (gl := (eh ++ [(⟨5, (aQ.getD bS default).p, (aQ.getD (((bS : Int) - (fc : Int)).toNat) default).g⟩ : Gate)]) ++ [(⟨6, (aQ.getD bS default).g, (eh.length : Int)⟩ : Gate)]) (a := (aQ.getD bS default).p) (b := (aQ.getD (((bS : Int) - (fc : Int)).toNat) default).p) aC) rfl (.named rfl rfl (.ao rfl rfl (.ao rfl rfl .nil))) ⟨rfl, rfl, trivial⟩ rfl ah (fun _ h => by cases h) (fun _ h => by cases h) ah ah ?_
 rintro r aD ⟨rfl, rfl⟩ _
 refine ⟨⟨rfl, (by intro ob aP; simp only [List.mem_cons, List.not_mem_nil, or_false] at aP; rcases aP with rfl | rfl <;> rfl), .inl rfl⟩, ?_⟩
 refine aa.nil ⟨rfl, ?_⟩
 refine aR.bj (n := 1) [16, 17] [18] 18 rfl aX ?_
 refine .cn 16 rfl (Y.qs (m := bS) cK rfl rfl bg om) ?_
 refine .cn 17 rfl (Y.qo ia rfl rfl) (AQ.nil (aR.one 18 rfl aX ?_))
 refine aa.ky (((dh.set bS (⟨(((eh ++ [(⟨5, (aQ.getD bS default).p, (aQ.getD (((bS : Int) - (fc : Int)).toNat) default).g⟩ : Gate)]).length : Nat) : Int), (dh.getD bS default).p⟩ : aN)).set bS (⟨((dh.set bS (⟨(((eh ++ [(⟨5, (aQ.getD bS default).p, (aQ.getD (((bS : Int) - (fc : Int)).toNat) default).g⟩ : Gate)]).length : Nat) : Int), (dh.getD bS default).p⟩ : aN)).getD bS default).g, ((((eh ++ [(⟨5, (aQ.getD bS default).p, (aQ.getD (((bS : Int) - (fc : Int)).toNat) default).g⟩ : Gate)]) ++ [(⟨6, (aQ.getD bS default).g, (eh.length : Int)⟩ : Gate)]).length : Nat) : Int)⟩ : aN)).map aN.row) cT rfl rfl rfl rfl rfl rfl rfl (aS (d := default) aC) (Nat.le_of_ble_eq_true rfl) (g9 rfl) ?_
 refine aa.nil ⟨rfl, ?_⟩
 refine aR.done aX ?_
 exact ⟨((eh ++ [(⟨5, (aQ.getD bS default).p, (aQ.getD (((bS : Int) - (fc : Int)).toNat) default).g⟩ : Gate)]) ++ [(⟨6, (aQ.getD bS default).g, (eh.length : Int)⟩ : Gate)]) ++ [(⟨5, (aQ.getD bS default).p, (aQ.getD (((bS : Int) - (fc : Int)).toNat) default).p⟩ : Gate)], (dh.set bS (⟨(((eh ++ [(⟨5, (aQ.getD bS default).p, (aQ.getD (((bS : Int) - (fc : Int)).toNat) default).g⟩ : Gate)]).length : Nat) : Int), (dh.getD bS default).p⟩ : aN)).set bS (⟨((dh.set bS (⟨(((eh ++ [(⟨5, (aQ.getD bS default).p, (aQ.getD (((bS : Int) - (fc : Int)).toNat) default).g⟩ : Gate)]).length : Nat) : Int), (dh.getD bS default).p⟩ : aN)).getD bS default).g, ((((eh ++ [(⟨5, (aQ.getD bS default).p, (aQ.getD (((bS : Int) - (fc : Int)).toNat) default).g⟩ : Gate)]) ++ [(⟨6, (aQ.getD bS default).g, (eh.length : Int)⟩ : Gate)]).length : Nat) : Int)⟩ : aN), ⟨pD, by rw [List.set_set, show ((bS : Int) - (fc : Int)).toNat = bS - fc by omega]; (try rw [gC om]); exact mD.OM hI hJ om om rfl⟩, Le.mk (.c (.c (.c (.c (.c (.nil)))))) (.cons (aH rfl ig) (.c (.c (.nil))))⟩
 refine ae.skip ?_
 exact ⟨(eh ++ [(⟨5, (aQ.getD bS default).p, (aQ.getD (((bS : Int) - (fc : Int)).toNat) default).g⟩ : Gate)]) ++ [(⟨6, (aQ.getD bS default).g, (eh.length : Int)⟩ : Gate)], dh.set bS (⟨(((eh ++ [(⟨5, (aQ.getD bS default).p, (aQ.getD (((bS : Int) - (fc : Int)).toNat) default).g⟩ : Gate)]).length : Nat) : Int), (dh.getD bS default).p⟩ : aN), ⟨pD, by rw [show ((bS : Int) - (fc : Int)).toNat = bS - fc by omega]; exact mD.JK hI hJ om om⟩, Le.mk (.c (.c (.c (.c (.c (.nil)))))) (.cons (aH rfl ig) (.c (.c (.nil))))⟩
 obtain ⟨Hl, E7⟩ := KR
 refine ae.region ?_
 refine .mv ?_
 refine .vl (Y.qb rfl rfl aC) ?_
 refine .an ?_
 refine aa.nil ?_
 exact ⟨bS + 1, ny, j3, ⟨om, om, E7⟩, om, Le.mk (.c (.c (.c (.c (.cons (ak rfl bg) (.nil)))))) (.cons (aH rfl ig) (.c (.c (.nil))))⟩
 refine ae.exit ?_
 refine ae.sh (Sh.cU (d := 7) (o := 107) rfl rfl (bn om) ah) ?_
 refine ae.sh (Sh.cq (d := 7) (dh.map aN.row) rfl jW (de.map aN.cM)) (ae.region ?_)
 refine .mv ?_
 refine .an ?_
 refine aa.nil (ae.region ?_)
 refine .mv ?_
 refine .vl (Y.zh rfl rfl om) ?_
 refine .an ?_
 refine aa.nil ?_
 exact ⟨dh, fc * 2, eh, ⟨j + 1, hI.pass om hJ om⟩, om, Le.mk (.c (.c (.cons (ak rfl bg) (.nil)))) (.cons (aH rfl ig) (.c (.nil)))⟩
 refine ae.exit (ae.sr ?_)
 refine .mv ?_
 refine .an ?_
 refine aa.nil (ae.ret ?_)
 obtain ⟨j, hI⟩ := hI; have oB := hI.ol; have KP := hI.len; have kT := hI.jl; have Iy : bH ps.length ≤ 6 := jJ om; have Pu : 3 * ps.length * j ≤ 1152 := Nat.le_trans (Nat.mul_le_mul_left _ kT) (Nat.mul_le_mul (show 3 * ps.length ≤ 192 by omega) Iy); exact ⟨_, _, rfl, rfl, _, _, hI.ext, om, oB, fun i hi => hI.done om hi, rfl, rfl⟩
open Go Go.AW Go.Proofs
set_option maxRecDepth 4000 in
set_option maxHeartbeats 1000000 in
theorem sI {c : Int} {gl : List Gate} (hg : Good gl) (ox : gl.length ≤ 40000000) {t : Int} {x : Int} {ps : List aN} {G P : Nat → List Bool → Bool} {F0 : List Bool → Bool} (hp : Wp c gl ps G P t) (hx : Wr c gl x F0 t) (hn : 1 ≤ ps.length ∧ ps.length ≤ 64) : al Try.prog 176 [.ptr 0 0 0 0, .fz 2 (ps.map aN.row), .v (.int .i64 x)] [.cells [.aY 1 3 0 gl.length], .rows 3 (gl.map Gate.row)] [0] (fun r o => ∃ (l : List Gate) (out : List Int), Ext gl l ∧ l.length ≤ gl.length + 1216 ∧ out.length = ps.length ∧ Ws c l out (uc F0 G P) (t + 20 + 40 * (bH ps.length : Int)) ∧ r = .di 1 (out.map aq) ∧ o = [.cells [.aY 1 3 0 l.length], .rows 3 (l.map Gate.row)]) := by
 refine al.of Try.func176 rfl rfl rfl (n := 42) ah (Nat.le_of_ble_eq_true rfl) (ae.sr ?_)
 refine .an ?_
 refine aa.nil (ae.sr ?_)
 refine .mv ?_
 refine .mv ?_
 refine .mv ?_
 refine .vl (Y.qw (n := ps.length) cK rfl (congrArg some (List.length_map ..))) (.vl (Y.zw rfl rfl (Di (a := ps.length) (b := 1) (by first | omega | (simp; omega)))) ?_)
 refine .vl (Y.zt (l := 0) (h := ps.length - 1) cK rfl (.none _) (.some rfl) aC aC (by rw [List.drop_zero, ← List.map_take])) ?_
 refine aa.bm [0, 1] [] Gw (sH (gl := gl) (ps := ps.take (ps.length - 1)) hg om hp.take (by rw [List.length_take]; omega)) rfl (.named rfl rfl (.ao rfl rfl .nil)) ⟨rfl, rfl, trivial⟩ rfl ah (fun _ h => by cases h) (fun _ h => by cases h) ah ah ?_
 rintro r aD ⟨MN, yy, AX, MO, MP, KS, rfl, rfl⟩ _
 refine ⟨⟨rfl, (by intro ob aP; simp only [List.mem_cons, List.not_mem_nil, or_false] at aP; rcases aP with rfl | rfl <;> rfl), .inl rfl⟩, ?_⟩
 refine .an ?_
 refine aa.nil (ae.seq ?_)
 have QM : (ps.take (ps.length - 1)).length = ps.length - 1 := by rw [List.length_take]; omega
 refine ae.region ?_
 refine .mv ?_
 refine aa.buildSlice (([x] : List Int).map aq) a8 fv rfl rfl rfl rfl rfl (a9 (s := 1) (f := aq) (fun _ => rfl)) rfl rfl rfl ah ?_
 refine aa.bh rfl ah (aa.sh (Sh.gj (d := 8) (n := ([x] : List Int).length) 108 (([x] : List Int).map aq) rfl jW (bn rfl) ah) (aa.nil ?_))
 refine ae.seq (ae.sr ?_)
 refine .an ?_
 refine aa.nil (ae.block ?_)
 refine ae.eW (fun (j4 : Nat) (cL : List Gate) (jM : List Int) => ⟨[(0, .ptr 0 0 0 0), (1, .fz 2 (ps.map aN.row)), (7, .fz 2 (yy.map aN.row)), (8, .aY 108 1 0 jM.length), (9, .v (.int .i64 (j4 : Int)))], [(0, .cells [.aY 1 3 0 cL.length]), (1, .rows 3 (cL.map Gate.row)), (108, .rows 1 (jM.map aq))]⟩) (fun (j4 : Nat) (cL : List Gate) (jM : List Int) => ((j4 : Int) ≤ (ps.length : Int)) ∧ (ud c MN cL F0 G P (t + 20 + 40 * (bH ps.length : Int)) jM j4)) (fun (j4 : Nat) (cL : List Gate) (jM : List Int) => ps.length - j4) 1 MN ([x] : List Int) (⟨om, ud.init AX.dC ((hx.ext AX).late om)⟩) (Le.mk (.c (.c (.c (.cons (aL rfl om) (.cons (ak rfl bg) (.nil)))))) (.cons (aH rfl ig) (.c (.c (.nil))))) (fun j4 cL jM yn => ?_)
 obtain ⟨AR, hS⟩ := yn
 refine ae.seq (ae.sr ?_)
 refine .mv ?_
 refine .mv ?_
 refine .vl (Y.qw (n := ps.length) cK rfl (congrArg some (List.length_map ..))) (.vl (Y.zb rfl rfl) (aa.nil ?_))
 refine ae.ay rfl (fun lV => ?_) (fun lV => ?_)
 refine ae.skip (ae.seq (ae.block ?_))
 have Pv := hS.lo; have MQ := hS.len; have QN := hS.ol; have Pw := (hp.bit j4 om).2.ext AX; have MR := KS (j4 - 1) om; rw [show j4 - 1 + 1 = j4 by omega] at MR; have I8 := kG (show (ps.take (ps.length - 1)).length ≤ ps.length by omega)
 refine ae.cC rfl (aR.blind 0 rfl aX (aJ.move rfl rfl) ah (aR.bj (n := 4) [1, 2, 3, 4, 5, 6, 7, 8, 9, 10, 11, 12] [13, 14, 15, 16] 13 rfl aX ?_))
 refine .cn 1 rfl (Y.zf rfl rfl) (.cn 2 rfl (Y.zf rfl rfl) (.cn 3 rfl (Y.zf rfl rfl) ?_))
 refine .cn 4 rfl (Y.qr (m := j4) cK rfl rfl bg (aw (d := default) om)) ?_
 refine .cn 5 rfl (Y.qo ia rfl rfl) (.cn 6 rfl (Y.qz aZ rfl rfl rfl rfl) (.cn 7 rfl (Y.zf rfl rfl) ?_))
 refine .cn 8 rfl (Y.zf rfl rfl) ?_
 refine .cn 9 rfl (Y.zx rfl rfl om) ?_
 refine .cn 10 rfl (Y.qr (m := ((j4 : Int) - 1).toNat) cK rfl rfl aC (aw (d := default) aC)) ?_
 refine .cn 11 rfl (Y.qo iY rfl rfl) (.cn 12 rfl (Y.qz aZ rfl rfl rfl rfl) (AQ.nil ?_))
 refine aR.one 13 rfl aX ?_
 refine aa.bm [0, 1] [] qD (j2 (gl := cL) (a := (ps.getD j4 default).p) (b := (yy.getD (((j4 : Int) - 1).toNat) default).g) om) rfl (.named rfl rfl (.ao rfl rfl (.ao rfl rfl .nil))) ⟨rfl, rfl, trivial⟩ rfl ah (fun _ h => by cases h) (fun _ h => by cases h) ah ah ?_
 rintro r aD ⟨rfl, rfl⟩ _
 refine ⟨⟨rfl, (by intro ob aP; simp only [List.mem_cons, List.not_mem_nil, or_false] at aP; rcases aP with rfl | rfl <;> rfl), .inl rfl⟩, ?_⟩
 refine aa.nil ⟨rfl, ?_⟩
 refine aR.one 14 rfl aX ?_
 refine aa.buildSlice (([(cL.length : Int)] : List Int).map aq) a8 fv rfl rfl rfl rfl rfl (a9 (s := 1) (f := aq) (fun _ => rfl)) rfl rfl rfl ah ?_
 refine aa.nil ⟨rfl, ?_⟩
 refine aR.one 15 rfl aX ?_
 refine aa.bZ ((jM ++ ([(cL.length : Int)] : List Int)).map aq) (jM ++ ([(cL.length : Int)] : List Int)).length a8 fv rfl rfl rfl rfl (cb aC) (bE aC) (dg aC) aC aC ah ah ?_
 refine aa.nil ⟨rfl, ?_⟩
 refine aR.bj (n := 0) [16] [] 0 rfl aX (.cn 16 rfl (Y.qe rfl rfl) (AQ.nil ?_))
 refine aR.done aX (ae.region ?_)
 refine .mv ?_
 refine .vl (Y.qb rfl rfl aC) ?_
 refine .an ?_
 refine aa.nil ?_
 exact ⟨j4 + 1, cL ++ [(⟨7, (ps.getD j4 default).p, (yy.getD (((j4 : Int) - 1).toNat) default).g⟩ : Gate)], jM ++ ([(cL.length : Int)] : List Int), ⟨om, by rw [show ((j4 : Int) - 1).toNat = j4 - 1 by omega]; exact hS.step (t := t + 40 * (bH ps.length : Int)) (Pw.late om) (MR.late om) om⟩, om, Le.mk (.c (.c (.c (.cons (aL rfl om) (.cons (ak rfl bg) (.nil)))))) (.cons (aH rfl ig) (.c (.c (.nil))))⟩
 refine ae.exit (ae.sr ?_)
 refine .mv ?_
 refine .an ?_
 refine aa.sh (Sh.cU (d := 6) (o := 108) rfl rfl (bn om) ah) ?_
 refine aa.nil (ae.ret ?_)
 exact ⟨_, _, rfl, rfl, _, _, AX.trans hS.ext, by have := hS.len; omega, by have := hS.ol; omega, hS.ws, rfl, rfl⟩
open Go Go.AW Go.Proofs
set_option maxRecDepth 4000 in
set_option maxHeartbeats 1000000 in
theorem yz {c : Int} {gl : List Gate} (hg : Good gl) (ox : gl.length ≤ 30000000) {w : Nat} {t : Int} {a b : List Int} {A B : List Bool → BitVec w} (ha : Wd c gl a w A t) (hb : Wd c gl b w B t) (hw : 1 ≤ w ∧ w ≤ 64) (ht : 0 ≤ t) : al Try.prog 126 [.ptr 0 0 0 0, .fz 1 (a.map aq), .fz 1 (b.map aq)] [.cells [.aY 1 3 0 gl.length], .rows 3 (gl.map Gate.row)] [0] (fun r o => ∃ (l : List Gate) (out : List Int), Ext gl l ∧ l.length ≤ gl.length + 1500 ∧ Wd c l out w (fun ins => A ins + B ins) (t + 40 + 40 * (bH w : Int)) ∧ r = .di 1 (out.map aq) ∧ o = [.cells [.aY 1 3 0 l.length], .rows 3 (l.map Gate.row)]) := by
 refine al.of Try.func126 rfl rfl rfl (n := 48) ah (Nat.le_of_ble_eq_true rfl) ?_
 have wa := ha.len; have EC := hb.len
 refine ae.sr ?_
 refine .an ?_
 refine aa.nil (ae.sr ?_)
 refine .an ?_
 refine aa.sh (Sh.nil (d := 7) 107 2 rfl ah) (aa.nil (ae.seq ?_))
 refine ae.sr ?_
 refine .mv ?_
 refine .vl (Y.qw (n := a.length) a8 rfl (congrArg some (List.length_map ..))) ?_
 refine .mv ?_
 refine aa.nil (ae.block ?_)
 refine ae.eW (fun (dA : Nat) (aI : List Gate) (gF : List aN) => ⟨[(0, .ptr 0 0 0 0), (1, .fz 1 (a.map aq)), (2, .fz 1 (b.map aq)), (7, .aY 107 2 0 gF.length), (11, .v (.int .i64 (a.length : Int))), (12, .v (.int .i64 (dA : Int)))], [(0, .cells [.aY 1 3 0 aI.length]), (1, .rows 3 (aI.map Gate.row)), (107, .rows 2 (gF.map aN.row))]⟩) (fun (dA : Nat) (aI : List Gate) (gF : List aN) => ((dA : Int) ≤ (a.length : Int)) ∧ (rz c gl aI (fun k ins => (A ins).getLsbD k) (fun k ins => (B ins).getLsbD k) (t + 20) gF dA)) (fun (dA : Nat) (aI : List Gate) (gF : List aN) => ((a.length : Int) - (dA : Int)).toNat) 0 gl ([] : List aN) (⟨pD, rz.init hg⟩) (Le.mk (.c (.c (.c (.cons (aL rfl aC) (.c (.cons (ak rfl bg) (.nil))))))) (.cons (aH rfl ig) (.c (.c (.nil))))) (fun dA aI gF pU => ?_)
 obtain ⟨Dy, hT⟩ := pU
 refine ae.sr (.vl (Y.zb rfl rfl) (aa.nil ?_))
 refine ae.seq ?_
 refine ae.ay rfl (fun wC => ?_) (fun wC => ?_)
 refine ae.skip (ae.seq (ae.block ?_))
 refine ae.sr ?_
 refine .mv ?_
 refine .an ?_
 refine aa.nil (ae.seq ?_)
 have Hm := hT.len; have Hn := hT.pl
 refine ae.oe 9 rfl aX (aG.val (Y.zf rfl rfl) ah (aG.val (Y.zf rfl rfl) ah ?_))
 refine aG.val (Y.zf rfl rfl) ah ?_
 refine aG.val (Y.qr (m := dA) a8 rfl rfl bg (aw (d := 0) om)) ah ?_
 refine aG.val (Y.qz aZ rfl rfl rfl rfl) ah (aG.val (Y.zf rfl rfl) ah (aG.val (Y.zf rfl rfl) ah ?_))
 refine aG.val (Y.qr (m := dA) a8 rfl rfl bg (aw (d := 0) om)) ah ?_
 refine aG.val (Y.qz aZ rfl rfl rfl rfl) ah (aG.nil ?_)
 refine aa.bm [0, 1] [] pQ (fk (gl := aI) (a := a.getD dA 0) (b := b.getD dA 0) om) rfl (.named rfl rfl (.ao rfl rfl (.ao rfl rfl .nil))) ⟨rfl, rfl, trivial⟩ rfl ah (fun _ h => by cases h) (fun _ h => by cases h) ah ah ?_
 rintro r aD ⟨rfl, rfl⟩ _
 refine ⟨⟨rfl, (by intro ob aP; simp only [List.mem_cons, List.not_mem_nil, or_false] at aP; rcases aP with rfl | rfl <;> rfl), .inl rfl⟩, ?_⟩
 refine .an ?_
 refine aa.nil ?_
 have Hm := hT.len; have Hn := hT.pl
 refine ae.cC rfl (aR.blind 0 rfl aX (aJ.move rfl rfl) ah (aR.blind 1 rfl aX (aJ.move rfl rfl) ah ?_))
 refine aR.bj (n := 5) [2, 3, 4, 5, 6, 7, 8, 9, 10] [11, 12, 13, 14, 15] 11 rfl aX (.cn 2 rfl (Y.zf rfl rfl) (.cn 3 rfl (Y.zf rfl rfl) ?_))
 refine .cn 4 rfl (Y.zf rfl rfl) ?_
 refine .cn 5 rfl (Y.qr (m := dA) a8 rfl rfl bg (aw (d := 0) om)) ?_
 refine .cn 6 rfl (Y.qz aZ rfl rfl rfl rfl) (.cn 7 rfl (Y.zf rfl rfl) (.cn 8 rfl (Y.zf rfl rfl) ?_))
 refine .cn 9 rfl (Y.qr (m := dA) a8 rfl rfl bg (aw (d := 0) om)) ?_
 refine .cn 10 rfl (Y.qz aZ rfl rfl rfl rfl) (AQ.nil (aR.one 11 rfl aX ?_))
 refine aa.bm [0, 1] [] qD (j2 (gl := aI ++ [(⟨5, a.getD dA 0, b.getD dA 0⟩ : Gate)]) (a := a.getD dA 0) (b := b.getD dA 0) aC) rfl (.named rfl rfl (.ao rfl rfl (.ao rfl rfl .nil))) ⟨rfl, rfl, trivial⟩ rfl ah (fun _ h => by cases h) (fun _ h => by cases h) ah ah ?_
 rintro r aD ⟨rfl, rfl⟩ _
 refine ⟨⟨rfl, (by intro ob aP; simp only [List.mem_cons, List.not_mem_nil, or_false] at aP; rcases aP with rfl | rfl <;> rfl), .inl rfl⟩, ?_⟩
 refine aa.nil ⟨rfl, ?_⟩
 refine aR.bj (n := 3) [12] [13, 14, 15] 13 rfl aX (.cn 12 rfl (Y.qg uX fD rfl rfl rfl) (AQ.nil ?_))
 refine aR.one 13 rfl aX ?_
 refine aa.buildSlice (([(⟨(aI.length : Int), (((aI ++ [(⟨5, a.getD dA 0, b.getD dA 0⟩ : Gate)]).length : Nat) : Int)⟩ : aN)] : List aN).map aN.row) cK fD rfl rfl rfl rfl rfl (a9 (s := 2) (f := aN.row) (fun _ => rfl)) rfl rfl rfl ah ?_
 refine aa.nil ⟨rfl, ?_⟩
 refine aR.one 14 rfl aX ?_
 refine aa.bZ ((gF ++ ([(⟨(aI.length : Int), (((aI ++ [(⟨5, a.getD dA 0, b.getD dA 0⟩ : Gate)]).length : Nat) : Int)⟩ : aN)] : List aN)).map aN.row) (gF ++ ([(⟨(aI.length : Int), (((aI ++ [(⟨5, a.getD dA 0, b.getD dA 0⟩ : Gate)]).length : Nat) : Int)⟩ : aN)] : List aN)).length cK fD rfl rfl rfl rfl (cb aC) (bE aC) (dg aC) aC aC ah ah ?_
 refine aa.nil ⟨rfl, ?_⟩
 refine aR.bj (n := 0) [15] [] 0 rfl aX (.cn 15 rfl (Y.qe rfl rfl) (AQ.nil ?_))
 refine aR.done aX (ae.region ?_)
 refine .vl (Y.qb rfl rfl aC) ?_
 refine .mv ?_
 refine aa.nil ?_
 exact ⟨dA + 1, (aI ++ [(⟨5, a.getD dA 0, b.getD dA 0⟩ : Gate)]) ++ [(⟨7, a.getD dA 0, b.getD dA 0⟩ : Gate)], gF ++ ([(⟨(aI.length : Int), (((aI ++ [(⟨5, a.getD dA 0, b.getD dA 0⟩ : Gate)]).length : Nat) : Int)⟩ : aN)] : List aN), ⟨om, hT.step (ha.bit dA om) (hb.bit dA om) (Int.le_refl _) (Int.le_refl _)⟩, om, Le.mk (.c (.c (.c (.cons (aL rfl om) (.c (.cons (ak rfl bg) (.nil))))))) (.cons (aH rfl ig) (.c (.c (.nil))))⟩
 refine ae.exit (ae.seq ?_)
 refine ae.sh (Sh.cU (d := 7) (o := 107) rfl rfl (bn om) ah) ?_
 refine ae.sh (Sh.cq (d := 7) (gF.map aN.row) rfl jW (de.map aN.cM)) ?_
 have Hm := hT.len; have Hn := hT.pl; have Px := hT.wp.bit 0 om
 refine ae.region ?_
 refine .mv ?_
 refine .mv ?_
 refine .mv ?_
 refine .vl (Y.qr (m := 0) cK rfl rfl bg (aw (d := default) om)) ?_
 refine .fa ia ?_
 refine .ld aZ ?_
 refine aa.bm [0, 1] [] Ca (sI (gl := aI) (ps := gF) (x := (gF.getD 0 default).p) hT.ext.dC om hT.wp (F0 := fun ins => (A ins).getLsbD 0 ^^ (B ins).getLsbD 0) Px.2 ⟨om, om⟩) rfl (.named rfl rfl (.ao rfl rfl (.ao rfl rfl .nil))) ⟨rfl, rfl, trivial⟩ rfl ah (fun _ h => by cases h) (fun _ h => by cases h) ah ah ?_
 rintro r aD ⟨Py, Ho, DL, Hp, Hq, DM, rfl, rfl⟩ _
 refine ⟨⟨rfl, (by intro ob aP; simp only [List.mem_cons, List.not_mem_nil, or_false] at aP; rcases aP with rfl | rfl <;> rfl), .inl rfl⟩, ?_⟩
 refine aa.bh rfl ah (aa.nil (ae.ret ?_))
 exact ⟨_, _, rfl, rfl, _, _, hT.ext.trans DL, om, (sum_add om DM).late (by have := hT.pl; rw [show gF.length = w by omega]; omega), rfl, rfl⟩
set_option maxRecDepth 4000 in
set_option maxHeartbeats 1000000 in
theorem y0 {c : Int} {gl : List Gate} (hg : Good gl) (ox : gl.length ≤ 30000000) {w : Nat} {t : Int} {a b : List Int} {A B : List Bool → BitVec w} (ha : Wd c gl a w A t) (hb : Wd c gl b w B t) (hw : 1 ≤ w ∧ w ≤ 64) (ht : 0 ≤ t) : al Try.prog 127 [.ptr 0 0 0 0, .fz 1 (a.map aq), .fz 1 (b.map aq)] [.cells [.aY 1 3 0 gl.length], .rows 3 (gl.map Gate.row)] [0] (fun r o => ∃ (l : List Gate) (out : List Int), Ext gl l ∧ l.length ≤ gl.length + 1500 ∧ Wd c l out w (fun ins => A ins - B ins) (t + 50 + 40 * (bH w : Int)) ∧ r = .di 1 (out.map aq) ∧ o = [.cells [.aY 1 3 0 l.length], .rows 3 (l.map Gate.row)]) := by
 refine al.of Try.func127 rfl rfl rfl (n := 69) ah (Nat.le_of_ble_eq_true rfl) ?_
 have wa := ha.len; have EC := hb.len
 refine ae.sr ?_
 refine .an ?_
 refine aa.nil (ae.sr ?_)
 refine .mv ?_
 refine .mv ?_
 refine aa.bm [0, 1] [] Gv (wb (gl := gl) (a := b) hg om hb.ws om) rfl (.named rfl rfl (.ao rfl rfl .nil)) ⟨rfl, rfl, trivial⟩ rfl ah (fun _ h => by cases h) (fun _ h => by cases h) ah ah ?_
 rintro r aD ⟨MS, j5, y4, MT, MU, Hr, rfl, rfl⟩ _
 refine ⟨⟨rfl, (by intro ob aP; simp only [List.mem_cons, List.not_mem_nil, or_false] at aP; rcases aP with rfl | rfl <;> rfl), .inl rfl⟩, ?_⟩
 refine aa.bh rfl ah (aa.sh (Sh.cq (d := 7) (j5.map aq) rfl jW (de.map bV)) (aa.nil ?_))
 refine ae.sr ?_
 refine .an ?_
 refine aa.sh (Sh.nil (d := 8) 108 2 rfl ah) (aa.nil (ae.seq ?_))
 refine ae.sr ?_
 refine .mv ?_
 refine .vl (Y.qw (n := a.length) a8 rfl (congrArg some (List.length_map ..))) ?_
 refine .mv ?_
 refine aa.nil (ae.block ?_)
 refine ae.eW (fun (dB : Nat) (cL : List Gate) (lu : List aN) => ⟨[(0, .ptr 0 0 0 0), (1, .fz 1 (a.map aq)), (2, .fz 1 (b.map aq)), (7, .fz 1 (j5.map aq)), (8, .aY 108 2 0 lu.length), (16, .v (.int .i64 (a.length : Int))), (17, .v (.int .i64 (dB : Int)))], [(0, .cells [.aY 1 3 0 cL.length]), (1, .rows 3 (cL.map Gate.row)), (108, .rows 2 (lu.map aN.row))]⟩) (fun (dB : Nat) (cL : List Gate) (lu : List aN) => ((dB : Int) ≤ (a.length : Int)) ∧ (rz c MS cL (fun k ins => (A ins).getLsbD k) (fun k ins => !(B ins).getLsbD k) (t + 30) lu dB)) (fun (dB : Nat) (cL : List Gate) (lu : List aN) => ((a.length : Int) - (dB : Int)).toNat) 0 MS ([] : List aN) (⟨pD, rz.init y4.dC⟩) (Le.mk (.c (.c (.c (.c (.cons (aL rfl aC) (.c (.cons (ak rfl bg) (.nil)))))))) (.cons (aH rfl ig) (.c (.c (.nil))))) (fun dB cL lu yn => ?_)
 obtain ⟨AR, hT⟩ := yn
 refine ae.sr (.vl (Y.zb rfl rfl) (aa.nil ?_))
 refine ae.seq ?_
 refine ae.ay rfl (fun KT => ?_) (fun KT => ?_)
 refine ae.skip (ae.seq (ae.block ?_))
 refine ae.sr ?_
 refine .mv ?_
 refine .an ?_
 refine aa.nil (ae.seq ?_)
 have Hm := hT.len; have Hn := hT.pl
 refine ae.oe 9 rfl aX (aG.val (Y.zf rfl rfl) ah (aG.val (Y.zf rfl rfl) ah ?_))
 refine aG.val (Y.zf rfl rfl) ah ?_
 refine aG.val (Y.qr (m := dB) a8 rfl rfl bg (aw (d := 0) om)) ah ?_
 refine aG.val (Y.qz aZ rfl rfl rfl rfl) ah (aG.val (Y.zf rfl rfl) ah (aG.val (Y.zf rfl rfl) ah ?_))
 refine aG.val (Y.qr (m := dB) a8 rfl rfl bg (aw (d := 0) om)) ah ?_
 refine aG.val (Y.qz aZ rfl rfl rfl rfl) ah (aG.nil ?_)
 refine aa.bm [0, 1] [] pQ (fk (gl := cL) (a := a.getD dB 0) (b := j5.getD dB 0) om) rfl (.named rfl rfl (.ao rfl rfl (.ao rfl rfl .nil))) ⟨rfl, rfl, trivial⟩ rfl ah (fun _ h => by cases h) (fun _ h => by cases h) ah ah ?_
 rintro r aD ⟨rfl, rfl⟩ _
 refine ⟨⟨rfl, (by intro ob aP; simp only [List.mem_cons, List.not_mem_nil, or_false] at aP; rcases aP with rfl | rfl <;> rfl), .inl rfl⟩, ?_⟩
 refine .an ?_
 refine aa.nil ?_
 have Hm := hT.len; have Hn := hT.pl
 refine ae.cC rfl (aR.blind 0 rfl aX (aJ.move rfl rfl) ah (aR.blind 1 rfl aX (aJ.move rfl rfl) ah ?_))
 refine aR.bj (n := 5) [2, 3, 4, 5, 6, 7, 8, 9, 10] [11, 12, 13, 14, 15] 11 rfl aX (.cn 2 rfl (Y.zf rfl rfl) (.cn 3 rfl (Y.zf rfl rfl) ?_))
 refine .cn 4 rfl (Y.zf rfl rfl) ?_
 refine .cn 5 rfl (Y.qr (m := dB) a8 rfl rfl bg (aw (d := 0) om)) ?_
 refine .cn 6 rfl (Y.qz aZ rfl rfl rfl rfl) (.cn 7 rfl (Y.zf rfl rfl) (.cn 8 rfl (Y.zf rfl rfl) ?_))
 refine .cn 9 rfl (Y.qr (m := dB) a8 rfl rfl bg (aw (d := 0) om)) ?_
 refine .cn 10 rfl (Y.qz aZ rfl rfl rfl rfl) (AQ.nil (aR.one 11 rfl aX ?_))
 refine aa.bm [0, 1] [] qD (j2 (gl := cL ++ [(⟨5, a.getD dB 0, j5.getD dB 0⟩ : Gate)]) (a := a.getD dB 0) (b := j5.getD dB 0) aC) rfl (.named rfl rfl (.ao rfl rfl (.ao rfl rfl .nil))) ⟨rfl, rfl, trivial⟩ rfl ah (fun _ h => by cases h) (fun _ h => by cases h) ah ah ?_
 rintro r aD ⟨rfl, rfl⟩ _
 refine ⟨⟨rfl, (by intro ob aP; simp only [List.mem_cons, List.not_mem_nil, or_false] at aP; rcases aP with rfl | rfl <;> rfl), .inl rfl⟩, ?_⟩
 refine aa.nil ⟨rfl, ?_⟩
 refine aR.bj (n := 3) [12] [13, 14, 15] 13 rfl aX (.cn 12 rfl (Y.qg uX fD rfl rfl rfl) (AQ.nil ?_))
 refine aR.one 13 rfl aX ?_
 refine aa.buildSlice (([(⟨(cL.length : Int), (((cL ++ [(⟨5, a.getD dB 0, j5.getD dB 0⟩ : Gate)]).length : Nat) : Int)⟩ : aN)] : List aN).map aN.row) cK fD rfl rfl rfl rfl rfl (a9 (s := 2) (f := aN.row) (fun _ => rfl)) rfl rfl rfl ah ?_
 refine aa.nil ⟨rfl, ?_⟩
 refine aR.one 14 rfl aX ?_
 refine aa.bZ ((lu ++ ([(⟨(cL.length : Int), (((cL ++ [(⟨5, a.getD dB 0, j5.getD dB 0⟩ : Gate)]).length : Nat) : Int)⟩ : aN)] : List aN)).map aN.row) (lu ++ ([(⟨(cL.length : Int), (((cL ++ [(⟨5, a.getD dB 0, j5.getD dB 0⟩ : Gate)]).length : Nat) : Int)⟩ : aN)] : List aN)).length cK fD rfl rfl rfl rfl (cb aC) (bE aC) (dg aC) aC aC ah ah ?_
 refine aa.nil ⟨rfl, ?_⟩
 refine aR.bj (n := 0) [15] [] 0 rfl aX (.cn 15 rfl (Y.qe rfl rfl) (AQ.nil ?_))
 refine aR.done aX (ae.region ?_)
 refine .vl (Y.qb rfl rfl aC) ?_
 refine .mv ?_
 refine aa.nil ?_
 exact ⟨dB + 1, (cL ++ [(⟨5, a.getD dB 0, j5.getD dB 0⟩ : Gate)]) ++ [(⟨7, a.getD dB 0, j5.getD dB 0⟩ : Gate)], lu ++ ([(⟨(cL.length : Int), (((cL ++ [(⟨5, a.getD dB 0, j5.getD dB 0⟩ : Gate)]).length : Nat) : Int)⟩ : aN)] : List aN), ⟨om, hT.step ((ha.bit dB om).ext y4) (Hr.bit dB om) om om⟩, om, Le.mk (.c (.c (.c (.c (.cons (aL rfl om) (.c (.cons (ak rfl bg) (.nil)))))))) (.cons (aH rfl ig) (.c (.c (.nil))))⟩
 refine ae.exit (ae.seq ?_)
 have Hm := hT.len; have Hn := hT.pl; have a0 := (ha.bit 0 om).ext (y4.trans hT.ext); have b0 := (hb.bit 0 om).ext (y4.trans hT.ext); have n0 := (Hr.bit 0 om).ext hT.ext; have e1 := Ext.two (k := 7) hT.ext.dC ah a0 b0; have w1 := a0.xor (u := t + 30) b0 om om; have e2 := Ext.two (k := 6) e1.dC ah (a0.ext e1) (n0.ext e1); have w2 := (a0.ext e1).or (u := t + 30) (n0.ext e1) om om; have hq := (hT.wp.ext (e1.trans e2)).JL om w2
 refine ae.oe 7 rfl aX (aG.val (Y.zf rfl rfl) ah (aG.val (Y.zf rfl rfl) ah ?_))
 refine aG.val (Y.qr (m := 0) a8 rfl rfl bg (aw (d := 0) om)) ah ?_
 refine aG.val (Y.qz aZ rfl rfl rfl rfl) ah (aG.val (Y.zf rfl rfl) ah ?_)
 refine aG.val (Y.qr (m := 0) a8 rfl rfl bg (aw (d := 0) om)) ah ?_
 refine aG.val (Y.qz aZ rfl rfl rfl rfl) ah (aG.nil ?_)
 refine aa.bm [0, 1] [] qD (j2 (gl := cL) (a := a.getD 0 0) (b := b.getD 0 0) om) rfl (.named rfl rfl (.ao rfl rfl (.ao rfl rfl .nil))) ⟨rfl, rfl, trivial⟩ rfl ah (fun _ h => by cases h) (fun _ h => by cases h) ah ah ?_
 rintro r aD ⟨rfl, rfl⟩ _
 refine ⟨⟨rfl, (by intro ob aP; simp only [List.mem_cons, List.not_mem_nil, or_false] at aP; rcases aP with rfl | rfl <;> rfl), .inl rfl⟩, ?_⟩
 refine .an ?_
 refine aa.nil (ae.seq (ae.cC rfl ?_))
 refine aR.blind 0 rfl aX (aJ.move rfl rfl) ah (aR.bj (n := 4) [1, 2, 3, 4, 5, 6, 7] [8, 9, 10, 11] 8 rfl aX (.cn 1 rfl (Y.zf rfl rfl) ?_))
 refine .cn 2 rfl (Y.zf rfl rfl) ?_
 refine .cn 3 rfl (Y.qr (m := 0) a8 rfl rfl bg (aw (d := 0) om)) ?_
 refine .cn 4 rfl (Y.qz aZ rfl rfl rfl rfl) (.cn 5 rfl (Y.zf rfl rfl) ?_)
 refine .cn 6 rfl (Y.qr (m := 0) a8 rfl rfl bg (aw (d := 0) om)) ?_
 refine .cn 7 rfl (Y.qz aZ rfl rfl rfl rfl) (AQ.nil (aR.one 8 rfl aX ?_))
 refine aa.bm [0, 1] [] sw (mG (gl := cL ++ [(⟨7, a.getD 0 0, b.getD 0 0⟩ : Gate)]) (a := a.getD 0 0) (b := j5.getD 0 0) aC) rfl (.named rfl rfl (.ao rfl rfl (.ao rfl rfl .nil))) ⟨rfl, rfl, trivial⟩ rfl ah (fun _ h => by cases h) (fun _ h => by cases h) ah ah ?_
 rintro r aD ⟨rfl, rfl⟩ _
 refine ⟨⟨rfl, (by intro ob aP; simp only [List.mem_cons, List.not_mem_nil, or_false] at aP; rcases aP with rfl | rfl <;> rfl), .inl rfl⟩, ?_⟩
 refine aa.nil ⟨rfl, ?_⟩
 refine aR.bj (n := 1) [9, 10] [11] 11 rfl aX ?_
 refine .cn 9 rfl (Y.qs (m := 0) cK rfl rfl bg om) ?_
 refine .cn 10 rfl (Y.qo iY rfl rfl) (AQ.nil (aR.one 11 rfl aX ?_))
 refine aa.ky ((lu.set 0 (⟨(((cL ++ [(⟨7, a.getD 0 0, b.getD 0 0⟩ : Gate)]).length : Nat) : Int), (lu.getD 0 default).p⟩ : aN)).map aN.row) cT rfl rfl rfl rfl rfl rfl rfl (aS (d := default) om) (Nat.le_of_ble_eq_true rfl) (g9 rfl) ?_
 refine aa.nil ⟨rfl, ?_⟩
 refine aR.done aX (ae.seq ?_)
 refine ae.sh (Sh.cU (d := 8) (o := 108) rfl rfl (bn aC) ah) ?_
 refine ae.sh (Sh.cq (d := 8) ((lu.set 0 (⟨(((cL ++ [(⟨7, a.getD 0 0, b.getD 0 0⟩ : Gate)]).length : Nat) : Int), (lu.getD 0 default).p⟩ : aN)).map aN.row) rfl jW (de.map aN.cM)) (ae.region ?_)
 refine .mv ?_
 refine .mv ?_
 refine .mv ?_
 refine aa.bm [0, 1] [] Ca (sI (gl := (cL ++ [(⟨7, a.getD 0 0, b.getD 0 0⟩ : Gate)]) ++ [(⟨6, a.getD 0 0, j5.getD 0 0⟩ : Gate)]) (ps := lu.set 0 (⟨(((cL ++ [(⟨7, a.getD 0 0, b.getD 0 0⟩ : Gate)]).length : Nat) : Int), (lu.getD 0 default).p⟩ : aN)) (x := (cL.length : Int)) e2.dC aC hq (w1.ext e2) ⟨pD, pD⟩) rfl (.named rfl rfl (.ao rfl rfl (.ao rfl rfl .nil))) ⟨rfl, rfl, trivial⟩ rfl ah (fun _ h => by cases h) (fun _ h => by cases h) ah ah ?_
 rintro r aD ⟨QO, MV, KU, Hs, Ht, KV, rfl, rfl⟩ _
 refine ⟨⟨rfl, (by intro ob aP; simp only [List.mem_cons, List.not_mem_nil, or_false] at aP; rcases aP with rfl | rfl <;> rfl), .inl rfl⟩, ?_⟩
 refine aa.bh rfl ah (aa.nil (ae.ret ?_))
 exact ⟨_, _, rfl, rfl, _, _, (y4.trans hT.ext).trans ((e1.trans e2).trans KU), by simp only [List.length_append, List.length_singleton] at Hs; omega, (AL (by rw [List.length_set] at Ht; omega) KV).late (by rw [List.length_set, show lu.length = w by omega]; omega), rfl, rfl⟩
open Go Go.AW Go.Proofs
set_option maxRecDepth 4000 in
set_option maxHeartbeats 1000000 in
theorem la {c : Int} {gl : List Gate} (hg : Good gl) (ox : gl.length ≤ 40000000) {s : Bool} {w : Nat} {t : Int} {a b : List Int} {A B : List Bool → BitVec w} (ha : Wd c gl a w A t) (hb : Wd c gl b w B t) (hw : 1 ≤ w ∧ w ≤ 64) (ht : 0 ≤ t) : al Try.prog 131 [.ptr 0 0 0 0, .fz 1 (a.map aq), .fz 1 (b.map aq), .v (.bool s)] [.cells [.aY 1 3 0 gl.length], .rows 3 (gl.map Gate.row)] [0] (fun r o => ∃ (l : List Gate) (x : Int), Ext gl l ∧ l.length ≤ gl.length + 450 ∧ Wr c l x (fun ins => if s then (A ins).slt (B ins) else (A ins).ult (B ins)) (t + 30 + 40 * (bH w : Int)) ∧ r = .v (.int .i64 x) ∧ o = [.cells [.aY 1 3 0 l.length], .rows 3 (l.map Gate.row)]) := by
 refine al.of Try.func131 rfl rfl rfl (n := 120) ah (Nat.le_of_ble_eq_true rfl) ?_
 have wa := ha.len; have EC := hb.len
 refine ae.sr ?_
 refine .an ?_
 refine aa.nil (ae.sr ?_)
 refine .an ?_
 refine aa.sh (Sh.nil (d := 9) 109 2 rfl ah) (aa.nil (ae.seq ?_))
 refine ae.sr ?_
 refine .mv ?_
 refine .vl (Y.qw (n := a.length) a8 rfl (congrArg some (List.length_map ..))) ?_
 refine .mv ?_
 refine aa.nil (ae.block ?_)
 refine ae.eW (fun (ev : Nat) (aI : List Gate) (nz : List aN) => ⟨[(0, .ptr 0 0 0 0), (1, .fz 1 (a.map aq)), (2, .fz 1 (b.map aq)), (3, .v (.bool s)), (9, .aY 109 2 0 nz.length), (21, .v (.int .i64 (a.length : Int))), (22, .v (.int .i64 (ev : Int)))], [(0, .cells [.aY 1 3 0 aI.length]), (1, .rows 3 (aI.map Gate.row)), (109, .rows 2 (nz.map aN.row))]⟩) (fun (ev : Nat) (aI : List Gate) (nz : List aN) => ((ev : Int) ≤ (a.length : Int)) ∧ (pR c gl aI (fun k ins => (A ins).getLsbD k) (fun k ins => (B ins).getLsbD k) s w (t + 30) nz ev)) (fun (ev : Nat) (aI : List Gate) (nz : List aN) => ((a.length : Int) - (ev : Int)).toNat) 0 gl ([] : List aN) (⟨pD, pR.init hg⟩) (Le.mk (.c (.c (.c (.c (.cons (aL rfl aC) (.c (.cons (ak rfl bg) (.nil)))))))) (.cons (aH rfl ig) (.c (.c (.nil))))) (fun ev aI nz pU => ?_)
 obtain ⟨Dy, hL⟩ := pU
 refine ae.sr (.vl (Y.zb rfl rfl) (aa.nil ?_))
 refine ae.seq ?_
 refine ae.ay rfl (fun Cl => ?_) (fun Cl => ?_)
 refine ae.skip (ae.seq (ae.block ?_))
 refine ae.sr ?_
 refine .mv ?_
 refine .an ?_
 refine aa.nil (ae.seq (ae.fR rfl aX ?_))
 refine aG.val (Y.zf rfl rfl) ah (aG.val (Y.zf rfl rfl) ah ?_)
 refine aG.val (Y.qr (m := ev) a8 rfl rfl bg (aw (d := 0) om)) ah ?_
 refine aG.val (Y.qz aZ rfl rfl rfl rfl) ah (aG.val (Y.zf rfl rfl) ah (aG.val (Y.zf rfl rfl) ah ?_))
 refine aG.val (Y.qr (m := ev) a8 rfl rfl bg (aw (d := 0) om)) ah ?_
 refine aG.val (Y.qz aZ rfl rfl rfl rfl) ah (aG.val (Y.qe rfl rfl) ah (aG.val (Y.qe rfl rfl) ah ?_))
 refine aG.nil ?_
 refine ae.ly (fun (cX : Int) (dT : Int) => ⟨[(0, .ptr 0 0 0 0), (1, .fz 1 (a.map aq)), (2, .fz 1 (b.map aq)), (3, .v (.bool s)), (9, .aY 109 2 0 nz.length), (11, .v (.int .i64 cX)), (12, .v (.int .i64 dT)), (21, .v (.int .i64 (a.length : Int))), (22, .v (.int .i64 (ev : Int)))], [(0, .cells [.aY 1 3 0 aI.length]), (1, .rows 3 (aI.map Gate.row)), (109, .rows 2 (nz.map aN.row))]⟩) (fun (cX : Int) (dT : Int) => (cX = if s = true ∧ ev + 1 = a.length then b.getD ev 0 else a.getD ev 0) ∧ (dT = if s = true ∧ ev + 1 = a.length then a.getD ev 0 else b.getD ev 0)) ?_ (fun cX dT E7 => ?_)
 refine ae.sr ?_
 refine .mv ?_
 refine .mv ?_
 refine aa.split (d := 34) rfl (fun Ez => ?_) (fun Ez => ?_)
 refine .gw 34 (Y.zf rfl rfl) (.gw 34 (Y.zf rfl rfl) (.gw 34 (Y.qw (n := a.length) a8 rfl (congrArg some (List.length_map ..))) ?_))
 refine .gw 34 (Y.zx rfl rfl om) ?_
 refine .gw 34 (Y.qk rfl rfl) ?_
 refine .pk ?_
 refine aa.nil ?_
 refine ae.ay rfl (fun wc => ?_) (fun wc => ?_)
 refine ae.region ?_
 refine .mv ?_
 refine .mv ?_
 refine .an ?_
 refine .an ?_
 refine aa.nil ?_
 exact ⟨b.getD ev 0, a.getD ev 0, by grind, Le.mk (.c (.c (.c (.c (.c (.cons (ak rfl bg) (.cons (ak rfl bg) (.c (.c (.nil)))))))))) (.c (.c (.c (.nil))))⟩
 refine ae.skip ?_
 exact ⟨a.getD ev 0, b.getD ev 0, by grind, Le.mk (.c (.c (.c (.c (.c (.cons (ak rfl bg) (.cons (ak rfl bg) (.c (.c (.nil)))))))))) (.c (.c (.c (.nil))))⟩
 refine .gz 34 (.gz 34 (.gz 34 ?_))
 refine .gz 34 (.gz 34 ?_)
 refine .pk ?_
 refine aa.nil (ae.bY rfl (ae.skip ?_))
 exact ⟨a.getD ev 0, b.getD ev 0, by grind, Le.mk (.c (.c (.c (.c (.c (.cons (ak rfl bg) (.cons (ak rfl bg) (.c (.c (.nil)))))))))) (.c (.c (.c (.nil))))⟩
 refine ae.seq ?_
 have Pz := hL.len; have P2 := hL.pl; have wA := yi (s := s) (i := ev) ha hb om (E7.1.trans (by rw [wa])) (E7.2.trans (by rw [wa]))
 refine ae.region ?_
 refine .mv ?_
 refine .mv ?_
 refine .mv ?_
 refine aa.bm [0, 1] [] rp (fV (gl := aI) (a := cX) om) rfl (.named rfl rfl (.ao rfl rfl .nil)) ⟨rfl, rfl, trivial⟩ rfl ah (fun _ h => by cases h) (fun _ h => by cases h) ah ah ?_
 rintro r aD ⟨rfl, rfl⟩ _
 refine ⟨⟨rfl, (by intro ob aP; simp only [List.mem_cons, List.not_mem_nil, or_false] at aP; rcases aP with rfl | rfl <;> rfl), .inl rfl⟩, ?_⟩
 refine .mv ?_
 refine aa.bm [0, 1] [] pQ (fk (gl := aI ++ [(⟨4, cX, 0⟩ : Gate)]) (a := (aI.length : Int)) (b := dT) aC) rfl (.named rfl rfl (.ao rfl rfl (.ao rfl rfl .nil))) ⟨rfl, rfl, trivial⟩ rfl ah (fun _ h => by cases h) (fun _ h => by cases h) ah ah ?_
 rintro r aD ⟨rfl, rfl⟩ _
 refine ⟨⟨rfl, (by intro ob aP; simp only [List.mem_cons, List.not_mem_nil, or_false] at aP; rcases aP with rfl | rfl <;> rfl), .inl rfl⟩, ?_⟩
 refine .an ?_
 refine aa.nil (ae.region ?_)
 refine .mv ?_
 refine .mv ?_
 refine .mv ?_
 refine .mv ?_
 refine .mv ?_
 refine .mv ?_
 refine aa.bm [0, 1] [] qD (j2 (gl := (aI ++ [(⟨4, cX, 0⟩ : Gate)]) ++ [(⟨5, (aI.length : Int), dT⟩ : Gate)]) (a := cX) (b := dT) aC) rfl (.named rfl rfl (.ao rfl rfl (.ao rfl rfl .nil))) ⟨rfl, rfl, trivial⟩ rfl ah (fun _ h => by cases h) (fun _ h => by cases h) ah ah ?_
 rintro r aD ⟨rfl, rfl⟩ _
 refine ⟨⟨rfl, (by intro ob aP; simp only [List.mem_cons, List.not_mem_nil, or_false] at aP; rcases aP with rfl | rfl <;> rfl), .inl rfl⟩, ?_⟩
 refine aa.bm [0, 1] [] rp (fV (gl := ((aI ++ [(⟨4, cX, 0⟩ : Gate)]) ++ [(⟨5, (aI.length : Int), dT⟩ : Gate)]) ++ [(⟨7, cX, dT⟩ : Gate)]) (a := ((((aI ++ [(⟨4, cX, 0⟩ : Gate)]) ++ [(⟨5, (aI.length : Int), dT⟩ : Gate)]).length : Nat) : Int)) aC) rfl (.named rfl rfl (.ao rfl rfl .nil)) ⟨rfl, rfl, trivial⟩ rfl ah (fun _ h => by cases h) (fun _ h => by cases h) ah ah ?_
 rintro r aD ⟨rfl, rfl⟩ _
 refine ⟨⟨rfl, (by intro ob aP; simp only [List.mem_cons, List.not_mem_nil, or_false] at aP; rcases aP with rfl | rfl <;> rfl), .inl rfl⟩, ?_⟩
 refine .vl (Y.qg uX fD rfl rfl rfl) ?_
 refine aa.buildSlice (([(⟨(((aI ++ [(⟨4, cX, 0⟩ : Gate)]).length : Nat) : Int), (((((aI ++ [(⟨4, cX, 0⟩ : Gate)]) ++ [(⟨5, (aI.length : Int), dT⟩ : Gate)]) ++ [(⟨7, cX, dT⟩ : Gate)]).length : Nat) : Int)⟩ : aN)] : List aN).map aN.row) cK fD rfl rfl rfl rfl rfl (a9 (s := 2) (f := aN.row) (fun _ => rfl)) rfl rfl rfl ah ?_
 refine aa.bZ ((nz ++ ([(⟨(((aI ++ [(⟨4, cX, 0⟩ : Gate)]).length : Nat) : Int), (((((aI ++ [(⟨4, cX, 0⟩ : Gate)]) ++ [(⟨5, (aI.length : Int), dT⟩ : Gate)]) ++ [(⟨7, cX, dT⟩ : Gate)]).length : Nat) : Int)⟩ : aN)] : List aN)).map aN.row) (nz ++ ([(⟨(((aI ++ [(⟨4, cX, 0⟩ : Gate)]).length : Nat) : Int), (((((aI ++ [(⟨4, cX, 0⟩ : Gate)]) ++ [(⟨5, (aI.length : Int), dT⟩ : Gate)]) ++ [(⟨7, cX, dT⟩ : Gate)]).length : Nat) : Int)⟩ : aN)] : List aN)).length cK fD rfl rfl rfl rfl (cb aC) (bE aC) (dg aC) aC aC ah ah ?_
 refine .an ?_
 refine aa.nil (ae.region ?_)
 refine .vl (Y.qb rfl rfl aC) ?_
 refine .mv ?_
 refine aa.nil ?_
 exact ⟨ev + 1, (((aI ++ [(⟨4, cX, 0⟩ : Gate)]) ++ [(⟨5, (aI.length : Int), dT⟩ : Gate)]) ++ [(⟨7, cX, dT⟩ : Gate)]) ++ [(⟨4, ((((aI ++ [(⟨4, cX, 0⟩ : Gate)]) ++ [(⟨5, (aI.length : Int), dT⟩ : Gate)]).length : Nat) : Int), 0⟩ : Gate)], nz ++ ([(⟨(((aI ++ [(⟨4, cX, 0⟩ : Gate)]).length : Nat) : Int), (((((aI ++ [(⟨4, cX, 0⟩ : Gate)]) ++ [(⟨5, (aI.length : Int), dT⟩ : Gate)]) ++ [(⟨7, cX, dT⟩ : Gate)]).length : Nat) : Int)⟩ : aN)] : List aN), ⟨om, hL.step wA.1 wA.2 (Int.le_refl _) (fun ins => ⟨rfl, rfl⟩)⟩, om, Le.mk (.c (.c (.c (.c (.cons (aL rfl om) (.c (.cons (ak rfl bg) (.nil)))))))) (.cons (aH rfl ig) (.c (.c (.nil))))⟩
 refine ae.exit (ae.seq (ae.block ?_))
 refine ae.sh (Sh.cU (d := 9) (o := 109) rfl rfl (bn om) ah) ?_
 refine ae.sh (Sh.cq (d := 9) (nz.map aN.row) rfl jW (de.map aN.cM)) ?_
 have Pz := hL.len; have P2 := hL.pl
 refine ae.k0 (fun (bu : List aN) (jN : List Gate) => ⟨[(0, .ptr 0 0 0 0), (9, .fz 2 (bu.map aN.row))], [(0, .cells [.aY 1 3 0 jN.length]), (1, .rows 3 (jN.map Gate.row))]⟩) (fun (bu : List aN) (jN : List Gate) => (vj c aI (fun ins => if s then (A ins).slt (B ins) else (A ins).ult (B ins)) w (t + 30) jN bu)) (fun (bu : List aN) (jN : List Gate) => bu.length) nz aI (pR.tree (g0 := gl) om ((show ev = w by omega) ▸ hL)) (Le.mk (.c (.c (.nil))) (.cons (aH rfl ig) (.c (.nil)))) (fun bu jN Dz => ?_)
 have hI := Dz
 refine ae.seq (ae.sr ?_)
 refine .mv ?_
 refine .vl (Y.qw (n := bu.length) cK rfl (congrArg some (List.length_map ..))) (.vl (Y.qq rfl rfl) (aa.nil ?_))
 refine ae.ay rfl (fun pI => ?_) (fun pI => ?_)
 refine ae.skip (ae.block (ae.seq ?_))
 have KP := hI.len; have KW := hI.lo; have QP := hI.ext.len; have hex : ∃ G P t, Wp c jN bu G P t := (by obtain ⟨G1, P1, t1, h1, _⟩ := hI.ex; exact ⟨G1, P1, t1, h1⟩)
 refine ae.region ?_
 refine .an ?_
 refine aa.sh (Sh.nil (d := 14) 114 2 rfl ah) (aa.nil (ae.seq ?_))
 refine ae.sr ?_
 refine .an ?_
 refine aa.nil (ae.block ?_)
 refine ae.eW (fun (bw : Nat) (cx : List Gate) (cO : List aN) => ⟨[(0, .ptr 0 0 0 0), (9, .fz 2 (bu.map aN.row)), (14, .aY 114 2 0 cO.length), (15, .v (.int .i64 (bw : Int)))], [(0, .cells [.aY 1 3 0 cx.length]), (1, .rows 3 (cx.map Gate.row)), (114, .rows 2 (cO.map aN.row))]⟩) (fun (bw : Nat) (cx : List Gate) (cO : List aN) => (AJ c jN bu cx cO bw)) (fun (bw : Nat) (cx : List Gate) (cO : List aN) => bu.length - bw) 0 jN ([] : List aN) (AJ.init hI.ext.dC) (Le.mk (.c (.c (.cons (aL rfl aC) (.cons (ak rfl bg) (.nil))))) (.cons (aH rfl ig) (.c (.c (.nil))))) (fun bw cx cO KX => ?_)
 have hJ := KX
 refine ae.seq (ae.seq ?_)
 have KH := hJ.hi; have kT := hJ.len; have KL := hJ.nl; have KM := hJ.even
 refine ae.region ?_
 refine .mv ?_
 refine .vl (Y.qb rfl rfl aC) ?_
 refine .mv ?_
 refine .vl (Y.qw (n := bu.length) cK rfl (congrArg some (List.length_map ..))) (.vl (Y.zb rfl rfl) (aa.nil ?_))
 refine ae.ay rfl (fun wD => ?_) (fun wD => ?_)
 refine ae.skip (ae.seq (ae.block ?_))
 refine ae.seq ?_
 refine ae.r3 (⟨[(0, .ptr 0 0 0 0), (9, .fz 2 (bu.map aN.row)), (14, .aY 114 2 0 cO.length), (15, .v (.int .i64 (bw : Int))), (16, .ptr 116 0 0 0), (17, .ptr 117 0 0 0)], [(0, .cells [.aY 1 3 0 cx.length]), (1, .rows 3 (cx.map Gate.row)), (114, .rows 2 (cO.map aN.row)), (116, .cells [.v (.int .i64 ((bu.getD bw default).g)), .v (.int .i64 ((bu.getD bw default).p))]), (117, .cells [.v (.int .i64 ((bu.getD (bw + 1) default).g)), .v (.int .i64 ((bu.getD (bw + 1) default).p))])]⟩) rfl ?_ ?_
 refine bC.blind 0 rfl aX (aJ.move rfl rfl) ah (bC.blind 1 rfl aX (aJ.move rfl rfl) ah ?_)
 refine bC.blind 2 rfl aX (aJ.yj (m := bw) cK rfl rfl bg (aw (d := default) om)) ah ?_
 refine bC.yk 3 rfl aX xM rfl rfl rfl (Nat.le_of_ble_eq_true rfl) rfl rfl ah (bC.blind 4 rfl aX (aJ.move rfl rfl) ah (bC.blind 5 rfl aX (aJ.move rfl rfl) ah ?_))
 refine bC.blind 6 rfl aX (aJ.JP rfl rfl om) ah ?_
 refine bC.blind 7 rfl aX (aJ.yj (m := bw + 1) cK rfl rfl bg (aw (d := default) om)) ah ?_
 refine bC.yk 8 rfl aX xM rfl rfl rfl (Nat.le_of_ble_eq_true rfl) rfl rfl ah (bC.OR ?_)
 refine bU.two 9 10 rfl rfl aX ?_ ?_
 refine aa.alloc 116 fD rfl rfl ah ?_
 refine aa.nil ⟨rfl, ?_⟩
 refine bU.one 10 rfl aX (aa.alloc 117 fD rfl rfl ah ?_)
 refine aa.nil ⟨rfl, ?_⟩
 refine bU.one 11 rfl aX (aa.aj uY rfl rfl rfl rfl rfl rfl (Nat.le_of_ble_eq_true rfl) rfl ?_)
 refine aa.nil ⟨rfl, ?_⟩
 refine bU.one 12 rfl aX (aa.aj uY rfl rfl rfl rfl rfl rfl (Nat.le_of_ble_eq_true rfl) rfl ?_)
 refine aa.nil ⟨rfl, ?_⟩
 refine bU.done aX ?_
 exact Le.mk (.c (.c (.c (.c (.c (.c (.nil))))))) (.c (.c (.c (.c (.c (.nil))))))
 refine aa.alloc 117 fD rfl rfl ah ?_
 refine aa.nil ⟨rfl, ?_⟩
 refine bU.one 9 rfl aX (aa.alloc 116 fD rfl rfl ah ?_)
 refine aa.nil ⟨rfl, ?_⟩
 refine bU.one 11 rfl aX (aa.aj uY rfl rfl rfl rfl rfl rfl (Nat.le_of_ble_eq_true rfl) rfl ?_)
 refine aa.nil ⟨rfl, ?_⟩
 refine bU.one 12 rfl aX (aa.aj uY rfl rfl rfl rfl rfl rfl (Nat.le_of_ble_eq_true rfl) rfl ?_)
 refine aa.nil ⟨rfl, ?_⟩
 refine bU.done aX ?_
 exact Le.mk (.c (.c (.c (.c (.c (.c (.nil))))))) (.c (.c (.c (.c (.c (.nil))))))
 refine ae.sr ?_
 refine .mv ?_
 refine .fa ia ?_
 refine .ld aZ ?_
 refine .fa iY ?_
 refine .ld aZ ?_
 refine aa.bm [0, 1] [] pQ (fk (gl := cx) (a := (bu.getD (bw + 1) default).p) (b := (bu.getD bw default).g) om) rfl (.named rfl rfl (.ao rfl rfl (.ao rfl rfl .nil))) ⟨rfl, rfl, trivial⟩ rfl ah (fun _ h => by cases h) (fun _ h => by cases h) ah ah ?_
 rintro r aD ⟨rfl, rfl⟩ _
 refine ⟨⟨rfl, (by intro ob aP; simp only [List.mem_cons, List.not_mem_nil, or_false] at aP; rcases aP with rfl | rfl <;> rfl), .inl rfl⟩, ?_⟩
 refine .an ?_
 refine aa.nil (ae.sr ?_)
 refine .mv ?_
 refine .fa iY ?_
 refine .ld aZ ?_
 refine .mv ?_
 refine aa.bm [0, 1] [] sw (mG (gl := cx ++ [(⟨5, (bu.getD (bw + 1) default).p, (bu.getD bw default).g⟩ : Gate)]) (a := (bu.getD (bw + 1) default).g) (b := (cx.length : Int)) aC) rfl (.named rfl rfl (.ao rfl rfl (.ao rfl rfl .nil))) ⟨rfl, rfl, trivial⟩ rfl ah (fun _ h => by cases h) (fun _ h => by cases h) ah ah ?_
 rintro r aD ⟨rfl, rfl⟩ _
 refine ⟨⟨rfl, (by intro ob aP; simp only [List.mem_cons, List.not_mem_nil, or_false] at aP; rcases aP with rfl | rfl <;> rfl), .inl rfl⟩, ?_⟩
 refine .an ?_
 refine aa.nil (ae.region ?_)
 refine .mv ?_
 refine .mv ?_
 refine .mv ?_
 refine .fa ia ?_
 refine .ld aZ ?_
 refine .fa ia ?_
 refine .ld aZ ?_
 refine aa.bm [0, 1] [] pQ (fk (gl := (cx ++ [(⟨5, (bu.getD (bw + 1) default).p, (bu.getD bw default).g⟩ : Gate)]) ++ [(⟨6, (bu.getD (bw + 1) default).g, (cx.length : Int)⟩ : Gate)]) (a := (bu.getD (bw + 1) default).p) (b := (bu.getD bw default).p) aC) rfl (.named rfl rfl (.ao rfl rfl (.ao rfl rfl .nil))) ⟨rfl, rfl, trivial⟩ rfl ah (fun _ h => by cases h) (fun _ h => by cases h) ah ah ?_
 rintro r aD ⟨rfl, rfl⟩ _
 refine ⟨⟨rfl, (by intro ob aP; simp only [List.mem_cons, List.not_mem_nil, or_false] at aP; rcases aP with rfl | rfl <;> rfl), .inl rfl⟩, ?_⟩
 refine .vl (Y.qg uX fD rfl rfl rfl) ?_
 refine aa.buildSlice (([(⟨(((cx ++ [(⟨5, (bu.getD (bw + 1) default).p, (bu.getD bw default).g⟩ : Gate)]).length : Nat) : Int), ((((cx ++ [(⟨5, (bu.getD (bw + 1) default).p, (bu.getD bw default).g⟩ : Gate)]) ++ [(⟨6, (bu.getD (bw + 1) default).g, (cx.length : Int)⟩ : Gate)]).length : Nat) : Int)⟩ : aN)] : List aN).map aN.row) cK fD rfl rfl rfl rfl rfl (a9 (s := 2) (f := aN.row) (fun _ => rfl)) rfl rfl rfl ah ?_
 refine aa.bZ ((cO ++ ([(⟨(((cx ++ [(⟨5, (bu.getD (bw + 1) default).p, (bu.getD bw default).g⟩ : Gate)]).length : Nat) : Int), ((((cx ++ [(⟨5, (bu.getD (bw + 1) default).p, (bu.getD bw default).g⟩ : Gate)]) ++ [(⟨6, (bu.getD (bw + 1) default).g, (cx.length : Int)⟩ : Gate)]).length : Nat) : Int)⟩ : aN)] : List aN)).map aN.row) (cO ++ ([(⟨(((cx ++ [(⟨5, (bu.getD (bw + 1) default).p, (bu.getD bw default).g⟩ : Gate)]).length : Nat) : Int), ((((cx ++ [(⟨5, (bu.getD (bw + 1) default).p, (bu.getD bw default).g⟩ : Gate)]) ++ [(⟨6, (bu.getD (bw + 1) default).g, (cx.length : Int)⟩ : Gate)]).length : Nat) : Int)⟩ : aN)] : List aN)).length cK fD rfl rfl rfl rfl (cb aC) (bE aC) (dg aC) aC aC ah ah ?_
 refine .an ?_
 refine aa.nil (ae.region ?_)
 refine .mv ?_
 refine .vl (Y.qb rfl rfl aC) ?_
 refine .an ?_
 refine aa.nil ?_
 exact ⟨bw + 2, ((cx ++ [(⟨5, (bu.getD (bw + 1) default).p, (bu.getD bw default).g⟩ : Gate)]) ++ [(⟨6, (bu.getD (bw + 1) default).g, (cx.length : Int)⟩ : Gate)]) ++ [(⟨5, (bu.getD (bw + 1) default).p, (bu.getD bw default).p⟩ : Gate)], cO ++ ([(⟨(((cx ++ [(⟨5, (bu.getD (bw + 1) default).p, (bu.getD bw default).g⟩ : Gate)]).length : Nat) : Int), ((((cx ++ [(⟨5, (bu.getD (bw + 1) default).p, (bu.getD bw default).g⟩ : Gate)]) ++ [(⟨6, (bu.getD (bw + 1) default).g, (cx.length : Int)⟩ : Gate)]).length : Nat) : Int)⟩ : aN)] : List aN), hJ.step om hex, om, Le.mk (.c (.c (.cons (aL rfl om) (.cons (ak rfl bg) (.nil))))) (.cons (aH rfl ig) (.c (.c (.nil))))⟩
 refine ae.exit ?_
 refine ae.jw (fun (eK : List aN) => ⟨[(0, .ptr 0 0 0 0), (14, .aY 114 2 0 eK.length)], [(0, .cells [.aY 1 3 0 cx.length]), (1, .rows 3 (cx.map Gate.row)), (114, .rows 2 (eK.map aN.row))]⟩) (fun (eK : List aN) => vj c aI (fun ins => if s then (A ins).slt (B ins) else (A ins).ult (B ins)) w (t + 30) cx eK ∧ eK.length < bu.length) ?_ (fun eK Hu => ?_)
 refine ae.seq ?_
 have KH := hJ.hi; have kT := hJ.len; have KL := hJ.nl; have KM := hJ.even
 refine ae.region ?_
 refine .mv ?_
 refine .vl (Y.qw (n := bu.length) cK rfl (congrArg some (List.length_map ..))) ?_
 refine .vl (Y.zp rfl rfl om) ?_
 refine .vl (Y.qk rfl rfl) (aa.nil ?_)
 refine ae.ay rfl (fun KY => ?_) (fun KY => ?_)
 refine ae.region ?_
 refine .mv ?_
 refine .mv ?_
 refine .mv ?_
 refine .vl (Y.qw (n := bu.length) cK rfl (congrArg some (List.length_map ..))) ?_
 refine .vl (Y.zx rfl rfl aC) ?_
 refine .vl (Y.qr (m := ((bu.length : Int) - 1).toNat) cK rfl rfl om (aw (d := default) om)) ?_
 refine .vl (Y.za xM rfl rfl (Nat.le_of_ble_eq_true rfl) rfl rfl) ?_
 refine aa.buildSlice (([(bu.getD (((bu.length : Int) - 1).toNat) default)] : List aN).map aN.row) cK fD rfl rfl rfl rfl rfl (a9 (s := 2) (f := aN.row) (fun _ => rfl)) rfl rfl rfl ah ?_
 refine aa.bZ ((cO ++ ([(bu.getD (((bu.length : Int) - 1).toNat) default)] : List aN)).map aN.row) (cO ++ ([(bu.getD (((bu.length : Int) - 1).toNat) default)] : List aN)).length cK fD rfl rfl rfl rfl (cb aC) (bE aC) (dg aC) aC aC ah ah ?_
 refine .an ?_
 refine aa.nil ?_
 exact ⟨cO ++ ([(bu.getD (((bu.length : Int) - 1).toNat) default)] : List aN), by have hx := hI.GR hJ om om om; rw [show bu.length - 1 = ((bu.length : Int) - 1).toNat by omega] at hx; exact ⟨hx, by rw [List.length_append, List.length_singleton]; omega⟩, Le.mk (.c (.cons (aL rfl om) (.nil))) (.c (.c (.c (.nil))))⟩
 refine ae.skip ?_
 exact ⟨cO, ⟨hI.pass hJ om om om, om⟩, Le.mk (.c (.cons (aL rfl om) (.nil))) (.c (.c (.c (.nil))))⟩
 refine ae.sh (Sh.cU (d := 14) (o := 114) rfl rfl (bn om) ah) ?_
 refine ae.sh (Sh.cq (d := 14) (eK.map aN.row) rfl jW (de.map aN.cM)) (ae.region ?_)
 refine .mv ?_
 refine .an ?_
 refine aa.nil ?_
 exact ⟨eK, cx, Hu.1, by have := Hu.2; omega, Le.mk (.c (.c (.nil))) (.cons (aH rfl ig) (.c (.nil)))⟩
 refine ae.exit (ae.seq ?_)
 have KW := hI.lo; have KP := hI.len
 refine ae.region ?_
 refine .mv ?_
 refine .vl (Y.qr (m := 0) cK rfl rfl bg (aw (d := default) om)) ?_
 refine .fa iY ?_
 refine .ld aZ ?_
 refine .an ?_
 refine aa.nil (ae.ret ?_)
 exact ⟨_, _, rfl, rfl, _, _, hL.ext.trans hI.ext, by have := hL.len; omega, hI.done om, rfl, rfl⟩
open Go Go.AW Go.Proofs
structure VT (n : ab) : Prop where
 formed : bq n
 fit : Fit n
 acyclic : Acyclic n
 small : n.Small
 ej : n.cells.length ≤ 1000
 dO : n.ai.length ≤ 1000
 xW : ∀ c ∈ n.cells, c.args.length ≤ 200
 ve : n.eu.length ≤ 1000
 cJ : n.streams.length ≤ 1000
 GG : n.ins.length ≤ 1000
theorem bq.Hv {n : ab} (h : bq n) : ∀ w ∈ n.ai, cG w := fun w hw => by
 obtain ⟨i, hi, rfl⟩ := List.mem_iff_getElem.1 hw
 have := h.wide i (by rw [List.length_append]; omega)
 rw [List.getD_eq_getElem?_getD, List.getElem?_append_left hi, List.getElem?_eq_getElem hi] at this
 exact this
theorem VT.pG {n : ab} (h : VT n) {i : Nat} (hi : i < n.cells.length) : 0 ≤ pG n (n.cells.getD i default) ∧ pG n (n.cells.getD i default) ≤ 400 := Dj h.formed.Hv (h.xW _ (getD_in hi))
def n5 (at_ : List Int) (l : List Int) : Int := l.foldl (fun t w => max t (at_.getD w.toNat 0)) 0
theorem uu {a b l : List Int} (h : ∀ w ∈ l, a.getD w.toNat 0 = b.getD w.toNat 0) : n5 a l = n5 b l := by
 unfold n5
 have : ∀ (t : Int) (l : List Int), (∀ w ∈ l, a.getD w.toNat 0 = b.getD w.toNat 0) → l.foldl (fun t w => max t (a.getD w.toNat 0)) t = l.foldl (fun t w => max t (b.getD w.toNat 0)) t := by
  intro t l
  induction l generalizing t with
  | nil => intro _; rfl
  | cons x r ih =>
   intro h
   simp only [List.foldl_cons]
   rw [h x (List.mem_cons_self ..)]
   exact ih _ (fun w hw => h w (List.mem_cons_of_mem _ hw))
 exact this 0 l h
theorem jO {at_ l : List Int} {B : Int} (hB : 0 ≤ B) (h : ∀ w ∈ l, at_.getD w.toNat 0 ≤ B) : 0 ≤ n5 at_ l ∧ n5 at_ l ≤ B := by
 unfold n5
 have : ∀ (t : Int) (l : List Int), 0 ≤ t → t ≤ B → (∀ w ∈ l, at_.getD w.toNat 0 ≤ B) → 0 ≤ l.foldl (fun t w => max t (at_.getD w.toNat 0)) t ∧ l.foldl (fun t w => max t (at_.getD w.toNat 0)) t ≤ B := by
  intro t l
  induction l generalizing t with
  | nil => intro h0 h1 _; exact ⟨h0, h1⟩
  | cons x r ih =>
   intro h0 h1 h
   simp only [List.foldl_cons]
   have := h x (List.mem_cons_self ..)
   exact ih _ om om (fun w hw => h w (List.mem_cons_of_mem _ hw))
 exact this 0 l (Int.le_refl _) hB h
theorem AY {at_ l : List Int} {w : Int} (h : w ∈ l) : at_.getD w.toNat 0 ≤ n5 at_ l := by
 unfold n5
 have mono : ∀ (t : Int) (l : List Int), t ≤ l.foldl (fun t w => max t (at_.getD w.toNat 0)) t := by
  intro t l
  induction l generalizing t with
  | nil => exact Int.le_refl _
  | cons x r ih => simp only [List.foldl_cons]; have := ih (max t (at_.getD x.toNat 0)); omega
 have : ∀ (t : Int) (l : List Int), w ∈ l → at_.getD w.toNat 0 ≤ l.foldl (fun t w => max t (at_.getD w.toNat 0)) t := by
  intro t l
  induction l generalizing t with
  | nil => intro h; cases h
  | cons x r ih =>
   intro h
   simp only [List.foldl_cons]
   rcases List.mem_cons.1 h with rfl | h
   ·have := mono (max t (at_.getD w.toNat 0)) r; omega
   ·exact ih _ h
 exact this 0 l h
def py (n : ab) (at_ : List Int) (c : Cell) : Int := (if cH c.kind then n5 at_ c.args else 0) + pG n c
structure EH (n : ab) (at_ : List Int) : Prop where
 len : at_.length = n.ai.length
 eq : ∀ i w, cw n i w → at_.getD w.toNat 0 = py n at_ (n.cell i)
theorem Ord.lt {n : ab} {l : List Int} (ho : Ord n l) {i x : Int} (hi : 0 ≤ i ∧ i < n.cells.length) (hc : cH (n.cell i).kind) (hx : x ∈ (n.cell i).args) : ∃ j, cw n j x ∧ l.idxOf j < l.idxOf i := by
 obtain ⟨p, s, hl, hn⟩ := List.eq_append_cons_of_mem (ho.mem hi)
 obtain ⟨j, hj, hd⟩ := ho.lp p i s hl hc x hx
 refine ⟨j, hd, ?_⟩
 have h1 : l.idxOf i = p.length := by
  rw [hl, List.idxOf_append, if_neg hn]; simp
 have h2 : l.idxOf j = p.idxOf j := by rw [hl, List.idxOf_append, if_pos hj]
 rw [h1, h2]
 exact List.idxOf_lt_length_of_mem hj
theorem EH.bound {n : ab} {l a : List Int} (hv : VT n) (ho : Ord n l) (ha : EH n a) : ∀ i w, cw n i w → 0 ≤ a.getD w.toNat 0 ∧ a.getD w.toNat 0 ≤ 400 * ((l.idxOf i : Nat) + 1 : Int) := by
 have key : ∀ k : Nat, ∀ i w, cw n i w → l.idxOf i ≤ k → 0 ≤ a.getD w.toNat 0 ∧ a.getD w.toNat 0 ≤ 400 * ((l.idxOf i : Nat) + 1 : Int) := by
  intro k
  induction k with
  | zero =>
   intro i w hd hk
   rw [ha.eq i w hd]
   have h1 := hd.1
   have DN := hv.pG (i := i.toNat) om
   change 0 ≤ pG n (n.cell i) ∧ pG n (n.cell i) ≤ 400 at DN
   unfold py
   by_cases hc : cH (n.cell i).kind
   ·rw [if_pos hc]
    have := jO (at_ := a) (l := (n.cell i).args) (B := 0) om (fun x hx => by obtain ⟨j, _, h⟩ := ho.lt hd.1 hc hx; omega)
    omega
   ·rw [if_neg hc]; omega
  | succ k ih =>
   intro i w hd hk
   rw [ha.eq i w hd]
   have h1 := hd.1
   have DN := hv.pG (i := i.toNat) om
   change 0 ≤ pG n (n.cell i) ∧ pG n (n.cell i) ≤ 400 at DN
   unfold py
   by_cases hc : cH (n.cell i).kind
   ·rw [if_pos hc]
    have := jO (at_ := a) (l := (n.cell i).args) (B := 400 * (l.idxOf i : Int)) om (fun x hx => by
     obtain ⟨j, hj, h⟩ := ho.lt hd.1 hc hx
     have := (ih j x hj om).2
     omega)
    omega
   ·rw [if_neg hc]; omega
 exact fun i w hd => key _ i w hd (Nat.le_refl _)
theorem EH.ti {n : ab} {l a : List Int} (hv : VT n) (ho : Ord n l) (ha : EH n a) {w : Int} (hw : In w n.ai.length) : 0 ≤ a.getD w.toNat 0 ∧ a.getD w.toNat 0 ≤ 400000 := by
 obtain ⟨i, hi⟩ := hv.formed.kD hw
 have h := ha.bound hv ho i w hi
 have h1 : l.idxOf i < l.length := List.idxOf_lt_length_of_mem (ho.mem hi.1)
 have h2 := ho.len
 have h3 := hv.ej
 omega
open Go Go.AW Go.Proofs
theorem y5 {l : List Int} (hn : l.Nodup) {k : Nat} (hk : k < l.length) : l.idxOf (l.getD k 0) = k := by
 have hm : l.getD k 0 ∈ l := dr hk
 have h1 : l.idxOf (l.getD k 0) < l.length := List.idxOf_lt_length_of_mem hm
 have h2 : l.getD (l.idxOf (l.getD k 0)) 0 = l.getD k 0 := by
  rw [List.getD_eq_getElem?_getD, List.getElem?_eq_getElem h1]
  exact List.getElem_idxOf h1
 exact Classical.byContradiction fun e => e (pd hn h1 hk h2)
structure mH (n : ab) (l : List Int) (k : Nat) (out : List Int) : Prop where
 len : out.length = n.ai.length
 eq : ∀ i w, cw n i w → l.idxOf i < k → out.getD w.toNat 0 = py n out (n.cell i)
theorem mH.init {n : ab} {l : List Int} : mH n l 0 (List.replicate n.ai.length 0) := ⟨by simp, fun i w _ h => by omega⟩
theorem mH.skip {n : ab} {l out : List Int} {k : Nat} (ho : Ord n l) (h : mH n l k out) (hk : k < l.length) (h7 : (n.cell (l.getD k 0)).kind = 7) : mH n l (k + 1) out := by
 refine ⟨h.len, fun i w hd gK => ?_⟩
 rcases Nat.lt_or_ge (l.idxOf i) k with h1 | h1
 ·exact h.eq i w hd h1
 ·exfalso
  have hm := ho.mem hd.1
  have h2 : l.idxOf i < l.length := List.idxOf_lt_length_of_mem hm
  have h3 : l.getD (l.idxOf i) 0 = i := by
   rw [List.getD_eq_getElem?_getD, List.getElem?_eq_getElem h2]; exact List.getElem_idxOf h2
  rw [show l.idxOf i = k by omega] at h3
  rw [h3] at h7
  exact hd.2.1 h7
theorem mH.set {n : ab} {l out : List Int} {k : Nat} (hf : bq n) (ho : Ord n l) (h : mH n l k out) (hk : k < l.length) {w : Int} (hd : cw n (l.getD k 0) w) {v : Int} (hv : v = py n out (n.cell (l.getD k 0))) : mH n l (k + 1) (out.set w.toNat v) := by
 have hw := hf.iV hd
 unfold In at hw
 have hl := h.len
 have P3 := y5 ho.nd hk
 have other : ∀ j x, cw n j x → l.idxOf j < k → (out.set w.toNat v).getD x.toNat 0 = out.getD x.toNat 0 := by
  intro j x hx hj
  have P4 := hf.iV hx
  unfold In at P4
  rw [bJ, if_neg]
  intro e
  have : x = w := by omega
  subst this
  have := hf.unique hx hd
  rw [this] at hj; omega
 have args : ∀ i : Int, 0 ≤ i ∧ i < n.cells.length → l.idxOf i ≤ k → py n (out.set w.toNat v) (n.cell i) = py n out (n.cell i) := by
  intro i hi QQ
  unfold py
  by_cases hc : cH (n.cell i).kind
  ·rw [if_pos hc, if_pos hc]
   rw [uu (fun x hx => by obtain ⟨j, hj, h1⟩ := ho.lt hi hc hx; exact other j x hj om)]
  ·rw [if_neg hc, if_neg hc]
 refine ⟨by rw [List.length_set]; exact hl, fun i x hx gK => ?_⟩
 rw [args i hx.1 om]
 rcases Nat.lt_or_ge (l.idxOf i) k with h1 | h1
 ·rw [other i x hx h1]; exact h.eq i x hx h1
 ·have hm := ho.mem hx.1
  have h2 : l.idxOf i < l.length := List.idxOf_lt_length_of_mem hm
  have h3 : l.getD (l.idxOf i) 0 = i := by
   rw [List.getD_eq_getElem?_getD, List.getElem?_eq_getElem h2]; exact List.getElem_idxOf h2
  rw [show l.idxOf i = k by omega] at h3
  rw [← h3] at hx ⊢
  have e : x = w := hx.2.2.symm.trans hd.2.2
  subst e
  rw [bJ, if_pos ⟨rfl, om⟩]; exact hv
theorem mH.done {n : ab} {l out : List Int} {k : Nat} (ho : Ord n l) (h : mH n l k out) (hk : k = l.length) : EH n out :=
 ⟨h.len, fun i w hd => h.eq i w hd (by rw [hk]; exact List.idxOf_lt_length_of_mem (ho.mem hd.1))⟩
theorem mH.le {n : ab} {l out : List Int} {k : Nat} (hv : VT n) (ho : Ord n l) (h : mH n l k out) {i w : Int} (hd : cw n i w) (hi : l.idxOf i < k) : 0 ≤ out.getD w.toNat 0 ∧ out.getD w.toNat 0 ≤ 400 * ((l.idxOf i : Nat) + 1 : Int) := by
 have key : ∀ m : Nat, ∀ i w, cw n i w → l.idxOf i ≤ m → l.idxOf i < k → 0 ≤ out.getD w.toNat 0 ∧ out.getD w.toNat 0 ≤ 400 * ((l.idxOf i : Nat) + 1 : Int) := by
  intro m
  induction m with
  | zero =>
   intro i w hd hm hk
   rw [h.eq i w hd hk]
   have h1 := hd.1
   have DN := hv.pG (i := i.toNat) om
   change 0 ≤ pG n (n.cell i) ∧ pG n (n.cell i) ≤ 400 at DN
   unfold py
   by_cases hc : cH (n.cell i).kind
   ·rw [if_pos hc]
    have := jO (at_ := out) (l := (n.cell i).args) (B := 0) om (fun x hx => by obtain ⟨j, _, h⟩ := ho.lt hd.1 hc hx; omega)
    omega
   ·rw [if_neg hc]; omega
  | succ m ih =>
   intro i w hd hm hk
   rw [h.eq i w hd hk]
   have h1 := hd.1
   have DN := hv.pG (i := i.toNat) om
   change 0 ≤ pG n (n.cell i) ∧ pG n (n.cell i) ≤ 400 at DN
   unfold py
   by_cases hc : cH (n.cell i).kind
   ·rw [if_pos hc]
    have := jO (at_ := out) (l := (n.cell i).args) (B := 400 * (l.idxOf i : Int)) om (fun x hx => by
     obtain ⟨j, hj, h⟩ := ho.lt hd.1 hc hx
     have := (ih j x hj om om).2
     omega)
    omega
   ·rw [if_neg hc]; omega
 exact key _ i w hd (Nat.le_refl _) hi
theorem mH.jO {n : ab} {l out : List Int} {k : Nat} (hv : VT n) (ho : Ord n l) (h : mH n l k out) (hk : k < l.length) (hc : cH (n.cell (l.getD k 0)).kind) (m : Nat) : 0 ≤ n5 out ((n.cell (l.getD k 0)).args.take m) ∧ n5 out ((n.cell (l.getD k 0)).args.take m) ≤ 400000 := by
 refine Go.Proofs.Ytlimckldnjmabaa.jO om fun x hx => ?_
 have hr := ho.ti _ (dr hk)
 have IV := List.mem_of_mem_take hx
 obtain ⟨j, hj, h1⟩ := ho.lt hr hc IV
 rw [y5 ho.nd hk] at h1
 have h2 := (h.le hv ho hj h1).2
 have h3 := ho.len
 have h4 := hv.ej
 omega
open Go Go.AW Go.Proofs
def Port (k : Int) : Prop := k = 5 ∨ k = 6 ∨ k = 7
instance (w : Int) : Decidable (Port w) := by unfold Port; infer_instance
def KZ (c : Cell) : List (Int × Int) := if c.kind = 4 then [(c.args.getD 0 0, 100), (c.args.getD 1 0, 60)] else []
def Hw (c : Cell) : List (Int × Int) := if Port c.kind then c.args.map (fun w => (w, 20)) else []
def La (n : ab) (k : Nat) : List (Int × Int) := (n.cells.take k).flatMap KZ
def Hx (n : ab) (k : Nat) : List (Int × Int) := (n.cells.take k).flatMap Hw
def DO (n : ab) (k : Nat) : Bool := (n.cells.take k).any (fun c => decide (c.kind = 4))
def AZ (n : ab) (k : Nat) : Bool := (n.cells.take k).any (fun c => decide (Port c.kind))
def Lb (l : List Int) (k : Nat) : List (Int × Int) := ((l.take k).filter (fun w => decide (w ≥ 0))).map (fun w => (w, 0))
abbrev rest (n : ab) : List Int := (([[n.done], n.eu, n.bW, n.data] : List (List Int)).flatten)
def Hy (n : ab) (b : Bool) (v : Int) : List (Int × Int) := if b then [(n.freeze, v)] else []
def Lc (n : ab) : List (Int × Int) := Hx n n.cells.length ++ Hy n (AZ n n.cells.length) 20 ++ Lb (rest n) (rest n).length
def Hz (n : ab) : List (Int × Int) := La n n.cells.length ++ Hy n (DO n n.cells.length) 100 ++ Lc n
section
variable {n : ab} {k : Nat}
end
def Ld (at_ : List Int) (s : Int × Int) (e : Int × Int) : Int × Int := if s.2 < 0 ∨ at_.getD e.1.toNat 0 + e.2 > s.1 then (at_.getD e.1.toNat 0 + e.2, e.1) else s
structure uv (at_ : List Int) (L : List (Int × Int)) (s : Int × Int) : Prop where
 none : L = [] → s = (0, -1)
 some : L ≠ [] → ∃ e ∈ L, s = (at_.getD e.1.toNat 0 + e.2, e.1)
 max : ∀ e ∈ L, at_.getD e.1.toNat 0 + e.2 ≤ s.1
theorem uv.step {at_ : List Int} {L : List (Int × Int)} {s e : Int × Int} (h : uv at_ L s) (h0 : ∀ e ∈ L, 0 ≤ e.1) : uv at_ (L ++ [e]) (Ld at_ s e) where
 none := fun h => by simp at h
 some := fun _ => by
  unfold Ld
  by_cases hc : s.2 < 0 ∨ at_.getD e.1.toNat 0 + e.2 > s.1
  ·rw [if_pos hc]; exact ⟨e, by simp, rfl⟩
  ·rw [if_neg hc]
   by_cases hL : L = []
   ·rw [h.none hL] at hc; simp at hc
   ·obtain ⟨x, hx, hs⟩ := h.some hL
    exact ⟨x, List.mem_append.2 (.inl hx), hs⟩
 max := fun x hx => by
  unfold Ld
  by_cases hc : s.2 < 0 ∨ at_.getD e.1.toNat 0 + e.2 > s.1
  ·rw [if_pos hc]
   rcases List.mem_append.1 hx with hx | hx
   ·have h1 := h.max x hx
    rcases hc with hc | hc
    ·exfalso
     obtain ⟨y, hy, hs⟩ := h.some (List.ne_nil_of_mem hx)
     rw [hs] at hc
     have := h0 y hy
     simp only at hc; omega
    ·show _ ≤ at_.getD e.1.toNat 0 + e.2; omega
   ·rw [List.mem_singleton.1 hx]; exact Int.le_refl _
  ·rw [if_neg hc]
   rcases List.mem_append.1 hx with hx | hx
   ·exact h.max x hx
   ·rw [List.mem_singleton.1 hx]; omega
open Go Go.AW Go.Proofs
section
variable {n : ab} {i k m : Nat} {ix X Z : List (Int × Int)} {b : Bool}
end
open Go Go.AW Go.Proofs
def y6 : ByteArray := ⟨(([0, 1, 2, 2, 3, 3, 3, 3, 4, 4, 4, 4, 4, 4, 4, 4, 5, 5, 5, 5, 5, 5, 5, 5, 5, 5, 5, 5, 5, 5, 5, 5, 6, 6, 6, 6, 6, 6, 6, 6, 6, 6, 6, 6, 6, 6, 6, 6, 6, 6, 6, 6, 6, 6, 6, 6, 6, 6, 6, 6, 6, 6, 6, 6].append [7, 7, 7, 7, 7, 7, 7, 7, 7, 7, 7, 7, 7, 7, 7, 7, 7, 7, 7, 7, 7, 7, 7, 7, 7, 7, 7, 7, 7, 7, 7, 7, 7, 7, 7, 7, 7, 7, 7, 7, 7, 7, 7, 7, 7, 7, 7, 7, 7, 7, 7, 7, 7, 7, 7, 7, 7, 7, 7, 7, 7, 7, 7, 7]).append ([8, 8, 8, 8, 8, 8, 8, 8, 8, 8, 8, 8, 8, 8, 8, 8, 8, 8, 8, 8, 8, 8, 8, 8, 8, 8, 8, 8, 8, 8, 8, 8, 8, 8, 8, 8, 8, 8, 8, 8, 8, 8, 8, 8, 8, 8, 8, 8, 8, 8, 8, 8, 8, 8, 8, 8, 8, 8, 8, 8, 8, 8, 8, 8].append [8, 8, 8, 8, 8, 8, 8, 8, 8, 8, 8, 8, 8, 8, 8, 8, 8, 8, 8, 8, 8, 8, 8, 8, 8, 8, 8, 8, 8, 8, 8, 8, 8, 8, 8, 8, 8, 8, 8, 8, 8, 8, 8, 8, 8, 8, 8, 8, 8, 8, 8, 8, 8, 8, 8, 8, 8, 8, 8, 8, 8, 8, 8, 8])).toArray⟩
theorem y7 : (List.range 256).all (fun m => ba y6 m == bH (m + 1)) = true := by kernel_rfl
theorem we : y6.size = 256 := by kernel_rfl
theorem Ba {m : Nat} (h : m < 256) : ba y6 m = bH (m + 1) := by
 have := List.all_eq_true.1 y7 m (List.mem_range.2 h)
 simpa using this
theorem rB {n : Nat} (h : n ≤ 256) : bH n ≤ 8 := jJ om
theorem oy {x : Int} {k : Nat} (h0 : 1 ≤ x) (h1 : x ≤ 64) (hk : k ≤ 8) : 0 ≤ 3 * x * (k : Int) ∧ 3 * x * (k : Int) ≤ 1536 :=
 ⟨Int.mul_nonneg om om, Int.le_trans (Int.mul_le_mul (show 3 * x ≤ 192 by omega) (show (k : Int) ≤ 8 by omega) om om) ah⟩
structure DP (n : ab) (l : List Cell) : Prop where
 len : l.length = n.ai.length
 at_ : ∀ i w, cw n i w → l.getD w.toNat default = n.cell i
structure lC (n : ab) (k : Nat) (l : List Cell) : Prop where
 len : l.length = n.ai.length
 at_ : ∀ i w, cw n i w → i < k → l.getD w.toNat default = n.cell i
theorem lC.init {n : ab} {z : Cell} : lC n 0 (List.replicate n.ai.length z) := ⟨by simp, fun i w hd h => by have := hd.1; omega⟩
theorem lC.set {n : ab} {k : Nat} {l : List Cell} (hf : bq n) (h : lC n k l) (hk : k < n.cells.length) (h0 : (n.cells.getD k default).out ≥ 0) : lC n (k + 1) (l.set (n.cells.getD k default).out.toNat (n.cells.getD k default)) := by
 refine ⟨by rw [List.length_set]; exact h.len, fun i w hd hi => ?_⟩
 have hw := hf.iV hd
 unfold In at hw
 have hl := h.len
 have h7 : (n.cells.getD k default).kind ≠ 7 := fun e => by have := (hf.cells k hk).2.2.1 e; omega
 have Eu : cw n (k : Int) (n.cells.getD k default).out := ⟨⟨om, om⟩, h7, rfl⟩
 have JH := hf.iV Eu
 unfold In at JH
 rw [bJ]
 by_cases e : (n.cells.getD k default).out = w
 ·rw [if_pos ⟨om, om⟩]
  rw [e] at Eu
  have := hf.unique hd Eu
  subst this; rfl
 ·rw [if_neg om]
  refine h.at_ i w hd ?_
  rcases Int.lt_or_eq_of_le (show i ≤ k by omega) with h1 | h1
  ·exact h1
  ·subst h1; exact absurd hd.2.2 e
theorem lC.skip {n : ab} {k : Nat} {l : List Cell} (hf : bq n) (h : lC n k l) (hk : k < n.cells.length) (h0 : ¬ (n.cells.getD k default).out ≥ 0) : lC n (k + 1) l := by
 refine ⟨h.len, fun i w hd hi => ?_⟩
 refine h.at_ i w hd ?_
 rcases Int.lt_or_eq_of_le (show i ≤ k by omega) with h1 | h1
 ·exact h1
 ·subst h1
  have hw := hf.iV hd
  unfold In at hw
  have : n.cell (k : Int) = n.cells.getD k default := rfl
  rw [← this, hd.2.2] at h0
  omega
theorem lC.done {n : ab} {k : Nat} {l : List Cell} (h : lC n k l) (hk : k = n.cells.length) : DP n l := ⟨h.len, fun i w hd => h.at_ i w hd (by rw [hk]; exact hd.1.2)⟩
structure DQ (l m : List Int) (i j : Int) : Prop where
 len : m.length = l.length
 sum : i + j = (l.length : Int) - 1
 i0 : 0 ≤ i
 out : ∀ k : Nat, k < l.length → ((k : Int) < i ∨ j < k) → m.getD k 0 = l.getD (l.length - 1 - k) 0
 Iz : ∀ k : Nat, i ≤ k → (k : Int) ≤ j → m.getD k 0 = l.getD k 0
theorem DQ.init (l : List Int) : DQ l l 0 ((l.length : Int) - 1) := ⟨rfl, om, om, fun k hk h => by omega, fun _ _ _ => rfl⟩
theorem DQ.step {l m : List Int} {i j : Int} (h : DQ l m i j) (P5 : i < j) : DQ l ((m.set i.toNat (m.getD j.toNat 0)).set j.toNat (m.getD i.toNat 0)) (i + 1) (j - 1) := by
 have h1 := h.len; have h2 := h.sum; have h3 := h.i0
 refine ⟨by simp [h1], om, om, fun k hk hc => ?_, fun k ha hb => ?_⟩
 ·rw [bJ, bJ]
  by_cases e : j.toNat = k
  ·rw [if_pos ⟨e, by rw [List.length_set]; omega⟩, h.Iz i.toNat om om]
   congr 1; omega
  ·rw [if_neg om]
   by_cases e2 : i.toNat = k
   ·rw [if_pos ⟨e2, om⟩, h.Iz j.toNat om om]
    congr 1; omega
   ·rw [if_neg om]
    exact h.out k hk om
 ·rw [bJ, bJ, if_neg om, if_neg om]
  exact h.Iz k om om
theorem DQ.done {l m : List Int} {i j : Int} (h : DQ l m i j) (P5 : ¬ i < j) : m = l.reverse := by
 have h1 := h.len; have h2 := h.sum
 refine List.ext_getElem (by simp [h1]) fun k hk uQ => ?_
 have e : m.getD k 0 = l.getD (l.length - 1 - k) 0 := by
  by_cases e : (k : Int) < i ∨ j < k
  ·exact h.out k om e
  ·rw [h.Iz k om om]
   congr 1; omega
 rw [List.getD_eq_getElem?_getD, List.getElem?_eq_getElem hk, List.getD_eq_getElem?_getD, List.getElem?_eq_getElem om] at e
 rw [List.getElem_reverse]
 exact e
open Go Go.AW Go.Proofs
theorem ux {x : Int} (h0 : 0 ≤ x) (h1 : x < 256) : al Try.prog 197 [.v (.int .u64 x)] [] [] (fun r o => r = (vi ((bH (x.toNat + 1) : Nat) : Int)) ∧ o = []) := by
 refine al.of Try.func197 rfl rfl rfl (n := 25) ah (b7 rfl) ?_
 have QR := we
 refine .sr ?_
 refine .an ?_
 refine .nil (.seq (.sr ?_))
 refine .mv ?_
 refine .vl (Y.qp rfl rfl) (.nil ?_)
 refine .ay rfl (fun c4 => ?_) (fun c4 => ?_)
 exfalso; omega
 refine .skip (.seq (.sr ?_))
 refine .mv ?_
 refine .vl (Y.qp rfl rfl) (.nil ?_)
 refine .ay rfl (fun c8 => ?_) (fun c8 => ?_)
 exfalso; omega
 refine .skip (.seq (.sr ?_))
 refine .mv ?_
 refine .vl (Y.qp rfl rfl) (.nil ?_)
 refine .ay rfl (fun ym => ?_) (fun ym => ?_)
 exfalso; omega
 refine .skip (.sr ?_)
 have QS := xu y6 x.toNat
 refine .mv ?_
 refine .mv ?_
 refine .vl (Y.qj CV FN rfl (by first | rfl | exact IntWalk.u8_in _ om)) (.vl (Y.qv (b := y6) (m := (x).toNat) Ie rfl rfl om om) (.vl (Y.qj FN BS rfl Ia) (.vl (Y.qb rfl rfl aC) ?_)))
 refine .an ?_
 refine .nil (.ret ?_)
 exact .ri rfl (by rw [Ba om]; omega)
theorem yC {x : Int} (h0 : 0 ≤ x) (h1 : x < 256) : al Try.prog 194 [.v (.int .u64 x)] [] [] (fun r o => r = (vi ((bH (x.toNat + 1) : Nat) : Int)) ∧ o = []) := by
 refine al.of Try.func194 rfl rfl rfl (n := 8) ah (b7 rfl) (.sr ?_)
 refine .an ?_
 refine .nil (.seq (.bY rfl ?_))
 refine .skip (.sr ?_)
 refine .mv ?_
 refine .bd Gi (ux (x := x) (om) (om)) rfl (.ao rfl rfl .nil) ah rfl ?_
 refine .an ?_
 refine .nil (.ret ?_)
 exact .ri rfl (rfl)
theorem gG {x : Int} (h0 : 0 ≤ x) (h1 : x ≤ 256) : al Try.prog 174 [vi x] [] [] (fun r o => r = (vi ((bH x.toNat : Nat) : Int)) ∧ o = []) := by
 refine al.of Try.func174 rfl rfl rfl (n := 9) ah (b7 rfl) (.sr ?_)
 refine .an ?_
 refine .nil (.seq (.sr ?_))
 refine .mv ?_
 refine .vl (Y.zb rfl rfl) (.nil ?_)
 refine .ay rfl (fun c4 => ?_) (fun c4 => ?_)
 refine .sr ?_
 refine .an ?_
 refine .nil (.ret ?_)
 exact .ri rfl (by unfold bH; rw [if_pos om]; rfl)
 refine .skip (.sr ?_)
 refine .mv ?_
 refine .vl (Y.zx rfl rfl aC) (.vl (Y.qi BS FM rfl (vH _ om)) (.bd Gh (yC (x := (((x - 1).toNat : Nat) : Int)) (om) (om)) rfl (.ao rfl rfl .nil) ah rfl ?_))
 refine .an ?_
 refine .nil (.ret ?_)
 exact .ri rfl (by rw [show ((((x - 1).toNat : Nat) : Int).toNat + 1) = x.toNat by omega])
open Go Go.AW
section
variable {c : Int} {g0 gl : List Gate} {r : List Int} {t u : Int} {i w : Nat} {A B : List Bool → BitVec w}
structure yD (c : Int) (g0 gl : List Gate) (out : List Int) (h : Nat → List Bool → Bool) (u : Int) (i : Nat) : Prop where
 ext : Ext g0 gl
 len : gl.length ≤ g0.length + 3 * i
 ol : out.length = i
 ws : Ws c gl out h u
theorem yD.init {h : Nat → List Bool → Bool} {u : Int} (hg : Good g0) : yD c g0 g0 [] h u 0 := ⟨.refl hg, om, rfl, .nil⟩
theorem yD.choose {h : Nat → List Bool → Bool} {s v y n : Int} {fs fy fn : List Bool → Bool} {ts tv ty tn : Int} (k : yD c g0 gl r h u i) (hs : Wr c g0 s fs ts) (hv : Wr c g0 v (fun ins => !fs ins) tv) (hy : Wr c g0 y fy ty) (hn : Wr c g0 n fn tn)
  (h1 : ts + 40 ≤ u) (h2 : tv + 40 ≤ u) (h3 : ty + 40 ≤ u) (h4 : tn + 40 ≤ u) (hh : ∀ ins, h i ins = if fs ins then fy ins else fn ins) : yD c g0 (ub gl s v y n) (r ++ [(gl.length : Int) + 2]) h u (i + 1) := by
 obtain ⟨e, wv⟩ := yg k.ext.dC (hs.ext k.ext) (hv.ext k.ext) (hy.ext k.ext) (hn.ext k.ext) h1 h2 h3 h4
 have hl := k.len
 exact ⟨k.ext.trans e, by rw [vh]; omega, by rw [List.length_append, k.ol]; rfl, (k.ws.ext e).snoc (by rw [k.ol]; exact wv.as fun ins => (hh ins).symm)⟩
theorem yD.and {h : Nat → List Bool → Bool} {x y : Int} {fx fy : List Bool → Bool} {tx ty : Int} (k : yD c g0 gl r h u i) (hx : Wr c g0 x fx tx) (hy : Wr c g0 y fy ty) (h1 : tx + 20 ≤ u) (h2 : ty + 20 ≤ u) (hh : ∀ ins, h i ins = (fx ins && fy ins)) :
  yD c g0 (gl ++ [⟨5, x, y⟩]) (r ++ [(gl.length : Int)]) h u (i + 1) := by
 have e := Ext.two (k := 5) k.ext.dC ah (hx.ext k.ext) (hy.ext k.ext)
 have wv := (hx.ext k.ext).and (u := u) (hy.ext k.ext) h1 h2
 have hl := k.len
 exact ⟨k.ext.trans e, by rw [List.length_append, List.length_singleton]; omega, by rw [List.length_append, k.ol]; rfl, (k.ws.ext e).snoc (by rw [k.ol]; exact wv.as fun ins => (hh ins).symm)⟩
def uy {w : Nat} (B : List Bool → BitVec w) (ins : List Bool) : Bool := gR (fun j => (B ins).getLsbD (bH w + j)) (w - bH w)
def sK (left ar : Bool) (w : Nat) (A B : List Bool → BitVec w) (i : Nat) (ins : List Bool) : Bool :=
 if ar then (if uy B ins then (A ins).msb else ou left w (A ins).getLsbD (ar && (A ins).msb) ((B ins).toNat % 2 ^ bH w) i) else (!uy B ins && ou left w (A ins).getLsbD (ar && (A ins).msb) ((B ins).toNat % 2 ^ bH w) i)
def Bh (left ar : Bool) {w : Nat} (a b : BitVec w) : BitVec w := if left then a <<< b.toNat else if ar then a.sshiftRight b.toNat else a >>> b.toNat
theorem uz {left ar : Bool} (Lg : left = true → ar = false) (hr : r.length = w) (h : Ws c gl r (sK left ar w A B) u) : Wd c gl r w (fun ins => Bh left ar (A ins) (B ins)) u := by
 cases left with
 | true =>
  obtain rfl := Lg rfl
  have h1 := Dt (A := A) (B := B) hr (h.as fun k _ ins => by simp [sK, uy])
  exact ⟨h1.len, fun k hk => (h1.bit k hk).as fun ins => by simp [Bh]⟩
 | false =>
  cases ar with
  | true =>
   have h1 := Dv (A := A) (B := B) hr (h.as fun k _ ins => by simp [sK, uy])
   exact ⟨h1.len, fun k hk => (h1.bit k hk).as fun ins => by simp [Bh]⟩
  | false =>
   have h1 := Du (A := A) (B := B) hr (h.as fun k _ ins => by simp [sK, uy])
   exact ⟨h1.len, fun k hk => (h1.bit k hk).as fun ins => by simp [Bh]⟩
def p2 (k : Nat) : Nat := 2 ^ k
theorem vr {k : Nat} (h : k ≤ 6) : IntKind.i64.wrap (1 * 2 ^ (min (k : Int).toNat IntKind.i64.bits)) = ((p2 k : Nat) : Int) := by
 have : k = 0 ∨ k = 1 ∨ k = 2 ∨ k = 3 ∨ k = 4 ∨ k = 5 ∨ k = 6 := by omega
 rcases this with rfl | rfl | rfl | rfl | rfl | rfl | rfl <;> decide
theorem DS {k : Nat} (h : k ≤ 6) : p2 k ≤ 64 := Nat.pow_le_pow_right (n := 2) om h
theorem yE {w : Nat} : bH w ≤ w := by
 refine jJ ?_
 exact Nat.le_of_lt Nat.lt_two_pow_self
end
open Go Go.AW Go.Proofs
theorem rD {n : Nat} (h : n ≤ 256) : al Try.prog 174 [.v (.int .i64 (n : Int))] [] [] (fun r o => r = .v (.int .i64 ((bH n : Nat) : Int)) ∧ o = []) := by
  have h1 := gG (x := (n : Int)) om om
  rwa [Int.toNat_natCast] at h1
set_option maxRecDepth 4000 in
set_option maxHeartbeats 1000000 in
theorem mb {c : Int} {gl : List Gate} (hg : Good gl) (ox : gl.length ≤ 30000000) {left ar : Bool} (Lg : left = true → ar = false) {w : Nat} {t : Int} {a b : List Int} {A B : List Bool → BitVec w} (ha : Wd c gl a w A t) (hb : Wd c gl b w B t) (hw : 1 ≤ w ∧ w ≤ 64) (ht : 0 ≤ t) : al Try.prog 129 [.ptr 0 0 0 0, .fz 1 (a.map aq), .fz 1 (b.map aq), .v (.bool left), .v (.bool ar)] [.cells [.aY 1 3 0 gl.length], .rows 3 (gl.map Gate.row)] [0] (fun r o => ∃ (l : List Gate) (out : List Int), Ext gl l ∧ l.length ≤ gl.length + 1500 ∧ Wd c l out w (fun ins => Bh left ar (A ins) (B ins)) (t + (if ar then 50 else 30) + 40 * (bH w : Int)) ∧ r = .di 1 (out.map aq) ∧ o = [.cells [.aY 1 3 0 l.length], .rows 3 (l.map Gate.row)]) := by
 refine al.of Try.func129 rfl rfl rfl (n := 129) ah (Nat.le_of_ble_eq_true rfl) ?_
 have wa := ha.len; have EC := hb.len; have MX : bH a.length = bH w := by rw [wa]
 have Iy : bH a.length ≤ 6 := jJ om
 have QT : bH a.length ≤ a.length := yE
 refine ae.sr ?_
 refine .an ?_
 refine aa.nil (ae.sr ?_)
 refine .mv ?_
 refine .vl (Y.qw (n := a.length) a8 rfl (congrArg some (List.length_map ..))) ?_
 refine .an ?_
 refine aa.nil (ae.sr ?_)
 refine .mv ?_
 refine aa.bd su (rD (n := a.length) om) rfl (.ao rfl rfl .nil) ah rfl ?_
 refine .an ?_
 refine aa.nil (ae.sr ?_)
 refine .an ?_
 refine aa.nil ?_
 refine ae.ly (fun (cP : Int) (jP : List Gate) => ⟨[(0, .ptr 0 0 0 0), (1, .fz 1 (a.map aq)), (2, .fz 1 (b.map aq)), (3, .v (.bool left)), (4, .v (.bool ar)), (11, .v (.int .i64 (a.length : Int))), (12, .v (.int .i64 ((bH a.length : Nat) : Int))), (13, .v (.int .i64 cP))], [(0, .cells [.aY 1 3 0 jP.length]), (1, .rows 3 (jP.map Gate.row))]⟩) (fun (cP : Int) (jP : List Gate) => Ext gl jP ∧ jP.length ≤ gl.length + 1 ∧ Wr c jP cP (fun ins => ar && (A ins).msb) t) ?_ (fun cP jP MG => ?_)
 refine ae.sr ?_
 refine .mv ?_
 refine aa.nil ?_
 refine ae.cond rfl (fun nq => ?_) (fun nq => ?_)
 refine ae.region ?_
 refine .mv ?_
 refine .mv ?_
 refine .vl (Y.zx rfl rfl aC) ?_
 refine .vl (Y.qr (m := ((a.length : Int) - 1).toNat) a8 rfl rfl om (aw (d := 0) om)) ?_
 refine .ld aZ ?_
 refine .an ?_
 refine aa.nil ?_
 exact ⟨a.getD (((a.length : Int) - 1).toNat) 0, gl, ⟨.refl hg, om, by rw [show ((a.length : Int) - 1).toNat = w - 1 by omega]; exact (ha.msb om).as fun ins => by simp [nq]⟩, Le.mk (.c (.c (.c (.c (.c (.c (.c (.cons (ak rfl bg) (.nil))))))))) (.cons (aH rfl ig) (.c (.nil)))⟩
 refine ae.region ?_
 refine .mv ?_
 refine aa.bm [0, 1] [] xL (ez (gl := gl) aC) rfl (.named rfl rfl .nil) ⟨rfl, rfl, trivial⟩ rfl ah (fun _ h => by cases h) (fun _ h => by cases h) ah ah ?_
 rintro r aD ⟨rfl, rfl⟩ _
 refine ⟨⟨rfl, (by intro ob aP; simp only [List.mem_cons, List.not_mem_nil, or_false] at aP; rcases aP with rfl | rfl <;> rfl), .inl rfl⟩, ?_⟩
 refine .an ?_
 refine aa.nil ?_
 exact ⟨(gl.length : Int), gl ++ [(⟨1, 0, 0⟩ : Gate)], ⟨Ext.JF hg ah, by simp, (Wr.zero ht).as fun ins => by simp [nq]⟩, Le.mk (.c (.c (.c (.c (.c (.c (.c (.cons (ak rfl bg) (.nil))))))))) (.cons (aH rfl ig) (.c (.nil)))⟩
 refine ae.seq ?_
 obtain ⟨hE, MY, hF⟩ := MG; have P9 := hE.dC
 refine ae.region ?_
 refine .mv ?_
 refine .an ?_
 refine aa.nil (ae.seq (ae.sr ?_))
 refine .mv ?_
 refine .mv ?_
 refine aa.nil (ae.block ?_)
 refine ae.eW (fun (dP : List Int) (cY : Nat) (iG : List Gate) => ⟨[(0, .ptr 0 0 0 0), (2, .fz 1 (b.map aq)), (3, .v (.bool left)), (4, .v (.bool ar)), (11, .v (.int .i64 (a.length : Int))), (12, .v (.int .i64 ((bH a.length : Nat) : Int))), (13, .v (.int .i64 cP)), (14, .fz 1 (dP.map aq)), (39, .v (.int .i64 ((bH a.length : Nat) : Int))), (40, .v (.int .i64 (cY : Int)))], [(0, .cells [.aY 1 3 0 iG.length]), (1, .rows 3 (iG.map Gate.row))]⟩) (fun (dP : List Int) (cY : Nat) (iG : List Gate) => ((cY : Int) ≤ ((bH a.length : Nat) : Int)) ∧ (AK c jP left w A B (fun ins => ar && (A ins).msb) t iG dP cY)) (fun (dP : List Int) (cY : Nat) (iG : List Gate) => (((bH a.length : Nat) : Int) - (cY : Int)).toNat) a 0 jP (⟨om, AK.init P9 (ha.ext hE)⟩) (Le.mk (.c (.c (.c (.c (.c (.c (.c (.c (.c (.cons (ak rfl bg) (.nil))))))))))) (.cons (aH rfl ig) (.c (.nil)))) (fun dP cY iG PA => ?_)
 obtain ⟨QU, hS⟩ := PA
 refine ae.sr (.vl (Y.zb rfl rfl) (aa.nil ?_))
 refine ae.seq ?_
 refine ae.ay rfl (fun AP => ?_) (fun AP => ?_)
 refine ae.skip (ae.seq (ae.block ?_))
 refine ae.sr ?_
 refine .mv ?_
 refine .an ?_
 refine aa.nil (ae.seq ?_)
 have MQ := hS.len; have PC := hS.xl; have PE : (3 * w + 1) * cY ≤ 193 * 6 := Nat.mul_le_mul om om; have QV := DS (k := cY) om; have Lh := ((hb.bit cY om).ext hE).ext hS.ext; have eN := Ext.not hS.ext.dC Lh; have nN := Lh.not (u := t + 10) (Int.le_refl _)
 refine ae.region ?_
 refine .mv ?_
 refine .mv ?_
 refine .vl (Y.qr (m := cY) a8 rfl rfl bg (aw (d := 0) om)) ?_
 refine .ld aZ ?_
 refine .an ?_
 refine aa.nil (ae.sr ?_)
 refine .mv ?_
 refine .mv ?_
 refine aa.bm [0, 1] [] rp (fV (gl := iG) (a := b.getD cY 0) om) rfl (.named rfl rfl (.ao rfl rfl .nil)) ⟨rfl, rfl, trivial⟩ rfl ah (fun _ h => by cases h) (fun _ h => by cases h) ah ah ?_
 rintro r aD ⟨rfl, rfl⟩ _
 refine ⟨⟨rfl, (by intro ob aP; simp only [List.mem_cons, List.not_mem_nil, or_false] at aP; rcases aP with rfl | rfl <;> rfl), .inl rfl⟩, ?_⟩
 refine .an ?_
 refine aa.nil (ae.sr ?_)
 refine .an ?_
 refine aa.sh (Sh.nil (d := 18) 118 1 rfl ah) (aa.nil (ae.seq ?_))
 refine ae.sr ?_
 refine .mv ?_
 refine .vl (Y.qw (n := dP.length) a8 rfl (congrArg some (List.length_map ..))) ?_
 refine .mv ?_
 refine aa.nil (ae.block ?_)
 refine ae.eW (fun (ef : Nat) (eL : List Gate) (cQ : List Int) => ⟨[(0, .ptr 0 0 0 0), (2, .fz 1 (b.map aq)), (3, .v (.bool left)), (4, .v (.bool ar)), (11, .v (.int .i64 (a.length : Int))), (12, .v (.int .i64 ((bH a.length : Nat) : Int))), (13, .v (.int .i64 cP)), (14, .fz 1 (dP.map aq)), (15, .v (.int .i64 (cY : Int))), (16, .v (.int .i64 (b.getD cY 0))), (17, .v (.int .i64 (iG.length : Int))), (18, .aY 118 1 0 cQ.length), (39, .v (.int .i64 ((bH a.length : Nat) : Int))), (40, .v (.int .i64 (cY : Int))), (51, .v (.int .i64 (dP.length : Int))), (52, .v (.int .i64 (ef : Int)))], [(0, .cells [.aY 1 3 0 eL.length]), (1, .rows 3 (eL.map Gate.row)), (118, .rows 1 (cQ.map aq))]⟩) (fun (ef : Nat) (eL : List Gate) (cQ : List Int) => ((ef : Int) ≤ (dP.length : Int)) ∧ (zF c (iG ++ [(⟨4, b.getD cY 0, 0⟩ : Gate)]) eL cQ (Ik left w A B (fun ins => ar && (A ins).msb) cY) (t + 10 + 40 * ((cY : Int) + 1)) ef)) (fun (ef : Nat) (eL : List Gate) (cQ : List Int) => ((dP.length : Int) - (ef : Int)).toNat) 0 (iG ++ [(⟨4, b.getD cY 0, 0⟩ : Gate)]) ([] : List Int) (⟨pD, zF.init eN.dC⟩) (Le.mk (.c (.c (.c (.c (.c (.c (.c (.c (.c (.c (.c (.cons (aL rfl aC) (.c (.c (.c (.cons (ak rfl bg) (.nil))))))))))))))))) (.cons (aH rfl ig) (.c (.c (.nil))))) (fun ef eL cQ Li => ?_)
 obtain ⟨PF, hM⟩ := Li
 refine ae.sr (.vl (Y.zb rfl rfl) (aa.nil ?_))
 refine ae.seq ?_
 refine ae.ay rfl (fun GW => ?_) (fun GW => ?_)
 refine ae.skip (ae.seq (ae.block ?_))
 refine ae.seq ?_
 have H8 := hM.len; have MZ := hM.ol; have QW := eN.len; rw [List.length_append, List.length_singleton] at H8
 refine ae.region ?_
 refine .mv ?_
 refine .an ?_
 refine aa.nil (ae.sr ?_)
 refine .mv ?_
 refine .mv ?_
 refine .vl (Y.zq rfl rfl om (vr (k := cY) om)) ?_
 refine .vl (Y.qb rfl rfl aC) ?_
 refine .an ?_
 refine aa.nil ?_
 refine ae.jw (fun (dU : Int) => ⟨[(0, .ptr 0 0 0 0), (2, .fz 1 (b.map aq)), (3, .v (.bool left)), (4, .v (.bool ar)), (11, .v (.int .i64 (a.length : Int))), (12, .v (.int .i64 ((bH a.length : Nat) : Int))), (13, .v (.int .i64 cP)), (14, .fz 1 (dP.map aq)), (15, .v (.int .i64 (cY : Int))), (16, .v (.int .i64 (b.getD cY 0))), (17, .v (.int .i64 (iG.length : Int))), (18, .aY 118 1 0 cQ.length), (19, .v (.int .i64 (ef : Int))), (20, .v (.int .i64 dU)), (39, .v (.int .i64 ((bH a.length : Nat) : Int))), (40, .v (.int .i64 (cY : Int))), (51, .v (.int .i64 (dP.length : Int))), (52, .v (.int .i64 (ef : Int)))], [(0, .cells [.aY 1 3 0 eL.length]), (1, .rows 3 (eL.map Gate.row)), (118, .rows 1 (cQ.map aq))]⟩) (fun (dU : Int) => dU = GM left cY ef) ?_ (fun dU DG => ?_)
 refine ae.sr ?_
 refine .mv ?_
 refine aa.nil ?_
 refine ae.cond rfl (fun rE => ?_) (fun rE => ?_)
 refine ae.region ?_
 refine .mv ?_
 refine .mv ?_
 refine .vl (Y.zq rfl rfl om (vr (k := cY) om)) ?_
 refine .vl (Y.zx rfl rfl aC) ?_
 refine .an ?_
 refine aa.nil ?_
 exact ⟨(ef : Int) - ((p2 cY : Nat) : Int), by unfold GM p2; simp [rE], Le.mk (.c (.c (.c (.c (.c (.c (.c (.c (.c (.c (.c (.c (.c (.cons (ak rfl bg) (.c (.c (.c (.c (.nil))))))))))))))))))) (.c (.c (.c (.nil))))⟩
 refine ae.skip ?_
 exact ⟨(ef : Int) + ((p2 cY : Nat) : Int), by unfold GM p2; simp [rE], Le.mk (.c (.c (.c (.c (.c (.c (.c (.c (.c (.c (.c (.c (.c (.cons (ak rfl bg) (.c (.c (.c (.c (.nil))))))))))))))))))) (.c (.c (.c (.nil))))⟩
 refine ae.sr ?_
 refine .mv ?_
 refine .an ?_
 refine aa.nil ?_
 refine ae.jw (fun (jQ : Int) => ⟨[(0, .ptr 0 0 0 0), (2, .fz 1 (b.map aq)), (3, .v (.bool left)), (4, .v (.bool ar)), (11, .v (.int .i64 (a.length : Int))), (12, .v (.int .i64 ((bH a.length : Nat) : Int))), (13, .v (.int .i64 cP)), (14, .fz 1 (dP.map aq)), (15, .v (.int .i64 (cY : Int))), (16, .v (.int .i64 (b.getD cY 0))), (17, .v (.int .i64 (iG.length : Int))), (18, .aY 118 1 0 cQ.length), (19, .v (.int .i64 (ef : Int))), (21, .v (.int .i64 jQ)), (39, .v (.int .i64 ((bH a.length : Nat) : Int))), (40, .v (.int .i64 (cY : Int))), (51, .v (.int .i64 (dP.length : Int))), (52, .v (.int .i64 (ef : Int)))], [(0, .cells [.aY 1 3 0 eL.length]), (1, .rows 3 (eL.map Gate.row)), (118, .rows 1 (cQ.map aq))]⟩) (fun (jQ : Int) => jQ = (if 0 ≤ dU ∧ dU < (a.length : Int) then dP.getD dU.toNat 0 else cP)) ?_ (fun jQ Lj => ?_)
 refine ae.sr ?_
 refine .mv ?_
 refine .vl (Y.qp rfl rfl) ?_
 refine .mv ?_
 refine aa.ax (d := 67) rfl (fun JZ => ?_) (fun JZ => ?_)
 refine .gw 67 (Y.zf rfl rfl) (.gw 67 (Y.zf rfl rfl) (.gw 67 (Y.zb rfl rfl) ?_))
 refine .pk ?_
 refine aa.nil ?_
 refine ae.ay rfl (fun PG => ?_) (fun PG => ?_)
 refine ae.region ?_
 refine .mv ?_
 refine .mv ?_
 refine .vl (Y.qr (m := (dU).toNat) a8 rfl rfl om (aw (d := 0) om)) ?_
 refine .ld aZ ?_
 refine .an ?_
 refine aa.nil ?_
 exact ⟨dP.getD ((dU).toNat) 0, by grind, Le.mk (.c (.c (.c (.c (.c (.c (.c (.c (.c (.c (.c (.c (.c (.cons (ak rfl bg) (.c (.c (.c (.c (.nil))))))))))))))))))) (.c (.c (.c (.nil))))⟩
 refine ae.skip ?_
 exact ⟨cP, by grind, Le.mk (.c (.c (.c (.c (.c (.c (.c (.c (.c (.c (.c (.c (.c (.cons (ak rfl bg) (.c (.c (.c (.c (.nil))))))))))))))))))) (.c (.c (.c (.nil))))⟩
 refine .gz 67 (.gz 67 (.gz 67 ?_))
 refine .pk ?_
 refine aa.nil (ae.bY rfl (ae.skip ?_))
 exact ⟨cP, by grind, Le.mk (.c (.c (.c (.c (.c (.c (.c (.c (.c (.c (.c (.c (.c (.cons (ak rfl bg) (.c (.c (.c (.c (.nil))))))))))))))))))) (.c (.c (.c (.nil))))⟩
 have PH := (hS.pick hF (i := ef) (y := jQ) om dU DG (by rw [Lj, wa])).ext eN; have PI := (hS.ws.bit ef om).ext eN
 refine ae.region ?_
 refine .mv ?_
 refine .mv ?_
 refine .mv ?_
 refine .mv ?_
 refine .mv ?_
 refine .mv ?_
 refine .mv ?_
 refine .vl (Y.qr (m := ef) a8 rfl rfl bg (aw (d := 0) om)) ?_
 refine .ld aZ ?_
 refine aa.bm [0, 1] [] Db (choose_spec (gl := eL) (s := b.getD cY 0) (v := (iG.length : Int)) (y := jQ) (n := dP.getD ef 0) om) rfl (.named rfl rfl (.ao rfl rfl (.ao rfl rfl (.ao rfl rfl (.ao rfl rfl .nil))))) ⟨rfl, rfl, trivial⟩ rfl ah (fun _ h => by cases h) (fun _ h => by cases h) ah ah ?_
 rintro r aD ⟨rfl, rfl⟩ _
 refine ⟨⟨rfl, (by intro ob aP; simp only [List.mem_cons, List.not_mem_nil, or_false] at aP; rcases aP with rfl | rfl <;> rfl), .inl rfl⟩, ?_⟩
 refine aa.buildSlice (([((eL.length : Int) + 2)] : List Int).map aq) a8 fv rfl rfl rfl rfl rfl (a9 (s := 1) (f := aq) (fun _ => rfl)) rfl rfl rfl ah ?_
 refine aa.bZ ((cQ ++ ([((eL.length : Int) + 2)] : List Int)).map aq) (cQ ++ ([((eL.length : Int) + 2)] : List Int)).length a8 fv rfl rfl rfl rfl (cb aC) (bE aC) (dg aC) aC aC ah ah ?_
 refine .an ?_
 refine aa.nil (ae.region ?_)
 refine .vl (Y.qb rfl rfl aC) ?_
 refine .mv ?_
 refine aa.nil ?_
 exact ⟨ef + 1, ub eL (b.getD cY 0) (iG.length : Int) jQ (dP.getD ef 0), cQ ++ ([((eL.length : Int) + 2)] : List Int), ⟨om, hM.step (Lh.ext eN) nN PH PI om om om om (fun ins => Dr om ins)⟩, om, Le.mk (.c (.c (.c (.c (.c (.c (.c (.c (.c (.c (.c (.cons (aL rfl om) (.c (.c (.c (.cons (ak rfl bg) (.nil))))))))))))))))) (.cons (aH rfl ig) (.c (.c (.nil))))⟩
 refine ae.exit ?_
 refine ae.sh (Sh.cU (d := 18) (o := 118) rfl rfl (bn om) ah) ?_
 refine ae.sh (Sh.cq (d := 18) (cQ.map aq) rfl jW (de.map bV)) (ae.region ?_)
 refine .mv ?_
 refine .an ?_
 refine aa.nil (ae.region ?_)
 refine .vl (Y.qb rfl rfl aC) ?_
 refine .mv ?_
 refine aa.nil ?_
 exact ⟨cQ, cY + 1, eL, ⟨om, hS.pass eN hM om⟩, om, Le.mk (.c (.c (.c (.c (.c (.c (.c (.c (.c (.cons (ak rfl bg) (.nil))))))))))) (.cons (aH rfl ig) (.c (.nil)))⟩
 refine ae.exit (ae.seq ?_)
 have MQ := hS.len; have PC := hS.xl; have wZ : cY = bH w := om; rw [wZ] at hS; have PE : (3 * w + 1) * cY ≤ 193 * 6 := Nat.mul_le_mul om om; have PJ := (hb.ext hE).ext hS.ext; have KN := hS.ext.dC
 refine ae.region ?_
 refine .mv ?_
 refine .mv ?_
 refine .mv ?_
 refine .vl (Y.zt (l := bH a.length) (h := (b.map aq).length) a8 rfl (.some rfl) (.none _) aC aC (by rw [List.take_length, ← List.map_drop])) ?_
 refine aa.bm [0, 1] [] BZ (sG (gl := iG) KN aC (a := b.drop (bH a.length)) (Ds PJ (bH a.length) om) aC aC) rfl (.named rfl rfl (.ao rfl rfl .nil)) ⟨rfl, rfl, trivial⟩ rfl ah (fun _ h => by cases h) (fun _ h => by cases h) ah ah ?_
 rintro r aD ⟨zH, Cp, yF, HA, Lk, rfl, rfl⟩ _
 refine ⟨⟨rfl, (by intro ob aP; simp only [List.mem_cons, List.not_mem_nil, or_false] at aP; rcases aP with rfl | rfl <;> rfl), .inl rfl⟩, ?_⟩
 refine .an ?_
 refine aa.nil (ae.seq ?_)
 have hv := Lk.as (f' := uy B) (fun ins => by unfold uy; rw [List.length_drop, EC, MX]); have eF := Ext.not yF.dC hv; have nF := hv.not (u := t + 10 + 20 * (bH w : Int)) (by have := kG (show (b.drop (bH a.length)).length ≤ w by rw [List.length_drop]; omega); omega); have I8 := kG (show (b.drop (bH a.length)).length ≤ w by rw [List.length_drop]; omega); have Ll := HA; rw [List.length_drop] at Ll
 refine ae.region ?_
 refine .mv ?_
 refine .mv ?_
 refine aa.bm [0, 1] [] rp (fV (gl := zH) (a := Cp) aC) rfl (.named rfl rfl (.ao rfl rfl .nil)) ⟨rfl, rfl, trivial⟩ rfl ah (fun _ h => by cases h) (fun _ h => by cases h) ah ah ?_
 rintro r aD ⟨rfl, rfl⟩ _
 refine ⟨⟨rfl, (by intro ob aP; simp only [List.mem_cons, List.not_mem_nil, or_false] at aP; rcases aP with rfl | rfl <;> rfl), .inl rfl⟩, ?_⟩
 refine .an ?_
 refine aa.nil (ae.sr ?_)
 refine .an ?_
 refine aa.sh (Sh.nil (d := 24) 124 1 rfl ah) (aa.nil (ae.seq ?_))
 refine ae.sr ?_
 refine .mv ?_
 refine .vl (Y.qw (n := dP.length) a8 rfl (congrArg some (List.length_map ..))) ?_
 refine .mv ?_
 refine aa.nil (ae.block ?_)
 refine ae.eW (fun (dH : Nat) (e8 : List Gate) (ew : List Int) => ⟨[(0, .ptr 0 0 0 0), (4, .v (.bool ar)), (13, .v (.int .i64 cP)), (14, .fz 1 (dP.map aq)), (22, .v (.int .i64 Cp)), (23, .v (.int .i64 (zH.length : Int))), (24, .aY 124 1 0 ew.length), (100, .v (.int .i64 (dP.length : Int))), (101, .v (.int .i64 (dH : Int)))], [(0, .cells [.aY 1 3 0 e8.length]), (1, .rows 3 (e8.map Gate.row)), (124, .rows 1 (ew.map aq))]⟩) (fun (dH : Nat) (e8 : List Gate) (ew : List Int) => ((dH : Int) ≤ (dP.length : Int)) ∧ (yD c (zH ++ [(⟨4, Cp, 0⟩ : Gate)]) e8 ew (sK left ar w A B) (t + (if ar then 50 else 30) + 40 * (bH w : Int)) dH)) (fun (dH : Nat) (e8 : List Gate) (ew : List Int) => ((dP.length : Int) - (dH : Int)).toNat) 0 (zH ++ [(⟨4, Cp, 0⟩ : Gate)]) ([] : List Int) (⟨pD, yD.init eF.dC⟩) (Le.mk (.c (.c (.c (.c (.c (.c (.cons (aL rfl aC) (.c (.cons (ak rfl bg) (.nil)))))))))) (.cons (aH rfl ig) (.c (.c (.nil))))) (fun dH e8 ew Lm => ?_)
 obtain ⟨PK, hM⟩ := Lm
 refine ae.sr (.vl (Y.zb rfl rfl) (aa.nil ?_))
 refine ae.seq ?_
 refine ae.ay rfl (fun yG => ?_) (fun yG => ?_)
 refine ae.skip ?_
 refine ae.ly (fun (lf : List Gate) (im : List Int) => ⟨[(0, .ptr 0 0 0 0), (4, .v (.bool ar)), (13, .v (.int .i64 cP)), (14, .fz 1 (dP.map aq)), (22, .v (.int .i64 Cp)), (23, .v (.int .i64 (zH.length : Int))), (24, .aY 124 1 0 im.length), (100, .v (.int .i64 (dP.length : Int))), (101, .v (.int .i64 (dH : Int)))], [(0, .cells [.aY 1 3 0 lf.length]), (1, .rows 3 (lf.map Gate.row)), (124, .rows 1 (im.map aq))]⟩) (fun (lf : List Gate) (im : List Int) => yD c (zH ++ [(⟨4, Cp, 0⟩ : Gate)]) lf im (sK left ar w A B) (t + (if ar then 50 else 30) + 40 * (bH w : Int)) (dH + 1)) ?_ (fun lf im AU => ?_)
 refine ae.block (ae.sr ?_)
 refine .mv ?_
 refine .an ?_
 refine aa.nil (ae.seq ?_)
 have H8 := hM.len; have MZ := hM.ol; rw [List.length_append, List.length_singleton] at H8
 refine ae.region ?_
 refine .mv ?_
 refine aa.nil ?_
 refine ae.cond rfl (fun kJ => ?_) (fun kJ => ?_)
 refine ae.region ?_
 refine .mv ?_
 refine .mv ?_
 refine .mv ?_
 refine .mv ?_
 refine .mv ?_
 refine .mv ?_
 refine .mv ?_
 refine .vl (Y.qr (m := dH) a8 rfl rfl bg (aw (d := 0) om)) ?_
 refine .ld aZ ?_
 refine aa.bm [0, 1] [] Db (choose_spec (gl := e8) (s := Cp) (v := (zH.length : Int)) (y := cP) (n := dP.getD dH 0) om) rfl (.named rfl rfl (.ao rfl rfl (.ao rfl rfl (.ao rfl rfl (.ao rfl rfl .nil))))) ⟨rfl, rfl, trivial⟩ rfl ah (fun _ h => by cases h) (fun _ h => by cases h) ah ah ?_
 rintro r aD ⟨rfl, rfl⟩ _
 refine ⟨⟨rfl, (by intro ob aP; simp only [List.mem_cons, List.not_mem_nil, or_false] at aP; rcases aP with rfl | rfl <;> rfl), .inl rfl⟩, ?_⟩
 refine aa.buildSlice (([((e8.length : Int) + 2)] : List Int).map aq) a8 fv rfl rfl rfl rfl rfl (a9 (s := 1) (f := aq) (fun _ => rfl)) rfl rfl rfl ah ?_
 refine aa.bZ ((ew ++ ([((e8.length : Int) + 2)] : List Int)).map aq) (ew ++ ([((e8.length : Int) + 2)] : List Int)).length a8 fv rfl rfl rfl rfl (cb aC) (bE aC) (dg aC) aC aC ah ah ?_
 refine .an ?_
 refine aa.nil ?_
 exact ⟨ub e8 Cp (zH.length : Int) cP (dP.getD dH 0), ew ++ ([((e8.length : Int) + 2)] : List Int), hM.choose (hv.ext eF) nF (((hF.ext hS.ext).ext yF).ext eF) (((hS.ws.bit dH om).ext yF).ext eF) (by rw [if_pos kJ]; omega) (by rw [if_pos kJ]; omega) (by rw [if_pos kJ]; omega) (by rw [if_pos kJ]; omega) (fun ins => by simp [sK, kJ]), Le.mk (.c (.c (.c (.c (.c (.c (.cons (aL rfl om) (.c (.c (.nil)))))))))) (.cons (aH rfl ig) (.c (.c (.nil))))⟩
 refine ae.region ?_
 refine .mv ?_
 refine .mv ?_
 refine .mv ?_
 refine .mv ?_
 refine .mv ?_
 refine .vl (Y.qr (m := dH) a8 rfl rfl bg (aw (d := 0) om)) ?_
 refine .ld aZ ?_
 refine aa.bm [0, 1] [] pQ (fk (gl := e8) (a := (zH.length : Int)) (b := dP.getD dH 0) om) rfl (.named rfl rfl (.ao rfl rfl (.ao rfl rfl .nil))) ⟨rfl, rfl, trivial⟩ rfl ah (fun _ h => by cases h) (fun _ h => by cases h) ah ah ?_
 rintro r aD ⟨rfl, rfl⟩ _
 refine ⟨⟨rfl, (by intro ob aP; simp only [List.mem_cons, List.not_mem_nil, or_false] at aP; rcases aP with rfl | rfl <;> rfl), .inl rfl⟩, ?_⟩
 refine aa.buildSlice (([(e8.length : Int)] : List Int).map aq) a8 fv rfl rfl rfl rfl rfl (a9 (s := 1) (f := aq) (fun _ => rfl)) rfl rfl rfl ah ?_
 refine aa.bZ ((ew ++ ([(e8.length : Int)] : List Int)).map aq) (ew ++ ([(e8.length : Int)] : List Int)).length a8 fv rfl rfl rfl rfl (cb aC) (bE aC) (dg aC) aC aC ah ah ?_
 refine .an ?_
 refine aa.nil ?_
 exact ⟨e8 ++ [(⟨5, (zH.length : Int), dP.getD dH 0⟩ : Gate)], ew ++ ([(e8.length : Int)] : List Int), hM.and nF (((hS.ws.bit dH om).ext yF).ext eF) (by rw [if_neg (by simp [kJ])]; omega) (by rw [if_neg (by simp [kJ])]; omega) (fun ins => by simp [sK, kJ]), Le.mk (.c (.c (.c (.c (.c (.c (.cons (aL rfl om) (.c (.c (.nil)))))))))) (.cons (aH rfl ig) (.c (.c (.nil))))⟩
 refine ae.region ?_
 refine .vl (Y.qb rfl rfl aC) ?_
 refine .mv ?_
 refine aa.nil ?_
 exact ⟨dH + 1, lf, im, ⟨om, AU⟩, om, Le.mk (.c (.c (.c (.c (.c (.c (.cons (aL rfl om) (.c (.cons (ak rfl bg) (.nil)))))))))) (.cons (aH rfl ig) (.c (.c (.nil))))⟩
 refine ae.exit (ae.sr ?_)
 refine .mv ?_
 refine .an ?_
 refine aa.sh (Sh.cU (d := 10) (o := 124) rfl rfl (bn om) ah) ?_
 refine aa.nil (ae.ret ?_)
 exact ⟨_, _, rfl, rfl, _, _, hE.trans (hS.ext.trans (yF.trans (eF.trans hM.ext))), by have := hM.len; rw [List.length_append, List.length_singleton] at this; omega, uz Lg (by have := hM.ol; omega) hM.ws, rfl, rfl⟩
open Go Go.AW
section
variable {c : Int} {g0 gl : List Gate} {a r : List Int} {t u : Int} {w n : Nat} {A : List Bool → BitVec w}
def sL (sg : Bool) {w : Nat} (A : List Bool → BitVec w) (k : Nat) (ins : List Bool) : Bool := if k < w then (A ins).getLsbD k else sg && (A ins).msb
def rF (sg : Bool) {w : Nat} (n : Nat) (x : BitVec w) : BitVec n := if sg then x.signExtend n else x.setWidth n
theorem yH {sg : Bool} (ha : Wd c gl a w A t) : Ws c gl a (sL sg A) t := ha.ws.as fun k hk ins => by
 unfold sL; rw [if_pos (by rw [← ha.len]; exact hk)]
theorem yI {sg : Bool} {x : Int} (hr : Ws c gl r (sL sg A) t) (hl : w ≤ r.length) (hx : Wr c gl x (fun ins => sg && (A ins).msb) t) : Ws c gl (r ++ [x]) (sL sg A) t :=
 hr.snoc (hx.as fun ins => by unfold sL; rw [if_neg om])
theorem yJ {sg : Bool} (hr : Ws c gl r (sL sg A) t) (hl : r.length = n) (_ : w ≤ n) : Wd c gl r n (fun ins => rF sg n (A ins)) t := hr.wd hl fun k hk ins => by
 unfold sL rF
 cases sg
 ·simp only [Bool.false_and, Bool.false_eq_true, if_false, BitVec.getLsbD_setWidth, hk, decide_true, Bool.true_and]
  by_cases h : k < w
  ·rw [if_pos h]
  ·rw [if_neg h, BitVec.getLsbD_of_ge _ _ om]
 ·simp only [Bool.true_and, if_true, BitVec.getLsbD_signExtend, hk, decide_true]
theorem Bi {sg : Bool} (ha : Wd c gl a w A t) (h : n ≤ w) : Wd c gl (a.take n) n (fun ins => rF sg n (A ins)) t := ⟨by rw [List.length_take, ha.len]; omega, fun k hk => by
 have h1 := ha.bit k om
 rw [List.getD_eq_getElem?_getD, List.getElem?_take_of_lt hk, ← List.getD_eq_getElem?_getD]
 refine h1.as fun ins => ?_
 unfold rF
 cases sg
 ·simp only [Bool.false_eq_true, if_false, BitVec.getLsbD_setWidth, hk, decide_true, Bool.true_and]
 ·simp only [if_true, BitVec.getLsbD_signExtend, hk, decide_true, Bool.true_and, show k < w by omega]⟩
def ml (s n : Nat) : List Int := (List.range n).map (fun i => ((s + i : Nat) : Int))
theorem sM (s n : Nat) : ml s (n + 1) = ml s n ++ [((s + n : Nat) : Int)] := by simp [ml, List.range_succ]
theorem jc (s n : Nat) : (ml s n).length = n := by simp [ml]
theorem vt {s n k : Nat} (h : k < n) : (ml s n).getD k 0 = ((s + k : Nat) : Int) := by
 unfold ml
 rw [List.getD_eq_getElem?_getD, List.getElem?_map, List.getElem?_range h]; rfl
def mN (n : Nat) : List Gate := List.replicate n ⟨3, 0, 0⟩
theorem kN (n : Nat) : mN (n + 1) = mN n ++ [⟨3, 0, 0⟩] := List.replicate_succ'
theorem Bj (n m : Nat) : mN n ++ mN m = mN (n + m) := by simp [mN, List.replicate_append_replicate]
theorem jd (n : Nat) : (mN n).length = n := by simp [mN]
theorem sN : ∀ n, Good (mN n)
 | 0 => Good.nil
 | n + 1 => by rw [kN]; exact (sN n).snoc (xP ah)
theorem lg : ∀ n, fA (mN n) = n
 | 0 => rfl
 | n + 1 => by rw [kN, g6, lg n, kY, if_pos rfl]
theorem vu {ins : List Bool} : ∀ {n k : Nat}, k < n → val (mN n) ins (k : Int) = ins.getD k false
 | 0, _, h => by omega
 | n + 1, k, h => by
  rw [kN]
  rcases Nat.lt_or_ge k n with h1 | h1
  ·rw [uZ om (by rw [jd]; omega)]; exact vu h1
  ·obtain rfl : k = n := by omega
   have h2 := val_last (l := mN k) (g := ⟨3, 0, 0⟩) (ins := ins)
   rw [jd] at h2
   rw [h2, lg]; rfl
theorem DT {o ins : List Int} {n : Nat} : jI o ins n ⟨3, 0, 0⟩ = ins.getD n 0 := rfl
theorem vv {c : Int} : ∀ {n k : Nat}, k < n → rN c (mN n) (k : Int) = c
 | 0, _, h => by omega
 | n + 1, k, h => by
  rw [kN]
  rcases Nat.lt_or_ge k n with h1 | h1
  ·rw [va om (by rw [jd]; omega)]; exact vv h1
  ·obtain rfl : k = n := by omega
   unfold rN dK
   have h3 : (mN k ++ [(⟨3, 0, 0⟩ : Gate)]).length = (mN k).length + 1 := by simp
   rw [h3, ni, Int.toNat_natCast, ij (by rw [fF _ (Nat.le_refl _), jd]), DT, lg, g6, lg, kY, if_pos rfl, pb om]
def p4 (f : Nat → Bool) : Nat → Nat
 | 0 => 0
 | n + 1 => p4 f n + 2 ^ n * (f n).toNat
theorem p5 {f : Nat → Bool} : ∀ n, p4 f n < 2 ^ n
 | 0 => by simp [p4]
 | n + 1 => by
  have h := p5 (f := f) n
  rw [p4, Nat.pow_succ]
  cases f n <;> simp <;> omega
theorem qK {f : Nat → Bool} : ∀ {n k : Nat}, k < n → (p4 f n).testBit k = f k
 | 0, _, h => by omega
 | n + 1, k, h => by
  have h0 := p5 (f := f) n
  rw [p4, Nat.add_comm, Nat.testBit_two_pow_mul_add _ h0]
  rcases Nat.lt_or_ge k n with h1 | h1
  ·rw [if_pos h1]; exact qK h1
  ·obtain rfl : k = n := by omega
   rw [if_neg om, Nat.sub_self]; cases f k <;> rfl
def Cq (s w : Nat) (ins : List Bool) : Nat := p4 (fun k => ins.getD (s + k) false) w
theorem HB {c : Int} {s w n : Nat} (h : s + w ≤ n) : Wk c (mN n) (ml s w) w (Cq s w) c := ⟨jc s w, fun ins => p5 w, fun k hk => by
 rw [vt hk]
 exact ⟨om, by rw [jd]; omega, fun ins => by rw [vu om]; exact (qK (f := fun k => ins.getD (s + k) false) hk).symm, by rw [vv om]; exact Int.le_refl _⟩⟩
end
structure DU (c : Int) (gl : List Gate) (ws : List (List Int)) (op : Int) (w width : Nat) (x y z : List Bool → Nat) (t : Int) : Prop where
 x : Wk c gl (ws.getD 0 []) w x t
 y : 2 ≤ ws.length → Wk c gl (ws.getD 1 []) (if op = 21 then width else w) y t
 z : 3 ≤ ws.length → Wk c gl (ws.getD 2 []) width z t
 ok : ((op = 2 ∨ op = 3 ∨ 9 ≤ op ∧ op ≤ 14) ∧ ws.length = 2 ∧ width = w) ∨ ((15 ≤ op ∧ op ≤ 20) ∧ ws.length = 2 ∧ width = 1) ∨ (op = 21 ∧ ws.length = 3 ∧ w = 1) ∨ ((op = 22 ∨ op = 23) ∧ ws.length = 1 ∧ w ≤ width) ∨ (op = 24 ∧ ws.length = 1 ∧ width ≤ w)
 hw : 1 ≤ w ∧ w ≤ 64
 hd : 1 ≤ width ∧ width ≤ 64
 t0 : 0 ≤ t
open Go Go.AW Go.Proofs
set_option maxRecDepth 4000 in
set_option maxHeartbeats 1000000 in
theorem sO {c : Int} {gl : List Gate} (hg : Good gl) (ox : gl.length ≤ 40000000) {w n : Nat} {sg : Bool} {t : Int} {a : List Int} {A : List Bool → BitVec w} (ha : Wd c gl a w A t) (hw : 1 ≤ w ∧ w ≤ 64) (hn : 1 ≤ n ∧ n ≤ 64) (ht : 0 ≤ t) : al Try.prog 132 [.ptr 0 0 0 0, .fz 1 (a.map aq), .v (.int .i64 (n : Int)), .v (.bool sg)] [.cells [.aY 1 3 0 gl.length], .rows 3 (gl.map Gate.row)] [0] (fun r o => ∃ (l : List Gate) (out : List Int), Ext gl l ∧ l.length ≤ gl.length + 1 ∧ Wd c l out n (fun ins => rF sg n (A ins)) t ∧ r = .di 1 (out.map aq) ∧ o = [.cells [.aY 1 3 0 l.length], .rows 3 (l.map Gate.row)]) := by
 refine al.of Try.func132 rfl rfl rfl (n := 40) ah (Nat.le_of_ble_eq_true rfl) ?_
 have wa := ha.len
 refine ae.sr ?_
 refine .an ?_
 refine aa.nil (ae.seq (ae.sr ?_))
 refine .mv ?_
 refine .mv ?_
 refine .vl (Y.qw (n := a.length) a8 rfl (congrArg some (List.length_map ..))) (.vl (Y.qy rfl rfl) (aa.nil ?_))
 refine ae.ay rfl (fun ym => ?_) (fun ym => ?_)
 refine ae.sr ?_
 refine .mv ?_
 refine .mv ?_
 refine .vl (Y.zt (l := 0) (h := n) a8 rfl (.none _) (.some rfl) aC aC (by rw [List.drop_zero, ← List.map_take])) ?_
 refine aa.bd xD (jn (l := (a.take n)) (by rw [List.length_take]; omega)) rfl (.ao rfl rfl .nil) ah rfl (aa.bh rfl ah (aa.nil ?_))
 refine ae.ret ?_
 exact ⟨_, _, rfl, rfl, _, _, .refl hg, om, Bi ha om, rfl, rfl⟩
 refine ae.skip (ae.sr ?_)
 refine .mv ?_
 refine .mv ?_
 refine .vl (Y.qw (n := a.length) a8 rfl (congrArg some (List.length_map ..))) ?_
 refine .vl (Y.zx rfl rfl aC) ?_
 refine .vl (Y.qr (m := ((a.length : Int) - 1).toNat) a8 rfl rfl om (aw (d := 0) om)) ?_
 refine .ld aZ ?_
 refine .an ?_
 refine aa.nil ?_
 refine ae.ly (fun (fW : Int) (jo : List Gate) => ⟨[(1, .fz 1 (a.map aq)), (2, .v (.int .i64 (n : Int))), (9, .v (.int .i64 fW))], [(0, .cells [.aY 1 3 0 jo.length]), (1, .rows 3 (jo.map Gate.row))]⟩) (fun (fW : Int) (jo : List Gate) => Ext gl jo ∧ jo.length ≤ gl.length + 1 ∧ Wr c jo fW (fun ins => sg && (A ins).msb) t) ?_ (fun fW jo PL => ?_)
 refine ae.sr ?_
 refine .mv ?_
 refine .vl (Y.zk rfl) (aa.nil ?_)
 refine ae.cond rfl (fun yK => ?_) (fun yK => ?_)
 replace yK : sg = false := by simpa using yK
 refine ae.region ?_
 refine .mv ?_
 refine aa.bm [0, 1] [] xL (ez (gl := gl) aC) rfl (.named rfl rfl .nil) ⟨rfl, rfl, trivial⟩ rfl ah (fun _ h => by cases h) (fun _ h => by cases h) ah ah ?_
 rintro r aD ⟨rfl, rfl⟩ _
 refine ⟨⟨rfl, (by intro ob aP; simp only [List.mem_cons, List.not_mem_nil, or_false] at aP; rcases aP with rfl | rfl <;> rfl), .inl rfl⟩, ?_⟩
 refine .an ?_
 refine aa.nil ?_
 exact ⟨(gl.length : Int), gl ++ [(⟨1, 0, 0⟩ : Gate)], ⟨Ext.JF hg ah, by simp, (Wr.zero ht).as fun ins => by simp [yK]⟩, Le.mk (.c (.c (.cons (ak rfl bg) (.nil)))) (.cons (aH rfl ig) (.c (.nil)))⟩
 replace yK : sg = true := by simpa using yK
 refine ae.skip ?_
 exact ⟨a.getD (((a.length : Int) - 1).toNat) 0, gl, ⟨.refl hg, om, by rw [show ((a.length : Int) - 1).toNat = w - 1 by omega]; exact (ha.msb om).as fun ins => by simp [yK]⟩, Le.mk (.c (.c (.cons (ak rfl bg) (.nil)))) (.cons (aH rfl ig) (.c (.nil)))⟩
 refine ae.seq ?_
 obtain ⟨hE, MY, hF⟩ := PL
 refine ae.region ?_
 refine .mv ?_
 refine aa.bd xD (jn (l := a) om) rfl (.ao rfl rfl .nil) ah rfl (aa.bh rfl ah (aa.sh (Sh.gj (d := 10) (n := a.length) 110 (a.map aq) rfl jW (bn rfl) ah) ?_))
 refine aa.nil (ae.seq (ae.block ?_))
 refine ae.iS (fun (eT : List Int) => ⟨[(2, .v (.int .i64 (n : Int))), (9, .v (.int .i64 fW)), (10, .aY 110 1 0 eT.length)], [(0, .cells [.aY 1 3 0 jo.length]), (1, .rows 3 (jo.map Gate.row)), (110, .rows 1 (eT.map aq))]⟩) (fun (eT : List Int) => (w ≤ eT.length ∧ eT.length ≤ n ∧ Ws c jo eT (sL sg A) t)) (fun (eT : List Int) => n - eT.length) a (⟨om, om, yH (ha.ext hE)⟩) (Le.mk (.c (.c (.cons (aL rfl om) (.nil)))) (.c (.c (.c (.nil))))) (fun eT KQ => ?_)
 have hO := KQ
 refine ae.seq (ae.sr ?_)
 refine .mv ?_
 refine .vl (Y.qw (n := eT.length) a8 rfl rfl) ?_
 refine .mv ?_
 refine .vl (Y.zb rfl rfl) (aa.nil ?_)
 refine ae.ay rfl (fun Ez => ?_) (fun Ez => ?_)
 refine ae.skip (ae.block (ae.region ?_))
 refine .mv ?_
 refine .mv ?_
 refine aa.buildSlice (([fW] : List Int).map aq) a8 fv rfl rfl rfl rfl rfl (a9 (s := 1) (f := aq) (fun _ => rfl)) rfl rfl rfl ah ?_
 refine aa.bZ ((eT ++ ([fW] : List Int)).map aq) (eT ++ ([fW] : List Int)).length a8 fv rfl rfl rfl rfl (cb aC) (bE aC) (dg aC) aC aC ah ah ?_
 refine .an ?_
 refine aa.nil ?_
 exact ⟨eT ++ ([fW] : List Int), ⟨by rw [List.length_append, List.length_singleton]; omega, by rw [List.length_append, List.length_singleton]; omega, yI hO.2.2 hO.1 hF⟩, by rw [List.length_append, List.length_singleton]; omega, Le.mk (.c (.c (.cons (aL rfl om) (.nil)))) (.c (.c (.c (.nil))))⟩
 refine ae.exit (ae.sr ?_)
 refine .mv ?_
 refine .an ?_
 refine aa.sh (Sh.cU (d := 8) (o := 110) rfl rfl (bn om) ah) ?_
 refine aa.nil (ae.ret ?_)
 exact ⟨_, _, rfl, rfl, _, _, hE, MY, yJ hO.2.2 om om, rfl, rfl⟩
set_option maxRecDepth 4000 in
set_option maxHeartbeats 1000000 in
theorem sP {gl : List Gate} (ox : gl.length ≤ 40000000) {n : Nat} (hn : n ≤ 64) : al Try.prog 78 [.ptr 0 0 0 0, .v (.int .i64 (n : Int))] [.cells [.aY 1 3 0 gl.length], .rows 3 (gl.map Gate.row)] [0] (fun r o => r = .di 1 ((ml gl.length n).map aq) ∧ o = [.cells [.aY 1 3 0 ((gl ++ mN n).length)], .rows 3 ((gl ++ mN n).map Gate.row)]) := by
 refine al.of Try.func78 rfl rfl rfl (n := 16) ah (Nat.le_of_ble_eq_true rfl) (ae.sr ?_)
 refine .an ?_
 refine aa.nil (ae.sr ?_)
 refine .an ?_
 refine aa.sh (Sh.nil (d := 5) 105 1 rfl ah) (aa.nil (ae.seq ?_))
 refine ae.sr ?_
 refine .mv ?_
 refine .mv ?_
 refine aa.nil (ae.block ?_)
 refine ae.eW (fun (nZ : Nat) (aI : List Gate) (aQ : List Int) => ⟨[(0, .ptr 0 0 0 0), (5, .aY 105 1 0 aQ.length), (6, .v (.int .i64 (n : Int))), (7, .v (.int .i64 (nZ : Int)))], [(0, .cells [.aY 1 3 0 aI.length]), (1, .rows 3 (aI.map Gate.row)), (105, .rows 1 (aQ.map aq))]⟩) (fun (nZ : Nat) (aI : List Gate) (aQ : List Int) => ((nZ : Int) ≤ (n : Int)) ∧ (aI = gl ++ mN nZ ∧ aQ = ml gl.length nZ)) (fun (nZ : Nat) (aI : List Gate) (aQ : List Int) => ((n : Int) - (nZ : Int)).toNat) 0 gl ([] : List Int) (⟨pD, ⟨by simp [mN], rfl⟩⟩) (Le.mk (.c (.cons (aL rfl aC) (.c (.cons (ak rfl bg) (.nil))))) (.cons (aH rfl ig) (.c (.c (.nil))))) (fun nZ aI aQ pU => ?_)
 obtain ⟨Dy, hO⟩ := pU
 refine ae.sr (.vl (Y.zb rfl rfl) (aa.nil ?_))
 refine ae.seq ?_
 refine ae.ay rfl (fun c8 => ?_) (fun c8 => ?_)
 refine ae.skip (ae.seq (ae.block ?_))
 obtain ⟨wF, lb⟩ := hO; have oB : aI.length = gl.length + nZ := (by rw [wF, List.length_append, jd]); have QX : aQ.length = nZ := (by rw [lb, jc])
 refine ae.region ?_
 refine .mv ?_
 refine .mv ?_
 refine aa.bm [0, 1] [] oY (gx (gl := aI) (k := 3) (a := 0) (b := 0) om) rfl (.named rfl rfl (.ao rfl rfl (.ao rfl rfl (.ao rfl rfl .nil)))) ⟨rfl, rfl, trivial⟩ rfl ah (fun _ h => by cases h) (fun _ h => by cases h) ah ah ?_
 rintro r aD ⟨rfl, rfl⟩ _
 refine ⟨⟨rfl, (by intro ob aP; simp only [List.mem_cons, List.not_mem_nil, or_false] at aP; rcases aP with rfl | rfl <;> rfl), .inl rfl⟩, ?_⟩
 refine aa.buildSlice (([(aI.length : Int)] : List Int).map aq) a8 fv rfl rfl rfl rfl rfl (a9 (s := 1) (f := aq) (fun _ => rfl)) rfl rfl rfl ah ?_
 refine aa.bZ ((aQ ++ ([(aI.length : Int)] : List Int)).map aq) (aQ ++ ([(aI.length : Int)] : List Int)).length a8 fv rfl rfl rfl rfl (cb aC) (bE aC) (dg aC) aC aC ah ah ?_
 refine .an ?_
 refine aa.nil (ae.region ?_)
 refine .vl (Y.qb rfl rfl aC) ?_
 refine .mv ?_
 refine aa.nil ?_
 exact ⟨nZ + 1, aI ++ [(⟨3, 0, 0⟩ : Gate)], aQ ++ ([(aI.length : Int)] : List Int), ⟨om, ⟨by rw [kN, wF, List.append_assoc], by rw [sM, ← lb, oB]⟩⟩, om, Le.mk (.c (.cons (aL rfl om) (.c (.cons (ak rfl bg) (.nil))))) (.cons (aH rfl ig) (.c (.c (.nil))))⟩
 refine ae.exit (ae.sr ?_)
 refine .mv ?_
 refine .an ?_
 refine aa.sh (Sh.cU (d := 4) (o := 105) rfl rfl (bn om) ah) ?_
 refine aa.nil (ae.ret ?_)
 obtain ⟨wF, lb⟩ := hO; obtain rfl : nZ = n := om; exact ⟨_, _, rfl, rfl, (by rw [lb]; rfl), (by rw [wF]; rfl)⟩
open Go Go.AW
theorem Wk.ws {c : Int} {l : List Gate} {a : List Int} {w : Nat} {N : List Bool → Nat} {t : Int} (h : Wk c l a w N t) : Ws c l a (fun k ins => (N ins).testBit k) t := ⟨fun k hk => h.bit k (by have := h.len; omega)⟩
theorem Ws.wk {c : Int} {l : List Gate} {a : List Int} {w : Nat} {N : List Bool → Nat} {t : Int} (h : Ws c l a (fun k ins => (N ins).testBit k) t) (hl : a.length = w) (hn : ∀ ins, N ins < 2 ^ w) : Wk c l a w N t := ⟨hl, hn, fun k hk => h.bit k om⟩
section
variable {c : Int} {l : List Gate} {r : List Int} {t : Int} {op : Int} {w width : Nat} {X Y Z : List Bool → Nat} {x : Int}
abbrev wm (c : Int) (l : List Gate) (r : List Int) (op : Int) (w width : Nat) (X Y Z : List Bool → Nat) (t : Int) : Prop := Wk c l r width (fun ins => r2 op w width (X ins) (Y ins) (Z ins)) (t + az op (if fY op then w else width))
theorem Bk {n : Nat} (h : n < 2 ^ w) : (BitVec.ofNat w n).toNat = n := by rw [BitVec.toNat_ofNat, Nat.mod_eq_of_lt h]
theorem Bl (h : Wd c l r w (fun ins => BitVec.ofNat w (X ins) + BitVec.ofNat w (Y ins)) (t + 40 + 40 * (bH w : Int))) (ho : op = 2) (hw : width = w) : wm c l r op w width X Y Z t := by
 subst ho hw
 exact (h.wk.as fun ins => by simp [r2]).late (by simp [az, fY]; omega)
theorem Bm (h : Wd c l r w (fun ins => BitVec.ofNat w (X ins) - BitVec.ofNat w (Y ins)) (t + 50 + 40 * (bH w : Int))) (ho : op = 3) (hw : width = w) : wm c l r op w width X Y Z t := by
 subst ho hw
 exact (h.wk.as fun ins => by simp [r2]).late (by simp [az, fY]; omega)
theorem rG {k : Int} (h : Ws c l r (fun i ins => (if k = 5 then X ins &&& Y ins else if k = 6 then X ins ||| Y ins else X ins ^^^ Y ins).testBit i) (t + 20)) (hl : r.length = w) (hX : ∀ ins, X ins < 2 ^ w) (hY : ∀ ins, Y ins < 2 ^ w) (ho : op = 9 ∧ k = 5 ∨ op = 10 ∧ k = 6 ∨ op = 11 ∧ k = 7) (hw : width = w) : wm c l r op w width X Y Z t := by
 subst hw
 rcases ho with ⟨rfl, rfl⟩ | ⟨rfl, rfl⟩ | ⟨rfl, rfl⟩
 ·exact ((h.wk hl fun ins => Nat.and_lt_two_pow _ (hY ins)).as fun ins => by simp [r2]).late (by simp [az, fY])
 ·exact ((h.wk hl fun ins => Nat.or_lt_two_pow (hX ins) (hY ins)).as fun ins => by simp [r2]).late (by simp [az, fY])
 ·exact ((h.wk hl fun ins => Nat.xor_lt_two_pow (hX ins) (hY ins)).as fun ins => by simp [r2]).late (by simp [az, fY])
theorem u0 {left ar : Bool} (h : Wd c l r w (fun ins => Bh left ar (BitVec.ofNat w (X ins)) (BitVec.ofNat w (Y ins))) (t + (if ar then 50 else 30) + 40 * (bH w : Int))) (hY : ∀ ins, Y ins < 2 ^ w) (ho : op = 12 ∧ left = true ∧ ar = false ∨ op = 13 ∧ left = false ∧ ar = false ∨ op = 14 ∧ left = false ∧ ar = true) (hw : width = w) : wm c l r op w width X Y Z t := by
 subst hw
 rcases ho with ⟨rfl, rfl, rfl⟩ | ⟨rfl, rfl, rfl⟩ | ⟨rfl, rfl, rfl⟩
 ·exact (h.wk.as fun ins => by simp only [r2, Bh, Bk (hY ins)]; simp).late (by simp [az, fY]; omega)
 ·exact (h.wk.as fun ins => by simp only [r2, Bh, Bk (hY ins)]; simp).late (by simp [az, fY]; omega)
 ·exact (h.wk.as fun ins => by simp only [r2, Bh, Bk (hY ins)]; simp).late (by simp [az, fY]; omega)
theorem yL {x y : Nat} (hx : x < 2 ^ w) (hy : y < 2 ^ w) : BitVec.ofNat w x = BitVec.ofNat w y ↔ x = y := by
 constructor
 ·intro h
  have := congrArg BitVec.toNat h
  rwa [Bk hx, Bk hy] at this
 ·rintro rfl; rfl
theorem DV (h : Wr c l x (fun ins => decide (BitVec.ofNat w (X ins) ≠ BitVec.ofNat w (Y ins))) (t + 20 + 20 * (bH w : Int))) (hX : ∀ ins, X ins < 2 ^ w) (hY : ∀ ins, Y ins < 2 ^ w) (ho : op = 16) (hw : width = 1) : wm c l [x] op w width X Y Z t := by
 subst ho hw
 exact (h.Ex.as fun ins => by simp [r2, yL (hX ins) (hY ins)]).late (by simp [az, fY]; omega)
theorem DW (h : Wr c l x (fun ins => !decide (BitVec.ofNat w (X ins) ≠ BitVec.ofNat w (Y ins))) (t + 30 + 20 * (bH w : Int))) (hX : ∀ ins, X ins < 2 ^ w) (hY : ∀ ins, Y ins < 2 ^ w) (ho : op = 15) (hw : width = 1) : wm c l [x] op w width X Y Z t := by
 subst ho hw
 exact (h.Ex.as fun ins => by simp [r2, yL (hX ins) (hY ins)]).late (by simp [az, fY]; omega)
theorem yM {s : Bool} (h : Wr c l x (fun ins => if s then (BitVec.ofNat w (X ins)).slt (BitVec.ofNat w (Y ins)) else (BitVec.ofNat w (X ins)).ult (BitVec.ofNat w (Y ins))) (t + 30 + 40 * (bH w : Int))) (hX : ∀ ins, X ins < 2 ^ w) (hY : ∀ ins, Y ins < 2 ^ w) (ho : op = 17 ∧ s = false ∨ op = 19 ∧ s = true) (hw : width = 1) : wm c l [x] op w width X Y Z t := by
 subst hw
 have hm := kG (show w ≤ w + 1 by omega)
 rcases ho with ⟨rfl, rfl⟩ | ⟨rfl, rfl⟩
 ·exact (h.Ex.as fun ins => by simp [r2, BitVec.ult, Nat.mod_eq_of_lt (hX ins), Nat.mod_eq_of_lt (hY ins)]).late (by simp [az, fY]; omega)
 ·exact (h.Ex.as fun ins => by simp [r2]).late (by simp [az, fY]; omega)
theorem yO {s : Bool} (h : Wr c l x (fun ins => !(if s then (BitVec.ofNat w (Y ins)).slt (BitVec.ofNat w (X ins)) else (BitVec.ofNat w (Y ins)).ult (BitVec.ofNat w (X ins)))) (t + 40 + 40 * (bH w : Int))) (hX : ∀ ins, X ins < 2 ^ w) (hY : ∀ ins, Y ins < 2 ^ w) (ho : op = 18 ∧ s = false ∨ op = 20 ∧ s = true) (hw : width = 1) : wm c l [x] op w width X Y Z t := by
 subst hw
 have hm := kG (show w ≤ w + 1 by omega)
 rcases ho with ⟨rfl, rfl⟩ | ⟨rfl, rfl⟩
 ·refine (h.Ex.as fun ins => ?_).late (by simp [az, fY]; omega)
  simp only [r2, BitVec.ult, Bk (hX ins), Bk (hY ins)]
  simp
  by_cases h : X ins ≤ Y ins
  ·rw [decide_eq_true h, decide_eq_false om]; rfl
  ·rw [decide_eq_false h, decide_eq_true om]; rfl
 ·refine (h.Ex.as fun ins => ?_).late (by simp [az, fY]; omega)
  simp only [r2, if_true, BitVec.sle_eq_not_slt]
  simp
theorem Ln {x : Nat} (h : x < 2 ^ 1) : x.testBit 0 = decide (x = 1) := by
 rcases (show x = 0 ∨ x = 1 by omega) with rfl | rfl <;> rfl
theorem Bn (h : Ws c l r (fun i ins => if (X ins).testBit 0 then (Y ins).testBit i else (Z ins).testBit i) (t + 50)) (hl : r.length = width) (hX : ∀ ins, X ins < 2 ^ 1) (hY : ∀ ins, Y ins < 2 ^ width) (hZ : ∀ ins, Z ins < 2 ^ width) (ho : op = 21) : wm c l r op w width X Y Z t := by
 subst ho
 have h1 : Ws c l r (fun i ins => (if X ins = 1 then Y ins else Z ins).testBit i) (t + 50) := h.as fun k _ ins => by
  rw [Ln (hX ins)]
  by_cases hx : X ins = 1
  ·simp [hx]
  ·simp [hx]
 exact ((h1.wk hl fun ins => by split; exact hY ins; exact hZ ins).as fun ins => by simp [r2]).late (by simp [az, fY])
theorem Bo {sg : Bool} (h : Wd c l r width (fun ins => rF sg width (BitVec.ofNat w (X ins))) t) (hX : ∀ ins, X ins < 2 ^ w) (ho : op = 22 ∧ sg = false ∧ w ≤ width ∨ op = 23 ∧ sg = true ∧ w ≤ width ∨ op = 24 ∧ sg = false ∧ width ≤ w) : wm c l r op w width X Y Z t := by
 rcases ho with ⟨rfl, rfl, hw⟩ | ⟨rfl, rfl, hw⟩ | ⟨rfl, rfl, hw⟩
 ·refine (h.wk.as fun ins => ?_).late (by simp [az, fY])
  have := Nat.pow_le_pow_right (n := 2) om hw
  simp only [r2, rF, Bool.false_eq_true, if_false, BitVec.toNat_setWidth, Bk (hX ins)]
  rw [Nat.mod_eq_of_lt (by have := hX ins; omega)]; simp
 ·exact (h.wk.as fun ins => by simp [r2, rF]).late (by simp [az, fY])
 ·refine (h.wk.as fun ins => ?_).late (by simp [az, fY])
  simp only [r2, rF, Bool.false_eq_true, if_false, BitVec.toNat_setWidth, Bk (hX ins)]
  simp
end
end Go.Proofs.Ytlimckldnjmabaa
