/- Walks through the specification of netlists. -/
import Derived.Test.YtligpghohcfpnaaNetx0
import Derived.Test.YtligpghohcfpnaaNetx3
import Derived.Test.YtligpghohcfpnaaNetx1
import Derived.Test.YtligpghohcfpnaaAWx2
import Derived.Test.YtligpghohcfpnaaAWx3
set_option linter.unusedSimpArgs false
set_option linter.unusedVariables false
set_option linter.unusedSectionVars false
set_option maxRecDepth 4000
set_option maxHeartbeats 8000000
namespace Go.Proofs.Ytligpghohcfpnaa
open Go Go.AW Go.Proofs
theorem Dg {kn : List Bool} {l : List Int} (h : ∀ x ∈ l, In x kn.length) (hl : l.length ≤ 17592186043904) : au Try.prog 90 [.fz 1 (kn.map fI), .fz 1 (l.map ai)] [] [] (fun r o => r = .v (.bool (decide (∀ x ∈ l, kn.getD x.toNat false = true))) ∧ o = []) := by
 refine au.of Try.func90 rfl rfl rfl (n := 20) ae (aI rfl) (.sr ?_)
 refine .an ?_
 refine .nil (.seq (.sr ?_))
 refine .an ?_
 refine .nil (.block ?_)
 refine .fY (fun (pG : Nat) => ⟨[(0, .fz 1 (kn.map fI)), (1, .fz 1 (l.map ai)), (5, vi pG)], []⟩) (fun pG => ((pG : Int) ≤ (l.length : Int)) ∧ (∀ j, j < pG → kn.getD (l.getD j 0).toNat false = true)) (fun pG => ((l.length : Int) - (pG : Int)).toNat) 0 (⟨om, fun j hj => by omega⟩) (Le.mk (.c2 (.cons (aj rfl bf) .nil)) .nil) (fun pG th => ?_)
 obtain ⟨rz, hw⟩ := th
 refine .seq (.sr ?_)
 refine .mv ?_
 refine .mv ?_
 refine .vl (Y.qx (n := l.length) az rfl cS) (.vl (Y.zc rfl rfl) (.nil ?_))
 refine .a8 rfl (fun c9 => ?_) (fun c9 => ?_)
 refine .skip (.seq (.block ?_))
 refine .seq ?_
 have hx := h _ (br (l := l) (i := pG) om)
 unfold In at hx
 refine .region ?_
 refine .mv ?_
 refine .mv ?_
 refine .mv ?_
 refine .vl (Y.qs (m := pG) az rfl rfl bf (aq (d := 0) om)) ?_
 refine .ld aV ?_
 refine .vl (Y.qs (m := (l.getD pG 0).toNat) mN rfl rfl om (aq (d := false) om)) ?_
 refine .ld ta ?_
 refine .vl (Y.zm rfl) (.nil ?_)
 refine .cond rfl (fun oq => ?_) (fun oq => ?_)
 replace oq : (kn.getD ((l.getD pG 0).toNat) false) = false := by simpa using oq
 refine .sr ?_
 refine .an ?_
 refine .nil (.ret ?_)
 exact .rb rfl (df (fun h => by have h2 := h _ (br (l := l) (i := pG) om); simp_all))
 replace oq : (kn.getD ((l.getD pG 0).toNat) false) = true := by simpa using oq
 refine .skip (.region ?_)
 refine .mv ?_
 refine .vl (Y.qb rfl rfl bw) ?_
 refine .an ?_
 refine .nil (⟨pG + 1, ⟨om, cT hw bm⟩, om, Le.mk (.c2 (.cons (aj rfl bf) .nil)) .nil⟩)
 refine .exit (.sr ?_)
 refine .an ?_
 refine .nil (.ret ?_)
 exact .rb rfl (dt ((nu (d := 0)).1 (fun j hj => hw j om)))
theorem w9 {n : ab} (hs : n.Small) (hf : aU n) : au Try.prog 51 [.agg (ab.row n)] [] [] (fun r o => r = .v (.bool (decide (Fit n))) ∧ o = []) := by
 refine au.of Try.func51 rfl rfl rfl (n := 79) ae (aI rfl) ?_
 have IN := hf.cb; have M5 := hf.dR; have M6 := hf.bt; have EY := hf.freeze; have EZ := hf.done; unfold In at EY EZ; have Gm := hf.b8; have M7 := hf.bR
 refine .sr (.box 101 rfl rfl rfl rfl rfl ae ?_)
 refine .an ?_
 refine .nil (.seq (.sr ?_))
 refine .an ?_
 refine .nil (.block ?_)
 refine .fY (fun (bA : Nat) => ⟨[(1, .ptr 101 0 0 0), (3, vi bA)], [(101, .cells (ab.row n))]⟩) (fun bA => ((bA : Int) ≤ (n.cells.length : Int)) ∧ (∀ j, j < bA → Fits n (n.cells.getD j default))) (fun bA => ((n.cells.length : Int) - (bA : Int)).toNat) 0 (⟨om, fun j hj => by omega⟩) (Le.mk (.c (.cons (aj rfl bf) .nil)) (.c .nil)) (fun bA th => ?_)
 obtain ⟨rz, hc⟩ := th
 refine .seq (.sr ?_)
 refine .mv ?_
 refine .fa bL ?_
 refine .ld eT ?_
 refine .vl (Y.qx (n := n.cells.length) dr rfl cS) (.vl (Y.zc rfl rfl) (.nil ?_))
 refine .a8 rfl (fun c9 => ?_) (fun c9 => ?_)
 refine .skip (.seq (.block ?_))
 refine .seq ?_
 have vM : n.cells.getD bA default ∈ n.cells := dZ om
 refine .pb 6 rfl ao (.val (Y.zb dD rfl rfl (aI rfl) rfl rfl) ae (.val (Y.qp bL rfl rfl) ae ?_))
 refine .val (Y.za eT rfl rfl rfl rfl) ae (.val (Y.zg rfl rfl) ae ?_)
 refine .val (Y.qs (m := bA) dr rfl rfl bf (aq (d := default) om)) ae ?_
 refine .val (Y.zb dS rfl rfl (aI rfl) rfl rfl) ae (.nil (.aH NR (vf (n := n) (c := (n.cells.getD bA default)) hs (hs.args _ vM) (hs.xj _ vM) (hf.cell vM).2.1 (hf.cell vM).FF) rfl (.ah rfl rfl (.ah rfl rfl .nil)) ae rfl ?_))
 refine .vl (Y.zm rfl) (.nil ?_)
 refine .dB rfl (fun oq => ?_) (fun oq => ?_)
 refine .sr ?_
 refine .an ?_
 refine .nil (.ret ?_)
 exact .rb rfl (df (fun h => absurd (h.cells bA om) bm))
 refine .skip (.region ?_)
 refine .mv ?_
 refine .vl (Y.qb rfl rfl bw) ?_
 refine .an ?_
 refine .nil (⟨bA + 1, ⟨om, cT hc bm⟩, om, Le.mk (.c (.cons (aj rfl bf) .nil)) (.c .nil)⟩)
 refine .exit (.seq (.sr ?_))
 refine .an ?_
 refine .nil (.block ?_)
 refine .fY (fun (jG : Nat) => ⟨[(1, .ptr 101 0 0 0), (4, vi jG)], [(101, .cells (ab.row n))]⟩) (fun jG => ((jG : Int) ≤ (n.streams.length : Int)) ∧ (∀ j, j < jG → iE n j)) (fun jG => ((n.streams.length : Int) - (jG : Int)).toNat) 0 (⟨om, fun j hj => by omega⟩) (Le.mk (.c (.cons (aj rfl bf) .nil)) (.c .nil)) (fun jG OO => ?_)
 obtain ⟨SC, vy⟩ := OO
 refine .seq (.sr ?_)
 refine .mv ?_
 refine .fa cC ?_
 refine .ld fC ?_
 refine .vl (Y.qx (n := n.streams.length) eG rfl cS) (.vl (Y.zc rfl rfl) (.nil ?_))
 refine .a8 rfl (fun Tw => ?_) (fun Tw => ?_)
 refine .skip ?_
 refine .np (fun (yi : Bool) (yj : Bool) => ⟨[(1, .ptr 101 0 0 0), (4, vi jG), (38, .ptr 101 0 0 5), (39, .fz 3 (n.streams.map bI.row)), (40, vi jG), (41, .fp (bI.row (n.streams.getD jG default)) 0), (42, .fp (bI.row (n.streams.getD jG default)) 2), (43, .v (.bool ((n.streams.getD jG default).out))), (44, .v (.bool yi)), (61, .v (.bool yj))], [(101, .cells (ab.row n))]⟩) (fun yi yj => iE n jG) ?_ (fun yi yj Dx => ?_)
 refine .block (.seq ?_)
 obtain ⟨_, _, IQ, HM, _⟩ := hf.strs jG om
 unfold In at IQ HM
 refine .fR rfl ao (.val (Y.qp bu rfl rfl) ae (.val (Y.za aW rfl rfl rfl rfl) ae ?_))
 refine .val (Y.qp jE rfl rfl) ae (.val (Y.za aW rfl rfl rfl rfl) ae (.val (Y.zg rfl rfl) ae ?_))
 refine .val (Y.qs (m := jG) az rfl rfl bf (aq (d := 0) om)) ae (.val (Y.za aV rfl rfl rfl rfl) ae (.val (Y.qs (m := (n.aR.getD jG 0).toNat) az rfl rfl om (aq (d := 0) om)) ae ?_))
 refine .val (Y.za aV rfl rfl rfl rfl) ae (.val (Y.zk rfl rfl) ae (.val (Y.zg rfl rfl) ae ?_))
 refine .ax (d := 37) rfl (fun P0 => ?_) (fun P0 => ?_)
 refine .al (d := 37) rfl ae ae rfl rfl (.al (d := 37) rfl ae ae rfl rfl (.al (d := 37) rfl ae ae rfl rfl ?_))
 refine .al (d := 37) rfl ae ae rfl rfl (.al (d := 37) rfl ae ae rfl rfl (.al (d := 37) rfl ae ae rfl rfl ?_))
 refine .al (d := 37) rfl ae ae rfl rfl (.al (d := 44) rfl ae ae rfl rfl (.al (d := 44) rfl ae ae rfl rfl ?_))
 refine .al (d := 44) rfl ae ae rfl rfl (.al (d := 44) rfl ae ae rfl rfl (.al (d := 44) rfl ae ae rfl rfl ?_))
 refine .al (d := 44) rfl ae ae rfl rfl (.al (d := 44) rfl ae ae rfl rfl (.al (d := 44) rfl ae ae rfl rfl ?_))
 refine .al (d := 44) rfl ae ae rfl rfl (.al (d := 44) rfl ae ae rfl rfl (.al (d := 44) rfl ae ae rfl rfl ?_))
 refine .al (d := 44) rfl ae ae rfl rfl (.al (d := 44) rfl ae ae rfl rfl (.al (d := 44) rfl ae ae rfl rfl ?_))
 refine .al (d := 44) rfl ae ae rfl rfl (.al (d := 44) rfl ae ae rfl rfl (.al (d := 37) rfl ae ae rfl rfl ?_))
 refine .val (Y.zn rfl rfl rfl) ae (.nil (.aM rfl ?_))
 refine .sr ?_
 refine .an ?_
 refine .nil (.ret ?_)
 exact .rb rfl (df (fun h => by have h1 := h.strs jG om; unfold iE ab.wd at h1; grind))
 refine .ar (d := 37) rfl ae rfl (.val (Y.qp cC rfl rfl) ae (.ar (d := 37) rfl ae rfl ?_))
 refine .val (Y.za fC rfl rfl rfl rfl) ae (.ar (d := 37) rfl ae rfl (.val (Y.zg rfl rfl) ae ?_))
 refine .ar (d := 37) rfl ae rfl (.val (Y.qs (m := jG) eG rfl rfl bf (aq (d := default) om)) ae ?_)
 refine .ar (d := 37) rfl ae rfl (.val (Y.qp gU rfl rfl) ae (.ar (d := 37) rfl ae rfl ?_))
 refine .val (Y.za ta rfl rfl rfl rfl) ae (.ar (d := 37) rfl ae rfl (.val (Y.zg rfl rfl) ae ?_))
 refine .split (d := 44) rfl (fun LP => ?_) (fun LP => ?_)
 have IS := HM bm
 refine .ar (d := 44) rfl ae rfl (.val (Y.qp bu rfl rfl) ae (.ar (d := 44) rfl ae rfl ?_))
 refine .val (Y.za aW rfl rfl rfl rfl) ae (.ar (d := 44) rfl ae rfl (.val (Y.qp iF rfl rfl) ae ?_))
 refine .ar (d := 44) rfl ae rfl (.val (Y.za aW rfl rfl rfl rfl) ae (.ar (d := 44) rfl ae rfl ?_))
 refine .val (Y.zg rfl rfl) ae (.ar (d := 44) rfl ae rfl ?_)
 refine .val (Y.qs (m := jG) az rfl rfl bf (aq (d := 0) om)) ae ?_
 refine .ar (d := 44) rfl ae rfl (.val (Y.za aV rfl rfl rfl rfl) ae (.ar (d := 44) rfl ae rfl ?_))
 refine .val (Y.qs (m := (n.data.getD jG 0).toNat) az rfl rfl om (aq (d := 0) om)) ae ?_
 refine .ar (d := 44) rfl ae rfl (.val (Y.za aV rfl rfl rfl rfl) ae (.ar (d := 44) rfl ae rfl ?_))
 refine .val (Y.qp cC rfl rfl) ae (.ar (d := 44) rfl ae rfl (.val (Y.za fC rfl rfl rfl rfl) ae ?_))
 refine .ar (d := 44) rfl ae rfl (.val (Y.zg rfl rfl) ae (.ar (d := 44) rfl ae rfl ?_))
 refine .val (Y.qs (m := jG) eG rfl rfl bf (aq (d := default) om)) ae ?_
 refine .ar (d := 44) rfl ae rfl (.val (Y.qp ny rfl rfl) ae (.ar (d := 44) rfl ae rfl ?_))
 refine .val (Y.za aV rfl rfl rfl rfl) ae (.ar (d := 44) rfl ae rfl (.val (Y.zk rfl rfl) ae ?_))
 refine .ar (d := 37) rfl ae rfl (.val (Y.zn rfl rfl rfl) ae (.val (Y.zn rfl rfl rfl) ae ?_))
 refine .nil ?_
 refine .a8 rfl (fun Ic => ?_) (fun Ic => ?_)
 refine .sr ?_
 refine .an ?_
 refine .nil (.ret ?_)
 exact .rb rfl (df (fun h => by have h1 := h.strs jG om; unfold iE ab.wd at h1; grind))
 refine .skip ⟨true, decide ((n.aa.getD ((n.data.getD jG 0).toNat) 0) ≠ ((n.streams.getD jG default).width)), by unfold iE ab.wd; grind, Le.mk (.c8 (.cons (aF rfl fw) (.cons (aF rfl fw) .nil))) (.c .nil)⟩
 refine .al (d := 44) rfl ae ae rfl rfl (.al (d := 44) rfl ae ae rfl rfl (.al (d := 44) rfl ae ae rfl rfl ?_))
 refine .al (d := 44) rfl ae ae rfl rfl (.al (d := 44) rfl ae ae rfl rfl (.al (d := 44) rfl ae ae rfl rfl ?_))
 refine .al (d := 44) rfl ae ae rfl rfl (.al (d := 44) rfl ae ae rfl rfl (.al (d := 44) rfl ae ae rfl rfl ?_))
 refine .al (d := 44) rfl ae ae rfl rfl (.al (d := 44) rfl ae ae rfl rfl (.al (d := 44) rfl ae ae rfl rfl ?_))
 refine .al (d := 44) rfl ae ae rfl rfl (.al (d := 44) rfl ae ae rfl rfl (.al (d := 44) rfl ae ae rfl rfl ?_))
 refine .al (d := 44) rfl ae ae rfl rfl (.ar (d := 37) rfl ae rfl (.val (Y.zn rfl rfl rfl) ae ?_))
 refine .val (Y.zn rfl rfl rfl) ae (.nil (.bO rfl ?_))
 refine .skip ⟨false, false, by unfold iE ab.wd; grind, Le.mk (.c8 (.cons (aF rfl fw) (.cons (aF rfl fw) .nil))) (.c .nil)⟩
 refine .region ?_
 refine .mv ?_
 refine .vl (Y.qb rfl rfl bw) ?_
 refine .an ?_
 refine .nil (⟨jG + 1, ⟨om, cT vy Dx⟩, om, Le.mk (.c (.cons (aj rfl bf) .nil)) (.c .nil)⟩)
 refine .exit (.sr ?_)
 refine .fa bu ?_
 refine .ld aW ?_
 refine .fa oE ?_
 refine .ld aV ?_
 refine .vl (Y.qs (m := (n.freeze).toNat) az rfl rfl om (aq (d := 0) om)) ?_
 refine .ld aV ?_
 refine .vl (Y.ql rfl rfl) ?_
 refine .mv ?_
 refine .ax (d := 70) rfl (fun PN => ?_) (fun PN => ?_)
 refine .gw 70 (Y.qp bu rfl rfl) (.gw 70 (Y.za aW rfl rfl rfl rfl) (.gw 70 (Y.qp pZ rfl rfl) ?_))
 refine .gw 70 (Y.za aV rfl rfl rfl rfl) (.gw 70 (Y.qs (m := (n.done).toNat) az rfl rfl om (aq (d := 0) om)) ?_)
 refine .gw 70 (Y.za aV rfl rfl rfl rfl) (.gw 70 (Y.ql rfl rfl) ?_)
 refine .pk ?_
 refine .an ?_
 refine .nil (.ret ?_)
 exact .rb rfl (dd ⟨fun h => ⟨by unfold ab.wd; omega, h, fun j hj => vy j om, fun j hj => hc j om⟩, fun h => h.done⟩)
 refine .gz 70 (.gz 70 (.gz 70 ?_))
 refine .gz 70 (.gz 70 (.gz 70 ?_))
 refine .gz 70 ?_
 refine .pk ?_
 refine .an ?_
 refine .nil (.ret ?_)
 exact .rb rfl (df (fun h => by have h1 := h.freeze; unfold ab.wd at h1; omega))
theorem yk {n : ab} (hs : n.Small) (hf : aU n) : au Try.prog 52 [.agg (ab.row n)] [] [] (fun r o => r = .v (.bool (decide (¬ Acyclic n))) ∧ o = []) := by
 refine au.of Try.func52 rfl rfl rfl (n := 83) ae (aI rfl) ?_
 have Gm := hf.b8; have M7 := hf.bR
 refine .sr (.box 101 rfl rfl rfl rfl rfl ae ?_)
 refine .an ?_
 refine .nil (.sr ?_)
 refine .fa bu ?_
 refine .ld aW ?_
 refine .vl (Y.qx (n := n.aa.length) az rfl cS) (.makeSlice (n := n.aa.length) mN Mp rfl rfl rfl rfl om om ae ?_)
 refine .dy rfl ae (.sh (Sh.ep (d := 3) (n := n.aa.length) 103 ((List.replicate n.aa.length false).map fI) rfl jJ (b5 (by simp)) ae) (.nil ?_))
 refine .sr ?_
 refine .an ?_
 refine .nil (.seq (.sr ?_))
 refine .an ?_
 refine .nil (.block ?_)
 refine .jt (fun (gM : Nat) (eH : Nat) (eR : List Bool) => ⟨[(1, .ptr 101 0 0 0), (3, .ba 103 1 0 n.aa.length), (4, vi gM), (5, vi eH)], [(101, .cells (ab.row n)), (103, .rows 1 (eR.map fI))]⟩) (fun gM eH eR => (eR.length = n.aa.length) ∧ ((eH : Int) ≤ (n.cells.length : Int)) ∧ (vm n eH eR) ∧ ((gM : Int) = (eH : Int) - ((fJ n eH).length : Int))) (fun gM eH eR => ((n.cells.length : Int) - (eH : Int)).toNat) 0 0 (List.replicate n.aa.length false) (⟨gu, gu, vm.init n, by simp [fJ]⟩) (Le.mk (.c2 (.cons (aj rfl bf) (.cons (aj rfl bf) .nil))) (.c (.c .nil))) (fun gM eH eR CD => ?_)
 obtain ⟨mF, Lj, hk, hle⟩ := CD
 refine .seq (.sr ?_)
 refine .mv ?_
 refine .fa bL ?_
 refine .ld eT ?_
 refine .vl (Y.qx (n := n.cells.length) dr rfl cS) (.vl (Y.zc rfl rfl) (.nil ?_))
 refine .a8 rfl (fun Tx => ?_) (fun Tx => ?_)
 refine .skip ?_
 refine .np (fun (nJ : Nat) (kd : List Bool) => ⟨[(1, .ptr 101 0 0 0), (3, .ba 103 1 0 n.aa.length), (4, vi nJ), (5, vi eH)], [(101, .cells (ab.row n)), (103, .rows 1 (kd.map fI))]⟩) (fun nJ kd => (kd.length = n.aa.length) ∧ (vm n (eH + 1) kd ∧ (nJ : Int) = ((eH + 1 : Nat) : Int) - ((fJ n (eH + 1)).length : Int))) ?_ (fun nJ kd HJ => ?_)
 refine .block (.sr ?_)
 refine .fa bL ?_
 refine .ld eT ?_
 refine .mv ?_
 refine .vl (Y.qs (m := eH) dr rfl rfl bf (aq (d := default) om)) ?_
 refine .vl (Y.zb dS rfl rfl (aI rfl) rfl rfl) (.alloc 106 dM rfl rfl ae (.ak eE rfl rfl rfl rfl rfl rfl (aI rfl) rfl ?_))
 refine .nil (.seq ?_)
 have hx := hk.next hf om mF
 have Uu := hx.2.2.2
 have hy := Ay n eH
 refine .region ?_
 refine .fa bP ?_
 refine .ld aV ?_
 refine .aH Em (jU (w := ((n.cells.getD eH default).kind))) rfl (.ah rfl rfl .nil) ae rfl (.vl (Y.zm rfl) ?_)
 refine .mv ?_
 refine .dP (d := 30) rfl (fun rh => ?_) (fun rh => ?_)
 refine .gw 30 (Y.qp cN rfl rfl) (.gw 30 (Y.za aV rfl rfl rfl rfl) (.gw 30 (Y.qq rfl rfl) ?_))
 refine .pk ?_
 refine .nil ?_
 refine .a8 rfl (fun wc => ?_) (fun wc => ?_)
 refine .region ?_
 refine .mv ?_
 refine .fa cN ?_
 refine .ld aV ?_
 refine .vl (Y.qt (m := ((n.cells.getD eH default).out).toNat) mN rfl rfl om om) (.dC ((eR.set (((n.cells.getD eH default).out).toNat) true).map fI) IA rfl rfl rfl rfl rfl rfl rfl (aB (d := false) om) (aI rfl) (ck rfl) (.nil (⟨gM, eR.set (((n.cells.getD eH default).out).toNat) true, ⟨gu, by first | exact ⟨hx.1 bm bm, by have := hy.2 bm; omega⟩ | exact ⟨(hx.2.1 bm).1, by have := hy.1 bm; omega⟩ | exact ⟨hx.2.2.1 bm, by have := hy.2 bm; omega⟩ | (exfalso; have := (hx.2.1 bm).2; omega) | (exfalso; omega)⟩, Le.mk (.c2 (.cons (aj rfl bf) (.c .nil))) (.c (.c .nil))⟩)))
 refine .sr ?_
 refine .fa cN ?_
 refine .ld aV ?_
 refine .vl (Y.qq rfl rfl) (.nil ?_)
 refine .a8 rfl (fun tt => ?_) (fun tt => ?_)
 refine .region ?_
 refine .mv ?_
 refine .vl (Y.qb rfl rfl om) ?_
 refine .an ?_
 refine .nil (⟨gM + 1, eR, ⟨om, by first | exact ⟨hx.1 bm bm, by have := hy.2 bm; omega⟩ | exact ⟨(hx.2.1 bm).1, by have := hy.1 bm; omega⟩ | exact ⟨hx.2.2.1 bm, by have := hy.2 bm; omega⟩ | (exfalso; have := (hx.2.1 bm).2; omega) | (exfalso; omega)⟩, Le.mk (.c2 (.cons (aj rfl bf) (.c .nil))) (.c (.c .nil))⟩)
 refine .skip (⟨gM, eR, ⟨om, by first | exact ⟨hx.1 bm bm, by have := hy.2 bm; omega⟩ | exact ⟨(hx.2.1 bm).1, by have := hy.1 bm; omega⟩ | exact ⟨hx.2.2.1 bm, by have := hy.2 bm; omega⟩ | (exfalso; have := (hx.2.1 bm).2; omega) | (exfalso; omega)⟩, Le.mk (.c2 (.cons (aj rfl bf) (.c .nil))) (.c (.c .nil))⟩)
 refine .gz 30 (.gz 30 (.gz 30 ?_))
 refine .pk ?_
 refine .nil (.bO rfl (.sr ?_))
 refine .fa cN ?_
 refine .ld aV ?_
 refine .vl (Y.qq rfl rfl) (.nil ?_)
 refine .a8 rfl (fun tt => ?_) (fun tt => ?_)
 refine .region ?_
 refine .mv ?_
 refine .vl (Y.qb rfl rfl om) ?_
 refine .an ?_
 refine .nil (⟨gM + 1, eR, ⟨om, by first | exact ⟨hx.1 bm bm, by have := hy.2 bm; omega⟩ | exact ⟨(hx.2.1 bm).1, by have := hy.1 bm; omega⟩ | exact ⟨hx.2.2.1 bm, by have := hy.2 bm; omega⟩ | (exfalso; have := (hx.2.1 bm).2; omega) | (exfalso; omega)⟩, Le.mk (.c2 (.cons (aj rfl bf) (.c .nil))) (.c (.c .nil))⟩)
 refine .skip (⟨gM, eR, ⟨om, by first | exact ⟨hx.1 bm bm, by have := hy.2 bm; omega⟩ | exact ⟨(hx.2.1 bm).1, by have := hy.1 bm; omega⟩ | exact ⟨hx.2.2.1 bm, by have := hy.2 bm; omega⟩ | (exfalso; have := (hx.2.1 bm).2; omega) | (exfalso; omega)⟩, Le.mk (.c2 (.cons (aj rfl bf) (.c .nil))) (.c (.c .nil))⟩)
 obtain ⟨CE, yL⟩ := HJ
 refine .region ?_
 refine .mv ?_
 refine .vl (Y.qb rfl rfl om) ?_
 refine .an ?_
 refine .nil (⟨nJ, eH + 1, kd, ⟨om, om, yL.1, yL.2⟩, om, Le.mk (.c2 (.cons (aj rfl bf) (.cons (aj rfl bf) .nil))) (.c (.c .nil))⟩)
 refine .exit (.seq (.sr ?_))
 refine .an ?_
 refine .nil (.block ?_)
 have Ty : vm n n.cells.length eR := by rw [show n.cells.length = eH by omega]; exact hk
 have Tz := LD.init hf Ty
 have MM : (gM : Int) = (n.cells.length : Int) - ((fJ n n.cells.length).length : Int) := by rw [show n.cells.length = eH by omega]; exact hle
 refine .jt (fun (iM : Int) (lH : Bool) (ji : List Bool) => ⟨[(1, .ptr 101 0 0 0), (3, .ba 103 1 0 n.aa.length), (4, vi iM), (7, .v (.bool lH))], [(101, .cells (ab.row n)), (103, .rows 1 (ji.map fI))]⟩) (fun iM lH ji => (ji.length = n.aa.length) ∧ (∃ done, LD n done ji iM ∧ (lH = false → yQ n n.cells.length done))) (fun iM lH ji => 2 * iM.toNat + lH.toNat) (gM : Int) true eR (⟨om, ⟨[], by rw [MM]; exact Tz, fun h => (by cases h)⟩⟩) (Le.mk (.c2 (.cons (aj rfl bf) (.cons (aF rfl fw) .nil))) (.c (.c .nil))) (fun iM lH ji Ix => ?_)
 obtain ⟨mF, hR⟩ := Ix
 refine .seq (.sr ?_)
 refine .mv ?_
 refine .nil ?_
 refine .cond rfl (fun LP => ?_) (fun LP => ?_)
 refine .skip (.block (.sr ?_))
 refine .an ?_
 refine .nil (.sr ?_)
 refine .an ?_
 refine .nil (.block ?_)
 refine .vF (fun (gJ : Int) (iN : Bool) (iq : Nat) (ev : List Bool) => ⟨[(1, .ptr 101 0 0 0), (3, .ba 103 1 0 n.aa.length), (4, vi gJ), (7, .v (.bool iN)), (8, vi iq)], [(101, .cells (ab.row n)), (103, .rows 1 (ev.map fI))]⟩) (fun gJ iN iq ev => (ev.length = n.aa.length) ∧ ((iq : Int) ≤ (n.cells.length : Int)) ∧ (oc n (iq : Int) iM ev gJ iN)) (fun gJ iN iq ev => ((n.cells.length : Int) - (iq : Int)).toNat) iM false 0 ji (⟨om, om, by obtain ⟨done, b1, b2⟩ := hR; exact ⟨done, b1, Int.le_refl _, fun h => (by cases h), fun _ i hi h0 => by have := hi.1; omega⟩⟩) (Le.mk (.c2 (.cons (aj rfl bf) (.cons (aF rfl fw) (.cons (aj rfl bf) .nil)))) (.c (.c .nil))) (fun gJ iN iq ev PO => ?_)
 obtain ⟨mF, T1, hQ⟩ := PO
 refine .seq (.sr ?_)
 refine .mv ?_
 refine .fa bL ?_
 refine .ld eT ?_
 refine .vl (Y.qx (n := n.cells.length) dr rfl cS) (.vl (Y.zc rfl rfl) (.nil ?_))
 refine .a8 rfl (fun T2 => ?_) (fun T2 => ?_)
 refine .skip ?_
 refine .vE (fun (lI : Int) (lJ : Bool) (jj : List Bool) => ⟨[(1, .ptr 101 0 0 0), (3, .ba 103 1 0 n.aa.length), (4, vi lI), (7, .v (.bool lJ)), (8, vi iq)], [(101, .cells (ab.row n)), (103, .rows 1 (jj.map fI))]⟩) (fun lI lJ jj => (jj.length = n.aa.length) ∧ (oc n ((iq + 1 : Nat) : Int) iM jj lI lJ)) ?_ (fun lI lJ jj LX => ?_)
 refine .block (.sr ?_)
 refine .fa bL ?_
 refine .ld eT ?_
 refine .mv ?_
 refine .vl (Y.qs (m := iq) dr rfl rfl bf (aq (d := default) om)) ?_
 refine .vl (Y.zb dS rfl rfl (aI rfl) rfl rfl) (.alloc 109 dM rfl rfl ae (.ak eE rfl rfl rfl rfl rfl rfl (aI rfl) rfl ?_))
 refine .nil (.seq (.seq ?_))
 have Uv := oc.bd hf hQ
 refine .region ?_
 refine .fa bP ?_
 refine .ld aV ?_
 refine .aH Em (jU (w := ((n.cells.getD iq default).kind))) rfl (.ah rfl rfl .nil) ae rfl (.vl (Y.zm rfl) ?_)
 refine .mv ?_
 refine .dP (d := 61) rfl (fun T3 => ?_) (fun T3 => ?_)
 refine .gz 61 (.gz 61 (.gz 61 ?_))
 refine .gz 61 (.gz 61 ?_)
 refine .pk ?_
 refine .mv ?_
 refine .gz 68 (.gz 68 (.gz 68 ?_))
 refine .gz 68 (.gz 68 ?_)
 refine .pk ?_
 refine .nil (.aM rfl (.exit ?_))
 exact ⟨gJ, iN, ev, ⟨om, by first | exact oc.seq hQ bm | exact oc.skip hf hQ om (.inl bm) bm | exact oc.skip hf hQ om (.inr bm) bm | exact oc.step hf hQ om mF bm bm bm⟩, Le.mk (.c2 (.cons (aj rfl bf) (.cons (aF rfl fw) (.c .nil)))) (.c (.c .nil))⟩
 have IU := hf.eF (b6.iW (n := n) (i := (iq : Int)) ⟨⟨om, om⟩, bm⟩)
 rw [l2] at IU
 have tu := IU; unfold In at tu
 refine .gw 61 (Y.zg rfl rfl) (.gw 61 (Y.qp cN rfl rfl) (.gw 61 (Y.za aV rfl rfl rfl rfl) ?_))
 refine .gw 61 (Y.qt (m := ((n.cells.getD iq default).out).toNat) mN rfl rfl om om) (.gw 61 (Y.za ta rfl (aB (d := false) om) rfl rfl) ?_)
 refine .pk ?_
 refine .mv ?_
 refine .split (d := 68) rfl (fun Gl => ?_) (fun Gl => ?_)
 refine .gz 68 (.gz 68 (.gz 68 ?_))
 refine .gz 68 (.gz 68 ?_)
 refine .pk ?_
 refine .nil (.aM rfl (.exit ?_))
 exact ⟨gJ, iN, ev, ⟨om, by first | exact oc.seq hQ bm | exact oc.skip hf hQ om (.inl bm) bm | exact oc.skip hf hQ om (.inr bm) bm | exact oc.step hf hQ om mF bm bm bm⟩, Le.mk (.c2 (.cons (aj rfl bf) (.cons (aF rfl fw) (.c .nil)))) (.c (.c .nil))⟩
 refine .gw 68 (Y.zg rfl rfl) (.gw 68 (Y.qp bF rfl rfl) (.gw 68 (Y.za aW rfl rfl rfl rfl) ?_))
 refine .ar (d := 68) rfl ae rfl ?_
 refine .g7 [103] NS (Dg (kn := ev) (l := ((n.cells.getD iq default).args)) (fun x hx => by rw [mF]; exact hf.ia (i := (iq : Int)) ⟨om, om⟩ hx) (hs.args _ (dZ om))) rfl (.cw rfl rfl (bo om) (bp om) (.ah rfl rfl .nil)) (hY rfl (aY se)) ae rfl trivial ?_
 refine .gw 68 (Y.zm rfl) ?_
 refine .pk ?_
 refine .nil ?_
 refine .dB rfl (fun qH => ?_) (fun qH => ?_)
 refine .exit (⟨gJ, iN, ev, ⟨om, by first | exact oc.seq hQ bm | exact oc.skip hf hQ om (.inl bm) bm | exact oc.skip hf hQ om (.inr bm) bm | exact oc.step hf hQ om mF bm bm bm⟩, Le.mk (.c2 (.cons (aj rfl bf) (.cons (aF rfl fw) (.c .nil)))) (.c (.c .nil))⟩)
 refine .skip (.sr ?_)
 refine .mv ?_
 refine .fa cN ?_
 refine .ld aV ?_
 refine .vl (Y.qt (m := ((n.cells.getD iq default).out).toNat) mN rfl rfl om om) (.dC ((ev.set (((n.cells.getD iq default).out).toNat) true).map fI) IA rfl rfl rfl rfl rfl rfl rfl (aB (d := false) om) (aI rfl) (ck rfl) ?_)
 refine .nil (.sr ?_)
 refine .an ?_
 refine .nil (.region ?_)
 refine .mv ?_
 refine .vl (Y.zz rfl rfl om) ?_
 refine .an ?_
 refine .nil (⟨gJ - 1, true, ev.set (((n.cells.getD iq default).out).toNat) true, ⟨gu, by first | exact oc.seq hQ bm | exact oc.skip hf hQ om (.inl bm) bm | exact oc.skip hf hQ om (.inr bm) bm | exact oc.step hf hQ om mF bm bm bm⟩, Le.mk (.c2 (.cons (aj rfl bf) (.cons (aF rfl fw) (.c .nil)))) (.c (.c .nil))⟩)
 obtain ⟨Jg, PQ⟩ := LX
 refine .region ?_
 refine .mv ?_
 refine .vl (Y.qb rfl rfl om) ?_
 refine .an ?_
 refine .nil (⟨lI, lJ, iq + 1, jj, ⟨om, om, PQ⟩, om, Le.mk (.c2 (.cons (aj rfl bf) (.cons (aF rfl fw) (.cons (aj rfl bf) .nil)))) (.c (.c .nil))⟩)
 refine .exit (⟨gJ, iN, ev, ⟨om, by obtain ⟨done, b1, b2, b3, b4⟩ := hQ; exact ⟨done, b1, by rw [show (n.cells.length : Int) = (iq : Int) by omega]; exact b4⟩⟩, oc.mu hf hQ bm, Le.mk (.c2 (.cons (aj rfl bf) (.cons (aF rfl fw) .nil))) (.c (.c .nil))⟩)
 refine .exit (.sr ?_)
 refine .mv ?_
 refine .vl (Y.qr rfl rfl) ?_
 refine .an ?_
 refine .nil (.ret ?_)
 exact .rb rfl (dd (by obtain ⟨done, b1, b2⟩ := hR; exact b1.res hf (b2 bm)))
theorem tA {n : ab} (hs : n.Small) : au Try.prog 17 [.agg (ab.row n)] [] [] (fun r o => r = (vi (fK n)) ∧ o = []) := by
 refine au.of Try.func17 rfl rfl rfl (n := 14) ae (aI rfl) (.sr (.box 101 rfl rfl rfl rfl rfl ae ?_))
 refine .an ?_
 refine .nil (.seq (.block ?_))
 refine .sr (.vl (Y.zb dD rfl rfl (aI rfl) rfl rfl) (.aH NB (sX (n := n) hs) rfl (.ah rfl rfl .nil) ae rfl ?_))
 refine .vl (Y.zm rfl) ?_
 refine .an ?_
 refine .nil ?_
 refine .dB rfl (fun c3 => ?_) (fun c3 => ?_)
 refine .sr ?_
 refine .an ?_
 refine .nil (.ret ?_)
 exact .ri rfl (by unfold fK; rw [if_neg bm])
 refine .sr (.vl (Y.zb dD rfl rfl (aI rfl) rfl rfl) (.aH NC (w9 (n := n) hs bm) rfl (.ah rfl rfl .nil) ae rfl ?_))
 refine .vl (Y.zm rfl) ?_
 refine .an ?_
 refine .nil ?_
 refine .dB rfl (fun c7 => ?_) (fun c7 => ?_)
 refine .sr ?_
 refine .an ?_
 refine .nil (.ret ?_)
 exact .ri rfl (by unfold fK; rw [if_pos bm, if_neg bm])
 refine .sr (.vl (Y.zb dD rfl rfl (aI rfl) rfl rfl) (.aH ND (yk (n := n) hs bm) rfl (.ah rfl rfl .nil) ae rfl ?_))
 refine .an ?_
 refine .nil ?_
 refine .a8 rfl (fun Gb => ?_) (fun Gb => ?_)
 refine .sr ?_
 refine .an ?_
 refine .nil (.ret ?_)
 exact .ri rfl (by unfold fK; rw [if_pos bm, if_pos bm, if_neg bm])
 refine .skip (.sr ?_)
 refine .an ?_
 refine .nil (.ret ?_)
 exact .ri rfl (by unfold fK; rw [if_pos bm, if_pos bm, if_pos (Classical.not_not.1 bm)])
open Go Go.AW Go.Proofs
end Go.Proofs.Ytligpghohcfpnaa
namespace Go.Proofs.Ytligpghohcfpnaa
open Go Go.AW Go.Proofs
theorem tB {n : ab} {p : pJ} (hn : n.aa.length ≤ 1048576) (h0 : 0 < n.aa.length) (hp : p.Ok) (hg : Ground n) (hi : n.ins.length ≤ 1048576) : au Try.prog 91 [.agg (ab.ph n), .agg (pJ.row p)] [] [] (fun r o => ∃ c w, ku n c w ∧ r = .tup [.agg (Cell.mL c), vi w] ∧ o = []) := by
 refine au.O0 Try.func91 rfl rfl rfl (n := 96) ae (aI rfl) ?_
 have OB := hp.kind; have EF := hp.op; have T4 := hp.width; have Rh := hp.a; have T5 := hp.b; have Ri := hp.d; have T6 := hp.num; have Ov := Nat.mod_lt p.a h0; have Mu := Nat.mod_lt p.b h0
 refine .sr (.box 102 rfl rfl rfl rfl rfl ae (.box 103 rfl rfl rfl rfl rfl ae ?_))
 refine .alloc 104 dM rfl rfl ae ?_
 refine .an ?_
 refine .nil (.seq (.sh (Sh.cW 102 rfl rfl) ?_))
 refine .sh (Sh.cW 103 rfl rfl) (.region ?_)
 refine .buildSlice (([2, 3, 9, 10, 11, 12, 13, 14, 15, 16, 17, 18, 19, 20, 21, 22, 23, 24] : List Int).map ai) az ey rfl rfl rfl rfl rfl (aA (s := 1) (f := ai) (fun _ => rfl)) rfl rfl rfl ae ?_
 refine .dy rfl ae (.sh (Sh.dg (d := 6) (([2, 3, 9, 10, 11, 12, 13, 14, 15, 16, 17, 18, 19, 20, 21, 22, 23, 24] : List Int).map ai) rfl jJ (cQ.map aE)) (.nil ?_))
 refine .le (aT := ⟨[(2, .fp (ab.ph n) 0), (3, .fp (pJ.row p) 0), (4, .ptr 104 0 0 0), (6, .fz 1 (([2, 3, 9, 10, 11, 12, 13, 14, 15, 16, 17, 18, 19, 20, 21, 22, 23, 24] : List Int).map ai))], [(104, .cells [vi 0, vi 0, vi 0, vn, .v (.int .u64 0), vi 0])]⟩) (Le.mk (.c2 (.c (.c .nil))) (.c .nil)) (.sr ?_)
 refine .mv ?_
 refine .fa q3 ?_
 refine .ld qY ?_
 refine .vl (Y.qk tX q4 rfl wG) ?_
 refine .mv ?_
 refine .vl (Y.qx (n := ([2, 3, 9, 10, 11, 12, 13, 14, 15, 16, 17, 18, 19, 20, 21, 22, 23, 24] : List Int).length) az rfl cS) (.vl (Y.zs rfl rfl bw) (.vl (Y.qs (m := p.op % (([2, 3, 9, 10, 11, 12, 13, 14, 15, 16, 17, 18, 19, 20, 21, 22, 23, 24] : List Int).length)) az rfl rfl bf (aq (d := 0) bw)) ?_))
 refine .ld aV ?_
 refine .an ?_
 refine .nil (.sr ?_)
 refine .fa Cc ?_
 refine .ld qY ?_
 refine .aH tj (eY (k := p.width)) rfl (.ah rfl rfl .nil) ae rfl ?_
 refine .an ?_
 refine .nil (.sr ?_)
 refine .mv ?_
 refine .vl (Y.qh uG dM rfl rfl rfl) (.alloc 109 dM rfl rfl ae (.ak eE rfl rfl rfl rfl rfl rfl (aI rfl) rfl ?_))
 refine .nil (.seq (.block ?_))
 refine .sr ?_
 refine .mv ?_
 refine .vl (Y.ql rfl rfl) ?_
 refine .an ?_
 refine .nil ?_
 refine .a8 rfl (fun wN => ?_) (fun wN => ?_)
 refine .fA rfl (.e8 0 rfl ao dD rfl rfl rfl (aI rfl) rfl rfl ae (.blind 1 rfl ao (aw.fieldAddr kv rfl rfl) ae ?_))
 refine .blind 2 rfl ao (aw.kD su rfl rfl (m := 0) rfl om rfl) ae (.load 3 rfl ao qY rfl rfl rfl rfl rfl ae (.e8 5 rfl ao dD rfl rfl rfl (aI rfl) rfl rfl ae ?_))
 refine .blind 6 rfl ao (aw.move rfl rfl) ae (.blind 7 rfl ao (aw.fieldAddr kv rfl rfl) ae (.blind 8 rfl ao (aw.kD su rfl rfl (m := 1) rfl om rfl) ae ?_))
 refine .load 9 rfl ao qY rfl rfl rfl rfl rfl ae (.e8 11 rfl ao dD rfl rfl rfl (aI rfl) rfl rfl ae (.blind 12 rfl ao (aw.move rfl rfl) ae ?_))
 refine .blind 13 rfl ao (aw.fieldAddr kv rfl rfl) ae (.blind 14 rfl ao (aw.kD su rfl rfl (m := 2) rfl om rfl) ae (.load 15 rfl ao qY rfl rfl rfl rfl rfl ae ?_))
 refine .xK (.one 4 rfl ao (.aH gV (cj (n := (⟨n.name, n.aa, n.cells, n.ins, n.a7, n.streams, [], [], n.freeze, n.done, []⟩ : ab)) (w := 1) (k := p.a) (by show (n.aa).length ≤ 1048576; omega) om) rfl (.ah rfl rfl (.ah rfl rfl (.ah rfl rfl .nil))) ae rfl ?_))
 refine .nil ⟨rfl, ?_⟩
 refine .one 10 rfl ao (.aH gV (cj (n := (⟨n.name, n.aa, n.cells, n.ins, n.a7, n.streams, [], [], n.freeze, n.done, []⟩ : ab)) (w := (ay p.width)) (k := p.b) (by show (n.aa).length ≤ 1048576; omega) om) rfl (.ah rfl rfl (.ah rfl rfl (.ah rfl rfl .nil))) ae rfl ?_)
 refine .nil ⟨rfl, ?_⟩
 refine .one 16 rfl ao (.aH gV (cj (n := (⟨n.name, n.aa, n.cells, n.ins, n.a7, n.streams, [], [], n.freeze, n.done, []⟩ : ab)) (w := (ay p.width)) (k := p.d) (by show (n.aa).length ≤ 1048576; omega) om) rfl (.ah rfl rfl (.ah rfl rfl (.ah rfl rfl .nil))) ae rfl ?_)
 refine .nil ⟨rfl, ?_⟩
 refine .one 17 rfl ao ?_
 refine .buildSlice (([aC n.aa 1 p.a, aC n.aa (ay p.width) p.b, aC n.aa (ay p.width) p.d] : List Int).map ai) az ey rfl rfl rfl rfl rfl (aA (s := 1) (f := ai) (fun _ => rfl)) rfl rfl rfl ae ?_
 refine .nil ⟨rfl, ?_⟩
 refine .one 18 rfl ao ?_
 refine .fa bF ?_
 refine .nil ⟨rfl, ?_⟩
 refine .one 19 rfl ao (.sh (Sh.ep (d := 62) (n := ([aC n.aa 1 p.a, aC n.aa (ay p.width) p.b, aC n.aa (ay p.width) p.d] : List Int).length) 162 (([aC n.aa 1 p.a, aC n.aa (ay p.width) p.b, aC n.aa (ay p.width) p.d] : List Int).map ai) rfl jJ (b5 rfl) ae) (.ak fm rfl rfl rfl rfl rfl rfl (aI rfl) rfl ?_))
 refine .nil ⟨rfl, ?_⟩
 refine .done ao (.le (aT := ⟨[(4, .ptr 104 0 0 0), (8, vi (ay p.width)), (9, .ptr 109 0 0 0)], [(104, .cells [vi 0, vi 0, vi 0, vn, .v (.int .u64 0), vi 0]), (109, .cells [vi 2, vi (([2, 3, 9, 10, 11, 12, 13, 14, 15, 16, 17, 18, 19, 20, 21, 22, 23, 24] : List Int).getD (p.op % (([2, 3, 9, 10, 11, 12, 13, 14, 15, 16, 17, 18, 19, 20, 21, 22, 23, 24] : List Int).length)) 0), vi 0, .ba 162 1 0 (([aC n.aa 1 p.a, aC n.aa (ay p.width) p.b, aC n.aa (ay p.width) p.d] : List Int).length), .v (.int .u64 0), vi 0]), (162, .rows 1 (([aC n.aa 1 p.a, aC n.aa (ay p.width) p.b, aC n.aa (ay p.width) p.d] : List Int).map ai))]⟩) (Le.mk (.c2 (.c .nil)) (.c2 (.c .nil))) ?_)
 refine .sr (.vl (Y.zb dS rfl rfl (aI rfl) rfl rfl) ?_)
 refine .mv ?_
 refine .ak eE rfl rfl rfl rfl rfl rfl (aI rfl) rfl ?_
 refine .an ?_
 refine .nil (.ret ?_)
 exact ⟨_, rfl, _, _, _, Sh.l9 (d := 0) 3 162 rfl rfl rfl rfl sZ rfl ae, rfl, rfl, (⟨2, ([2, 3, 9, 10, 11, 12, 13, 14, 15, 16, 17, 18, 19, 20, 21, 22, 23, 24] : List Int).getD (p.op % (([2, 3, 9, 10, 11, 12, 13, 14, 15, 16, 17, 18, 19, 20, 21, 22, 23, 24] : List Int).length)) 0, 0, ([aC n.aa 1 p.a, aC n.aa (ay p.width) p.b, aC n.aa (ay p.width) p.d] : List Int), 0, 0⟩ : Cell), _, Hc hg wN, rfl, rfl⟩
 refine .sr ?_
 refine .mv ?_
 refine .aH pw (fD (w := (([2, 3, 9, 10, 11, 12, 13, 14, 15, 16, 17, 18, 19, 20, 21, 22, 23, 24] : List Int).getD (p.op % (([2, 3, 9, 10, 11, 12, 13, 14, 15, 16, 17, 18, 19, 20, 21, 22, 23, 24] : List Int).length)) 0))) rfl (.ah rfl rfl .nil) ae rfl ?_
 refine .an ?_
 refine .nil ?_
 refine .a8 rfl (fun As => ?_) (fun As => ?_)
 refine .sr ?_
 refine .fa kv ?_
 refine .vl (Y.qu su rfl rfl (m := 0) rfl om rfl) ?_
 refine .ld qY ?_
 refine .vl (Y.qk tX q4 rfl wG) ?_
 refine .fa bu ?_
 refine .ld aW ?_
 refine .vl (Y.qx (n := n.aa.length) az rfl cS) (.vl (Y.zs rfl rfl bw) ?_)
 refine .an ?_
 refine .nil ?_
 refine .fb (fun (qM : Int) => ⟨[(4, .ptr 104 0 0 0), (8, vi qM), (9, .ptr 109 0 0 0), (10, vi ((p.a : Int) % (n.aa.length : Int)))], [(104, .cells [vi 0, vi 0, vi 0, vn, .v (.int .u64 0), vi 0]), (109, .cells [vi 2, vi (([2, 3, 9, 10, 11, 12, 13, 14, 15, 16, 17, 18, 19, 20, 21, 22, 23, 24] : List Int).getD (p.op % (([2, 3, 9, 10, 11, 12, 13, 14, 15, 16, 17, 18, 19, 20, 21, 22, 23, 24] : List Int).length)) 0), vi 0, vn, .v (.int .u64 0), vi 0])]⟩) (fun qM => (((([2, 3, 9, 10, 11, 12, 13, 14, 15, 16, 17, 18, 19, 20, 21, 22, 23, 24] : List Int).getD (p.op % (([2, 3, 9, 10, 11, 12, 13, 14, 15, 16, 17, 18, 19, 20, 21, 22, 23, 24] : List Int).length)) 0) = 24) ∧ (qM = (if (n.aa.getD (p.a % n.aa.length) 0) < (ay p.width) then (n.aa.getD (p.a % n.aa.length) 0) else (ay p.width)))) ∨ ((¬ ((([2, 3, 9, 10, 11, 12, 13, 14, 15, 16, 17, 18, 19, 20, 21, 22, 23, 24] : List Int).getD (p.op % (([2, 3, 9, 10, 11, 12, 13, 14, 15, 16, 17, 18, 19, 20, 21, 22, 23, 24] : List Int).length)) 0) = 24)) ∧ (qM = (if (n.aa.getD (p.a % n.aa.length) 0) > (ay p.width) then (n.aa.getD (p.a % n.aa.length) 0) else (ay p.width))))) ?_ (fun qM EM => ?_)
 refine .sr ?_
 refine .mv ?_
 refine .vl (Y.ql rfl rfl) (.nil ?_)
 refine .a8 rfl (fun Aq => ?_) (fun Aq => ?_)
 refine .region ?_
 refine .mv ?_
 refine .fa bu ?_
 refine .ld aW ?_
 refine .mv ?_
 refine .vl (Y.qs (m := p.a % n.aa.length) az rfl rfl bf (aq (d := 0) om)) ?_
 refine .ld aV ?_
 refine .vl (Y.zf rfl rfl rfl) ?_
 refine .an ?_
 refine .nil (⟨if (n.aa.getD (p.a % n.aa.length) 0) < (ay p.width) then (n.aa.getD (p.a % n.aa.length) 0) else (ay p.width), .inl ⟨Aq, rfl⟩, Le.mk (.c (.cons (aj rfl bf) (.c (.c .nil)))) (.c (.c .nil))⟩)
 refine .region ?_
 refine .mv ?_
 refine .fa bu ?_
 refine .ld aW ?_
 refine .mv ?_
 refine .vl (Y.qs (m := p.a % n.aa.length) az rfl rfl bf (aq (d := 0) om)) ?_
 refine .ld aV ?_
 refine .vl (Y.ze rfl rfl rfl) ?_
 refine .an ?_
 refine .nil (⟨if (n.aa.getD (p.a % n.aa.length) 0) > (ay p.width) then (n.aa.getD (p.a % n.aa.length) 0) else (ay p.width), .inr (⟨Aq, rfl⟩), Le.mk (.c (.cons (aj rfl bf) (.c (.c .nil)))) (.c (.c .nil))⟩)
 refine .region ?_
 refine .mv ?_
 refine .buildSlice (([(p.a : Int) % (n.aa.length : Int)] : List Int).map ai) az ey rfl rfl rfl rfl rfl (aA (s := 1) (f := ai) (fun _ => rfl)) rfl rfl rfl ae ?_
 refine .fa bF ?_
 refine .sh (Sh.ep (d := 92) (n := ([(p.a : Int) % (n.aa.length : Int)] : List Int).length) 192 (([(p.a : Int) % (n.aa.length : Int)] : List Int).map ai) rfl jJ (b5 rfl) ae) (.ak fm rfl rfl rfl rfl rfl rfl (aI rfl) rfl (.nil ?_))
 refine .le (aT := ⟨[(4, .ptr 104 0 0 0), (8, vi qM), (9, .ptr 109 0 0 0)], [(104, .cells [vi 0, vi 0, vi 0, vn, .v (.int .u64 0), vi 0]), (109, .cells [vi 2, vi (([2, 3, 9, 10, 11, 12, 13, 14, 15, 16, 17, 18, 19, 20, 21, 22, 23, 24] : List Int).getD (p.op % (([2, 3, 9, 10, 11, 12, 13, 14, 15, 16, 17, 18, 19, 20, 21, 22, 23, 24] : List Int).length)) 0), vi 0, .ba 192 1 0 (([(p.a : Int) % (n.aa.length : Int)] : List Int).length), .v (.int .u64 0), vi 0]), (192, .rows 1 (([(p.a : Int) % (n.aa.length : Int)] : List Int).map ai))]⟩) (Le.mk (.c2 (.c .nil)) (.c2 (.c .nil))) ?_
 refine .sr (.vl (Y.zb dS rfl rfl (aI rfl) rfl rfl) ?_)
 refine .mv ?_
 refine .ak eE rfl rfl rfl rfl rfl rfl (aI rfl) rfl ?_
 refine .an ?_
 refine .nil (.ret ?_)
 exact ⟨_, rfl, _, _, _, Sh.l9 (d := 0) 3 192 rfl rfl rfl rfl sZ rfl ae, rfl, rfl, (⟨2, ([2, 3, 9, 10, 11, 12, 13, 14, 15, 16, 17, 18, 19, 20, 21, 22, 23, 24] : List Int).getD (p.op % (([2, 3, 9, 10, 11, 12, 13, 14, 15, 16, 17, 18, 19, 20, 21, 22, 23, 24] : List Int).length)) 0, 0, ([(p.a : Int) % (n.aa.length : Int)] : List Int), 0, 0⟩ : Cell), _, JX hg h0 As EM, rfl, rfl⟩
 refine .seq (.fA rfl (.e8 0 rfl ao dD rfl rfl rfl (aI rfl) rfl rfl ae ?_))
 refine .blind 1 rfl ao (aw.move rfl rfl) ae (.blind 2 rfl ao (aw.fieldAddr kv rfl rfl) ae (.blind 3 rfl ao (aw.kD su rfl rfl (m := 0) rfl om rfl) ae ?_))
 refine .load 4 rfl ao qY rfl rfl rfl rfl rfl ae (.e8 6 rfl ao dD rfl rfl rfl (aI rfl) rfl rfl ae (.blind 7 rfl ao (aw.move rfl rfl) ae ?_))
 refine .blind 8 rfl ao (aw.fieldAddr kv rfl rfl) ae (.blind 9 rfl ao (aw.kD su rfl rfl (m := 1) rfl om rfl) ae (.load 10 rfl ao qY rfl rfl rfl rfl rfl ae ?_))
 refine .xK (.one 5 rfl ao ?_)
 refine .aH gV (cj (n := (⟨n.name, n.aa, n.cells, n.ins, n.a7, n.streams, [], [], n.freeze, n.done, []⟩ : ab)) (w := (ay p.width)) (k := p.a) (by show (n.aa).length ≤ 1048576; omega) om) rfl (.ah rfl rfl (.ah rfl rfl (.ah rfl rfl .nil))) ae rfl ?_
 refine .nil ⟨rfl, ?_⟩
 refine .one 11 rfl ao (.aH gV (cj (n := (⟨n.name, n.aa, n.cells, n.ins, n.a7, n.streams, [], [], n.freeze, n.done, []⟩ : ab)) (w := (ay p.width)) (k := p.b) (by show (n.aa).length ≤ 1048576; omega) om) rfl (.ah rfl rfl (.ah rfl rfl (.ah rfl rfl .nil))) ae rfl ?_)
 refine .nil ⟨rfl, ?_⟩
 refine .one 12 rfl ao ?_
 refine .buildSlice (([aC n.aa (ay p.width) p.a, aC n.aa (ay p.width) p.b] : List Int).map ai) az ey rfl rfl rfl rfl rfl (aA (s := 1) (f := ai) (fun _ => rfl)) rfl rfl rfl ae ?_
 refine .nil ⟨rfl, ?_⟩
 refine .one 13 rfl ao ?_
 refine .fa bF ?_
 refine .nil ⟨rfl, ?_⟩
 refine .one 14 rfl ao (.sh (Sh.ep (d := 38) (n := ([aC n.aa (ay p.width) p.a, aC n.aa (ay p.width) p.b] : List Int).length) 138 (([aC n.aa (ay p.width) p.a, aC n.aa (ay p.width) p.b] : List Int).map ai) rfl jJ (b5 rfl) ae) (.ak fm rfl rfl rfl rfl rfl rfl (aI rfl) rfl ?_))
 refine .nil ⟨rfl, ?_⟩
 refine .done ao (.le (aT := ⟨[(4, .ptr 104 0 0 0), (7, vi (([2, 3, 9, 10, 11, 12, 13, 14, 15, 16, 17, 18, 19, 20, 21, 22, 23, 24] : List Int).getD (p.op % (([2, 3, 9, 10, 11, 12, 13, 14, 15, 16, 17, 18, 19, 20, 21, 22, 23, 24] : List Int).length)) 0)), (8, vi (ay p.width)), (9, .ptr 109 0 0 0)], [(104, .cells [vi 0, vi 0, vi 0, vn, .v (.int .u64 0), vi 0]), (109, .cells [vi 2, vi (([2, 3, 9, 10, 11, 12, 13, 14, 15, 16, 17, 18, 19, 20, 21, 22, 23, 24] : List Int).getD (p.op % (([2, 3, 9, 10, 11, 12, 13, 14, 15, 16, 17, 18, 19, 20, 21, 22, 23, 24] : List Int).length)) 0), vi 0, .ba 138 1 0 (([aC n.aa (ay p.width) p.a, aC n.aa (ay p.width) p.b] : List Int).length), .v (.int .u64 0), vi 0]), (138, .rows 1 (([aC n.aa (ay p.width) p.a, aC n.aa (ay p.width) p.b] : List Int).map ai))]⟩) (Le.mk (.c2 (.c (.c .nil))) (.c2 (.c .nil))) (.sr ?_))
 refine .mv ?_
 refine .aH Hn (iI (w := (([2, 3, 9, 10, 11, 12, 13, 14, 15, 16, 17, 18, 19, 20, 21, 22, 23, 24] : List Int).getD (p.op % (([2, 3, 9, 10, 11, 12, 13, 14, 15, 16, 17, 18, 19, 20, 21, 22, 23, 24] : List Int).length)) 0))) rfl (.ah rfl rfl .nil) ae rfl (.nil ?_)
 refine .a8 rfl (fun tt => ?_) (fun tt => ?_)
 refine .region ?_
 refine .an ?_
 refine .nil (.le (aT := ⟨[(4, .ptr 104 0 0 0), (8, vi 1), (9, .ptr 109 0 0 0)], [(104, .cells [vi 0, vi 0, vi 0, vn, .v (.int .u64 0), vi 0]), (109, .cells [vi 2, vi (([2, 3, 9, 10, 11, 12, 13, 14, 15, 16, 17, 18, 19, 20, 21, 22, 23, 24] : List Int).getD (p.op % (([2, 3, 9, 10, 11, 12, 13, 14, 15, 16, 17, 18, 19, 20, 21, 22, 23, 24] : List Int).length)) 0), vi 0, .ba 138 1 0 (([aC n.aa (ay p.width) p.a, aC n.aa (ay p.width) p.b] : List Int).length), .v (.int .u64 0), vi 0]), (138, .rows 1 (([aC n.aa (ay p.width) p.a, aC n.aa (ay p.width) p.b] : List Int).map ai))]⟩) (Le.mk (.c2 (.c .nil)) (.c2 (.c .nil))) ?_)
 refine .sr (.vl (Y.zb dS rfl rfl (aI rfl) rfl rfl) ?_)
 refine .mv ?_
 refine .ak eE rfl rfl rfl rfl rfl rfl (aI rfl) rfl ?_
 refine .an ?_
 refine .nil (.ret ?_)
 exact ⟨_, rfl, _, _, _, Sh.l9 (d := 0) 3 138 rfl rfl rfl rfl sZ rfl ae, rfl, rfl, (⟨2, ([2, 3, 9, 10, 11, 12, 13, 14, 15, 16, 17, 18, 19, 20, 21, 22, 23, 24] : List Int).getD (p.op % (([2, 3, 9, 10, 11, 12, 13, 14, 15, 16, 17, 18, 19, 20, 21, 22, 23, 24] : List Int).length)) 0, 0, ([aC n.aa (ay p.width) p.a, aC n.aa (ay p.width) p.b] : List Int), 0, 0⟩ : Cell), _, BQ hg (BP _) wN As (.inl ⟨tt, rfl⟩), rfl, rfl⟩
 refine .skip (.le (aT := ⟨[(4, .ptr 104 0 0 0), (8, vi (ay p.width)), (9, .ptr 109 0 0 0)], [(104, .cells [vi 0, vi 0, vi 0, vn, .v (.int .u64 0), vi 0]), (109, .cells [vi 2, vi (([2, 3, 9, 10, 11, 12, 13, 14, 15, 16, 17, 18, 19, 20, 21, 22, 23, 24] : List Int).getD (p.op % (([2, 3, 9, 10, 11, 12, 13, 14, 15, 16, 17, 18, 19, 20, 21, 22, 23, 24] : List Int).length)) 0), vi 0, .ba 138 1 0 (([aC n.aa (ay p.width) p.a, aC n.aa (ay p.width) p.b] : List Int).length), .v (.int .u64 0), vi 0]), (138, .rows 1 (([aC n.aa (ay p.width) p.a, aC n.aa (ay p.width) p.b] : List Int).map ai))]⟩) (Le.mk (.c2 (.c .nil)) (.c2 (.c .nil))) ?_)
 refine .sr (.vl (Y.zb dS rfl rfl (aI rfl) rfl rfl) ?_)
 refine .mv ?_
 refine .ak eE rfl rfl rfl rfl rfl rfl (aI rfl) rfl ?_
 refine .an ?_
 refine .nil (.ret ?_)
 exact ⟨_, rfl, _, _, _, Sh.l9 (d := 0) 3 138 rfl rfl rfl rfl sZ rfl ae, rfl, rfl, (⟨2, ([2, 3, 9, 10, 11, 12, 13, 14, 15, 16, 17, 18, 19, 20, 21, 22, 23, 24] : List Int).getD (p.op % (([2, 3, 9, 10, 11, 12, 13, 14, 15, 16, 17, 18, 19, 20, 21, 22, 23, 24] : List Int).length)) 0, 0, ([aC n.aa (ay p.width) p.a, aC n.aa (ay p.width) p.b] : List Int), 0, 0⟩ : Cell), _, BQ hg (BP _) wN As (.inr ⟨tt, rfl⟩), rfl, rfl⟩
theorem uu {n : ab} {p : pJ} (hn : n.aa.length ≤ 1048576) (h0 : 0 < n.aa.length) (hp : p.Ok) (hg : Ground n) (hi : n.ins.length ≤ 1048576) : au Try.prog 54 [.agg (ab.ph n), .agg (pJ.row p)] [] [] (fun r o => ∃ c w, ku n c w ∧ r = .tup [.agg (Cell.mL c), vi w] ∧ o = []) := by
 refine au.O0 Try.func54 rfl rfl rfl (n := 208) ae (aI rfl) ?_
 have OB := hp.kind; have EF := hp.op; have T4 := hp.width; have Rh := hp.a; have T5 := hp.b; have Ri := hp.d; have T6 := hp.num; have Ov := Nat.mod_lt p.a h0; have Mu := Nat.mod_lt p.b h0
 refine .sr (.box 102 rfl rfl rfl rfl rfl ae (.box 103 rfl rfl rfl rfl rfl ae ?_))
 refine .alloc 104 dM rfl rfl ae ?_
 refine .an ?_
 refine .nil (.seq (.sh (Sh.cW 102 rfl rfl) ?_))
 refine .sh (Sh.cW 103 rfl rfl) (.region ?_)
 refine .fa Cc ?_
 refine .ld qY ?_
 refine .aH tj (eY (k := p.width)) rfl (.ah rfl rfl .nil) ae rfl ?_
 refine .an ?_
 refine .nil (.sr ?_)
 refine .fa Hj ?_
 refine .ld qY ?_
 refine .vl (Y.zs rfl rfl bw) (.vl (Y.qk tX q4 rfl wG) (.vl (Y.qb rfl rfl bw) ?_))
 refine .vl (Y.qh uG dM rfl rfl rfl) (.alloc 107 dM rfl rfl ae (.ak eE rfl rfl rfl rfl rfl rfl (aI rfl) rfl ?_))
 refine .nil (.seq (.fR rfl ao ?_))
 refine .val (Y.qp kv rfl rfl) ae (.val (Y.qu su rfl rfl (m := 0) rfl om rfl) ae (.val (Y.za qY rfl rfl rfl rfl) ae ?_))
 refine .val (Y.qp kv rfl rfl) ae (.val (Y.qu su rfl rfl (m := 1) rfl om rfl) ae (.val (Y.za qY rfl rfl rfl rfl) ae ?_))
 refine .val (Y.qp kv rfl rfl) ae (.val (Y.qu su rfl rfl (m := 2) rfl om rfl) ae (.val (Y.za qY rfl rfl rfl rfl) ae ?_))
 refine .val (Y.qf rfl rfl) ae (.val (Y.qf rfl rfl) ae (.val (Y.qf rfl rfl) ae ?_))
 refine .nil (.le (aT := ⟨[(2, .fp (ab.ph n) 0), (3, .fp (pJ.row p) 0), (4, .ptr 104 0 0 0), (6, vi (ay p.width)), (7, .ptr 107 0 0 0), (8, .v (.int .u8 (p.a : Int))), (9, .v (.int .u8 (p.b : Int))), (10, .v (.int .u8 (p.d : Int)))], [(104, .cells [vi 0, vi 0, vi 0, vn, .v (.int .u64 0), vi 0]), (107, .cells [vi (1 + ((p.kind : Int) % 10)), vi 0, vi (-1), vn, .v (.int .u64 0), vi 0])]⟩) (Le.mk (.c4 (.c2 (.c (.c .nil)))) (.c (.c .nil))) ?_)
 refine .seq (.sr ?_)
 refine .fa bP ?_
 refine .ld aV ?_
 refine .nil (.block (.sr ?_))
 refine .vl (Y.ql rfl rfl) ?_
 refine .an ?_
 refine .nil ?_
 refine .a8 rfl (fun OW => ?_) (fun OW => ?_)
 refine .region ?_
 refine .mv ?_
 refine .fa uF ?_
 refine .ld fv ?_
 refine .aH Kv (ur (w := (ay p.width)) (x := p.num) (om)) rfl (.ah rfl rfl (.ah rfl rfl .nil)) ae rfl ?_
 refine .fa dp ?_
 refine .ak Es rfl rfl rfl rfl rfl rfl (aI rfl) rfl (.nil ?_)
 refine .le (aT := ⟨[(4, .ptr 104 0 0 0), (6, vi (ay p.width)), (7, .ptr 107 0 0 0)], [(104, .cells [vi 0, vi 0, vi 0, vn, .v (.int .u64 0), vi 0]), (107, .cells [vi (1 + ((p.kind : Int) % 10)), vi 0, vi (-1), vn, .v (.int .u64 ((kP (ay p.width) p.num : Nat) : Int)), vi 0])]⟩) (Le.mk (.c2 (.c .nil)) (.c (.c .nil))) ?_
 refine .sr (.vl (Y.zb dS rfl rfl (aI rfl) rfl rfl) ?_)
 refine .mv ?_
 refine .ak eE rfl rfl rfl rfl rfl rfl (aI rfl) rfl ?_
 refine .an ?_
 refine .nil (.sh (Sh.eC 104 399 1 3 rfl rfl rfl rfl ae) (.ret ?_))
 exact ⟨_, rfl, _, _, _, Sh.l9 (d := 0) 3 399 rfl rfl rfl rfl sZ rfl ae, rfl, rfl, (⟨1 + ((p.kind : Int) % 10), 0, -1, ([] : List Int), kP (ay p.width) p.num, 0⟩ : Cell), _, BR hg om, rfl, rfl⟩
 refine .sr (.vl (Y.ql rfl rfl) ?_)
 refine .an ?_
 refine .nil ?_
 refine .a8 rfl (fun qH => ?_) (fun qH => ?_)
 refine .sr (.vl (Y.zb dD rfl rfl (aI rfl) rfl rfl) (.vl (Y.zb Hu rfl rfl (aI rfl) rfl rfl) ?_))
 refine .kh NT (tB (n := n) (p := p) hn h0 hp hg hi) rfl (.ah rfl rfl (.ah rfl rfl .nil)) ae ?_
 rintro _ ⟨LY, T7, PR, rfl, _⟩
 refine ⟨rfl, ?_⟩
 refine .e6 rfl rfl ae (.vl (Y.qn rfl rfl rfl) (.sh (Sh.CC (d := 79) 3 2083 LY.args.length rfl rfl rfl ae (b5 rfl)) ?_))
 refine .ak eE rfl rfl rfl rfl rfl rfl (aI rfl) rfl ?_
 refine .an ?_
 refine .nil (.ret ?_)
 exact ⟨_, rfl, _, _, _, Sh.l9 (d := 0) 3 2083 rfl rfl rfl rfl sZ rfl ae, rfl, rfl, LY, _, PR, rfl, rfl⟩
 refine .sr (.vl (Y.ql rfl rfl) ?_)
 refine .an ?_
 refine .nil ?_
 refine .a8 rfl (fun Dz => ?_) (fun Dz => ?_)
 refine .fA rfl (.e8 0 rfl ao dD rfl rfl rfl (aI rfl) rfl rfl ae (.blind 1 rfl ao (aw.move rfl rfl) ae ?_))
 refine .e8 3 rfl ao dD rfl rfl rfl (aI rfl) rfl rfl ae (.blind 4 rfl ao (aw.move rfl rfl) ae (.blind 5 rfl ao (aw.move rfl rfl) ae ?_))
 refine .e8 7 rfl ao dD rfl rfl rfl (aI rfl) rfl rfl ae (.blind 8 rfl ao (aw.move rfl rfl) ae (.e8 10 rfl ao dD rfl rfl rfl (aI rfl) rfl rfl ae ?_))
 refine .blind 11 rfl ao (aw.move rfl rfl) ae (.blind 12 rfl ao (aw.fieldAddr q3 rfl rfl) ae (.load 13 rfl ao qY rfl rfl rfl rfl rfl ae ?_))
 refine .xK (.one 2 rfl ao (.aH gV (cj (n := (⟨n.name, n.aa, n.cells, n.ins, n.a7, n.streams, [], [], n.freeze, n.done, []⟩ : ab)) (w := 1) (k := p.a) (by show (n.aa).length ≤ 1048576; omega) om) rfl (.ah rfl rfl (.ah rfl rfl (.ah rfl rfl .nil))) ae rfl ?_))
 refine .nil ⟨rfl, ?_⟩
 refine .one 6 rfl ao (.aH gV (cj (n := (⟨n.name, n.aa, n.cells, n.ins, n.a7, n.streams, [], [], n.freeze, n.done, []⟩ : ab)) (w := (ay p.width)) (k := p.b) (by show (n.aa).length ≤ 1048576; omega) om) rfl (.ah rfl rfl (.ah rfl rfl (.ah rfl rfl .nil))) ae rfl ?_)
 refine .nil ⟨rfl, ?_⟩
 refine .one 9 rfl ao (.aH gV (cj (n := (⟨n.name, n.aa, n.cells, n.ins, n.a7, n.streams, [], [], n.freeze, n.done, []⟩ : ab)) (w := 1) (k := p.d) (by show (n.aa).length ≤ 1048576; omega) om) rfl (.ah rfl rfl (.ah rfl rfl (.ah rfl rfl .nil))) ae rfl ?_)
 refine .nil ⟨rfl, ?_⟩
 refine .one 14 rfl ao (.aH gV (cj (n := (⟨n.name, n.aa, n.cells, n.ins, n.a7, n.streams, [], [], n.freeze, n.done, []⟩ : ab)) (w := (ay p.width)) (k := p.op) (by show (n.aa).length ≤ 1048576; omega) om) rfl (.ah rfl rfl (.ah rfl rfl (.ah rfl rfl .nil))) ae rfl ?_)
 refine .nil ⟨rfl, ?_⟩
 refine .one 15 rfl ao ?_
 refine .buildSlice (([aC n.aa 1 p.a, aC n.aa (ay p.width) p.b, aC n.aa 1 p.d, aC n.aa (ay p.width) p.op] : List Int).map ai) az ey rfl rfl rfl rfl rfl (aA (s := 1) (f := ai) (fun _ => rfl)) rfl rfl rfl ae ?_
 refine .nil ⟨rfl, ?_⟩
 refine .one 16 rfl ao ?_
 refine .fa bF ?_
 refine .nil ⟨rfl, ?_⟩
 refine .one 17 rfl ao (.sh (Sh.ep (d := 98) (n := ([aC n.aa 1 p.a, aC n.aa (ay p.width) p.b, aC n.aa 1 p.d, aC n.aa (ay p.width) p.op] : List Int).length) 198 (([aC n.aa 1 p.a, aC n.aa (ay p.width) p.b, aC n.aa 1 p.d, aC n.aa (ay p.width) p.op] : List Int).map ai) rfl jJ (b5 rfl) ae) (.ak fm rfl rfl rfl rfl rfl rfl (aI rfl) rfl ?_))
 refine .nil ⟨rfl, ?_⟩
 refine .done ao (.le (aT := ⟨[(4, .ptr 104 0 0 0), (6, vi (ay p.width)), (7, .ptr 107 0 0 0)], [(104, .cells [vi 0, vi 0, vi 0, vn, .v (.int .u64 0), vi 0]), (107, .cells [vi (1 + ((p.kind : Int) % 10)), vi 0, vi (-1), .ba 198 1 0 (([aC n.aa 1 p.a, aC n.aa (ay p.width) p.b, aC n.aa 1 p.d, aC n.aa (ay p.width) p.op] : List Int).length), .v (.int .u64 0), vi 0]), (198, .rows 1 (([aC n.aa 1 p.a, aC n.aa (ay p.width) p.b, aC n.aa 1 p.d, aC n.aa (ay p.width) p.op] : List Int).map ai))]⟩) (Le.mk (.c2 (.c .nil)) (.c2 (.c .nil))) ?_)
 refine .sr (.vl (Y.zb dS rfl rfl (aI rfl) rfl rfl) ?_)
 refine .mv ?_
 refine .ak eE rfl rfl rfl rfl rfl rfl (aI rfl) rfl ?_
 refine .an ?_
 refine .nil (.ret ?_)
 exact ⟨_, rfl, _, _, _, Sh.l9 (d := 0) 3 198 rfl rfl rfl rfl sZ rfl ae, rfl, rfl, (⟨1 + ((p.kind : Int) % 10), 0, -1, ([aC n.aa 1 p.a, aC n.aa (ay p.width) p.b, aC n.aa 1 p.d, aC n.aa (ay p.width) p.op] : List Int), 0, 0⟩ : Cell), _, He hg om, rfl, rfl⟩
 refine .sr (.vl (Y.ql rfl rfl) ?_)
 refine .an ?_
 refine .nil ?_
 refine .a8 rfl (fun Df => ?_) (fun Df => ?_)
 refine .sr ?_
 refine .mv ?_
 refine .fa uF ?_
 refine .ld fv ?_
 refine .aH Kv (ur (w := (ay p.width)) (x := p.num) (om)) rfl (.ah rfl rfl (.ah rfl rfl .nil)) ae rfl ?_
 refine .fa dp ?_
 refine .ak Es rfl rfl rfl rfl rfl rfl (aI rfl) rfl (.nil ?_)
 refine .le (aT := ⟨[(2, .fp (ab.ph n) 0), (4, .ptr 104 0 0 0), (6, vi (ay p.width)), (7, .ptr 107 0 0 0), (8, .v (.int .u8 (p.a : Int))), (9, .v (.int .u8 (p.b : Int)))], [(104, .cells [vi 0, vi 0, vi 0, vn, .v (.int .u64 0), vi 0]), (107, .cells [vi (1 + ((p.kind : Int) % 10)), vi 0, vi (-1), vn, .v (.int .u64 ((kP (ay p.width) p.num : Nat) : Int)), vi 0])]⟩) (Le.mk (.c4 (.c (.c .nil))) (.c (.c .nil))) ?_
 refine .fA rfl (.e8 0 rfl ao dD rfl rfl rfl (aI rfl) rfl rfl ae (.blind 1 rfl ao (aw.move rfl rfl) ae ?_))
 refine .e8 3 rfl ao dD rfl rfl rfl (aI rfl) rfl rfl ae (.blind 4 rfl ao (aw.move rfl rfl) ae (.blind 5 rfl ao (aw.move rfl rfl) ae ?_))
 refine .xK (.one 2 rfl ao (.aH gV (cj (n := (⟨n.name, n.aa, n.cells, n.ins, n.a7, n.streams, [], [], n.freeze, n.done, []⟩ : ab)) (w := 1) (k := p.a) (by show (n.aa).length ≤ 1048576; omega) om) rfl (.ah rfl rfl (.ah rfl rfl (.ah rfl rfl .nil))) ae rfl ?_))
 refine .nil ⟨rfl, ?_⟩
 refine .one 6 rfl ao (.aH gV (cj (n := (⟨n.name, n.aa, n.cells, n.ins, n.a7, n.streams, [], [], n.freeze, n.done, []⟩ : ab)) (w := (ay p.width)) (k := p.b) (by show (n.aa).length ≤ 1048576; omega) om) rfl (.ah rfl rfl (.ah rfl rfl (.ah rfl rfl .nil))) ae rfl ?_)
 refine .nil ⟨rfl, ?_⟩
 refine .one 7 rfl ao ?_
 refine .buildSlice (([aC n.aa 1 p.a, aC n.aa (ay p.width) p.b] : List Int).map ai) az ey rfl rfl rfl rfl rfl (aA (s := 1) (f := ai) (fun _ => rfl)) rfl rfl rfl ae ?_
 refine .nil ⟨rfl, ?_⟩
 refine .one 8 rfl ao ?_
 refine .fa bF ?_
 refine .nil ⟨rfl, ?_⟩
 refine .one 9 rfl ao (.sh (Sh.ep (d := 114) (n := ([aC n.aa 1 p.a, aC n.aa (ay p.width) p.b] : List Int).length) 214 (([aC n.aa 1 p.a, aC n.aa (ay p.width) p.b] : List Int).map ai) rfl jJ (b5 rfl) ae) (.ak fm rfl rfl rfl rfl rfl rfl (aI rfl) rfl ?_))
 refine .nil ⟨rfl, ?_⟩
 refine .done ao (.le (aT := ⟨[(4, .ptr 104 0 0 0), (6, vi (ay p.width)), (7, .ptr 107 0 0 0)], [(104, .cells [vi 0, vi 0, vi 0, vn, .v (.int .u64 0), vi 0]), (107, .cells [vi (1 + ((p.kind : Int) % 10)), vi 0, vi (-1), .ba 214 1 0 (([aC n.aa 1 p.a, aC n.aa (ay p.width) p.b] : List Int).length), .v (.int .u64 ((kP (ay p.width) p.num : Nat) : Int)), vi 0]), (214, .rows 1 (([aC n.aa 1 p.a, aC n.aa (ay p.width) p.b] : List Int).map ai))]⟩) (Le.mk (.c2 (.c .nil)) (.c2 (.c .nil))) ?_)
 refine .sr (.vl (Y.zb dS rfl rfl (aI rfl) rfl rfl) ?_)
 refine .mv ?_
 refine .ak eE rfl rfl rfl rfl rfl rfl (aI rfl) rfl ?_
 refine .an ?_
 refine .nil (.ret ?_)
 exact ⟨_, rfl, _, _, _, Sh.l9 (d := 0) 3 214 rfl rfl rfl rfl sZ rfl ae, rfl, rfl, (⟨1 + ((p.kind : Int) % 10), 0, -1, ([aC n.aa 1 p.a, aC n.aa (ay p.width) p.b] : List Int), kP (ay p.width) p.num, 0⟩ : Cell), _, Hf hg om, rfl, rfl⟩
 refine .sr (.vl (Y.ql rfl rfl) ?_)
 refine .an ?_
 refine .nil ?_
 refine .a8 rfl (fun xV => ?_) (fun xV => ?_)
 refine .sr ?_
 refine .fa q3 ?_
 refine .ld qY ?_
 refine .vl (Y.zs rfl rfl bw) (.vl (Y.qk tX q4 rfl wG) (.vl (Y.qb rfl rfl bw) ?_))
 refine .fa ct ?_
 refine .ak eQ rfl rfl rfl rfl rfl rfl (aI rfl) rfl (.nil (.sr ?_))
 refine .fa uF ?_
 refine .ld fv ?_
 refine .vl (Y.zt (a := p.num) (b := 4) rfl rfl om) (.vl (Y.qc (a := 1) (b := (p.num % 4)) rfl rfl) ?_)
 refine .fa dp ?_
 refine .ak Es rfl rfl rfl rfl rfl rfl (aI rfl) rfl (.nil ?_)
 refine .le (aT := ⟨[(2, .fp (ab.ph n) 0), (4, .ptr 104 0 0 0), (6, vi (ay p.width)), (7, .ptr 107 0 0 0), (8, .v (.int .u8 (p.a : Int))), (9, .v (.int .u8 (p.b : Int)))], [(104, .cells [vi 0, vi 0, vi 0, vn, .v (.int .u64 0), vi 0]), (107, .cells [vi (1 + ((p.kind : Int) % 10)), vi (4 + ((p.op : Int) % 5)), vi (-1), vn, .v (.int .u64 (((1 + (p.num % 4)) % 18446744073709551616 : Nat) : Int)), vi 0])]⟩) (Le.mk (.c4 (.c (.c .nil))) (.c (.c .nil))) ?_
 refine .fA rfl (.e8 0 rfl ao dD rfl rfl rfl (aI rfl) rfl rfl ae (.blind 1 rfl ao (aw.move rfl rfl) ae ?_))
 refine .blind 2 rfl ao (aw.move rfl rfl) ae (.e8 4 rfl ao dD rfl rfl rfl (aI rfl) rfl rfl ae (.blind 5 rfl ao (aw.move rfl rfl) ae ?_))
 refine .blind 6 rfl ao (aw.move rfl rfl) ae (.xK (.one 3 rfl ao ?_))
 refine .aH gV (cj (n := (⟨n.name, n.aa, n.cells, n.ins, n.a7, n.streams, [], [], n.freeze, n.done, []⟩ : ab)) (w := (ay p.width)) (k := p.a) (by show (n.aa).length ≤ 1048576; omega) om) rfl (.ah rfl rfl (.ah rfl rfl (.ah rfl rfl .nil))) ae rfl ?_
 refine .nil ⟨rfl, ?_⟩
 refine .one 7 rfl ao (.aH gV (cj (n := (⟨n.name, n.aa, n.cells, n.ins, n.a7, n.streams, [], [], n.freeze, n.done, []⟩ : ab)) (w := (ay p.width)) (k := p.b) (by show (n.aa).length ≤ 1048576; omega) om) rfl (.ah rfl rfl (.ah rfl rfl (.ah rfl rfl .nil))) ae rfl ?_)
 refine .nil ⟨rfl, ?_⟩
 refine .one 8 rfl ao ?_
 refine .buildSlice (([aC n.aa (ay p.width) p.a, aC n.aa (ay p.width) p.b] : List Int).map ai) az ey rfl rfl rfl rfl rfl (aA (s := 1) (f := ai) (fun _ => rfl)) rfl rfl rfl ae ?_
 refine .nil ⟨rfl, ?_⟩
 refine .one 9 rfl ao ?_
 refine .fa bF ?_
 refine .nil ⟨rfl, ?_⟩
 refine .one 10 rfl ao (.sh (Sh.ep (d := 137) (n := ([aC n.aa (ay p.width) p.a, aC n.aa (ay p.width) p.b] : List Int).length) 237 (([aC n.aa (ay p.width) p.a, aC n.aa (ay p.width) p.b] : List Int).map ai) rfl jJ (b5 rfl) ae) (.ak fm rfl rfl rfl rfl rfl rfl (aI rfl) rfl ?_))
 refine .nil ⟨rfl, ?_⟩
 refine .done ao (.le (aT := ⟨[(4, .ptr 104 0 0 0), (6, vi (ay p.width)), (7, .ptr 107 0 0 0)], [(104, .cells [vi 0, vi 0, vi 0, vn, .v (.int .u64 0), vi 0]), (107, .cells [vi (1 + ((p.kind : Int) % 10)), vi (4 + ((p.op : Int) % 5)), vi (-1), .ba 237 1 0 (([aC n.aa (ay p.width) p.a, aC n.aa (ay p.width) p.b] : List Int).length), .v (.int .u64 (((1 + (p.num % 4)) % 18446744073709551616 : Nat) : Int)), vi 0]), (237, .rows 1 (([aC n.aa (ay p.width) p.a, aC n.aa (ay p.width) p.b] : List Int).map ai))]⟩) (Le.mk (.c2 (.c .nil)) (.c2 (.c .nil))) ?_)
 refine .sr (.vl (Y.zb dS rfl rfl (aI rfl) rfl rfl) ?_)
 refine .mv ?_
 refine .ak eE rfl rfl rfl rfl rfl rfl (aI rfl) rfl ?_
 refine .an ?_
 refine .nil (.ret ?_)
 exact ⟨_, rfl, _, _, _, Sh.l9 (d := 0) 3 237 rfl rfl rfl rfl sZ rfl ae, rfl, rfl, (⟨1 + ((p.kind : Int) % 10), 4 + ((p.op : Int) % 5), -1, ([aC n.aa (ay p.width) p.a, aC n.aa (ay p.width) p.b] : List Int), (1 + (p.num % 4)) % 18446744073709551616, 0⟩ : Cell), _, Eh hg om om om, rfl, rfl⟩
 refine .seq (.sr (.vl (Y.ql rfl rfl) ?_))
 refine .an ?_
 refine .nil ?_
 refine .bx rfl (fun Iy => ?_) (fun Iy => ?_)
 refine .skip (.aM rfl (.seq ?_))
 refine .sr ?_
 refine .fa ef ?_
 refine .ld jS ?_
 refine .vl (Y.qx (n := n.a7.length) iG rfl cS) (.vl (Y.ql rfl rfl) (.nil ?_))
 refine .a8 rfl (fun CR => ?_) (fun CR => ?_)
 refine .sr (.vl (Y.qh uG dM rfl rfl rfl) (.ak eE rfl rfl rfl rfl rfl rfl (aI rfl) rfl ?_))
 refine .an ?_
 refine .nil (.sh (Sh.eC 104 399 1 3 rfl rfl rfl rfl ae) (.ret ?_))
 exact ⟨_, rfl, _, _, _, Sh.l9 (d := 0) 3 399 rfl rfl rfl rfl sZ rfl ae, rfl, rfl, (⟨0, 0, 0, ([] : List Int), 0, 0⟩ : Cell), _, rF hg, rfl, rfl⟩
 refine .skip (.sr ?_)
 refine .fa q3 ?_
 refine .ld qY ?_
 refine .vl (Y.qk tX q4 rfl wG) ?_
 refine .fa ef ?_
 refine .ld jS ?_
 refine .vl (Y.qx (n := n.a7.length) iG rfl cS) (.vl (Y.zs rfl rfl bw) ?_)
 refine .fa bU ?_
 refine .ak eQ rfl rfl rfl rfl rfl rfl (aI rfl) rfl (.nil (.seq ?_))
 have MD : p.op % n.a7.length < n.a7.length := Nat.mod_lt _ om
 refine .region ?_
 refine .fa ef ?_
 refine .ld jS ?_
 refine .fa bU ?_
 refine .ld aV ?_
 refine .vl (Y.qs (m := p.op % n.a7.length) iG rfl rfl bf (aq (d := default) om)) ?_
 refine .fa nw ?_
 refine .ld aV ?_
 refine .an ?_
 refine .nil (.le (aT := ⟨[(2, .fp (ab.ph n) 0), (4, .ptr 104 0 0 0), (6, vi ((n.a7.getD (p.op % n.a7.length) default).width)), (7, .ptr 107 0 0 0), (8, .v (.int .u8 (p.a : Int))), (9, .v (.int .u8 (p.b : Int))), (10, .v (.int .u8 (p.d : Int)))], [(104, .cells [vi 0, vi 0, vi 0, vn, .v (.int .u64 0), vi 0]), (107, .cells [vi (1 + ((p.kind : Int) % 10)), vi 0, vi (-1), vn, .v (.int .u64 0), vi ((p.op : Int) % (n.a7.length : Int))])]⟩) (Le.mk (.c4 (.c2 (.c .nil))) (.c (.c .nil))) ?_)
 refine .seq (.fA rfl (.e8 0 rfl ao dD rfl rfl rfl (aI rfl) rfl rfl ae ?_))
 refine .blind 1 rfl ao (aw.move rfl rfl) ae (.blind 3 rfl ao (aw.move rfl rfl) ae ?_)
 refine .blind 4 rfl ao (aw.ud tX q4 rfl wG) ae ?_
 refine .blind 5 rfl ao (aw.fieldAddr bu rfl rfl) ae (.load 6 rfl ao aW rfl rfl rfl rfl rfl ae (.blind 7 rfl ao (aw.len (n := n.aa.length) az rfl cS) ae ?_))
 refine .blind 8 rfl ao (aw.CA rfl rfl om) ae ?_
 refine .xK (.one 2 rfl ao (.aH gV (cj (n := (⟨n.name, n.aa, n.cells, n.ins, n.a7, n.streams, [], [], n.freeze, n.done, []⟩ : ab)) (w := 1) (k := p.a) (by show (n.aa).length ≤ 1048576; omega) om) rfl (.ah rfl rfl (.ah rfl rfl (.ah rfl rfl .nil))) ae rfl ?_))
 refine .nil ⟨rfl, ?_⟩
 refine .one 9 rfl ao ?_
 refine .buildSlice (([aC n.aa 1 p.a, (p.b : Int) % (n.aa.length : Int)] : List Int).map ai) az ey rfl rfl rfl rfl rfl (aA (s := 1) (f := ai) (fun _ => rfl)) rfl rfl rfl ae ?_
 refine .nil ⟨rfl, ?_⟩
 refine .one 10 rfl ao ?_
 refine .fa bF ?_
 refine .nil ⟨rfl, ?_⟩
 refine .one 11 rfl ao (.sh (Sh.ep (d := 171) (n := ([aC n.aa 1 p.a, (p.b : Int) % (n.aa.length : Int)] : List Int).length) 271 (([aC n.aa 1 p.a, (p.b : Int) % (n.aa.length : Int)] : List Int).map ai) rfl jJ (b5 rfl) ae) (.ak fm rfl rfl rfl rfl rfl rfl (aI rfl) rfl ?_))
 refine .nil ⟨rfl, ?_⟩
 refine .done ao (.le (aT := ⟨[(2, .fp (ab.ph n) 0), (4, .ptr 104 0 0 0), (6, vi ((n.a7.getD (p.op % n.a7.length) default).width)), (7, .ptr 107 0 0 0), (10, .v (.int .u8 (p.d : Int)))], [(104, .cells [vi 0, vi 0, vi 0, vn, .v (.int .u64 0), vi 0]), (107, .cells [vi (1 + ((p.kind : Int) % 10)), vi 0, vi (-1), .ba 271 1 0 (([aC n.aa 1 p.a, (p.b : Int) % (n.aa.length : Int)] : List Int).length), .v (.int .u64 0), vi ((p.op : Int) % (n.a7.length : Int))]), (271, .rows 1 (([aC n.aa 1 p.a, (p.b : Int) % (n.aa.length : Int)] : List Int).map ai))]⟩) (Le.mk (.c4 (.c .nil)) (.c2 (.c .nil))) (.sr ?_))
 refine .fa bP ?_
 refine .ld aV ?_
 refine .vl (Y.ql rfl rfl) (.nil ?_)
 refine .a8 rfl (fun Iz => ?_) (fun Iz => ?_)
 refine .er (⟨[(4, .ptr 104 0 0 0), (6, .v (.int .i64 ((n.a7.getD (p.op % n.a7.length) default).width))), (7, .ptr 107 0 0 0)], [(104, .cells [.v (.int .i64 0), .v (.int .i64 0), .v (.int .i64 0), vn, .v (.int .u64 0), .v (.int .i64 0)]), (107, .cells [.v (.int .i64 (1 + ((p.kind : Int) % 10))), .v (.int .i64 0), .v (.int .i64 (-1)), .ba 271 1 0 ((([aC n.aa 1 p.a, (p.b : Int) % (n.aa.length : Int)] : List Int) ++ ([aC n.aa ((n.a7.getD (p.op % n.a7.length) default).width) p.d] : List Int)).length), .v (.int .u64 0), .v (.int .i64 ((p.op : Int) % (n.a7.length : Int)))]), (271, .rows 1 ((([aC n.aa 1 p.a, (p.b : Int) % (n.aa.length : Int)] : List Int) ++ ([aC n.aa ((n.a7.getD (p.op % n.a7.length) default).width) p.d] : List Int)).map ai))]⟩) rfl ?_ ?_
 refine .blind 0 rfl ao (aw.fieldAddr bF rfl rfl) ae (.e8 2 rfl ao dD rfl rfl rfl (aI rfl) rfl rfl ae (.blind 3 rfl ao (aw.move rfl rfl) ae ?_))
 refine .blind 4 rfl ao (aw.move rfl rfl) ae (.xK ?_)
 refine .two 1 5 rfl rfl ao ?_ ?_
 refine .ld aW ?_
 refine .nil ⟨rfl, ?_⟩
 refine .one 5 rfl ao (.aH gV (cj (n := (⟨n.name, n.aa, n.cells, n.ins, n.a7, n.streams, [], [], n.freeze, n.done, []⟩ : ab)) (w := ((n.a7.getD (p.op % n.a7.length) default).width)) (k := p.d) (by show (n.aa).length ≤ 1048576; omega) om) rfl (.ah rfl rfl (.ah rfl rfl (.ah rfl rfl .nil))) ae rfl ?_)
 refine .nil ⟨rfl, ?_⟩
 refine .one 6 rfl ao ?_
 refine .buildSlice (([aC n.aa ((n.a7.getD (p.op % n.a7.length) default).width) p.d] : List Int).map ai) az ey rfl rfl rfl rfl rfl (aA (s := 1) (f := ai) (fun _ => rfl)) rfl rfl rfl ae ?_
 refine .nil ⟨rfl, ?_⟩
 refine .one 7 rfl ao (.dW ai (([aC n.aa 1 p.a, (p.b : Int) % (n.aa.length : Int)] : List Int) ++ ([aC n.aa ((n.a7.getD (p.op % n.a7.length) default).width) p.d] : List Int)) az ey rfl rfl rfl rfl (bK bw) (bq bw) (cD bw) bw bw ae ae ?_)
 refine .nil ⟨rfl, ?_⟩
 refine .one 8 rfl ao ?_
 refine .fa bF ?_
 refine .nil ⟨rfl, ?_⟩
 refine .one 9 rfl ao (.ak fm rfl rfl rfl rfl rfl rfl (aI rfl) rfl ?_)
 refine .nil ⟨rfl, ?_⟩
 refine .done ao ?_
 exact Le.mk (.c2 (.c .nil)) (.c2 (.c .nil))
 refine .aH gV (cj (n := (⟨n.name, n.aa, n.cells, n.ins, n.a7, n.streams, [], [], n.freeze, n.done, []⟩ : ab)) (w := ((n.a7.getD (p.op % n.a7.length) default).width)) (k := p.d) (by show (n.aa).length ≤ 1048576; omega) om) rfl (.ah rfl rfl (.ah rfl rfl (.ah rfl rfl .nil))) ae rfl ?_
 refine .nil ⟨rfl, ?_⟩
 refine .two 1 6 rfl rfl ao ?_ ?_
 refine .ld aW ?_
 refine .nil ⟨rfl, ?_⟩
 refine .one 6 rfl ao ?_
 refine .buildSlice (([aC n.aa ((n.a7.getD (p.op % n.a7.length) default).width) p.d] : List Int).map ai) az ey rfl rfl rfl rfl rfl (aA (s := 1) (f := ai) (fun _ => rfl)) rfl rfl rfl ae ?_
 refine .nil ⟨rfl, ?_⟩
 refine .one 7 rfl ao (.dW ai (([aC n.aa 1 p.a, (p.b : Int) % (n.aa.length : Int)] : List Int) ++ ([aC n.aa ((n.a7.getD (p.op % n.a7.length) default).width) p.d] : List Int)) az ey rfl rfl rfl rfl (bK bw) (bq bw) (cD bw) bw bw ae ae ?_)
 refine .nil ⟨rfl, ?_⟩
 refine .one 8 rfl ao ?_
 refine .fa bF ?_
 refine .nil ⟨rfl, ?_⟩
 refine .one 9 rfl ao (.ak fm rfl rfl rfl rfl rfl rfl (aI rfl) rfl ?_)
 refine .nil ⟨rfl, ?_⟩
 refine .done ao ?_
 exact Le.mk (.c2 (.c .nil)) (.c2 (.c .nil))
 refine .buildSlice (([aC n.aa ((n.a7.getD (p.op % n.a7.length) default).width) p.d] : List Int).map ai) az ey rfl rfl rfl rfl rfl (aA (s := 1) (f := ai) (fun _ => rfl)) rfl rfl rfl ae ?_
 refine .nil ⟨rfl, ?_⟩
 refine .one 1 rfl ao ?_
 refine .ld aW ?_
 refine .nil ⟨rfl, ?_⟩
 refine .one 7 rfl ao (.dW ai (([aC n.aa 1 p.a, (p.b : Int) % (n.aa.length : Int)] : List Int) ++ ([aC n.aa ((n.a7.getD (p.op % n.a7.length) default).width) p.d] : List Int)) az ey rfl rfl rfl rfl (bK bw) (bq bw) (cD bw) bw bw ae ae ?_)
 refine .nil ⟨rfl, ?_⟩
 refine .one 8 rfl ao ?_
 refine .fa bF ?_
 refine .nil ⟨rfl, ?_⟩
 refine .one 9 rfl ao (.ak fm rfl rfl rfl rfl rfl rfl (aI rfl) rfl ?_)
 refine .nil ⟨rfl, ?_⟩
 refine .done ao ?_
 exact Le.mk (.c2 (.c .nil)) (.c2 (.c .nil))
 refine .le (aT := ⟨[(4, .ptr 104 0 0 0), (6, vi ((n.a7.getD (p.op % n.a7.length) default).width)), (7, .ptr 107 0 0 0)], [(104, .cells [vi 0, vi 0, vi 0, vn, .v (.int .u64 0), vi 0]), (107, .cells [vi (1 + ((p.kind : Int) % 10)), vi 0, vi (-1), .ba 271 1 0 ((([aC n.aa 1 p.a, (p.b : Int) % (n.aa.length : Int)] : List Int) ++ ([aC n.aa ((n.a7.getD (p.op % n.a7.length) default).width) p.d] : List Int)).length), .v (.int .u64 0), vi ((p.op : Int) % (n.a7.length : Int))]), (271, .rows 1 ((([aC n.aa 1 p.a, (p.b : Int) % (n.aa.length : Int)] : List Int) ++ ([aC n.aa ((n.a7.getD (p.op % n.a7.length) default).width) p.d] : List Int)).map ai))]⟩) (Le.mk (.c2 (.c .nil)) (.c2 (.c .nil))) ?_
 refine .sr (.vl (Y.zb dS rfl rfl (aI rfl) rfl rfl) ?_)
 refine .mv ?_
 refine .ak eE rfl rfl rfl rfl rfl rfl (aI rfl) rfl ?_
 refine .an ?_
 refine .nil (.ret ?_)
 exact ⟨_, rfl, _, _, _, Sh.l9 (d := 0) 3 271 rfl rfl rfl rfl sZ rfl ae, rfl, rfl, (⟨1 + ((p.kind : Int) % 10), 0, -1, ([aC n.aa 1 p.a, (p.b : Int) % (n.aa.length : Int)] : List Int) ++ ([aC n.aa ((n.a7.getD (p.op % n.a7.length) default).width) p.d] : List Int), 0, (p.op : Int) % (n.a7.length : Int)⟩ : Cell), _, vP hg h0 om om, rfl, rfl⟩
 refine .skip (.le (aT := ⟨[(4, .ptr 104 0 0 0), (6, vi ((n.a7.getD (p.op % n.a7.length) default).width)), (7, .ptr 107 0 0 0)], [(104, .cells [vi 0, vi 0, vi 0, vn, .v (.int .u64 0), vi 0]), (107, .cells [vi (1 + ((p.kind : Int) % 10)), vi 0, vi (-1), .ba 271 1 0 (([aC n.aa 1 p.a, (p.b : Int) % (n.aa.length : Int)] : List Int).length), .v (.int .u64 0), vi ((p.op : Int) % (n.a7.length : Int))]), (271, .rows 1 (([aC n.aa 1 p.a, (p.b : Int) % (n.aa.length : Int)] : List Int).map ai))]⟩) (Le.mk (.c2 (.c .nil)) (.c2 (.c .nil))) ?_)
 refine .sr (.vl (Y.zb dS rfl rfl (aI rfl) rfl rfl) ?_)
 refine .mv ?_
 refine .ak eE rfl rfl rfl rfl rfl rfl (aI rfl) rfl ?_
 refine .an ?_
 refine .nil (.ret ?_)
 exact ⟨_, rfl, _, _, _, Sh.l9 (d := 0) 3 271 rfl rfl rfl rfl sZ rfl ae, rfl, rfl, (⟨1 + ((p.kind : Int) % 10), 0, -1, ([aC n.aa 1 p.a, (p.b : Int) % (n.aa.length : Int)] : List Int), 0, (p.op : Int) % (n.a7.length : Int)⟩ : Cell), _, y5 hg h0 om om, rfl, rfl⟩
 refine .region (.vl (Y.ql rfl rfl) ?_)
 refine .an ?_
 refine .nil ?_
 refine .bx rfl (fun Iy => ?_) (fun Iy => ?_)
 refine .seq (.sr ?_)
 refine .fa ef ?_
 refine .ld jS ?_
 refine .vl (Y.qx (n := n.a7.length) iG rfl cS) (.vl (Y.ql rfl rfl) (.nil ?_))
 refine .a8 rfl (fun CR => ?_) (fun CR => ?_)
 refine .sr (.vl (Y.qh uG dM rfl rfl rfl) (.ak eE rfl rfl rfl rfl rfl rfl (aI rfl) rfl ?_))
 refine .an ?_
 refine .nil (.sh (Sh.eC 104 399 1 3 rfl rfl rfl rfl ae) (.ret ?_))
 exact ⟨_, rfl, _, _, _, Sh.l9 (d := 0) 3 399 rfl rfl rfl rfl sZ rfl ae, rfl, rfl, (⟨0, 0, 0, ([] : List Int), 0, 0⟩ : Cell), _, rF hg, rfl, rfl⟩
 refine .skip (.sr ?_)
 refine .fa q3 ?_
 refine .ld qY ?_
 refine .vl (Y.qk tX q4 rfl wG) ?_
 refine .fa ef ?_
 refine .ld jS ?_
 refine .vl (Y.qx (n := n.a7.length) iG rfl cS) (.vl (Y.zs rfl rfl bw) ?_)
 refine .fa bU ?_
 refine .ak eQ rfl rfl rfl rfl rfl rfl (aI rfl) rfl (.nil (.seq ?_))
 have MD : p.op % n.a7.length < n.a7.length := Nat.mod_lt _ om
 refine .region ?_
 refine .fa ef ?_
 refine .ld jS ?_
 refine .fa bU ?_
 refine .ld aV ?_
 refine .vl (Y.qs (m := p.op % n.a7.length) iG rfl rfl bf (aq (d := default) om)) ?_
 refine .fa nw ?_
 refine .ld aV ?_
 refine .an ?_
 refine .nil (.le (aT := ⟨[(2, .fp (ab.ph n) 0), (4, .ptr 104 0 0 0), (6, vi ((n.a7.getD (p.op % n.a7.length) default).width)), (7, .ptr 107 0 0 0), (8, .v (.int .u8 (p.a : Int))), (9, .v (.int .u8 (p.b : Int))), (10, .v (.int .u8 (p.d : Int)))], [(104, .cells [vi 0, vi 0, vi 0, vn, .v (.int .u64 0), vi 0]), (107, .cells [vi (1 + ((p.kind : Int) % 10)), vi 0, vi (-1), vn, .v (.int .u64 0), vi ((p.op : Int) % (n.a7.length : Int))])]⟩) (Le.mk (.c4 (.c2 (.c .nil))) (.c (.c .nil))) ?_)
 refine .seq (.fA rfl (.e8 0 rfl ao dD rfl rfl rfl (aI rfl) rfl rfl ae ?_))
 refine .blind 1 rfl ao (aw.move rfl rfl) ae (.blind 3 rfl ao (aw.move rfl rfl) ae ?_)
 refine .blind 4 rfl ao (aw.ud tX q4 rfl wG) ae ?_
 refine .blind 5 rfl ao (aw.fieldAddr bu rfl rfl) ae (.load 6 rfl ao aW rfl rfl rfl rfl rfl ae (.blind 7 rfl ao (aw.len (n := n.aa.length) az rfl cS) ae ?_))
 refine .blind 8 rfl ao (aw.CA rfl rfl om) ae ?_
 refine .xK (.one 2 rfl ao (.aH gV (cj (n := (⟨n.name, n.aa, n.cells, n.ins, n.a7, n.streams, [], [], n.freeze, n.done, []⟩ : ab)) (w := 1) (k := p.a) (by show (n.aa).length ≤ 1048576; omega) om) rfl (.ah rfl rfl (.ah rfl rfl (.ah rfl rfl .nil))) ae rfl ?_))
 refine .nil ⟨rfl, ?_⟩
 refine .one 9 rfl ao ?_
 refine .buildSlice (([aC n.aa 1 p.a, (p.b : Int) % (n.aa.length : Int)] : List Int).map ai) az ey rfl rfl rfl rfl rfl (aA (s := 1) (f := ai) (fun _ => rfl)) rfl rfl rfl ae ?_
 refine .nil ⟨rfl, ?_⟩
 refine .one 10 rfl ao ?_
 refine .fa bF ?_
 refine .nil ⟨rfl, ?_⟩
 refine .one 11 rfl ao (.sh (Sh.ep (d := 171) (n := ([aC n.aa 1 p.a, (p.b : Int) % (n.aa.length : Int)] : List Int).length) 271 (([aC n.aa 1 p.a, (p.b : Int) % (n.aa.length : Int)] : List Int).map ai) rfl jJ (b5 rfl) ae) (.ak fm rfl rfl rfl rfl rfl rfl (aI rfl) rfl ?_))
 refine .nil ⟨rfl, ?_⟩
 refine .done ao (.le (aT := ⟨[(2, .fp (ab.ph n) 0), (4, .ptr 104 0 0 0), (6, vi ((n.a7.getD (p.op % n.a7.length) default).width)), (7, .ptr 107 0 0 0), (10, .v (.int .u8 (p.d : Int)))], [(104, .cells [vi 0, vi 0, vi 0, vn, .v (.int .u64 0), vi 0]), (107, .cells [vi (1 + ((p.kind : Int) % 10)), vi 0, vi (-1), .ba 271 1 0 (([aC n.aa 1 p.a, (p.b : Int) % (n.aa.length : Int)] : List Int).length), .v (.int .u64 0), vi ((p.op : Int) % (n.a7.length : Int))]), (271, .rows 1 (([aC n.aa 1 p.a, (p.b : Int) % (n.aa.length : Int)] : List Int).map ai))]⟩) (Le.mk (.c4 (.c .nil)) (.c2 (.c .nil))) (.sr ?_))
 refine .fa bP ?_
 refine .ld aV ?_
 refine .vl (Y.ql rfl rfl) (.nil ?_)
 refine .a8 rfl (fun Iz => ?_) (fun Iz => ?_)
 refine .er (⟨[(4, .ptr 104 0 0 0), (6, .v (.int .i64 ((n.a7.getD (p.op % n.a7.length) default).width))), (7, .ptr 107 0 0 0)], [(104, .cells [.v (.int .i64 0), .v (.int .i64 0), .v (.int .i64 0), vn, .v (.int .u64 0), .v (.int .i64 0)]), (107, .cells [.v (.int .i64 (1 + ((p.kind : Int) % 10))), .v (.int .i64 0), .v (.int .i64 (-1)), .ba 271 1 0 ((([aC n.aa 1 p.a, (p.b : Int) % (n.aa.length : Int)] : List Int) ++ ([aC n.aa ((n.a7.getD (p.op % n.a7.length) default).width) p.d] : List Int)).length), .v (.int .u64 0), .v (.int .i64 ((p.op : Int) % (n.a7.length : Int)))]), (271, .rows 1 ((([aC n.aa 1 p.a, (p.b : Int) % (n.aa.length : Int)] : List Int) ++ ([aC n.aa ((n.a7.getD (p.op % n.a7.length) default).width) p.d] : List Int)).map ai))]⟩) rfl ?_ ?_
 refine .blind 0 rfl ao (aw.fieldAddr bF rfl rfl) ae (.e8 2 rfl ao dD rfl rfl rfl (aI rfl) rfl rfl ae (.blind 3 rfl ao (aw.move rfl rfl) ae ?_))
 refine .blind 4 rfl ao (aw.move rfl rfl) ae (.xK ?_)
 refine .two 1 5 rfl rfl ao ?_ ?_
 refine .ld aW ?_
 refine .nil ⟨rfl, ?_⟩
 refine .one 5 rfl ao (.aH gV (cj (n := (⟨n.name, n.aa, n.cells, n.ins, n.a7, n.streams, [], [], n.freeze, n.done, []⟩ : ab)) (w := ((n.a7.getD (p.op % n.a7.length) default).width)) (k := p.d) (by show (n.aa).length ≤ 1048576; omega) om) rfl (.ah rfl rfl (.ah rfl rfl (.ah rfl rfl .nil))) ae rfl ?_)
 refine .nil ⟨rfl, ?_⟩
 refine .one 6 rfl ao ?_
 refine .buildSlice (([aC n.aa ((n.a7.getD (p.op % n.a7.length) default).width) p.d] : List Int).map ai) az ey rfl rfl rfl rfl rfl (aA (s := 1) (f := ai) (fun _ => rfl)) rfl rfl rfl ae ?_
 refine .nil ⟨rfl, ?_⟩
 refine .one 7 rfl ao (.dW ai (([aC n.aa 1 p.a, (p.b : Int) % (n.aa.length : Int)] : List Int) ++ ([aC n.aa ((n.a7.getD (p.op % n.a7.length) default).width) p.d] : List Int)) az ey rfl rfl rfl rfl (bK bw) (bq bw) (cD bw) bw bw ae ae ?_)
 refine .nil ⟨rfl, ?_⟩
 refine .one 8 rfl ao ?_
 refine .fa bF ?_
 refine .nil ⟨rfl, ?_⟩
 refine .one 9 rfl ao (.ak fm rfl rfl rfl rfl rfl rfl (aI rfl) rfl ?_)
 refine .nil ⟨rfl, ?_⟩
 refine .done ao ?_
 exact Le.mk (.c2 (.c .nil)) (.c2 (.c .nil))
 refine .aH gV (cj (n := (⟨n.name, n.aa, n.cells, n.ins, n.a7, n.streams, [], [], n.freeze, n.done, []⟩ : ab)) (w := ((n.a7.getD (p.op % n.a7.length) default).width)) (k := p.d) (by show (n.aa).length ≤ 1048576; omega) om) rfl (.ah rfl rfl (.ah rfl rfl (.ah rfl rfl .nil))) ae rfl ?_
 refine .nil ⟨rfl, ?_⟩
 refine .two 1 6 rfl rfl ao ?_ ?_
 refine .ld aW ?_
 refine .nil ⟨rfl, ?_⟩
 refine .one 6 rfl ao ?_
 refine .buildSlice (([aC n.aa ((n.a7.getD (p.op % n.a7.length) default).width) p.d] : List Int).map ai) az ey rfl rfl rfl rfl rfl (aA (s := 1) (f := ai) (fun _ => rfl)) rfl rfl rfl ae ?_
 refine .nil ⟨rfl, ?_⟩
 refine .one 7 rfl ao (.dW ai (([aC n.aa 1 p.a, (p.b : Int) % (n.aa.length : Int)] : List Int) ++ ([aC n.aa ((n.a7.getD (p.op % n.a7.length) default).width) p.d] : List Int)) az ey rfl rfl rfl rfl (bK bw) (bq bw) (cD bw) bw bw ae ae ?_)
 refine .nil ⟨rfl, ?_⟩
 refine .one 8 rfl ao ?_
 refine .fa bF ?_
 refine .nil ⟨rfl, ?_⟩
 refine .one 9 rfl ao (.ak fm rfl rfl rfl rfl rfl rfl (aI rfl) rfl ?_)
 refine .nil ⟨rfl, ?_⟩
 refine .done ao ?_
 exact Le.mk (.c2 (.c .nil)) (.c2 (.c .nil))
 refine .buildSlice (([aC n.aa ((n.a7.getD (p.op % n.a7.length) default).width) p.d] : List Int).map ai) az ey rfl rfl rfl rfl rfl (aA (s := 1) (f := ai) (fun _ => rfl)) rfl rfl rfl ae ?_
 refine .nil ⟨rfl, ?_⟩
 refine .one 1 rfl ao ?_
 refine .ld aW ?_
 refine .nil ⟨rfl, ?_⟩
 refine .one 7 rfl ao (.dW ai (([aC n.aa 1 p.a, (p.b : Int) % (n.aa.length : Int)] : List Int) ++ ([aC n.aa ((n.a7.getD (p.op % n.a7.length) default).width) p.d] : List Int)) az ey rfl rfl rfl rfl (bK bw) (bq bw) (cD bw) bw bw ae ae ?_)
 refine .nil ⟨rfl, ?_⟩
 refine .one 8 rfl ao ?_
 refine .fa bF ?_
 refine .nil ⟨rfl, ?_⟩
 refine .one 9 rfl ao (.ak fm rfl rfl rfl rfl rfl rfl (aI rfl) rfl ?_)
 refine .nil ⟨rfl, ?_⟩
 refine .done ao ?_
 exact Le.mk (.c2 (.c .nil)) (.c2 (.c .nil))
 refine .le (aT := ⟨[(4, .ptr 104 0 0 0), (6, vi ((n.a7.getD (p.op % n.a7.length) default).width)), (7, .ptr 107 0 0 0)], [(104, .cells [vi 0, vi 0, vi 0, vn, .v (.int .u64 0), vi 0]), (107, .cells [vi (1 + ((p.kind : Int) % 10)), vi 0, vi (-1), .ba 271 1 0 ((([aC n.aa 1 p.a, (p.b : Int) % (n.aa.length : Int)] : List Int) ++ ([aC n.aa ((n.a7.getD (p.op % n.a7.length) default).width) p.d] : List Int)).length), .v (.int .u64 0), vi ((p.op : Int) % (n.a7.length : Int))]), (271, .rows 1 ((([aC n.aa 1 p.a, (p.b : Int) % (n.aa.length : Int)] : List Int) ++ ([aC n.aa ((n.a7.getD (p.op % n.a7.length) default).width) p.d] : List Int)).map ai))]⟩) (Le.mk (.c2 (.c .nil)) (.c2 (.c .nil))) ?_
 refine .sr (.vl (Y.zb dS rfl rfl (aI rfl) rfl rfl) ?_)
 refine .mv ?_
 refine .ak eE rfl rfl rfl rfl rfl rfl (aI rfl) rfl ?_
 refine .an ?_
 refine .nil (.ret ?_)
 exact ⟨_, rfl, _, _, _, Sh.l9 (d := 0) 3 271 rfl rfl rfl rfl sZ rfl ae, rfl, rfl, (⟨1 + ((p.kind : Int) % 10), 0, -1, ([aC n.aa 1 p.a, (p.b : Int) % (n.aa.length : Int)] : List Int) ++ ([aC n.aa ((n.a7.getD (p.op % n.a7.length) default).width) p.d] : List Int), 0, (p.op : Int) % (n.a7.length : Int)⟩ : Cell), _, vP hg h0 om om, rfl, rfl⟩
 refine .skip (.le (aT := ⟨[(4, .ptr 104 0 0 0), (6, vi ((n.a7.getD (p.op % n.a7.length) default).width)), (7, .ptr 107 0 0 0)], [(104, .cells [vi 0, vi 0, vi 0, vn, .v (.int .u64 0), vi 0]), (107, .cells [vi (1 + ((p.kind : Int) % 10)), vi 0, vi (-1), .ba 271 1 0 (([aC n.aa 1 p.a, (p.b : Int) % (n.aa.length : Int)] : List Int).length), .v (.int .u64 0), vi ((p.op : Int) % (n.a7.length : Int))]), (271, .rows 1 (([aC n.aa 1 p.a, (p.b : Int) % (n.aa.length : Int)] : List Int).map ai))]⟩) (Le.mk (.c2 (.c .nil)) (.c2 (.c .nil))) ?_)
 refine .sr (.vl (Y.zb dS rfl rfl (aI rfl) rfl rfl) ?_)
 refine .mv ?_
 refine .ak eE rfl rfl rfl rfl rfl rfl (aI rfl) rfl ?_
 refine .an ?_
 refine .nil (.ret ?_)
 exact ⟨_, rfl, _, _, _, Sh.l9 (d := 0) 3 271 rfl rfl rfl rfl sZ rfl ae, rfl, rfl, (⟨1 + ((p.kind : Int) % 10), 0, -1, ([aC n.aa 1 p.a, (p.b : Int) % (n.aa.length : Int)] : List Int), 0, (p.op : Int) % (n.a7.length : Int)⟩ : Cell), _, y5 hg h0 om om, rfl, rfl⟩
 refine .sr (.vl (Y.ql rfl rfl) ?_)
 refine .an ?_
 refine .nil ?_
 refine .a8 rfl (fun PS => ?_) (fun PS => ?_)
 refine .seq (.sr ?_)
 refine .fa iZ ?_
 refine .ld aW ?_
 refine .vl (Y.qx (n := n.ins.length) az rfl cS) (.vl (Y.ql rfl rfl) (.nil ?_))
 refine .a8 rfl (fun PT => ?_) (fun PT => ?_)
 refine .sr (.vl (Y.qh uG dM rfl rfl rfl) (.ak eE rfl rfl rfl rfl rfl rfl (aI rfl) rfl ?_))
 refine .an ?_
 refine .nil (.sh (Sh.eC 104 399 1 3 rfl rfl rfl rfl ae) (.ret ?_))
 exact ⟨_, rfl, _, _, _, Sh.l9 (d := 0) 3 399 rfl rfl rfl rfl sZ rfl ae, rfl, rfl, (⟨0, 0, 0, ([] : List Int), 0, 0⟩ : Cell), _, rF hg, rfl, rfl⟩
 refine .skip (.sr ?_)
 refine .fa uF ?_
 refine .ld fv ?_
 refine .fa iZ ?_
 refine .ld aW ?_
 refine .vl (Y.qx (n := n.ins.length) az rfl cS) (.vl (Y.qk q4 xy rfl (by first | rfl | exact IntWalk.u64_in _ om)) (.vl (Y.zt (a := p.num) (b := n.ins.length) rfl rfl om) ?_))
 refine .fa dp ?_
 refine .ak Es rfl rfl rfl rfl rfl rfl (aI rfl) rfl (.nil ?_)
 have MD : p.num % n.ins.length < n.ins.length := Nat.mod_lt _ om
 refine .region ?_
 refine .fa iZ ?_
 refine .ld aW ?_
 refine .fa dp ?_
 refine .ld fv ?_
 refine .vl (Y.qs (m := p.num % n.ins.length) az rfl rfl bf (aq (d := 0) om)) ?_
 refine .ld aV ?_
 refine .an ?_
 refine .nil (.le (aT := ⟨[(4, .ptr 104 0 0 0), (6, vi (n.ins.getD (p.num % n.ins.length) 0)), (7, .ptr 107 0 0 0)], [(104, .cells [vi 0, vi 0, vi 0, vn, .v (.int .u64 0), vi 0]), (107, .cells [vi (1 + ((p.kind : Int) % 10)), vi 0, vi (-1), vn, .v (.int .u64 ((p.num % n.ins.length : Nat) : Int)), vi 0])]⟩) (Le.mk (.c2 (.c .nil)) (.c (.c .nil))) ?_)
 refine .sr (.vl (Y.zb dS rfl rfl (aI rfl) rfl rfl) ?_)
 refine .mv ?_
 refine .ak eE rfl rfl rfl rfl rfl rfl (aI rfl) rfl ?_
 refine .an ?_
 refine .nil (.sh (Sh.eC 104 399 1 3 rfl rfl rfl rfl ae) (.ret ?_))
 exact ⟨_, rfl, _, _, _, Sh.l9 (d := 0) 3 399 rfl rfl rfl rfl sZ rfl ae, rfl, rfl, (⟨1 + ((p.kind : Int) % 10), 0, -1, ([] : List Int), p.num % n.ins.length, 0⟩ : Cell), _, BS hg om om hi, rfl, rfl⟩
 refine .seq (.sr ?_)
 refine .fa cC ?_
 refine .ld fC ?_
 refine .vl (Y.qx (n := n.streams.length) eG rfl cS) (.vl (Y.ql rfl rfl) (.nil ?_))
 refine .a8 rfl (fun wc => ?_) (fun wc => ?_)
 refine .sr (.vl (Y.qh uG dM rfl rfl rfl) (.ak eE rfl rfl rfl rfl rfl rfl (aI rfl) rfl ?_))
 refine .an ?_
 refine .nil (.sh (Sh.eC 104 399 1 3 rfl rfl rfl rfl ae) (.ret ?_))
 exact ⟨_, rfl, _, _, _, Sh.l9 (d := 0) 3 399 rfl rfl rfl rfl sZ rfl ae, rfl, rfl, (⟨0, 0, 0, ([] : List Int), 0, 0⟩ : Cell), _, rF hg, rfl, rfl⟩
 refine .skip (.sr ?_)
 refine .fa q3 ?_
 refine .ld qY ?_
 refine .vl (Y.qk tX q4 rfl wG) ?_
 refine .fa cC ?_
 refine .ld fC ?_
 refine .vl (Y.qx (n := n.streams.length) eG rfl cS) (.vl (Y.zs rfl rfl bw) ?_)
 refine .fa bU ?_
 refine .ak eQ rfl rfl rfl rfl rfl rfl (aI rfl) rfl (.nil (.seq ?_))
 have MD : p.op % n.streams.length < n.streams.length := Nat.mod_lt _ om
 refine .region ?_
 refine .fa cC ?_
 refine .ld fC ?_
 refine .fa bU ?_
 refine .ld aV ?_
 refine .vl (Y.qs (m := p.op % n.streams.length) eG rfl rfl bf (aq (d := default) om)) ?_
 refine .fa ny ?_
 refine .ld aV ?_
 refine .an ?_
 refine .nil (.le (aT := ⟨[(2, .fp (ab.ph n) 0), (4, .ptr 104 0 0 0), (6, vi ((n.streams.getD (p.op % n.streams.length) default).width)), (7, .ptr 107 0 0 0)], [(104, .cells [vi 0, vi 0, vi 0, vn, .v (.int .u64 0), vi 0]), (107, .cells [vi (1 + ((p.kind : Int) % 10)), vi 0, vi (-1), vn, .v (.int .u64 0), vi ((p.op : Int) % (n.streams.length : Int))])]⟩) (Le.mk (.c2 (.c (.c .nil))) (.c (.c .nil))) ?_)
 refine .fb (fun (gK : Nat) => ⟨[(4, .ptr 104 0 0 0), (6, vi ((n.streams.getD (p.op % n.streams.length) default).width)), (7, .ptr 107 0 0 0)], [(104, .cells [vi 0, vi 0, vi 0, vn, .v (.int .u64 0), vi 0]), (107, .cells [vi gK, vi 0, vi (-1), vn, .v (.int .u64 0), vi ((p.op : Int) % (n.streams.length : Int))])]⟩) (fun gK => (((1 + ((p.kind : Int) % 10)) = 10) ∧ (((n.streams.getD (p.op % n.streams.length) default).out) = true) ∧ (gK = 9)) ∨ (((1 + ((p.kind : Int) % 10)) = 10) ∧ (((n.streams.getD (p.op % n.streams.length) default).out) = false) ∧ (gK = (1 + (p.kind % 10)))) ∨ ((¬ ((1 + ((p.kind : Int) % 10)) = 10)) ∧ (gK = (1 + (p.kind % 10))))) ?_ (fun gK wu => ?_)
 refine .sr ?_
 refine .fa bP ?_
 refine .ld aV ?_
 refine .vl (Y.ql rfl rfl) ?_
 refine .mv ?_
 refine .ax (d := 54) rfl (fun Dy => ?_) (fun Dy => ?_)
 refine .gw 54 (Y.qp cC rfl rfl) (.gw 54 (Y.za fC rfl rfl rfl rfl) (.gw 54 (Y.qp bU rfl rfl) ?_))
 refine .gw 54 (Y.za aV rfl rfl rfl rfl) (.gw 54 (Y.qs (m := p.op % n.streams.length) eG rfl rfl bf (aq (d := default) om)) ?_)
 refine .gw 54 (Y.qp gU rfl rfl) (.gw 54 (Y.za ta rfl rfl rfl rfl) ?_)
 refine .pk ?_
 refine .nil ?_
 refine .cond rfl (fun Ic => ?_) (fun Ic => ?_)
 refine .region ?_
 refine .fa bP ?_
 refine .ak eQ rfl rfl rfl rfl rfl rfl (aI rfl) rfl (.nil ?_)
 exact ⟨9, .inl ⟨Dy, Ic, rfl⟩, Le.mk (.c2 (.c .nil)) (.c (.cons (aX rfl lq) .nil))⟩
 refine .skip (⟨1 + (p.kind % 10), .inr (.inl ⟨Dy, Ic, rfl⟩), Le.mk (.c2 (.c .nil)) (.c (.cons (aX rfl lq) .nil))⟩)
 refine .gz 54 (.gz 54 (.gz 54 ?_))
 refine .gz 54 (.gz 54 (.gz 54 ?_))
 refine .gz 54 ?_
 refine .pk ?_
 refine .nil (.bO rfl (.skip ?_))
 exact ⟨1 + (p.kind % 10), .inr (.inr (⟨Dy, rfl⟩)), Le.mk (.c2 (.c .nil)) (.c (.cons (aX rfl lq) .nil))⟩
 refine .sr ?_
 refine .fa bP ?_
 refine .ld aV ?_
 refine .vl (Y.ql rfl rfl) (.nil ?_)
 refine .a8 rfl (fun LM => ?_) (fun LM => ?_)
 refine .region ?_
 refine .an ?_
 refine .nil (.le (aT := ⟨[(4, .ptr 104 0 0 0), (6, vi 1), (7, .ptr 107 0 0 0)], [(104, .cells [vi 0, vi 0, vi 0, vn, .v (.int .u64 0), vi 0]), (107, .cells [vi gK, vi 0, vi (-1), vn, .v (.int .u64 0), vi ((p.op : Int) % (n.streams.length : Int))])]⟩) (Le.mk (.c2 (.c .nil)) (.c (.c .nil))) ?_)
 refine .sr (.vl (Y.zb dS rfl rfl (aI rfl) rfl rfl) ?_)
 refine .mv ?_
 refine .ak eE rfl rfl rfl rfl rfl rfl (aI rfl) rfl ?_
 refine .an ?_
 refine .nil (.sh (Sh.eC 104 399 1 3 rfl rfl rfl rfl ae) (.ret ?_))
 exact ⟨_, rfl, _, _, _, Sh.l9 (d := 0) 3 399 rfl rfl rfl rfl sZ rfl ae, rfl, rfl, (⟨(gK : Int), 0, -1, ([] : List Int), 0, (p.op : Int) % (n.streams.length : Int)⟩ : Cell), _, Ei hg om om, rfl, rfl⟩
 refine .skip (.le (aT := ⟨[(4, .ptr 104 0 0 0), (6, vi ((n.streams.getD (p.op % n.streams.length) default).width)), (7, .ptr 107 0 0 0)], [(104, .cells [vi 0, vi 0, vi 0, vn, .v (.int .u64 0), vi 0]), (107, .cells [vi gK, vi 0, vi (-1), vn, .v (.int .u64 0), vi ((p.op : Int) % (n.streams.length : Int))])]⟩) (Le.mk (.c2 (.c .nil)) (.c (.c .nil))) ?_)
 refine .sr (.vl (Y.zb dS rfl rfl (aI rfl) rfl rfl) ?_)
 refine .mv ?_
 refine .ak eE rfl rfl rfl rfl rfl rfl (aI rfl) rfl ?_
 refine .an ?_
 refine .nil (.sh (Sh.eC 104 399 1 3 rfl rfl rfl rfl ae) (.ret ?_))
 exact ⟨_, rfl, _, _, _, Sh.l9 (d := 0) 3 399 rfl rfl rfl rfl sZ rfl ae, rfl, rfl, (⟨(gK : Int), 0, -1, ([] : List Int), 0, (p.op : Int) % (n.streams.length : Int)⟩ : Cell), _, Ej hg om om (by grind), rfl, rfl⟩
open Go Go.AW Go.Proofs
theorem AA {nm : ByteArray} {ws ins : List Int} {cs : List Cell} {a7 : List eu} {streams : List bI} {f0 d0 : Int} {p : pJ} {i cl : Nat} (DC : cl = cs.length) (hn : ws.length ≤ 1048576) (hc : cs.length ≤ 1048576) (hp : p.Ok) (hi : i < cs.length) (ho : In (cs.getD ((((cs.length : Int) - 1) - (i : Int)).toNat) default).out ws.length ∨ (cs.getD ((((cs.length : Int) - 1) - (i : Int)).toNat) default).kind ≠ 4) : au Try.prog 55 [.ptr 0 0 0 0, .agg (pJ.row p), vi i] [.cells [.v (.string nm), .ba 1 1 0 ws.length, .ba 2 6 0 cl, .fz 1 (ins.map ai), .fz 5 (a7.map eu.row), .fz 3 (streams.map bI.row), vn, vn, vi f0, vi d0, vn], .rows 1 (ws.map ai), .rows 6 (cs.map Cell.row)] [0, 1, 2] (fun r o => r = .tup [] ∧ o = [.cells [.v (.string nm), .ba 1 1 0 ws.length, .ba 2 6 0 cl, .fz 1 (ins.map ai), .fz 5 (a7.map eu.row), .fz 3 (streams.map bI.row), vn, vn, vi f0, vi d0, vn], .rows 1 (ws.map ai), .rows 6 ((qW ws cs p i).map Cell.row)]) := by
 refine au.of Try.func55 rfl rfl rfl (n := 62) ae (aI rfl) ?_
 subst DC
 have Rh := hp.a; have Ri := hp.d
 refine .sr (.box 104 rfl rfl rfl rfl rfl ae (.nil ?_))
 refine .seq (.sh (Sh.cW 104 rfl rfl) ?_)
 refine .ij [0] [0, 1, 2, 104] (⟨[(0, .ptr 0 0 0 0), (2, .v (.int .i64 (i : Int))), (4, .fp (pJ.row p) 0), (6, .ptr 106 0 0 0)], [(0, .cells [.v (.string nm), .ba 1 1 0 ws.length, .ba 2 6 0 cs.length, .fz 1 (ins.map ai), .fz 5 (a7.map eu.row), .fz 3 (streams.map bI.row), vn, vn, .v (.int .i64 f0), .v (.int .i64 d0), vn]), (1, .rows 1 (ws.map ai)), (2, .rows 6 (cs.map Cell.row)), (106, .cells [.v (.int .i64 ((cs.getD ((((cs.length : Int) - 1) - (i : Int)).toNat) default).kind)), .v (.int .i64 ((cs.getD ((((cs.length : Int) - 1) - (i : Int)).toNat) default).op)), .v (.int .i64 ((cs.getD ((((cs.length : Int) - 1) - (i : Int)).toNat) default).out)), .fz 1 (((cs.getD ((((cs.length : Int) - 1) - (i : Int)).toNat) default).args).map ai), .v (.int .u64 (((cs.getD ((((cs.length : Int) - 1) - (i : Int)).toNat) default).num : Nat) : Int)), .v (.int .i64 ((cs.getD ((((cs.length : Int) - 1) - (i : Int)).toNat) default).mem))])]⟩) rfl ?_ ?_
 refine .blind 0 rfl ao (aw.move rfl rfl) ae (.blind 1 rfl ao (aw.nilCheck rfl rfl) ae (.blind 2 rfl ao (aw.fieldAddr bL rfl rfl) ae ?_))
 refine .load 3 rfl ao eT rfl rfl rfl rfl rfl ae (.blind 4 rfl ao (aw.move rfl rfl) ae (.blind 5 rfl ao (aw.nilCheck rfl rfl) ae ?_))
 refine .blind 6 rfl ao (aw.fieldAddr bL rfl rfl) ae (.load 7 rfl ao eT rfl rfl rfl rfl rfl ae (.blind 8 rfl ao (aw.len (n := cs.length) dr rfl rfl) ae ?_))
 refine .blind 9 rfl ao (aw.KX rfl rfl om) ae (.blind 10 rfl ao (aw.move rfl rfl) ae (.blind 11 rfl ao (aw.KX rfl rfl om) ae (.blind 12 rfl ao (aw.sC (m := (((cs.length : Int) - 1) - (i : Int)).toNat) dr rfl rfl om om) ae (.AP rfl rfl (cq.cells rfl rfl rfl cq.nil) ?_))))
 refine .two 13 14 rfl rfl ao ?_ ?_
 refine .vl (Y.zb dS rfl (aB (d := default) bw) (aI rfl) rfl rfl) ?_
 refine .nil ⟨rfl, ?_⟩
 refine .one 14 rfl ao (.alloc 106 dM rfl rfl ae ?_)
 refine .nil ⟨rfl, ?_⟩
 refine .one 15 rfl ao (.ak eE rfl rfl rfl rfl rfl rfl (aI rfl) rfl ?_)
 refine .nil ⟨rfl, ?_⟩
 refine .done ao ?_
 exact Le.mk (.c2 (.c (.c .nil))) (.c2 (.c (.c .nil)))
 refine .alloc 106 dM rfl rfl ae ?_
 refine .nil ⟨rfl, ?_⟩
 refine .one 13 rfl ao (.vl (Y.zb dS rfl (aB (d := default) bw) (aI rfl) rfl rfl) ?_)
 refine .nil ⟨rfl, ?_⟩
 refine .one 15 rfl ao (.ak eE rfl rfl rfl rfl rfl rfl (aI rfl) rfl ?_)
 refine .nil ⟨rfl, ?_⟩
 refine .done ao ?_
 exact Le.mk (.c2 (.c (.c .nil))) (.c2 (.c (.c .nil)))
 refine .le (aT := ⟨[(0, .ptr 0 0 0 0), (2, vi i), (4, .fp (pJ.row p) 0), (6, .ptr 106 0 0 0)], [(0, .cells [.v (.string nm), .ba 1 1 0 ws.length, .ba 2 6 0 cs.length, .fz 1 (ins.map ai), .fz 5 (a7.map eu.row), .fz 3 (streams.map bI.row), vn, vn, vi f0, vi d0, vn]), (1, .rows 1 (ws.map ai)), (2, .rows 6 (cs.map Cell.row)), (106, .cells [vi ((cs.getD ((((cs.length : Int) - 1) - (i : Int)).toNat) default).kind), vi ((cs.getD ((((cs.length : Int) - 1) - (i : Int)).toNat) default).op), vi ((cs.getD ((((cs.length : Int) - 1) - (i : Int)).toNat) default).out), .fz 1 (((cs.getD ((((cs.length : Int) - 1) - (i : Int)).toNat) default).args).map ai), .v (.int .u64 (((cs.getD ((((cs.length : Int) - 1) - (i : Int)).toNat) default).num : Nat) : Int)), vi ((cs.getD ((((cs.length : Int) - 1) - (i : Int)).toNat) default).mem)])]⟩) (Le.mk (.c2 (.c (.c .nil))) (.c2 (.c (.c .nil)))) (.sr ?_)
 refine .fa bP ?_
 refine .ld aV ?_
 refine .vl (Y.ql rfl rfl) (.nil ?_)
 refine .le (aT := ⟨[(0, .ptr 0 0 0 0), (2, vi i), (4, .fp (pJ.row p) 0), (6, .ptr 106 0 0 0), (23, .v (.bool (decide (((cs.getD ((((cs.length : Int) - 1) - (i : Int)).toNat) default).kind) = 4))))], [(0, .cells [.v (.string nm), .ba 1 1 0 ws.length, .ba 2 6 0 cs.length, .fz 1 (ins.map ai), .fz 5 (a7.map eu.row), .fz 3 (streams.map bI.row), vn, vn, vi f0, vi d0, vn]), (1, .rows 1 (ws.map ai)), (2, .rows 6 (cs.map Cell.row)), (106, .cells [vi ((cs.getD ((((cs.length : Int) - 1) - (i : Int)).toNat) default).kind), vi ((cs.getD ((((cs.length : Int) - 1) - (i : Int)).toNat) default).op), vi ((cs.getD ((((cs.length : Int) - 1) - (i : Int)).toNat) default).out), .fz 1 (((cs.getD ((((cs.length : Int) - 1) - (i : Int)).toNat) default).args).map ai), .v (.int .u64 (((cs.getD ((((cs.length : Int) - 1) - (i : Int)).toNat) default).num : Nat) : Int)), vi ((cs.getD ((((cs.length : Int) - 1) - (i : Int)).toNat) default).mem)])]⟩) (Le.mk (.c4 (.c .nil)) (.c2 (.c (.c .nil)))) ?_
 refine .a8 rfl (fun pK => ?_) (fun pK => ?_)
 have HO := ho.resolve_right (fun h => h pK)
 unfold In at HO
 refine .seq ?_
 refine .ij [0] [0, 1, 2, 106] (⟨[(0, .ptr 0 0 0 0), (2, .v (.int .i64 (i : Int))), (6, .ptr 106 0 0 0)], [(0, .cells [.v (.string nm), .ba 1 1 0 ws.length, .ba 2 6 0 cs.length, .fz 1 (ins.map ai), .fz 5 (a7.map eu.row), .fz 3 (streams.map bI.row), vn, vn, .v (.int .i64 f0), .v (.int .i64 d0), vn]), (1, .rows 1 (ws.map ai)), (2, .rows 6 (cs.map Cell.row)), (106, .cells [.v (.int .i64 ((cs.getD ((((cs.length : Int) - 1) - (i : Int)).toNat) default).kind)), .v (.int .i64 ((cs.getD ((((cs.length : Int) - 1) - (i : Int)).toNat) default).op)), .v (.int .i64 ((cs.getD ((((cs.length : Int) - 1) - (i : Int)).toNat) default).out)), .fz 1 (([aC ws 1 p.a, aC ws (ws.getD (((cs.getD ((((cs.length : Int) - 1) - (i : Int)).toNat) default).out).toNat) 0) p.d] : List Int).map ai), .v (.int .u64 (((cs.getD ((((cs.length : Int) - 1) - (i : Int)).toNat) default).num : Nat) : Int)), .v (.int .i64 ((cs.getD ((((cs.length : Int) - 1) - (i : Int)).toNat) default).mem))])]⟩) rfl ?_ ?_
 refine .blind 0 rfl ao (aw.move rfl rfl) ae (.blind 1 rfl ao (aw.nilCheck rfl rfl) ae (.e8 2 rfl ao dD rfl rfl rfl (aI rfl) rfl rfl ae ?_))
 refine .blind 3 rfl ao (aw.fieldAddr kv rfl rfl) ae (.blind 4 rfl ao (aw.kD su rfl rfl (m := 0) rfl om rfl) ae (.load 5 rfl ao qY rfl rfl rfl rfl rfl ae ?_))
 refine .blind 7 rfl ao (aw.move rfl rfl) ae (.blind 8 rfl ao (aw.nilCheck rfl rfl) ae (.e8 9 rfl ao dD rfl rfl rfl (aI rfl) rfl rfl ae ?_))
 refine .blind 10 rfl ao (aw.move rfl rfl) ae (.blind 11 rfl ao (aw.nilCheck rfl rfl) ae (.blind 12 rfl ao (aw.fieldAddr bu rfl rfl) ae ?_))
 refine .load 13 rfl ao aW rfl rfl rfl rfl rfl ae (.blind 14 rfl ao (aw.fieldAddr cN rfl rfl) ae (.blind 18 rfl ao (aw.fieldAddr kv rfl rfl) ae ?_))
 refine .blind 19 rfl ao (aw.kD su rfl rfl (m := 2) rfl om rfl) ae (.load 20 rfl ao qY rfl rfl rfl rfl rfl ae (.AP rfl rfl (cq.cells rfl rfl rfl cq.nil) ?_))
 refine .two 6 15 rfl rfl ao ?_ ?_
 refine .g7 [1, 2] gV (cj (n := (⟨nm, ws, cs, ins, a7, streams, [], [], f0, d0, []⟩ : ab)) (w := 1) (k := p.a) (by show (ws).length ≤ 1048576; omega) om) rfl (.agg (.ah rfl rfl (.cw rfl rfl (bo om) (bp om) (.cw rfl rfl (bo om) (bp om) (.ah rfl rfl (.ah rfl rfl (.ah rfl rfl (.ah rfl rfl (.ah rfl rfl (.ah rfl rfl (.ah rfl rfl (.ah rfl rfl .nil))))))))))) rfl (.ah rfl rfl (.ah rfl rfl .nil))) (dY rfl (aY aE) (hY rfl (aY Cell.cg))) ae rfl trivial ?_
 refine .nil ⟨rfl, ?_⟩
 refine .one 15 rfl ao ?_
 refine .ld aV ?_
 refine .nil ⟨rfl, ?_⟩
 refine .one 16 rfl ao (.vl (Y.qt (m := ((cs.getD ((((cs.length : Int) - 1) - (i : Int)).toNat) default).out).toNat) az rfl rfl om om) ?_)
 refine .nil ⟨rfl, ?_⟩
 refine .one 17 rfl ao (.vl (Y.za aV rfl (aB (d := 0) om) rfl rfl) ?_)
 refine .nil ⟨rfl, ?_⟩
 refine .one 21 rfl ao (.g7 [1, 2] gV (cj (n := (⟨nm, ws, cs, ins, a7, streams, [], [], f0, d0, []⟩ : ab)) (w := (ws.getD (((cs.getD ((((cs.length : Int) - 1) - (i : Int)).toNat) default).out).toNat) 0)) (k := p.d) (by show (ws).length ≤ 1048576; omega) om) rfl (.agg (.ah rfl rfl (.cw rfl rfl (bo om) (bp om) (.cw rfl rfl (bo om) (bp om) (.ah rfl rfl (.ah rfl rfl (.ah rfl rfl (.ah rfl rfl (.ah rfl rfl (.ah rfl rfl (.ah rfl rfl (.ah rfl rfl .nil))))))))))) rfl (.ah rfl rfl (.ah rfl rfl .nil))) (dY rfl (aY aE) (hY rfl (aY Cell.cg))) ae rfl trivial ?_)
 refine .nil ⟨rfl, ?_⟩
 refine .one 22 rfl ao ?_
 refine .buildSlice (([aC ws 1 p.a, aC ws (ws.getD (((cs.getD ((((cs.length : Int) - 1) - (i : Int)).toNat) default).out).toNat) 0) p.d] : List Int).map ai) az ey rfl rfl rfl rfl rfl (aA (s := 1) (f := ai) (fun _ => rfl)) rfl rfl rfl ae ?_
 refine .nil ⟨rfl, ?_⟩
 refine .one 23 rfl ao ?_
 refine .fa bF ?_
 refine .nil ⟨rfl, ?_⟩
 refine .one 24 rfl ao (.sh (Sh.dg (d := 46) (([aC ws 1 p.a, aC ws (ws.getD (((cs.getD ((((cs.length : Int) - 1) - (i : Int)).toNat) default).out).toNat) 0) p.d] : List Int).map ai) rfl jJ (cQ.map aE)) (.ak fm rfl rfl rfl rfl rfl rfl (aI rfl) rfl ?_))
 refine .nil ⟨rfl, ?_⟩
 refine .done ao ?_
 exact Le.mk (.c2 (.c .nil)) (.c2 (.c (.c .nil)))
 refine .ld aV ?_
 refine .nil ⟨rfl, ?_⟩
 refine .blind 16 rfl ao (aw.sC (m := ((cs.getD ((((cs.length : Int) - 1) - (i : Int)).toNat) default).out).toNat) az rfl rfl om om) ae ?_
 refine .two 6 17 rfl rfl ao ?_ ?_
 refine .g7 [1, 2] gV (cj (n := (⟨nm, ws, cs, ins, a7, streams, [], [], f0, d0, []⟩ : ab)) (w := 1) (k := p.a) (by show (ws).length ≤ 1048576; omega) om) rfl (.agg (.ah rfl rfl (.cw rfl rfl (bo om) (bp om) (.cw rfl rfl (bo om) (bp om) (.ah rfl rfl (.ah rfl rfl (.ah rfl rfl (.ah rfl rfl (.ah rfl rfl (.ah rfl rfl (.ah rfl rfl (.ah rfl rfl .nil))))))))))) rfl (.ah rfl rfl (.ah rfl rfl .nil))) (dY rfl (aY aE) (hY rfl (aY Cell.cg))) ae rfl trivial ?_
 refine .nil ⟨rfl, ?_⟩
 refine .one 17 rfl ao (.vl (Y.za aV rfl (aB (d := 0) om) rfl rfl) ?_)
 refine .nil ⟨rfl, ?_⟩
 refine .one 21 rfl ao (.g7 [1, 2] gV (cj (n := (⟨nm, ws, cs, ins, a7, streams, [], [], f0, d0, []⟩ : ab)) (w := (ws.getD (((cs.getD ((((cs.length : Int) - 1) - (i : Int)).toNat) default).out).toNat) 0)) (k := p.d) (by show (ws).length ≤ 1048576; omega) om) rfl (.agg (.ah rfl rfl (.cw rfl rfl (bo om) (bp om) (.cw rfl rfl (bo om) (bp om) (.ah rfl rfl (.ah rfl rfl (.ah rfl rfl (.ah rfl rfl (.ah rfl rfl (.ah rfl rfl (.ah rfl rfl (.ah rfl rfl .nil))))))))))) rfl (.ah rfl rfl (.ah rfl rfl .nil))) (dY rfl (aY aE) (hY rfl (aY Cell.cg))) ae rfl trivial ?_)
 refine .nil ⟨rfl, ?_⟩
 refine .one 22 rfl ao ?_
 refine .buildSlice (([aC ws 1 p.a, aC ws (ws.getD (((cs.getD ((((cs.length : Int) - 1) - (i : Int)).toNat) default).out).toNat) 0) p.d] : List Int).map ai) az ey rfl rfl rfl rfl rfl (aA (s := 1) (f := ai) (fun _ => rfl)) rfl rfl rfl ae ?_
 refine .nil ⟨rfl, ?_⟩
 refine .one 23 rfl ao ?_
 refine .fa bF ?_
 refine .nil ⟨rfl, ?_⟩
 refine .one 24 rfl ao (.sh (Sh.dg (d := 46) (([aC ws 1 p.a, aC ws (ws.getD (((cs.getD ((((cs.length : Int) - 1) - (i : Int)).toNat) default).out).toNat) 0) p.d] : List Int).map ai) rfl jJ (cQ.map aE)) (.ak fm rfl rfl rfl rfl rfl rfl (aI rfl) rfl ?_))
 refine .nil ⟨rfl, ?_⟩
 refine .done ao ?_
 exact Le.mk (.c2 (.c .nil)) (.c2 (.c (.c .nil)))
 refine .vl (Y.za aV rfl (aB (d := 0) om) rfl rfl) ?_
 refine .nil ⟨rfl, ?_⟩
 refine .one 6 rfl ao (.g7 [1, 2] gV (cj (n := (⟨nm, ws, cs, ins, a7, streams, [], [], f0, d0, []⟩ : ab)) (w := 1) (k := p.a) (by show (ws).length ≤ 1048576; omega) om) rfl (.agg (.ah rfl rfl (.cw rfl rfl (bo om) (bp om) (.cw rfl rfl (bo om) (bp om) (.ah rfl rfl (.ah rfl rfl (.ah rfl rfl (.ah rfl rfl (.ah rfl rfl (.ah rfl rfl (.ah rfl rfl (.ah rfl rfl .nil))))))))))) rfl (.ah rfl rfl (.ah rfl rfl .nil))) (dY rfl (aY aE) (hY rfl (aY Cell.cg))) ae rfl trivial ?_)
 refine .nil ⟨rfl, ?_⟩
 refine .one 21 rfl ao (.g7 [1, 2] gV (cj (n := (⟨nm, ws, cs, ins, a7, streams, [], [], f0, d0, []⟩ : ab)) (w := (ws.getD (((cs.getD ((((cs.length : Int) - 1) - (i : Int)).toNat) default).out).toNat) 0)) (k := p.d) (by show (ws).length ≤ 1048576; omega) om) rfl (.agg (.ah rfl rfl (.cw rfl rfl (bo om) (bp om) (.cw rfl rfl (bo om) (bp om) (.ah rfl rfl (.ah rfl rfl (.ah rfl rfl (.ah rfl rfl (.ah rfl rfl (.ah rfl rfl (.ah rfl rfl (.ah rfl rfl .nil))))))))))) rfl (.ah rfl rfl (.ah rfl rfl .nil))) (dY rfl (aY aE) (hY rfl (aY Cell.cg))) ae rfl trivial ?_)
 refine .nil ⟨rfl, ?_⟩
 refine .one 22 rfl ao ?_
 refine .buildSlice (([aC ws 1 p.a, aC ws (ws.getD (((cs.getD ((((cs.length : Int) - 1) - (i : Int)).toNat) default).out).toNat) 0) p.d] : List Int).map ai) az ey rfl rfl rfl rfl rfl (aA (s := 1) (f := ai) (fun _ => rfl)) rfl rfl rfl ae ?_
 refine .nil ⟨rfl, ?_⟩
 refine .one 23 rfl ao ?_
 refine .fa bF ?_
 refine .nil ⟨rfl, ?_⟩
 refine .one 24 rfl ao (.sh (Sh.dg (d := 46) (([aC ws 1 p.a, aC ws (ws.getD (((cs.getD ((((cs.length : Int) - 1) - (i : Int)).toNat) default).out).toNat) 0) p.d] : List Int).map ai) rfl jJ (cQ.map aE)) (.ak fm rfl rfl rfl rfl rfl rfl (aI rfl) rfl ?_))
 refine .nil ⟨rfl, ?_⟩
 refine .done ao ?_
 exact Le.mk (.c2 (.c .nil)) (.c2 (.c (.c .nil)))
 refine .le (aT := ⟨[(0, .ptr 0 0 0 0), (2, vi i), (6, .ptr 106 0 0 0)], [(0, .cells [.v (.string nm), .ba 1 1 0 ws.length, .ba 2 6 0 cs.length, .fz 1 (ins.map ai), .fz 5 (a7.map eu.row), .fz 3 (streams.map bI.row), vn, vn, vi f0, vi d0, vn]), (1, .rows 1 (ws.map ai)), (2, .rows 6 (cs.map Cell.row)), (106, .cells [vi ((cs.getD ((((cs.length : Int) - 1) - (i : Int)).toNat) default).kind), vi ((cs.getD ((((cs.length : Int) - 1) - (i : Int)).toNat) default).op), vi ((cs.getD ((((cs.length : Int) - 1) - (i : Int)).toNat) default).out), .fz 1 (([aC ws 1 p.a, aC ws (ws.getD (((cs.getD ((((cs.length : Int) - 1) - (i : Int)).toNat) default).out).toNat) 0) p.d] : List Int).map ai), .v (.int .u64 (((cs.getD ((((cs.length : Int) - 1) - (i : Int)).toNat) default).num : Nat) : Int)), vi ((cs.getD ((((cs.length : Int) - 1) - (i : Int)).toNat) default).mem)])]⟩) (Le.mk (.c2 (.c .nil)) (.c2 (.c (.c .nil)))) ?_
 refine .pb 14 rfl ao (.val (Y.zg rfl rfl) ae (.val (Y.zl rfl rfl) ae ?_))
 refine .val (Y.qp bL rfl rfl) ae (.val (Y.za eT rfl rfl rfl rfl) ae (.val (Y.zg rfl rfl) ae ?_))
 refine .val (Y.zl rfl rfl) ae (.val (Y.qp bL rfl rfl) ae (.val (Y.za eT rfl rfl rfl rfl) ae ?_))
 refine .val (Y.qx (n := cs.length) dr rfl rfl) ae (.val (Y.zz rfl rfl om) ae (.val (Y.zg rfl rfl) ae (.val (Y.zz rfl rfl om) ae (.val (Y.zb dS rfl rfl (aI rfl) rfl rfl) ae (.val (Y.qt (m := (((cs.length : Int) - 1) - (i : Int)).toNat) dr rfl rfl om om) ae (.nil (.dC ((cs.set ((((cs.length : Int) - 1) - (i : Int)).toNat) (⟨(cs.getD ((((cs.length : Int) - 1) - (i : Int)).toNat) default).kind, (cs.getD ((((cs.length : Int) - 1) - (i : Int)).toNat) default).op, (cs.getD ((((cs.length : Int) - 1) - (i : Int)).toNat) default).out, ([aC ws 1 p.a, aC ws (ws.getD (((cs.getD ((((cs.length : Int) - 1) - (i : Int)).toNat) default).out).toNat) 0) p.d] : List Int), (cs.getD ((((cs.length : Int) - 1) - (i : Int)).toNat) default).num, (cs.getD ((((cs.length : Int) - 1) - (i : Int)).toNat) default).mem⟩ : Cell)).map Cell.row) eE rfl rfl rfl rfl rfl rfl rfl (aB (d := default) om) (aI rfl) (ck rfl) (.nil ⟨_, _, rfl, rfl, rfl, (by unfold qW; rw [if_pos pK])⟩))))))))
 refine .skip ⟨_, _, rfl, rfl, rfl, (by unfold qW; rw [if_neg pK])⟩
open Go Go.AW Go.Proofs
theorem AB {p : lM} (hf : p.Mo) (hk : p.Ok) : au Try.prog 19 [.agg (lM.row p)] [] [] (fun r o => ∃ n, qX n ∧ r = .agg (ab.mL n) ∧ o = []) := by
 refine au.O0 Try.func19 rfl rfl rfl (n := 252) ae (aI rfl) ?_
 have QG := hf.a7; have QF := hf.streams; have O9 := hf.ins; have Sr := hf.parts; have Uw := hf.bE; have PU := hk.parts
 refine .sr (.box 101 rfl rfl rfl rfl rfl ae (.alloc 102 zO rfl rfl ae ?_))
 refine .nil (.sr (.vl (Y.qh K5 zO rfl rfl rfl) ?_))
 refine .alloc 103 zO rfl rfl ae (.ak Ep rfl rfl rfl rfl rfl rfl (aI rfl) rfl (.nil ?_))
 refine .seq (.seq (.sh (Sh.cW 101 rfl rfl) ?_))
 refine .sh (Sh.eC 103 401 1 1 rfl rfl rfl rfl ae) (.sh (Sh.eC 103 402 6 2 rfl rfl rfl rfl ae) (.sh (Sh.eC 103 403 1 3 rfl rfl rfl rfl ae) ?_))
 refine .sh (Sh.eC 103 404 5 4 rfl rfl rfl rfl ae) (.sh (Sh.eC 103 405 3 5 rfl rfl rfl rfl ae) (.region ?_))
 refine .an ?_
 refine .nil (.block ?_)
 refine .jt (fun (dH : Nat) (dI : List Int) (dV : List Cell) => ⟨[(1, .fp (lM.row p) 0), (2, .ptr 102 0 0 0), (3, .ptr 103 0 0 0), (4, vi dH)], [(102, .cells [.v (.string ByteArray.empty), vn, vn, vn, vn, vn, vn, vn, vi 0, vi 0, vn]), (103, .cells [.v (.string nB), .ba 401 1 0 dI.length, .ba 402 6 0 dV.length, .ba 403 1 0 0, .ba 404 5 0 0, .ba 405 3 0 0, vn, vn, vi 0, vi 0, vn]), (401, .rows 1 (dI.map ai)), (402, .rows 6 (dV.map Cell.row)), (403, .rows 1 (([] : List Int).map ai)), (404, .rows 5 (([] : List eu).map eu.row)), (405, .rows 3 (([] : List bI).map bI.row))]⟩) (fun dH dI dV => ((dH : Int) ≤ 8) ∧ (dI = wJ dH) ∧ (dV = AO dH) ∧ (dI.length = dH) ∧ (dV.length = dH)) (fun dH dI dV => (8 - (dH : Int)).toNat) 0 ([] : List Int) ([] : List Cell) (⟨om, rfl, rfl, rfl, rfl⟩) (Le.mk (.c2 (.c (.cons (aj rfl bf) .nil))) (.c (.cons (aX rfl lq) (.c4 (.c .nil))))) (fun dH dI dV uR => ?_)
 obtain ⟨HL, Mq, Gd, PV, PW⟩ := uR
 refine .seq (.sr ?_)
 refine .mv ?_
 refine .vl (Y.zc rfl rfl) (.nil ?_)
 refine .a8 rfl (fun ot => ?_) (fun ot => ?_)
 refine .skip (.seq (.block ?_))
 refine .seq ?_
 refine .er (⟨[(1, .fp (lM.row p) 0), (2, .ptr 102 0 0 0), (3, .ptr 103 0 0 0), (4, .v (.int .i64 (dH : Int)))], [(102, .cells [.v (.string ByteArray.empty), vn, vn, vn, vn, vn, vn, vn, .v (.int .i64 0), .v (.int .i64 0), vn]), (103, .cells [.v (.string nB), .ba 401 1 0 ((dI ++ ([ay dH] : List Int)).length), .ba 402 6 0 dV.length, .ba 403 1 0 0, .ba 404 5 0 0, .ba 405 3 0 0, vn, vn, .v (.int .i64 0), .v (.int .i64 0), vn]), (401, .rows 1 ((dI ++ ([ay dH] : List Int)).map ai)), (402, .rows 6 (dV.map Cell.row)), (403, .rows 1 (([] : List Int).map ai)), (404, .rows 5 (([] : List eu).map eu.row)), (405, .rows 3 (([] : List bI).map bI.row))]⟩) rfl ?_ ?_
 refine .blind 0 rfl ao (aw.fieldAddr bu rfl rfl) ae (.blind 2 rfl ao (aw.move rfl rfl) ae ?_)
 refine .blind 3 rfl ao (aw.ud q4 tX rfl (by first | rfl | exact IntWalk.u8_in _ om)) ae (.xK ?_)
 refine .two 1 4 rfl rfl ao ?_ ?_
 refine .ld aW ?_
 refine .nil ⟨rfl, ?_⟩
 refine .one 4 rfl ao (.aH tj (eY (k := dH)) rfl (.ah rfl rfl .nil) ae rfl ?_)
 refine .nil ⟨rfl, ?_⟩
 refine .one 5 rfl ao ?_
 refine .buildSlice (([ay dH] : List Int).map ai) az ey rfl rfl rfl rfl rfl (aA (s := 1) (f := ai) (fun _ => rfl)) rfl rfl rfl ae ?_
 refine .nil ⟨rfl, ?_⟩
 refine .one 6 rfl ao (.dW ai (dI ++ ([ay dH] : List Int)) az ey rfl rfl rfl rfl (bK bH) (bq bH) (cD bH) bH bH ae ae ?_)
 refine .nil ⟨rfl, ?_⟩
 refine .one 7 rfl ao ?_
 refine .fa bu ?_
 refine .nil ⟨rfl, ?_⟩
 refine .one 8 rfl ao (.ak fm rfl rfl rfl rfl rfl rfl (aI rfl) rfl ?_)
 refine .nil ⟨rfl, ?_⟩
 refine .done ao ?_
 exact Le.mk (.c2 (.c (.c .nil))) (.c4 (.c2 (.c .nil)))
 refine .aH tj (eY (k := dH)) rfl (.ah rfl rfl .nil) ae rfl ?_
 refine .nil ⟨rfl, ?_⟩
 refine .two 1 5 rfl rfl ao ?_ ?_
 refine .ld aW ?_
 refine .nil ⟨rfl, ?_⟩
 refine .one 5 rfl ao ?_
 refine .buildSlice (([ay dH] : List Int).map ai) az ey rfl rfl rfl rfl rfl (aA (s := 1) (f := ai) (fun _ => rfl)) rfl rfl rfl ae ?_
 refine .nil ⟨rfl, ?_⟩
 refine .one 6 rfl ao (.dW ai (dI ++ ([ay dH] : List Int)) az ey rfl rfl rfl rfl (bK bH) (bq bH) (cD bH) bH bH ae ae ?_)
 refine .nil ⟨rfl, ?_⟩
 refine .one 7 rfl ao ?_
 refine .fa bu ?_
 refine .nil ⟨rfl, ?_⟩
 refine .one 8 rfl ao (.ak fm rfl rfl rfl rfl rfl rfl (aI rfl) rfl ?_)
 refine .nil ⟨rfl, ?_⟩
 refine .done ao ?_
 exact Le.mk (.c2 (.c (.c .nil))) (.c4 (.c2 (.c .nil)))
 refine .buildSlice (([ay dH] : List Int).map ai) az ey rfl rfl rfl rfl rfl (aA (s := 1) (f := ai) (fun _ => rfl)) rfl rfl rfl ae ?_
 refine .nil ⟨rfl, ?_⟩
 refine .one 1 rfl ao ?_
 refine .ld aW ?_
 refine .nil ⟨rfl, ?_⟩
 refine .one 6 rfl ao (.dW ai (dI ++ ([ay dH] : List Int)) az ey rfl rfl rfl rfl (bK bH) (bq bH) (cD bH) bH bH ae ae ?_)
 refine .nil ⟨rfl, ?_⟩
 refine .one 7 rfl ao ?_
 refine .fa bu ?_
 refine .nil ⟨rfl, ?_⟩
 refine .one 8 rfl ao (.ak fm rfl rfl rfl rfl rfl rfl (aI rfl) rfl ?_)
 refine .nil ⟨rfl, ?_⟩
 refine .done ao ?_
 exact Le.mk (.c2 (.c (.c .nil))) (.c4 (.c2 (.c .nil)))
 refine .le (aT := ⟨[(1, .fp (lM.row p) 0), (2, .ptr 102 0 0 0), (3, .ptr 103 0 0 0), (4, vi dH)], [(102, .cells [.v (.string ByteArray.empty), vn, vn, vn, vn, vn, vn, vn, vi 0, vi 0, vn]), (103, .cells [.v (.string nB), .ba 401 1 0 ((dI ++ ([ay dH] : List Int)).length), .ba 402 6 0 dV.length, .ba 403 1 0 0, .ba 404 5 0 0, .ba 405 3 0 0, vn, vn, vi 0, vi 0, vn]), (401, .rows 1 ((dI ++ ([ay dH] : List Int)).map ai)), (402, .rows 6 (dV.map Cell.row)), (403, .rows 1 (([] : List Int).map ai)), (404, .rows 5 (([] : List eu).map eu.row)), (405, .rows 3 (([] : List bI).map bI.row))]⟩) (Le.mk (.c2 (.c (.c .nil))) (.c4 (.c2 (.c .nil)))) (.region ?_)
 refine .fa bL ?_
 refine .ld eT ?_
 refine .mv ?_
 refine .mv ?_
 refine .vl (Y.zs rfl rfl om) (.vl (Y.qk q4 xy rfl (by first | rfl | exact IntWalk.u64_in _ om)) ?_)
 refine .vl (Y.qh uG dM rfl rfl rfl) (.sh (Sh.FC (d := 33) 1 3 rfl rfl) ?_)
 refine .buildSlice (([(⟨1, 0, (dH : Int), ([] : List Int), dH % 2, 0⟩ : Cell)] : List Cell).map Cell.row) dr dM rfl rfl rfl rfl rfl (aA (s := 6) (f := Cell.row) (fun _ => rfl)) rfl rfl rfl ae ?_
 refine .dW Cell.row (dV ++ ([(⟨1, 0, (dH : Int), ([] : List Int), dH % 2, 0⟩ : Cell)] : List Cell)) dr dM rfl rfl rfl rfl (bK bH) (bq bH) (cD bH) bH bH ae ae ?_
 refine .fa bL ?_
 refine .ak uH rfl rfl rfl rfl rfl rfl (aI rfl) rfl (.nil (.region ?_))
 refine .mv ?_
 refine .vl (Y.qb rfl rfl om) ?_
 refine .an ?_
 refine .nil (⟨dH + 1, dI ++ ([ay dH] : List Int), dV ++ ([(⟨1, 0, (dH : Int), ([] : List Int), dH % 2, 0⟩ : Cell)] : List Cell), ⟨om, by rw [Mq]; exact (BT _).symm, by rw [Gd]; exact (BU _).symm, by rw [List.length_append, PV]; rfl, by rw [List.length_append, PW]; rfl⟩, om, Le.mk (.c2 (.c (.cons (aj rfl bf) .nil))) (.c (.cons (aX rfl lq) (.c4 (.c .nil))))⟩)
 refine .exit (.seq (.sr ?_))
 refine .an ?_
 refine .nil (.block ?_)
 refine .e0 (fun (fV : Nat) (bM : List eu) => ⟨[(1, .fp (lM.row p) 0), (2, .ptr 102 0 0 0), (3, .ptr 103 0 0 0), (5, vi fV)], [(102, .cells [.v (.string ByteArray.empty), vn, vn, vn, vn, vn, vn, vn, vi 0, vi 0, vn]), (103, .cells [.v (.string nB), .ba 401 1 0 dI.length, .ba 402 6 0 dV.length, .ba 403 1 0 0, .ba 404 5 0 bM.length, .ba 405 3 0 0, vn, vn, vi 0, vi 0, vn]), (401, .rows 1 (dI.map ai)), (402, .rows 6 (dV.map Cell.row)), (403, .rows 1 (([] : List Int).map ai)), (404, .rows 5 (bM.map eu.row)), (405, .rows 3 (([] : List bI).map bI.row))]⟩) (fun fV bM => ((fV : Int) ≤ (p.a7.length : Int)) ∧ (∀ m ∈ bM, gE m ∧ ∃ k, m.width = ay k) ∧ (bM.length = fV)) (fun fV bM => ((p.a7.length : Int) - (fV : Int)).toNat) 0 ([] : List eu) (⟨om, fun m h => (by cases h), rfl⟩) (Le.mk (.c2 (.c (.cons (aj rfl bf) .nil))) (.c (.cons (aX rfl lq) (.c4 (.c .nil))))) (fun fV bM T8 => ?_)
 obtain ⟨Ux, hm, Oe⟩ := T8
 refine .seq (.sr ?_)
 refine .mv ?_
 refine .fa uA ?_
 refine .ld vT ?_
 refine .vl (Y.qx (n := p.a7.length) vU rfl cS) (.vl (Y.zc rfl rfl) (.nil ?_))
 refine .a8 rfl (fun tt => ?_) (fun tt => ?_)
 refine .skip (.seq (.block ?_))
 have CL := hk.a7 (p.a7.getD fV default) (getD_in om)
 refine .er (⟨[(1, .fp (lM.row p) 0), (2, .ptr 102 0 0 0), (3, .ptr 103 0 0 0), (5, .v (.int .i64 (fV : Int)))], [(102, .cells [.v (.string ByteArray.empty), vn, vn, vn, vn, vn, vn, vn, .v (.int .i64 0), .v (.int .i64 0), vn]), (103, .cells [.v (.string nB), .ba 401 1 0 dI.length, .ba 402 6 0 dV.length, .ba 403 1 0 0, .ba 404 5 0 ((bM ++ ([(⟨mB, ay ((p.a7.getD fV default).a), 1 + ((((p.a7.getD fV default).b : Nat) : Int) % 9), 0, 0⟩ : eu)] : List eu)).length), .ba 405 3 0 0, vn, vn, .v (.int .i64 0), .v (.int .i64 0), vn]), (401, .rows 1 (dI.map ai)), (402, .rows 6 (dV.map Cell.row)), (403, .rows 1 (([] : List Int).map ai)), (404, .rows 5 ((bM ++ ([(⟨mB, ay ((p.a7.getD fV default).a), 1 + ((((p.a7.getD fV default).b : Nat) : Int) % 9), 0, 0⟩ : eu)] : List eu)).map eu.row)), (405, .rows 3 (([] : List bI).map bI.row))]⟩) rfl ?_ ?_
 refine .blind 0 rfl ao (aw.fieldAddr ef rfl rfl) ae (.blind 2 rfl ao (aw.fieldAddr uA rfl rfl) ae (.load 3 rfl ao vT rfl rfl rfl rfl rfl ae ?_))
 refine .blind 4 rfl ao (aw.move rfl rfl) ae (.blind 5 rfl ao (aw.mc (m := fV) vU rfl rfl bf (aq (d := default) om)) ae ?_)
 refine .blind 6 rfl ao (aw.kD El rfl rfl (m := 0) rfl om rfl) ae (.load 7 rfl ao qY rfl rfl rfl rfl rfl ae (.blind 9 rfl ao (aw.fieldAddr uA rfl rfl) ae ?_))
 refine .load 10 rfl ao vT rfl rfl rfl rfl rfl ae (.blind 11 rfl ao (aw.move rfl rfl) ae ?_)
 refine .blind 12 rfl ao (aw.mc (m := fV) vU rfl rfl bf (aq (d := default) om)) ae ?_
 refine .blind 13 rfl ao (aw.kD El rfl rfl (m := 1) rfl om rfl) ae (.load 14 rfl ao qY rfl rfl rfl rfl rfl ae ?_)
 refine .blind 15 rfl ao (aw.CA rfl rfl om) ae (.blind 16 rfl ao (aw.ud tX q4 rfl wG) ae (.blind 17 rfl ao (aw.C9 rfl rfl om) ae (.xK ?_)))
 refine .two 1 8 rfl rfl ao ?_ ?_
 refine .ld jS ?_
 refine .nil ⟨rfl, ?_⟩
 refine .one 8 rfl ao (.aH tj (eY (k := ((p.a7.getD fV default).a))) rfl (.ah rfl rfl .nil) ae rfl ?_)
 refine .nil ⟨rfl, ?_⟩
 refine .one 18 rfl ao (.vl (Y.qh Hr q5 rfl rfl rfl) ?_)
 refine .nil ⟨rfl, ?_⟩
 refine .one 19 rfl ao ?_
 refine .buildSlice (([(⟨mB, ay ((p.a7.getD fV default).a), 1 + ((((p.a7.getD fV default).b : Nat) : Int) % 9), 0, 0⟩ : eu)] : List eu).map eu.row) iG q5 rfl rfl rfl rfl rfl (aA (s := 5) (f := eu.row) (fun _ => rfl)) rfl rfl rfl ae ?_
 refine .nil ⟨rfl, ?_⟩
 refine .one 20 rfl ao (.dW eu.row (bM ++ ([(⟨mB, ay ((p.a7.getD fV default).a), 1 + ((((p.a7.getD fV default).b : Nat) : Int) % 9), 0, 0⟩ : eu)] : List eu)) iG q5 rfl rfl rfl rfl (bK bH) (bq bH) (cD bH) bH bH ae ae ?_)
 refine .nil ⟨rfl, ?_⟩
 refine .one 21 rfl ao ?_
 refine .fa ef ?_
 refine .nil ⟨rfl, ?_⟩
 refine .one 22 rfl ao (.ak En rfl rfl rfl rfl rfl rfl (aI rfl) rfl ?_)
 refine .nil ⟨rfl, ?_⟩
 refine .done ao ?_
 exact Le.mk (.c2 (.c (.c .nil))) (.c4 (.c2 (.c .nil)))
 refine .aH tj (eY (k := ((p.a7.getD fV default).a))) rfl (.ah rfl rfl .nil) ae rfl ?_
 refine .nil ⟨rfl, ?_⟩
 refine .two 1 18 rfl rfl ao ?_ ?_
 refine .ld jS ?_
 refine .nil ⟨rfl, ?_⟩
 refine .one 18 rfl ao (.vl (Y.qh Hr q5 rfl rfl rfl) ?_)
 refine .nil ⟨rfl, ?_⟩
 refine .one 19 rfl ao ?_
 refine .buildSlice (([(⟨mB, ay ((p.a7.getD fV default).a), 1 + ((((p.a7.getD fV default).b : Nat) : Int) % 9), 0, 0⟩ : eu)] : List eu).map eu.row) iG q5 rfl rfl rfl rfl rfl (aA (s := 5) (f := eu.row) (fun _ => rfl)) rfl rfl rfl ae ?_
 refine .nil ⟨rfl, ?_⟩
 refine .one 20 rfl ao (.dW eu.row (bM ++ ([(⟨mB, ay ((p.a7.getD fV default).a), 1 + ((((p.a7.getD fV default).b : Nat) : Int) % 9), 0, 0⟩ : eu)] : List eu)) iG q5 rfl rfl rfl rfl (bK bH) (bq bH) (cD bH) bH bH ae ae ?_)
 refine .nil ⟨rfl, ?_⟩
 refine .one 21 rfl ao ?_
 refine .fa ef ?_
 refine .nil ⟨rfl, ?_⟩
 refine .one 22 rfl ao (.ak En rfl rfl rfl rfl rfl rfl (aI rfl) rfl ?_)
 refine .nil ⟨rfl, ?_⟩
 refine .done ao ?_
 exact Le.mk (.c2 (.c (.c .nil))) (.c4 (.c2 (.c .nil)))
 refine .vl (Y.qh Hr q5 rfl rfl rfl) ?_
 refine .nil ⟨rfl, ?_⟩
 refine .two 1 19 rfl rfl ao ?_ ?_
 refine .ld jS ?_
 refine .nil ⟨rfl, ?_⟩
 refine .one 19 rfl ao ?_
 refine .buildSlice (([(⟨mB, ay ((p.a7.getD fV default).a), 1 + ((((p.a7.getD fV default).b : Nat) : Int) % 9), 0, 0⟩ : eu)] : List eu).map eu.row) iG q5 rfl rfl rfl rfl rfl (aA (s := 5) (f := eu.row) (fun _ => rfl)) rfl rfl rfl ae ?_
 refine .nil ⟨rfl, ?_⟩
 refine .one 20 rfl ao (.dW eu.row (bM ++ ([(⟨mB, ay ((p.a7.getD fV default).a), 1 + ((((p.a7.getD fV default).b : Nat) : Int) % 9), 0, 0⟩ : eu)] : List eu)) iG q5 rfl rfl rfl rfl (bK bH) (bq bH) (cD bH) bH bH ae ae ?_)
 refine .nil ⟨rfl, ?_⟩
 refine .one 21 rfl ao ?_
 refine .fa ef ?_
 refine .nil ⟨rfl, ?_⟩
 refine .one 22 rfl ao (.ak En rfl rfl rfl rfl rfl rfl (aI rfl) rfl ?_)
 refine .nil ⟨rfl, ?_⟩
 refine .done ao ?_
 exact Le.mk (.c2 (.c (.c .nil))) (.c4 (.c2 (.c .nil)))
 refine .buildSlice (([(⟨mB, ay ((p.a7.getD fV default).a), 1 + ((((p.a7.getD fV default).b : Nat) : Int) % 9), 0, 0⟩ : eu)] : List eu).map eu.row) iG q5 rfl rfl rfl rfl rfl (aA (s := 5) (f := eu.row) (fun _ => rfl)) rfl rfl rfl ae ?_
 refine .nil ⟨rfl, ?_⟩
 refine .one 1 rfl ao ?_
 refine .ld jS ?_
 refine .nil ⟨rfl, ?_⟩
 refine .one 20 rfl ao (.dW eu.row (bM ++ ([(⟨mB, ay ((p.a7.getD fV default).a), 1 + ((((p.a7.getD fV default).b : Nat) : Int) % 9), 0, 0⟩ : eu)] : List eu)) iG q5 rfl rfl rfl rfl (bK bH) (bq bH) (cD bH) bH bH ae ae ?_)
 refine .nil ⟨rfl, ?_⟩
 refine .one 21 rfl ao ?_
 refine .fa ef ?_
 refine .nil ⟨rfl, ?_⟩
 refine .one 22 rfl ao (.ak En rfl rfl rfl rfl rfl rfl (aI rfl) rfl ?_)
 refine .nil ⟨rfl, ?_⟩
 refine .done ao ?_
 exact Le.mk (.c2 (.c (.c .nil))) (.c4 (.c2 (.c .nil)))
 refine .region ?_
 refine .mv ?_
 refine .vl (Y.qb rfl rfl om) ?_
 refine .an ?_
 refine .nil (⟨fV + 1, bM ++ ([(⟨mB, ay ((p.a7.getD fV default).a), 1 + ((((p.a7.getD fV default).b : Nat) : Int) % 9), 0, 0⟩ : eu)] : List eu), ⟨om, rH hm (xu om), by rw [List.length_append, Oe]; rfl⟩, om, Le.mk (.c2 (.c (.cons (aj rfl bf) .nil))) (.c (.cons (aX rfl lq) (.c4 (.c .nil))))⟩)
 refine .exit (.seq (.sr ?_))
 refine .an ?_
 refine .nil (.block ?_)
 refine .e0 (fun (dL : Nat) (bj : List bI) => ⟨[(1, .fp (lM.row p) 0), (2, .ptr 102 0 0 0), (3, .ptr 103 0 0 0), (6, vi dL)], [(102, .cells [.v (.string ByteArray.empty), vn, vn, vn, vn, vn, vn, vn, vi 0, vi 0, vn]), (103, .cells [.v (.string nB), .ba 401 1 0 dI.length, .ba 402 6 0 dV.length, .ba 403 1 0 0, .ba 404 5 0 bM.length, .ba 405 3 0 bj.length, vn, vn, vi 0, vi 0, vn]), (401, .rows 1 (dI.map ai)), (402, .rows 6 (dV.map Cell.row)), (403, .rows 1 (([] : List Int).map ai)), (404, .rows 5 (bM.map eu.row)), (405, .rows 3 (bj.map bI.row))]⟩) (fun dL bj => ((dL : Int) ≤ (p.streams.length : Int)) ∧ (∀ m ∈ bj, ks m.name ∧ ∃ k, m.width = ay k) ∧ (bj.length = dL)) (fun dL bj => ((p.streams.length : Int) - (dL : Int)).toNat) 0 ([] : List bI) (⟨om, fun m h => (by cases h), rfl⟩) (Le.mk (.c2 (.c (.cons (aj rfl bf) .nil))) (.c (.cons (aX rfl lq) (.c4 (.c .nil))))) (fun dL bj Ix => ?_)
 obtain ⟨T9, hs, IF⟩ := Ix
 refine .seq (.sr ?_)
 refine .mv ?_
 refine .fa uB ?_
 refine .ld vT ?_
 refine .vl (Y.qx (n := p.streams.length) vU rfl cS) (.vl (Y.zc rfl rfl) (.nil ?_))
 refine .a8 rfl (fun PN => ?_) (fun PN => ?_)
 refine .skip (.seq (.block ?_))
 have CL := hk.streams (p.streams.getD dL default) (getD_in om)
 refine .er (⟨[(1, .fp (lM.row p) 0), (2, .ptr 102 0 0 0), (3, .ptr 103 0 0 0), (6, .v (.int .i64 (dL : Int)))], [(102, .cells [.v (.string ByteArray.empty), vn, vn, vn, vn, vn, vn, vn, .v (.int .i64 0), .v (.int .i64 0), vn]), (103, .cells [.v (.string nB), .ba 401 1 0 dI.length, .ba 402 6 0 dV.length, .ba 403 1 0 0, .ba 404 5 0 bM.length, .ba 405 3 0 ((bj ++ ([(⟨sB, ay ((p.streams.getD dL default).a), decide (((((p.streams.getD dL default).b : Nat) : Int) % 2) = 1)⟩ : bI)] : List bI)).length), vn, vn, .v (.int .i64 0), .v (.int .i64 0), vn]), (401, .rows 1 (dI.map ai)), (402, .rows 6 (dV.map Cell.row)), (403, .rows 1 (([] : List Int).map ai)), (404, .rows 5 (bM.map eu.row)), (405, .rows 3 ((bj ++ ([(⟨sB, ay ((p.streams.getD dL default).a), decide (((((p.streams.getD dL default).b : Nat) : Int) % 2) = 1)⟩ : bI)] : List bI)).map bI.row))]⟩) rfl ?_ ?_
 refine .blind 0 rfl ao (aw.fieldAddr cC rfl rfl) ae (.blind 2 rfl ao (aw.fieldAddr uB rfl rfl) ae (.load 3 rfl ao vT rfl rfl rfl rfl rfl ae ?_))
 refine .blind 4 rfl ao (aw.move rfl rfl) ae (.blind 5 rfl ao (aw.mc (m := dL) vU rfl rfl bf (aq (d := default) om)) ae ?_)
 refine .blind 6 rfl ao (aw.kD El rfl rfl (m := 0) rfl om rfl) ae (.load 7 rfl ao qY rfl rfl rfl rfl rfl ae (.blind 9 rfl ao (aw.fieldAddr uB rfl rfl) ae ?_))
 refine .load 10 rfl ao vT rfl rfl rfl rfl rfl ae (.blind 11 rfl ao (aw.move rfl rfl) ae ?_)
 refine .blind 12 rfl ao (aw.mc (m := dL) vU rfl rfl bf (aq (d := default) om)) ae ?_
 refine .blind 13 rfl ao (aw.kD El rfl rfl (m := 1) rfl om rfl) ae (.load 14 rfl ao qY rfl rfl rfl rfl rfl ae ?_)
 refine .blind 15 rfl ao (aw.CA rfl rfl om) ae ?_
 refine .blind 16 rfl ao (aw.eql rfl rfl) ae (.xK ?_)
 refine .two 1 8 rfl rfl ao ?_ ?_
 refine .ld fC ?_
 refine .nil ⟨rfl, ?_⟩
 refine .one 8 rfl ao (.aH tj (eY (k := ((p.streams.getD dL default).a))) rfl (.ah rfl rfl .nil) ae rfl ?_)
 refine .nil ⟨rfl, ?_⟩
 refine .one 17 rfl ao (.vl (Y.qh Hs px rfl rfl rfl) ?_)
 refine .nil ⟨rfl, ?_⟩
 refine .one 18 rfl ao ?_
 refine .buildSlice (([(⟨sB, ay ((p.streams.getD dL default).a), decide (((((p.streams.getD dL default).b : Nat) : Int) % 2) = 1)⟩ : bI)] : List bI).map bI.row) eG px rfl rfl rfl rfl rfl (aA (s := 3) (f := bI.row) (fun _ => rfl)) rfl rfl rfl ae ?_
 refine .nil ⟨rfl, ?_⟩
 refine .one 19 rfl ao (.dW bI.row (bj ++ ([(⟨sB, ay ((p.streams.getD dL default).a), decide (((((p.streams.getD dL default).b : Nat) : Int) % 2) = 1)⟩ : bI)] : List bI)) eG px rfl rfl rfl rfl (bK bH) (bq bH) (cD bH) bH bH ae ae ?_)
 refine .nil ⟨rfl, ?_⟩
 refine .one 20 rfl ao ?_
 refine .fa cC ?_
 refine .nil ⟨rfl, ?_⟩
 refine .one 21 rfl ao (.ak Eo rfl rfl rfl rfl rfl rfl (aI rfl) rfl ?_)
 refine .nil ⟨rfl, ?_⟩
 refine .done ao ?_
 exact Le.mk (.c2 (.c (.c .nil))) (.c4 (.c2 (.c .nil)))
 refine .aH tj (eY (k := ((p.streams.getD dL default).a))) rfl (.ah rfl rfl .nil) ae rfl ?_
 refine .nil ⟨rfl, ?_⟩
 refine .two 1 17 rfl rfl ao ?_ ?_
 refine .ld fC ?_
 refine .nil ⟨rfl, ?_⟩
 refine .one 17 rfl ao (.vl (Y.qh Hs px rfl rfl rfl) ?_)
 refine .nil ⟨rfl, ?_⟩
 refine .one 18 rfl ao ?_
 refine .buildSlice (([(⟨sB, ay ((p.streams.getD dL default).a), decide (((((p.streams.getD dL default).b : Nat) : Int) % 2) = 1)⟩ : bI)] : List bI).map bI.row) eG px rfl rfl rfl rfl rfl (aA (s := 3) (f := bI.row) (fun _ => rfl)) rfl rfl rfl ae ?_
 refine .nil ⟨rfl, ?_⟩
 refine .one 19 rfl ao (.dW bI.row (bj ++ ([(⟨sB, ay ((p.streams.getD dL default).a), decide (((((p.streams.getD dL default).b : Nat) : Int) % 2) = 1)⟩ : bI)] : List bI)) eG px rfl rfl rfl rfl (bK bH) (bq bH) (cD bH) bH bH ae ae ?_)
 refine .nil ⟨rfl, ?_⟩
 refine .one 20 rfl ao ?_
 refine .fa cC ?_
 refine .nil ⟨rfl, ?_⟩
 refine .one 21 rfl ao (.ak Eo rfl rfl rfl rfl rfl rfl (aI rfl) rfl ?_)
 refine .nil ⟨rfl, ?_⟩
 refine .done ao ?_
 exact Le.mk (.c2 (.c (.c .nil))) (.c4 (.c2 (.c .nil)))
 refine .vl (Y.qh Hs px rfl rfl rfl) ?_
 refine .nil ⟨rfl, ?_⟩
 refine .two 1 18 rfl rfl ao ?_ ?_
 refine .ld fC ?_
 refine .nil ⟨rfl, ?_⟩
 refine .one 18 rfl ao ?_
 refine .buildSlice (([(⟨sB, ay ((p.streams.getD dL default).a), decide (((((p.streams.getD dL default).b : Nat) : Int) % 2) = 1)⟩ : bI)] : List bI).map bI.row) eG px rfl rfl rfl rfl rfl (aA (s := 3) (f := bI.row) (fun _ => rfl)) rfl rfl rfl ae ?_
 refine .nil ⟨rfl, ?_⟩
 refine .one 19 rfl ao (.dW bI.row (bj ++ ([(⟨sB, ay ((p.streams.getD dL default).a), decide (((((p.streams.getD dL default).b : Nat) : Int) % 2) = 1)⟩ : bI)] : List bI)) eG px rfl rfl rfl rfl (bK bH) (bq bH) (cD bH) bH bH ae ae ?_)
 refine .nil ⟨rfl, ?_⟩
 refine .one 20 rfl ao ?_
 refine .fa cC ?_
 refine .nil ⟨rfl, ?_⟩
 refine .one 21 rfl ao (.ak Eo rfl rfl rfl rfl rfl rfl (aI rfl) rfl ?_)
 refine .nil ⟨rfl, ?_⟩
 refine .done ao ?_
 exact Le.mk (.c2 (.c (.c .nil))) (.c4 (.c2 (.c .nil)))
 refine .buildSlice (([(⟨sB, ay ((p.streams.getD dL default).a), decide (((((p.streams.getD dL default).b : Nat) : Int) % 2) = 1)⟩ : bI)] : List bI).map bI.row) eG px rfl rfl rfl rfl rfl (aA (s := 3) (f := bI.row) (fun _ => rfl)) rfl rfl rfl ae ?_
 refine .nil ⟨rfl, ?_⟩
 refine .one 1 rfl ao ?_
 refine .ld fC ?_
 refine .nil ⟨rfl, ?_⟩
 refine .one 19 rfl ao (.dW bI.row (bj ++ ([(⟨sB, ay ((p.streams.getD dL default).a), decide (((((p.streams.getD dL default).b : Nat) : Int) % 2) = 1)⟩ : bI)] : List bI)) eG px rfl rfl rfl rfl (bK bH) (bq bH) (cD bH) bH bH ae ae ?_)
 refine .nil ⟨rfl, ?_⟩
 refine .one 20 rfl ao ?_
 refine .fa cC ?_
 refine .nil ⟨rfl, ?_⟩
 refine .one 21 rfl ao (.ak Eo rfl rfl rfl rfl rfl rfl (aI rfl) rfl ?_)
 refine .nil ⟨rfl, ?_⟩
 refine .done ao ?_
 exact Le.mk (.c2 (.c (.c .nil))) (.c4 (.c2 (.c .nil)))
 refine .region ?_
 refine .mv ?_
 refine .vl (Y.qb rfl rfl om) ?_
 refine .an ?_
 refine .nil (⟨dL + 1, bj ++ ([(⟨sB, ay ((p.streams.getD dL default).a), decide (((((p.streams.getD dL default).b : Nat) : Int) % 2) = 1)⟩ : bI)] : List bI), ⟨om, rH hs xv, by rw [List.length_append, IF]; rfl⟩, om, Le.mk (.c2 (.c (.cons (aj rfl bf) .nil))) (.c (.cons (aX rfl lq) (.c4 (.c .nil))))⟩)
 refine .exit (.seq (.sr ?_))
 refine .an ?_
 refine .nil (.block ?_)
 refine .e0 (fun (g0 : Nat) (bC : List Int) => ⟨[(1, .fp (lM.row p) 0), (2, .ptr 102 0 0 0), (3, .ptr 103 0 0 0), (7, vi g0)], [(102, .cells [.v (.string ByteArray.empty), vn, vn, vn, vn, vn, vn, vn, vi 0, vi 0, vn]), (103, .cells [.v (.string nB), .ba 401 1 0 dI.length, .ba 402 6 0 dV.length, .ba 403 1 0 bC.length, .ba 404 5 0 bM.length, .ba 405 3 0 bj.length, vn, vn, vi 0, vi 0, vn]), (401, .rows 1 (dI.map ai)), (402, .rows 6 (dV.map Cell.row)), (403, .rows 1 (bC.map ai)), (404, .rows 5 (bM.map eu.row)), (405, .rows 3 (bj.map bI.row))]⟩) (fun g0 bC => ((g0 : Int) ≤ (p.ins.length : Int)) ∧ (∀ m ∈ bC, ∃ k, m = ay k) ∧ (bC.length = g0)) (fun g0 bC => ((p.ins.length : Int) - (g0 : Int)).toNat) 0 ([] : List Int) (⟨om, fun m h => (by cases h), rfl⟩) (Le.mk (.c2 (.c (.cons (aj rfl bf) .nil))) (.c (.cons (aX rfl lq) (.c4 (.c .nil))))) (fun g0 bC Da => ?_)
 obtain ⟨L6, qR, yW⟩ := Da
 refine .seq (.sr ?_)
 refine .mv ?_
 refine .fa xw ?_
 refine .ld zL ?_
 refine .vl (Y.qx (n := p.ins.length) zM rfl cS) (.vl (Y.zc rfl rfl) (.nil ?_))
 refine .a8 rfl (fun mO => ?_) (fun mO => ?_)
 refine .skip (.seq (.block ?_))
 have CL := hk.ins (p.ins.getD g0 0) (getD_in om)
 refine .er (⟨[(1, .fp (lM.row p) 0), (2, .ptr 102 0 0 0), (3, .ptr 103 0 0 0), (7, .v (.int .i64 (g0 : Int)))], [(102, .cells [.v (.string ByteArray.empty), vn, vn, vn, vn, vn, vn, vn, .v (.int .i64 0), .v (.int .i64 0), vn]), (103, .cells [.v (.string nB), .ba 401 1 0 dI.length, .ba 402 6 0 dV.length, .ba 403 1 0 ((bC ++ ([ay (p.ins.getD g0 0)] : List Int)).length), .ba 404 5 0 bM.length, .ba 405 3 0 bj.length, vn, vn, .v (.int .i64 0), .v (.int .i64 0), vn]), (401, .rows 1 (dI.map ai)), (402, .rows 6 (dV.map Cell.row)), (403, .rows 1 ((bC ++ ([ay (p.ins.getD g0 0)] : List Int)).map ai)), (404, .rows 5 (bM.map eu.row)), (405, .rows 3 (bj.map bI.row))]⟩) rfl ?_ ?_
 refine .blind 0 rfl ao (aw.fieldAddr iZ rfl rfl) ae (.blind 2 rfl ao (aw.fieldAddr xw rfl rfl) ae (.load 3 rfl ao zL rfl rfl rfl rfl rfl ae ?_))
 refine .blind 4 rfl ao (aw.move rfl rfl) ae (.blind 5 rfl ao (aw.mc (m := g0) zM rfl rfl bf (aq (d := 0) om)) ae ?_)
 refine .load 6 rfl ao qY rfl rfl rfl rfl rfl ae (.xK ?_)
 refine .two 1 7 rfl rfl ao ?_ ?_
 refine .ld aW ?_
 refine .nil ⟨rfl, ?_⟩
 refine .one 7 rfl ao (.aH tj (eY (k := (p.ins.getD g0 0))) rfl (.ah rfl rfl .nil) ae rfl ?_)
 refine .nil ⟨rfl, ?_⟩
 refine .one 8 rfl ao ?_
 refine .buildSlice (([ay (p.ins.getD g0 0)] : List Int).map ai) az ey rfl rfl rfl rfl rfl (aA (s := 1) (f := ai) (fun _ => rfl)) rfl rfl rfl ae ?_
 refine .nil ⟨rfl, ?_⟩
 refine .one 9 rfl ao (.dW ai (bC ++ ([ay (p.ins.getD g0 0)] : List Int)) az ey rfl rfl rfl rfl (bK bH) (bq bH) (cD bH) bH bH ae ae ?_)
 refine .nil ⟨rfl, ?_⟩
 refine .one 10 rfl ao ?_
 refine .fa iZ ?_
 refine .nil ⟨rfl, ?_⟩
 refine .one 11 rfl ao (.ak fm rfl rfl rfl rfl rfl rfl (aI rfl) rfl ?_)
 refine .nil ⟨rfl, ?_⟩
 refine .done ao ?_
 exact Le.mk (.c2 (.c (.c .nil))) (.c4 (.c2 (.c .nil)))
 refine .aH tj (eY (k := (p.ins.getD g0 0))) rfl (.ah rfl rfl .nil) ae rfl ?_
 refine .nil ⟨rfl, ?_⟩
 refine .two 1 8 rfl rfl ao ?_ ?_
 refine .ld aW ?_
 refine .nil ⟨rfl, ?_⟩
 refine .one 8 rfl ao ?_
 refine .buildSlice (([ay (p.ins.getD g0 0)] : List Int).map ai) az ey rfl rfl rfl rfl rfl (aA (s := 1) (f := ai) (fun _ => rfl)) rfl rfl rfl ae ?_
 refine .nil ⟨rfl, ?_⟩
 refine .one 9 rfl ao (.dW ai (bC ++ ([ay (p.ins.getD g0 0)] : List Int)) az ey rfl rfl rfl rfl (bK bH) (bq bH) (cD bH) bH bH ae ae ?_)
 refine .nil ⟨rfl, ?_⟩
 refine .one 10 rfl ao ?_
 refine .fa iZ ?_
 refine .nil ⟨rfl, ?_⟩
 refine .one 11 rfl ao (.ak fm rfl rfl rfl rfl rfl rfl (aI rfl) rfl ?_)
 refine .nil ⟨rfl, ?_⟩
 refine .done ao ?_
 exact Le.mk (.c2 (.c (.c .nil))) (.c4 (.c2 (.c .nil)))
 refine .buildSlice (([ay (p.ins.getD g0 0)] : List Int).map ai) az ey rfl rfl rfl rfl rfl (aA (s := 1) (f := ai) (fun _ => rfl)) rfl rfl rfl ae ?_
 refine .nil ⟨rfl, ?_⟩
 refine .one 1 rfl ao ?_
 refine .ld aW ?_
 refine .nil ⟨rfl, ?_⟩
 refine .one 9 rfl ao (.dW ai (bC ++ ([ay (p.ins.getD g0 0)] : List Int)) az ey rfl rfl rfl rfl (bK bH) (bq bH) (cD bH) bH bH ae ae ?_)
 refine .nil ⟨rfl, ?_⟩
 refine .one 10 rfl ao ?_
 refine .fa iZ ?_
 refine .nil ⟨rfl, ?_⟩
 refine .one 11 rfl ao (.ak fm rfl rfl rfl rfl rfl rfl (aI rfl) rfl ?_)
 refine .nil ⟨rfl, ?_⟩
 refine .done ao ?_
 exact Le.mk (.c2 (.c (.c .nil))) (.c4 (.c2 (.c .nil)))
 refine .region ?_
 refine .mv ?_
 refine .vl (Y.qb rfl rfl om) ?_
 refine .an ?_
 refine .nil (⟨g0 + 1, bC ++ ([ay (p.ins.getD g0 0)] : List Int), ⟨om, rH qR ⟨_, rfl⟩, by rw [List.length_append, yW]; rfl⟩, om, Le.mk (.c2 (.c (.cons (aj rfl bf) .nil))) (.c (.cons (aX rfl lq) (.c4 (.c .nil))))⟩)
 refine .exit (.seq (.seq ?_))
 refine .sh (Sh.ox 103 403 3 rfl rfl rfl (b5 om) (cQ.map aE) ae rfl rfl rfl) (.sh (Sh.ox 103 404 4 rfl rfl rfl (b5 om) (cQ.map eu.cg) ae rfl rfl rfl) (.sh (Sh.ox 103 405 5 rfl rfl rfl (b5 om) (cQ.map bI.cg) ae rfl rfl rfl) (.region ?_)))
 refine .an ?_
 refine .nil (.block ?_)
 refine .jt (fun (iO : Nat) (a9 : List Int) (bD : List Cell) => ⟨[(1, .fp (lM.row p) 0), (2, .ptr 102 0 0 0), (3, .ptr 103 0 0 0), (8, vi iO)], [(102, .cells [.v (.string ByteArray.empty), vn, vn, vn, vn, vn, vn, vn, vi 0, vi 0, vn]), (103, .cells [.v (.string nB), .ba 401 1 0 a9.length, .ba 402 6 0 bD.length, .fz 1 (bC.map ai), .fz 5 (bM.map eu.row), .fz 3 (bj.map bI.row), vn, vn, vi 0, vi 0, vn]), (401, .rows 1 (a9.map ai)), (402, .rows 6 (bD.map Cell.row))]⟩) (fun iO a9 bD => ((iO : Int) ≤ (p.parts.length : Int)) ∧ (Gr (pn a9 bD bC bM bj)) ∧ (8 ≤ bD.length ∧ bD.length ≤ 8 + iO) ∧ (8 ≤ a9.length ∧ a9.length ≤ 8 + iO)) (fun iO a9 bD => ((p.parts.length : Int) - (iO : Int)).toNat) 0 dI dV (⟨om, by rw [Mq, Gd, show dH = 8 by omega]; exact RW (fun m h => (hm m h).2) (fun m h => (hs m h).2) qR, by rw [Gd, Ek]; omega, by rw [Mq, po]; omega⟩) (Le.mk (.c2 (.c (.cons (aj rfl bf) .nil))) (.c (.cons (aX rfl lq) (.c (.c .nil))))) (fun iO a9 bD CG => ?_)
 obtain ⟨Ln, mx, DC, yt⟩ := CG
 refine .seq (.sr ?_)
 refine .mv ?_
 refine .fa oF ?_
 refine .ld x4 ?_
 refine .vl (Y.qx (n := p.parts.length) x6 rfl cS) (.vl (Y.zc rfl rfl) (.nil ?_))
 refine .a8 rfl (fun xV => ?_) (fun xV => ?_)
 refine .skip ?_
 refine .np (fun (j6 : List Int) (j7 : List Cell) => ⟨[(1, .fp (lM.row p) 0), (2, .ptr 102 0 0 0), (3, .ptr 103 0 0 0), (8, vi iO)], [(102, .cells [.v (.string ByteArray.empty), vn, vn, vn, vn, vn, vn, vn, vi 0, vi 0, vn]), (103, .cells [.v (.string nB), .ba 401 1 0 j6.length, .ba 402 6 0 j7.length, .fz 1 (bC.map ai), .fz 5 (bM.map eu.row), .fz 3 (bj.map bI.row), vn, vn, vi 0, vi 0, vn]), (401, .rows 1 (j6.map ai)), (402, .rows 6 (j7.map Cell.row))]⟩) (fun j6 j7 => Gr (pn j6 j7 bC bM bj) ∧ (8 ≤ j7.length ∧ j7.length ≤ 8 + (iO + 1)) ∧ (8 ≤ j6.length ∧ j6.length ≤ 8 + (iO + 1))) ?_ (fun j6 j7 xZ => ?_)
 refine .block (.seq (.eU [103] [102, 103, 401, 402] rfl ?_))
 refine .e8 0 rfl ao dD rfl rfl rfl (aI rfl) rfl rfl ae (.blind 1 rfl ao (aw.fieldAddr oF rfl rfl) ae (.load 2 rfl ao x4 rfl rfl rfl rfl rfl ae ?_))
 refine .blind 3 rfl ao (aw.move rfl rfl) ae (.blind 4 rfl ao (aw.mc (m := iO) x6 rfl rfl bf (aq (d := default) om)) ae ?_)
 refine .e8 5 rfl ao Hu rfl rfl rfl (aI rfl) rfl rfl ae (.AP rfl rfl (cq.cells rfl rfl rfl cq.nil) ?_)
 refine .two 6 10 rfl rfl ao ?_ ?_
 refine .u6 [401, 402] Ky (uu (n := (⟨nB, a9, bD, bC, bM, bj, [], [], 0, 0, []⟩ : ab)) (p := (p.parts.getD iO default)) (by show (a9).length ≤ 1048576; omega) (by show 0 < (a9).length; omega) (PU _ (getD_in om)) mx.ground (by show (bC).length ≤ 1048576; omega)) rfl (.agg (.ah rfl rfl (.cw rfl rfl (bo om) (bp om) (.cw rfl rfl (bo om) (bp om) (.ah rfl rfl (.ah rfl rfl (.ah rfl rfl (.ah rfl rfl (.ah rfl rfl (.ah rfl rfl (.ah rfl rfl (.ah rfl rfl .nil))))))))))) rfl (.ah rfl rfl .nil)) (dY rfl (aY aE) (hY rfl (aY Cell.cg))) ae ?_
 rintro _ ⟨aL, j8, fM, rfl, _⟩
 refine ⟨rfl, ⟨⟨trivial, trivial, trivial, (gR hZ _), trivial, trivial, trivial⟩, trivial, trivial⟩, ?_⟩
 refine .nil ⟨rfl, ?_⟩
 refine .two 7 10 rfl rfl ao ?_ ?_
 refine .jK rfl ae ?_
 refine .nil ⟨rfl, ?_⟩
 refine .blind 9 rfl ao (aw.extract rfl rfl rfl) ae ?_
 refine .two 8 10 rfl rfl ao ?_ ?_
 refine .e6 rfl rfl ae ?_
 refine .nil ⟨rfl, ?_⟩
 refine .one 10 rfl ao (.alloc 109 dM rfl rfl ae ?_)
 refine .nil ⟨rfl, ?_⟩
 refine .one 11 rfl ao (.sh (Sh.pc (d := 127) (y := .agg [.v (.int .i64 aL.kind), .v (.int .i64 aL.op), .v (.int .i64 aL.out), .fz 1 (aL.args.map ai), .v (.int .u64 (aL.num : Int)), .v (.int .i64 aL.mem)]) rfl (by show X.lU (.agg [.v (.int .i64 aL.kind), .v (.int .i64 aL.op), .v (.int .i64 aL.out), .ei 1 (aL.args.map ai), .v (.int .u64 (aL.num : Int)), .v (.int .i64 aL.mem)]) = _; simp only [X.lU, X.js, X.km (cQ.map aE)])) (.ak eE rfl rfl rfl rfl rfl rfl (aI rfl) rfl ?_))
 refine .nil ⟨rfl, ?_⟩
 refine .one 12 rfl ao ?_
 refine .an ?_
 refine .nil ⟨rfl, ?_⟩
 refine .done ao (.le (aT := ⟨[(1, .fp (lM.row p) 0), (2, .ptr 102 0 0 0), (3, .ptr 103 0 0 0), (8, vi iO), (9, .ptr 109 0 0 0), (10, vi j8)], [(102, .cells [.v (.string ByteArray.empty), vn, vn, vn, vn, vn, vn, vn, vi 0, vi 0, vn]), (103, .cells [.v (.string nB), .ba 401 1 0 a9.length, .ba 402 6 0 bD.length, .fz 1 (bC.map ai), .fz 5 (bM.map eu.row), .fz 3 (bj.map bI.row), vn, vn, vi 0, vi 0, vn]), (109, .cells [vi aL.kind, vi aL.op, vi aL.out, .fz 1 (aL.args.map ai), .v (.int .u64 (aL.num : Int)), vi aL.mem]), (401, .rows 1 (a9.map ai)), (402, .rows 6 (bD.map Cell.row))]⟩) (Le.mk (.c4 (.c (.c .nil))) (.c4 (.c .nil))) (.sr ?_))
 refine .fa bP ?_
 refine .ld aV ?_
 refine .vl (Y.zk rfl rfl) (.nil ?_)
 refine .a8 rfl (fun oN => ?_) (fun oN => ?_)
 refine .seq (.sr ?_)
 refine .fa bP ?_
 refine .ld aV ?_
 refine .vl (Y.zk rfl rfl) (.nil ?_)
 refine .a8 rfl (fun yl => ?_) (fun yl => ?_)
 refine .sr ?_
 refine .fa bu ?_
 refine .ld aW ?_
 refine .vl (Y.qx (n := a9.length) az rfl rfl) ?_
 refine .fa cN ?_
 refine .ak eQ rfl rfl rfl rfl rfl rfl (aI rfl) rfl (.nil (.region ?_))
 refine .fa bu ?_
 refine .ld aW ?_
 refine .mv ?_
 refine .buildSlice (([j8] : List Int).map ai) az ey rfl rfl rfl rfl rfl (aA (s := 1) (f := ai) (fun _ => rfl)) rfl rfl rfl ae ?_
 refine .dW ai (a9 ++ ([j8] : List Int)) az ey rfl rfl rfl rfl (bK bH) (bq bH) (cD bH) bH bH ae ae ?_
 refine .fa bu ?_
 refine .ak fm rfl rfl rfl rfl rfl rfl (aI rfl) rfl (.nil (.region ?_))
 refine .fa bL ?_
 refine .ld eT ?_
 refine .vl (Y.zb dS rfl rfl (aI rfl) rfl rfl) ?_
 refine .buildSlice (([(⟨aL.kind, aL.op, (a9.length : Int), aL.args, aL.num, aL.mem⟩ : Cell)] : List Cell).map Cell.row) dr dM rfl rfl rfl rfl rfl (aA (s := 6) (f := Cell.row) (fun _ => rfl)) rfl rfl rfl ae ?_
 refine .dW Cell.row (bD ++ ([(⟨aL.kind, aL.op, (a9.length : Int), aL.args, aL.num, aL.mem⟩ : Cell)] : List Cell)) dr dM rfl rfl rfl rfl (bK bH) (bq bH) (cD bH) bH bH ae ae ?_
 refine .fa bL ?_
 refine .ak uH rfl rfl rfl rfl rfl rfl (aI rfl) rfl (.nil ?_)
 exact ⟨a9 ++ ([j8] : List Int), bD ++ ([(⟨aL.kind, aL.op, (a9.length : Int), aL.args, aL.num, aL.mem⟩ : Cell)] : List Cell), by first | exact ⟨mx.add om (fM.resolve_left bm) bm, mR, mR⟩ | exact ⟨mx.r4 om (fM.resolve_left bm) (Classical.not_not.1 bm), mR, om⟩ | exact ⟨mx, om, om⟩, Le.mk (.c2 (.c (.c .nil))) (.c (.cons (aX rfl lq) (.c (.c .nil))))⟩
 refine .skip (.region ?_)
 refine .fa bL ?_
 refine .ld eT ?_
 refine .vl (Y.zb dS rfl rfl (aI rfl) rfl rfl) ?_
 refine .buildSlice (([aL] : List Cell).map Cell.row) dr dM rfl rfl rfl rfl rfl (aA (s := 6) (f := Cell.row) (fun _ => rfl)) rfl rfl rfl ae ?_
 refine .dW Cell.row (bD ++ ([aL] : List Cell)) dr dM rfl rfl rfl rfl (bK bH) (bq bH) (cD bH) bH bH ae ae ?_
 refine .fa bL ?_
 refine .ak uH rfl rfl rfl rfl rfl rfl (aI rfl) rfl (.nil ?_)
 exact ⟨a9, bD ++ ([aL] : List Cell), by first | exact ⟨mx.add om (fM.resolve_left bm) bm, mR, mR⟩ | exact ⟨mx.r4 om (fM.resolve_left bm) (Classical.not_not.1 bm), mR, om⟩ | exact ⟨mx, om, om⟩, Le.mk (.c2 (.c (.c .nil))) (.c (.cons (aX rfl lq) (.c (.c .nil))))⟩
 refine .skip (⟨a9, bD, by first | exact ⟨mx.add om (fM.resolve_left bm) bm, mR, mR⟩ | exact ⟨mx.r4 om (fM.resolve_left bm) (Classical.not_not.1 bm), mR, om⟩ | exact ⟨mx, om, om⟩, Le.mk (.c2 (.c (.c .nil))) (.c (.cons (aX rfl lq) (.c (.c .nil))))⟩)
 refine .alloc 109 dM rfl rfl ae ?_
 refine .nil ⟨rfl, ?_⟩
 refine .one 8 rfl ao (.e6 rfl rfl ae ?_)
 refine .nil ⟨rfl, ?_⟩
 refine .one 11 rfl ao (.sh (Sh.pc (d := 127) (y := .agg [.v (.int .i64 aL.kind), .v (.int .i64 aL.op), .v (.int .i64 aL.out), .fz 1 (aL.args.map ai), .v (.int .u64 (aL.num : Int)), .v (.int .i64 aL.mem)]) rfl (by show X.lU (.agg [.v (.int .i64 aL.kind), .v (.int .i64 aL.op), .v (.int .i64 aL.out), .ei 1 (aL.args.map ai), .v (.int .u64 (aL.num : Int)), .v (.int .i64 aL.mem)]) = _; simp only [X.lU, X.js, X.km (cQ.map aE)])) (.ak eE rfl rfl rfl rfl rfl rfl (aI rfl) rfl ?_))
 refine .nil ⟨rfl, ?_⟩
 refine .one 12 rfl ao ?_
 refine .an ?_
 refine .nil ⟨rfl, ?_⟩
 refine .done ao (.le (aT := ⟨[(1, .fp (lM.row p) 0), (2, .ptr 102 0 0 0), (3, .ptr 103 0 0 0), (8, vi iO), (9, .ptr 109 0 0 0), (10, vi j8)], [(102, .cells [.v (.string ByteArray.empty), vn, vn, vn, vn, vn, vn, vn, vi 0, vi 0, vn]), (103, .cells [.v (.string nB), .ba 401 1 0 a9.length, .ba 402 6 0 bD.length, .fz 1 (bC.map ai), .fz 5 (bM.map eu.row), .fz 3 (bj.map bI.row), vn, vn, vi 0, vi 0, vn]), (109, .cells [vi aL.kind, vi aL.op, vi aL.out, .fz 1 (aL.args.map ai), .v (.int .u64 (aL.num : Int)), vi aL.mem]), (401, .rows 1 (a9.map ai)), (402, .rows 6 (bD.map Cell.row))]⟩) (Le.mk (.c4 (.c (.c .nil))) (.c4 (.c .nil))) (.sr ?_))
 refine .fa bP ?_
 refine .ld aV ?_
 refine .vl (Y.zk rfl rfl) (.nil ?_)
 refine .a8 rfl (fun oN => ?_) (fun oN => ?_)
 refine .seq (.sr ?_)
 refine .fa bP ?_
 refine .ld aV ?_
 refine .vl (Y.zk rfl rfl) (.nil ?_)
 refine .a8 rfl (fun yl => ?_) (fun yl => ?_)
 refine .sr ?_
 refine .fa bu ?_
 refine .ld aW ?_
 refine .vl (Y.qx (n := a9.length) az rfl rfl) ?_
 refine .fa cN ?_
 refine .ak eQ rfl rfl rfl rfl rfl rfl (aI rfl) rfl (.nil (.region ?_))
 refine .fa bu ?_
 refine .ld aW ?_
 refine .mv ?_
 refine .buildSlice (([j8] : List Int).map ai) az ey rfl rfl rfl rfl rfl (aA (s := 1) (f := ai) (fun _ => rfl)) rfl rfl rfl ae ?_
 refine .dW ai (a9 ++ ([j8] : List Int)) az ey rfl rfl rfl rfl (bK bH) (bq bH) (cD bH) bH bH ae ae ?_
 refine .fa bu ?_
 refine .ak fm rfl rfl rfl rfl rfl rfl (aI rfl) rfl (.nil (.region ?_))
 refine .fa bL ?_
 refine .ld eT ?_
 refine .vl (Y.zb dS rfl rfl (aI rfl) rfl rfl) ?_
 refine .buildSlice (([(⟨aL.kind, aL.op, (a9.length : Int), aL.args, aL.num, aL.mem⟩ : Cell)] : List Cell).map Cell.row) dr dM rfl rfl rfl rfl rfl (aA (s := 6) (f := Cell.row) (fun _ => rfl)) rfl rfl rfl ae ?_
 refine .dW Cell.row (bD ++ ([(⟨aL.kind, aL.op, (a9.length : Int), aL.args, aL.num, aL.mem⟩ : Cell)] : List Cell)) dr dM rfl rfl rfl rfl (bK bH) (bq bH) (cD bH) bH bH ae ae ?_
 refine .fa bL ?_
 refine .ak uH rfl rfl rfl rfl rfl rfl (aI rfl) rfl (.nil ?_)
 exact ⟨a9 ++ ([j8] : List Int), bD ++ ([(⟨aL.kind, aL.op, (a9.length : Int), aL.args, aL.num, aL.mem⟩ : Cell)] : List Cell), by first | exact ⟨mx.add om (fM.resolve_left bm) bm, mR, mR⟩ | exact ⟨mx.r4 om (fM.resolve_left bm) (Classical.not_not.1 bm), mR, om⟩ | exact ⟨mx, om, om⟩, Le.mk (.c2 (.c (.c .nil))) (.c (.cons (aX rfl lq) (.c (.c .nil))))⟩
 refine .skip (.region ?_)
 refine .fa bL ?_
 refine .ld eT ?_
 refine .vl (Y.zb dS rfl rfl (aI rfl) rfl rfl) ?_
 refine .buildSlice (([aL] : List Cell).map Cell.row) dr dM rfl rfl rfl rfl rfl (aA (s := 6) (f := Cell.row) (fun _ => rfl)) rfl rfl rfl ae ?_
 refine .dW Cell.row (bD ++ ([aL] : List Cell)) dr dM rfl rfl rfl rfl (bK bH) (bq bH) (cD bH) bH bH ae ae ?_
 refine .fa bL ?_
 refine .ak uH rfl rfl rfl rfl rfl rfl (aI rfl) rfl (.nil ?_)
 exact ⟨a9, bD ++ ([aL] : List Cell), by first | exact ⟨mx.add om (fM.resolve_left bm) bm, mR, mR⟩ | exact ⟨mx.r4 om (fM.resolve_left bm) (Classical.not_not.1 bm), mR, om⟩ | exact ⟨mx, om, om⟩, Le.mk (.c2 (.c (.c .nil))) (.c (.cons (aX rfl lq) (.c (.c .nil))))⟩
 refine .skip (⟨a9, bD, by first | exact ⟨mx.add om (fM.resolve_left bm) bm, mR, mR⟩ | exact ⟨mx.r4 om (fM.resolve_left bm) (Classical.not_not.1 bm), mR, om⟩ | exact ⟨mx, om, om⟩, Le.mk (.c2 (.c (.c .nil))) (.c (.cons (aX rfl lq) (.c (.c .nil))))⟩)
 refine .alloc 109 dM rfl rfl ae ?_
 refine .nil ⟨rfl, ?_⟩
 refine .one 7 rfl ao (.jK rfl ae ?_)
 refine .nil ⟨rfl, ?_⟩
 refine .blind 9 rfl ao (aw.extract rfl rfl rfl) ae (.one 8 rfl ao (.e6 rfl rfl ae ?_))
 refine .nil ⟨rfl, ?_⟩
 refine .one 11 rfl ao (.sh (Sh.pc (d := 127) (y := .agg [.v (.int .i64 aL.kind), .v (.int .i64 aL.op), .v (.int .i64 aL.out), .fz 1 (aL.args.map ai), .v (.int .u64 (aL.num : Int)), .v (.int .i64 aL.mem)]) rfl (by show X.lU (.agg [.v (.int .i64 aL.kind), .v (.int .i64 aL.op), .v (.int .i64 aL.out), .ei 1 (aL.args.map ai), .v (.int .u64 (aL.num : Int)), .v (.int .i64 aL.mem)]) = _; simp only [X.lU, X.js, X.km (cQ.map aE)])) (.ak eE rfl rfl rfl rfl rfl rfl (aI rfl) rfl ?_))
 refine .nil ⟨rfl, ?_⟩
 refine .one 12 rfl ao ?_
 refine .an ?_
 refine .nil ⟨rfl, ?_⟩
 refine .done ao (.le (aT := ⟨[(1, .fp (lM.row p) 0), (2, .ptr 102 0 0 0), (3, .ptr 103 0 0 0), (8, vi iO), (9, .ptr 109 0 0 0), (10, vi j8)], [(102, .cells [.v (.string ByteArray.empty), vn, vn, vn, vn, vn, vn, vn, vi 0, vi 0, vn]), (103, .cells [.v (.string nB), .ba 401 1 0 a9.length, .ba 402 6 0 bD.length, .fz 1 (bC.map ai), .fz 5 (bM.map eu.row), .fz 3 (bj.map bI.row), vn, vn, vi 0, vi 0, vn]), (109, .cells [vi aL.kind, vi aL.op, vi aL.out, .fz 1 (aL.args.map ai), .v (.int .u64 (aL.num : Int)), vi aL.mem]), (401, .rows 1 (a9.map ai)), (402, .rows 6 (bD.map Cell.row))]⟩) (Le.mk (.c4 (.c (.c .nil))) (.c4 (.c .nil))) (.sr ?_))
 refine .fa bP ?_
 refine .ld aV ?_
 refine .vl (Y.zk rfl rfl) (.nil ?_)
 refine .a8 rfl (fun oN => ?_) (fun oN => ?_)
 refine .seq (.sr ?_)
 refine .fa bP ?_
 refine .ld aV ?_
 refine .vl (Y.zk rfl rfl) (.nil ?_)
 refine .a8 rfl (fun yl => ?_) (fun yl => ?_)
 refine .sr ?_
 refine .fa bu ?_
 refine .ld aW ?_
 refine .vl (Y.qx (n := a9.length) az rfl rfl) ?_
 refine .fa cN ?_
 refine .ak eQ rfl rfl rfl rfl rfl rfl (aI rfl) rfl (.nil (.region ?_))
 refine .fa bu ?_
 refine .ld aW ?_
 refine .mv ?_
 refine .buildSlice (([j8] : List Int).map ai) az ey rfl rfl rfl rfl rfl (aA (s := 1) (f := ai) (fun _ => rfl)) rfl rfl rfl ae ?_
 refine .dW ai (a9 ++ ([j8] : List Int)) az ey rfl rfl rfl rfl (bK bH) (bq bH) (cD bH) bH bH ae ae ?_
 refine .fa bu ?_
 refine .ak fm rfl rfl rfl rfl rfl rfl (aI rfl) rfl (.nil (.region ?_))
 refine .fa bL ?_
 refine .ld eT ?_
 refine .vl (Y.zb dS rfl rfl (aI rfl) rfl rfl) ?_
 refine .buildSlice (([(⟨aL.kind, aL.op, (a9.length : Int), aL.args, aL.num, aL.mem⟩ : Cell)] : List Cell).map Cell.row) dr dM rfl rfl rfl rfl rfl (aA (s := 6) (f := Cell.row) (fun _ => rfl)) rfl rfl rfl ae ?_
 refine .dW Cell.row (bD ++ ([(⟨aL.kind, aL.op, (a9.length : Int), aL.args, aL.num, aL.mem⟩ : Cell)] : List Cell)) dr dM rfl rfl rfl rfl (bK bH) (bq bH) (cD bH) bH bH ae ae ?_
 refine .fa bL ?_
 refine .ak uH rfl rfl rfl rfl rfl rfl (aI rfl) rfl (.nil ?_)
 exact ⟨a9 ++ ([j8] : List Int), bD ++ ([(⟨aL.kind, aL.op, (a9.length : Int), aL.args, aL.num, aL.mem⟩ : Cell)] : List Cell), by first | exact ⟨mx.add om (fM.resolve_left bm) bm, mR, mR⟩ | exact ⟨mx.r4 om (fM.resolve_left bm) (Classical.not_not.1 bm), mR, om⟩ | exact ⟨mx, om, om⟩, Le.mk (.c2 (.c (.c .nil))) (.c (.cons (aX rfl lq) (.c (.c .nil))))⟩
 refine .skip (.region ?_)
 refine .fa bL ?_
 refine .ld eT ?_
 refine .vl (Y.zb dS rfl rfl (aI rfl) rfl rfl) ?_
 refine .buildSlice (([aL] : List Cell).map Cell.row) dr dM rfl rfl rfl rfl rfl (aA (s := 6) (f := Cell.row) (fun _ => rfl)) rfl rfl rfl ae ?_
 refine .dW Cell.row (bD ++ ([aL] : List Cell)) dr dM rfl rfl rfl rfl (bK bH) (bq bH) (cD bH) bH bH ae ae ?_
 refine .fa bL ?_
 refine .ak uH rfl rfl rfl rfl rfl rfl (aI rfl) rfl (.nil ?_)
 exact ⟨a9, bD ++ ([aL] : List Cell), by first | exact ⟨mx.add om (fM.resolve_left bm) bm, mR, mR⟩ | exact ⟨mx.r4 om (fM.resolve_left bm) (Classical.not_not.1 bm), mR, om⟩ | exact ⟨mx, om, om⟩, Le.mk (.c2 (.c (.c .nil))) (.c (.cons (aX rfl lq) (.c (.c .nil))))⟩
 refine .skip (⟨a9, bD, by first | exact ⟨mx.add om (fM.resolve_left bm) bm, mR, mR⟩ | exact ⟨mx.r4 om (fM.resolve_left bm) (Classical.not_not.1 bm), mR, om⟩ | exact ⟨mx, om, om⟩, Le.mk (.c2 (.c (.c .nil))) (.c (.cons (aX rfl lq) (.c (.c .nil))))⟩)
 refine .alloc 109 dM rfl rfl ae ?_
 refine .nil ⟨rfl, ?_⟩
 refine .one 6 rfl ao (.u6 [401, 402] Ky (uu (n := (⟨nB, a9, bD, bC, bM, bj, [], [], 0, 0, []⟩ : ab)) (p := (p.parts.getD iO default)) (by show (a9).length ≤ 1048576; omega) (by show 0 < (a9).length; omega) (PU _ (getD_in om)) mx.ground (by show (bC).length ≤ 1048576; omega)) rfl (.agg (.ah rfl rfl (.cw rfl rfl (bo om) (bp om) (.cw rfl rfl (bo om) (bp om) (.ah rfl rfl (.ah rfl rfl (.ah rfl rfl (.ah rfl rfl (.ah rfl rfl (.ah rfl rfl (.ah rfl rfl (.ah rfl rfl .nil))))))))))) rfl (.ah rfl rfl .nil)) (dY rfl (aY aE) (hY rfl (aY Cell.cg))) ae ?_)
 rintro _ ⟨aL, j8, fM, rfl, _⟩
 refine ⟨rfl, ⟨⟨trivial, trivial, trivial, (gR hZ _), trivial, trivial, trivial⟩, trivial, trivial⟩, ?_⟩
 refine .nil ⟨rfl, ?_⟩
 refine .one 7 rfl ao (.jK rfl ae ?_)
 refine .nil ⟨rfl, ?_⟩
 refine .blind 9 rfl ao (aw.extract rfl rfl rfl) ae (.one 8 rfl ao (.e6 rfl rfl ae ?_))
 refine .nil ⟨rfl, ?_⟩
 refine .one 11 rfl ao (.sh (Sh.pc (d := 127) (y := .agg [.v (.int .i64 aL.kind), .v (.int .i64 aL.op), .v (.int .i64 aL.out), .fz 1 (aL.args.map ai), .v (.int .u64 (aL.num : Int)), .v (.int .i64 aL.mem)]) rfl (by show X.lU (.agg [.v (.int .i64 aL.kind), .v (.int .i64 aL.op), .v (.int .i64 aL.out), .ei 1 (aL.args.map ai), .v (.int .u64 (aL.num : Int)), .v (.int .i64 aL.mem)]) = _; simp only [X.lU, X.js, X.km (cQ.map aE)])) (.ak eE rfl rfl rfl rfl rfl rfl (aI rfl) rfl ?_))
 refine .nil ⟨rfl, ?_⟩
 refine .one 12 rfl ao ?_
 refine .an ?_
 refine .nil ⟨rfl, ?_⟩
 refine .done ao (.le (aT := ⟨[(1, .fp (lM.row p) 0), (2, .ptr 102 0 0 0), (3, .ptr 103 0 0 0), (8, vi iO), (9, .ptr 109 0 0 0), (10, vi j8)], [(102, .cells [.v (.string ByteArray.empty), vn, vn, vn, vn, vn, vn, vn, vi 0, vi 0, vn]), (103, .cells [.v (.string nB), .ba 401 1 0 a9.length, .ba 402 6 0 bD.length, .fz 1 (bC.map ai), .fz 5 (bM.map eu.row), .fz 3 (bj.map bI.row), vn, vn, vi 0, vi 0, vn]), (109, .cells [vi aL.kind, vi aL.op, vi aL.out, .fz 1 (aL.args.map ai), .v (.int .u64 (aL.num : Int)), vi aL.mem]), (401, .rows 1 (a9.map ai)), (402, .rows 6 (bD.map Cell.row))]⟩) (Le.mk (.c4 (.c (.c .nil))) (.c4 (.c .nil))) (.sr ?_))
 refine .fa bP ?_
 refine .ld aV ?_
 refine .vl (Y.zk rfl rfl) (.nil ?_)
 refine .a8 rfl (fun oN => ?_) (fun oN => ?_)
 refine .seq (.sr ?_)
 refine .fa bP ?_
 refine .ld aV ?_
 refine .vl (Y.zk rfl rfl) (.nil ?_)
 refine .a8 rfl (fun yl => ?_) (fun yl => ?_)
 refine .sr ?_
 refine .fa bu ?_
 refine .ld aW ?_
 refine .vl (Y.qx (n := a9.length) az rfl rfl) ?_
 refine .fa cN ?_
 refine .ak eQ rfl rfl rfl rfl rfl rfl (aI rfl) rfl (.nil (.region ?_))
 refine .fa bu ?_
 refine .ld aW ?_
 refine .mv ?_
 refine .buildSlice (([j8] : List Int).map ai) az ey rfl rfl rfl rfl rfl (aA (s := 1) (f := ai) (fun _ => rfl)) rfl rfl rfl ae ?_
 refine .dW ai (a9 ++ ([j8] : List Int)) az ey rfl rfl rfl rfl (bK bH) (bq bH) (cD bH) bH bH ae ae ?_
 refine .fa bu ?_
 refine .ak fm rfl rfl rfl rfl rfl rfl (aI rfl) rfl (.nil (.region ?_))
 refine .fa bL ?_
 refine .ld eT ?_
 refine .vl (Y.zb dS rfl rfl (aI rfl) rfl rfl) ?_
 refine .buildSlice (([(⟨aL.kind, aL.op, (a9.length : Int), aL.args, aL.num, aL.mem⟩ : Cell)] : List Cell).map Cell.row) dr dM rfl rfl rfl rfl rfl (aA (s := 6) (f := Cell.row) (fun _ => rfl)) rfl rfl rfl ae ?_
 refine .dW Cell.row (bD ++ ([(⟨aL.kind, aL.op, (a9.length : Int), aL.args, aL.num, aL.mem⟩ : Cell)] : List Cell)) dr dM rfl rfl rfl rfl (bK bH) (bq bH) (cD bH) bH bH ae ae ?_
 refine .fa bL ?_
 refine .ak uH rfl rfl rfl rfl rfl rfl (aI rfl) rfl (.nil ?_)
 exact ⟨a9 ++ ([j8] : List Int), bD ++ ([(⟨aL.kind, aL.op, (a9.length : Int), aL.args, aL.num, aL.mem⟩ : Cell)] : List Cell), by first | exact ⟨mx.add om (fM.resolve_left bm) bm, mR, mR⟩ | exact ⟨mx.r4 om (fM.resolve_left bm) (Classical.not_not.1 bm), mR, om⟩ | exact ⟨mx, om, om⟩, Le.mk (.c2 (.c (.c .nil))) (.c (.cons (aX rfl lq) (.c (.c .nil))))⟩
 refine .skip (.region ?_)
 refine .fa bL ?_
 refine .ld eT ?_
 refine .vl (Y.zb dS rfl rfl (aI rfl) rfl rfl) ?_
 refine .buildSlice (([aL] : List Cell).map Cell.row) dr dM rfl rfl rfl rfl rfl (aA (s := 6) (f := Cell.row) (fun _ => rfl)) rfl rfl rfl ae ?_
 refine .dW Cell.row (bD ++ ([aL] : List Cell)) dr dM rfl rfl rfl rfl (bK bH) (bq bH) (cD bH) bH bH ae ae ?_
 refine .fa bL ?_
 refine .ak uH rfl rfl rfl rfl rfl rfl (aI rfl) rfl (.nil ?_)
 exact ⟨a9, bD ++ ([aL] : List Cell), by first | exact ⟨mx.add om (fM.resolve_left bm) bm, mR, mR⟩ | exact ⟨mx.r4 om (fM.resolve_left bm) (Classical.not_not.1 bm), mR, om⟩ | exact ⟨mx, om, om⟩, Le.mk (.c2 (.c (.c .nil))) (.c (.cons (aX rfl lq) (.c (.c .nil))))⟩
 refine .skip (⟨a9, bD, by first | exact ⟨mx.add om (fM.resolve_left bm) bm, mR, mR⟩ | exact ⟨mx.r4 om (fM.resolve_left bm) (Classical.not_not.1 bm), mR, om⟩ | exact ⟨mx, om, om⟩, Le.mk (.c2 (.c (.c .nil))) (.c (.cons (aX rfl lq) (.c (.c .nil))))⟩)
 refine .region ?_
 refine .mv ?_
 refine .vl (Y.qb rfl rfl om) ?_
 refine .an ?_
 refine .nil (⟨iO + 1, j6, j7, ⟨om, xZ.1, xZ.2.1, xZ.2.2⟩, om, Le.mk (.c2 (.c (.cons (aj rfl bf) .nil))) (.c (.cons (aX rfl lq) (.c (.c .nil))))⟩)
 refine .exit ?_
 refine .fb (fun (cx : List Cell) => ⟨[(1, .fp (lM.row p) 0), (2, .ptr 102 0 0 0), (3, .ptr 103 0 0 0)], [(102, .cells [.v (.string ByteArray.empty), vn, vn, vn, vn, vn, vn, vn, vi 0, vi 0, vn]), (103, .cells [.v (.string nB), .ba 401 1 0 a9.length, .ba 402 6 0 cx.length, .fz 1 (bC.map ai), .fz 5 (bM.map eu.row), .fz 3 (bj.map bI.row), vn, vn, vi 0, vi 0, vn]), (401, .rows 1 (a9.map ai)), (402, .rows 6 (cx.map Cell.row))]⟩) (fun cx => Gr (pn a9 cx bC bM bj) ∧ cx.length = bD.length) ?_ (fun cx Ii => ?_)
 refine .sr ?_
 refine .an ?_
 refine .nil (.block ?_)
 refine .e0 (fun (jH : Nat) (iP : List Cell) => ⟨[(1, .fp (lM.row p) 0), (2, .ptr 102 0 0 0), (3, .ptr 103 0 0 0), (11, vi jH)], [(102, .cells [.v (.string ByteArray.empty), vn, vn, vn, vn, vn, vn, vn, vi 0, vi 0, vn]), (103, .cells [.v (.string nB), .ba 401 1 0 a9.length, .ba 402 6 0 bD.length, .fz 1 (bC.map ai), .fz 5 (bM.map eu.row), .fz 3 (bj.map bI.row), vn, vn, vi 0, vi 0, vn]), (401, .rows 1 (a9.map ai)), (402, .rows 6 (iP.map Cell.row))]⟩) (fun jH iP => (iP.length = bD.length) ∧ (Gr (pn a9 iP bC bM bj)) ∧ (jH ≤ p.parts.length) ∧ (iP.length = bD.length)) (fun jH iP => p.parts.length - jH) 0 bD (⟨om, mx, om, rfl⟩) (Le.mk (.c2 (.c (.cons (aj rfl bf) .nil))) (.c2 (.c (.c .nil)))) (fun jH iP PX => ?_)
 obtain ⟨Rj, ME, TA, GF⟩ := PX
 refine .seq (.sr ?_)
 refine .mv ?_
 refine .fa oF ?_
 refine .ld x4 ?_
 refine .vl (Y.qx (n := p.parts.length) x6 rfl cS) (.vl (Y.zc rfl rfl) ?_)
 refine .mv ?_
 refine .ax (d := 156) rfl (fun yd => ?_) (fun yd => ?_)
 refine .gw 156 (Y.zg rfl rfl) (.gw 156 (Y.qp bL rfl rfl) (.gw 156 (Y.za eT rfl rfl rfl rfl) ?_))
 refine .gw 156 (Y.qx (n := bD.length) dr rfl rfl) (.gw 156 (Y.zc rfl rfl) ?_)
 refine .pk ?_
 refine .nil ?_
 refine .a8 rfl (fun Iu => ?_) (fun Iu => ?_)
 refine .skip (.seq (.block ?_))
 refine .region ?_
 refine .fa oF ?_
 refine .ld x4 ?_
 refine .mv ?_
 refine .vl (Y.qs (m := jH) x6 rfl rfl bf (aq (d := default) om)) (.vl (Y.zb Hu rfl rfl (aI rfl) rfl rfl) ?_)
 refine .mv ?_
 refine .Fv [103, 401, 402] [] NF (AA (nm := nB) (ws := a9) (cs := iP) (ins := bC) (a7 := bM) (streams := bj) (f0 := 0) (d0 := 0) (p := (p.parts.getD jH default)) (i := jH) (cl := bD.length) om om om (PU _ (getD_in om)) om (ME.Hh om)) rfl (.named rfl rfl (.ah rfl rfl (.ah rfl rfl .nil))) ⟨rfl, rfl, rfl, trivial⟩ rfl ae (fun _ h => by cases h) (fun _ h => by cases h) ae ae ?_
 rintro r bn ⟨rfl, rfl⟩ _
 refine ⟨⟨rfl, (by intro ob dm; simp only [List.mem_cons, List.not_mem_nil, or_false] at dm; rcases dm with rfl | rfl | rfl <;> rfl), .inl rfl⟩, ?_⟩
 refine .nil (.region ?_)
 refine .mv ?_
 refine .vl (Y.qb rfl rfl om) ?_
 refine .an ?_
 refine .nil (⟨jH + 1, qW a9 iP (p.parts.getD jH default) jH, ⟨bH, ME.late om, om, (tV _ _).trans GF⟩, om, Le.mk (.c2 (.c (.cons (aj rfl bf) .nil))) (.c2 (.c (.c .nil)))⟩)
 refine .exit (⟨iP, ⟨ME, GF⟩, Le.mk (.c2 (.c .nil)) (.c (.cons (aX rfl lq) (.c (.c .nil))))⟩)
 refine .gz 156 (.gz 156 (.gz 156 ?_))
 refine .gz 156 (.gz 156 ?_)
 refine .pk ?_
 refine .nil (.bO rfl (.exit ?_))
 exact ⟨iP, ⟨ME, GF⟩, Le.mk (.c2 (.c .nil)) (.c (.cons (aX rfl lq) (.c (.c .nil))))⟩
 obtain ⟨I0, OJ⟩ := Ii
 refine .seq (.seq (.sh (Sh.eC 103 406 1 6 rfl rfl rfl rfl ae) ?_))
 refine .sh (Sh.eC 103 407 1 7 rfl rfl rfl rfl ae) (.sh (Sh.eC 103 410 1 10 rfl rfl rfl rfl ae) (.region ?_))
 refine .an ?_
 refine .nil (.block ?_)
 refine .jt (fun (ca : Nat) (cE : List Int) (cF : List Int) => ⟨[(1, .fp (lM.row p) 0), (2, .ptr 102 0 0 0), (3, .ptr 103 0 0 0), (12, vi ca)], [(102, .cells [.v (.string ByteArray.empty), vn, vn, vn, vn, vn, vn, vn, vi 0, vi 0, vn]), (103, .cells [.v (.string nB), .ba 401 1 0 a9.length, .ba 402 6 0 cx.length, .fz 1 (bC.map ai), .fz 5 (bM.map eu.row), .fz 3 (bj.map bI.row), .ba 406 1 0 cE.length, .ba 407 1 0 cF.length, vi 0, vi 0, .ba 410 1 0 0]), (401, .rows 1 (a9.map ai)), (402, .rows 6 (cx.map Cell.row)), (406, .rows 1 (cE.map ai)), (407, .rows 1 (cF.map ai)), (410, .rows 1 (([] : List Int).map ai))]⟩) (fun ca cE cF => ((ca : Int) ≤ (bj.length : Int)) ∧ (cE.length = ca) ∧ (cF.length = ca) ∧ (∀ j, j < ca → tW a9 bj cE cF j)) (fun ca cE cF => ((bj.length : Int) - (ca : Int)).toNat) 0 ([] : List Int) ([] : List Int) (⟨om, rfl, rfl, fun j hj => by omega⟩) (Le.mk (.c2 (.c (.cons (aj rfl bf) .nil))) (.c (.cons (aX rfl lq) (.c4 (.c .nil))))) (fun ca cE cF PY => ?_)
 obtain ⟨TB, BV, wK, he⟩ := PY
 refine .seq (.sr ?_)
 refine .mv ?_
 refine .fa cC ?_
 refine .ld fC ?_
 refine .vl (Y.qx (n := bj.length) eG rfl cS) (.vl (Y.zc rfl rfl) (.nil ?_))
 refine .a8 rfl (fun Iv => ?_) (fun Iv => ?_)
 refine .skip ?_
 refine .fb (fun (lK : List Int) => ⟨[(1, .fp (lM.row p) 0), (2, .ptr 102 0 0 0), (3, .ptr 103 0 0 0), (12, vi ca)], [(102, .cells [.v (.string ByteArray.empty), vn, vn, vn, vn, vn, vn, vn, vi 0, vi 0, vn]), (103, .cells [.v (.string nB), .ba 401 1 0 a9.length, .ba 402 6 0 cx.length, .fz 1 (bC.map ai), .fz 5 (bM.map eu.row), .fz 3 (bj.map bI.row), .ba 406 1 0 ((cE ++ ([aC a9 1 ((3 * ca) + 1)] : List Int)).length), .ba 407 1 0 ((cF ++ ([-1] : List Int)).length), vi 0, vi 0, .ba 410 1 0 0]), (401, .rows 1 (a9.map ai)), (402, .rows 6 (cx.map Cell.row)), (406, .rows 1 ((cE ++ ([aC a9 1 ((3 * ca) + 1)] : List Int)).map ai)), (407, .rows 1 (lK.map ai)), (410, .rows 1 (([] : List Int).map ai))]⟩) (fun lK => (lK.length = (cF ++ ([-1] : List Int)).length) ∧ (y9 a9 bj ca cF lK)) ?_ (fun lK LZ => ?_)
 refine .block (.seq ?_)
 refine .er (⟨[(1, .fp (lM.row p) 0), (2, .ptr 102 0 0 0), (3, .ptr 103 0 0 0), (12, .v (.int .i64 (ca : Int)))], [(102, .cells [.v (.string ByteArray.empty), vn, vn, vn, vn, vn, vn, vn, .v (.int .i64 0), .v (.int .i64 0), vn]), (103, .cells [.v (.string nB), .ba 401 1 0 a9.length, .ba 402 6 0 cx.length, .fz 1 (bC.map ai), .fz 5 (bM.map eu.row), .fz 3 (bj.map bI.row), .ba 406 1 0 ((cE ++ ([aC a9 1 ((3 * ca) + 1)] : List Int)).length), .ba 407 1 0 cF.length, .v (.int .i64 0), .v (.int .i64 0), .ba 410 1 0 0]), (401, .rows 1 (a9.map ai)), (402, .rows 6 (cx.map Cell.row)), (406, .rows 1 ((cE ++ ([aC a9 1 ((3 * ca) + 1)] : List Int)).map ai)), (407, .rows 1 (cF.map ai)), (410, .rows 1 (([] : List Int).map ai))]⟩) rfl ?_ ?_
 refine .blind 0 rfl ao (aw.fieldAddr jE rfl rfl) ae (.blind 3 rfl ao (aw.move rfl rfl) ae ?_)
 refine .blind 4 rfl ao (aw.Oy rfl rfl om) ae (.blind 5 rfl ao (aw.C9 rfl rfl om) ae (.blind 6 rfl ao (aw.ud q4 tX rfl (by first | rfl | exact IntWalk.u8_in _ om)) ae (.xK ?_)))
 refine .two 1 2 rfl rfl ao ?_ ?_
 refine .ld aW ?_
 refine .nil ⟨rfl, ?_⟩
 refine .one 2 rfl ao (.vl (Y.zb dD rfl rfl (aI rfl) rfl rfl) ?_)
 refine .nil ⟨rfl, ?_⟩
 refine .one 7 rfl ao (.g7 [401, 402, 406, 407, 410] gV (jf (n := (⟨nB, a9, cx, bC, bM, bj, cE, cF, 0, 0, ([] : List Int)⟩ : ab)) (w := 1) (k := ((3 * ca) + 1)) (by show (a9).length ≤ 1048576; omega) om) rfl (.agg (.ah rfl rfl (.cw rfl rfl (bo bH) (bp bH) (.cw rfl rfl (bo bH) (bp bH) (.ah rfl rfl (.ah rfl rfl (.ah rfl rfl (.cw rfl rfl (bo bH) (bp bH) (.cw rfl rfl (bo bH) (bp bH) (.ah rfl rfl (.ah rfl rfl (.cw rfl rfl (bo bH) (bp bH) .nil))))))))))) rfl (.ah rfl rfl (.ah rfl rfl .nil))) (dY rfl (aY aE) (dY rfl (aY Cell.cg) (dY rfl (aY aE) (dY rfl (aY aE) (hY rfl (aY aE)))))) ae rfl trivial ?_)
 refine .nil ⟨rfl, ?_⟩
 refine .one 8 rfl ao ?_
 refine .buildSlice (([aC a9 1 ((3 * ca) + 1)] : List Int).map ai) az ey rfl rfl rfl rfl rfl (aA (s := 1) (f := ai) (fun _ => rfl)) rfl rfl rfl ae ?_
 refine .nil ⟨rfl, ?_⟩
 refine .one 9 rfl ao (.dW ai (cE ++ ([aC a9 1 ((3 * ca) + 1)] : List Int)) az ey rfl rfl rfl rfl (bK bH) (bq bH) (cD bH) bH bH ae ae ?_)
 refine .nil ⟨rfl, ?_⟩
 refine .one 10 rfl ao ?_
 refine .fa jE ?_
 refine .nil ⟨rfl, ?_⟩
 refine .one 11 rfl ao (.ak fm rfl rfl rfl rfl rfl rfl (aI rfl) rfl ?_)
 refine .nil ⟨rfl, ?_⟩
 refine .done ao ?_
 exact Le.mk (.c2 (.c (.c .nil))) (.c4 (.c2 (.c .nil)))
 refine .vl (Y.zb dD rfl rfl (aI rfl) rfl rfl) ?_
 refine .nil ⟨rfl, ?_⟩
 refine .two 1 7 rfl rfl ao ?_ ?_
 refine .ld aW ?_
 refine .nil ⟨rfl, ?_⟩
 refine .one 7 rfl ao (.g7 [401, 402, 406, 407, 410] gV (jf (n := (⟨nB, a9, cx, bC, bM, bj, cE, cF, 0, 0, ([] : List Int)⟩ : ab)) (w := 1) (k := ((3 * ca) + 1)) (by show (a9).length ≤ 1048576; omega) om) rfl (.agg (.ah rfl rfl (.cw rfl rfl (bo bH) (bp bH) (.cw rfl rfl (bo bH) (bp bH) (.ah rfl rfl (.ah rfl rfl (.ah rfl rfl (.cw rfl rfl (bo bH) (bp bH) (.cw rfl rfl (bo bH) (bp bH) (.ah rfl rfl (.ah rfl rfl (.cw rfl rfl (bo bH) (bp bH) .nil))))))))))) rfl (.ah rfl rfl (.ah rfl rfl .nil))) (dY rfl (aY aE) (dY rfl (aY Cell.cg) (dY rfl (aY aE) (dY rfl (aY aE) (hY rfl (aY aE)))))) ae rfl trivial ?_)
 refine .nil ⟨rfl, ?_⟩
 refine .one 8 rfl ao ?_
 refine .buildSlice (([aC a9 1 ((3 * ca) + 1)] : List Int).map ai) az ey rfl rfl rfl rfl rfl (aA (s := 1) (f := ai) (fun _ => rfl)) rfl rfl rfl ae ?_
 refine .nil ⟨rfl, ?_⟩
 refine .one 9 rfl ao (.dW ai (cE ++ ([aC a9 1 ((3 * ca) + 1)] : List Int)) az ey rfl rfl rfl rfl (bK bH) (bq bH) (cD bH) bH bH ae ae ?_)
 refine .nil ⟨rfl, ?_⟩
 refine .one 10 rfl ao ?_
 refine .fa jE ?_
 refine .nil ⟨rfl, ?_⟩
 refine .one 11 rfl ao (.ak fm rfl rfl rfl rfl rfl rfl (aI rfl) rfl ?_)
 refine .nil ⟨rfl, ?_⟩
 refine .done ao ?_
 exact Le.mk (.c2 (.c (.c .nil))) (.c4 (.c2 (.c .nil)))
 refine .g7 [401, 402, 406, 407, 410] gV (jf (n := (⟨nB, a9, cx, bC, bM, bj, cE, cF, 0, 0, ([] : List Int)⟩ : ab)) (w := 1) (k := ((3 * ca) + 1)) (by show (a9).length ≤ 1048576; omega) om) rfl (.agg (.ah rfl rfl (.cw rfl rfl (bo bH) (bp bH) (.cw rfl rfl (bo bH) (bp bH) (.ah rfl rfl (.ah rfl rfl (.ah rfl rfl (.cw rfl rfl (bo bH) (bp bH) (.cw rfl rfl (bo bH) (bp bH) (.ah rfl rfl (.ah rfl rfl (.cw rfl rfl (bo bH) (bp bH) .nil))))))))))) rfl (.ah rfl rfl (.ah rfl rfl .nil))) (dY rfl (aY aE) (dY rfl (aY Cell.cg) (dY rfl (aY aE) (dY rfl (aY aE) (hY rfl (aY aE)))))) ae rfl trivial ?_
 refine .nil ⟨rfl, ?_⟩
 refine .two 1 8 rfl rfl ao ?_ ?_
 refine .ld aW ?_
 refine .nil ⟨rfl, ?_⟩
 refine .one 8 rfl ao ?_
 refine .buildSlice (([aC a9 1 ((3 * ca) + 1)] : List Int).map ai) az ey rfl rfl rfl rfl rfl (aA (s := 1) (f := ai) (fun _ => rfl)) rfl rfl rfl ae ?_
 refine .nil ⟨rfl, ?_⟩
 refine .one 9 rfl ao (.dW ai (cE ++ ([aC a9 1 ((3 * ca) + 1)] : List Int)) az ey rfl rfl rfl rfl (bK bH) (bq bH) (cD bH) bH bH ae ae ?_)
 refine .nil ⟨rfl, ?_⟩
 refine .one 10 rfl ao ?_
 refine .fa jE ?_
 refine .nil ⟨rfl, ?_⟩
 refine .one 11 rfl ao (.ak fm rfl rfl rfl rfl rfl rfl (aI rfl) rfl ?_)
 refine .nil ⟨rfl, ?_⟩
 refine .done ao ?_
 exact Le.mk (.c2 (.c (.c .nil))) (.c4 (.c2 (.c .nil)))
 refine .buildSlice (([aC a9 1 ((3 * ca) + 1)] : List Int).map ai) az ey rfl rfl rfl rfl rfl (aA (s := 1) (f := ai) (fun _ => rfl)) rfl rfl rfl ae ?_
 refine .nil ⟨rfl, ?_⟩
 refine .one 1 rfl ao ?_
 refine .ld aW ?_
 refine .nil ⟨rfl, ?_⟩
 refine .one 9 rfl ao (.dW ai (cE ++ ([aC a9 1 ((3 * ca) + 1)] : List Int)) az ey rfl rfl rfl rfl (bK bH) (bq bH) (cD bH) bH bH ae ae ?_)
 refine .nil ⟨rfl, ?_⟩
 refine .one 10 rfl ao ?_
 refine .fa jE ?_
 refine .nil ⟨rfl, ?_⟩
 refine .one 11 rfl ao (.ak fm rfl rfl rfl rfl rfl rfl (aI rfl) rfl ?_)
 refine .nil ⟨rfl, ?_⟩
 refine .done ao ?_
 exact Le.mk (.c2 (.c (.c .nil))) (.c4 (.c2 (.c .nil)))
 refine .le (aT := ⟨[(1, .fp (lM.row p) 0), (2, .ptr 102 0 0 0), (3, .ptr 103 0 0 0), (12, vi ca)], [(102, .cells [.v (.string ByteArray.empty), vn, vn, vn, vn, vn, vn, vn, vi 0, vi 0, vn]), (103, .cells [.v (.string nB), .ba 401 1 0 a9.length, .ba 402 6 0 cx.length, .fz 1 (bC.map ai), .fz 5 (bM.map eu.row), .fz 3 (bj.map bI.row), .ba 406 1 0 ((cE ++ ([aC a9 1 ((3 * ca) + 1)] : List Int)).length), .ba 407 1 0 cF.length, vi 0, vi 0, .ba 410 1 0 0]), (401, .rows 1 (a9.map ai)), (402, .rows 6 (cx.map Cell.row)), (406, .rows 1 ((cE ++ ([aC a9 1 ((3 * ca) + 1)] : List Int)).map ai)), (407, .rows 1 (cF.map ai)), (410, .rows 1 (([] : List Int).map ai))]⟩) (Le.mk (.c2 (.c (.c .nil))) (.c4 (.c2 (.c .nil)))) (.sr ?_)
 refine .fa iF ?_
 refine .ld aW ?_
 refine .buildSlice (([-1] : List Int).map ai) az ey rfl rfl rfl rfl rfl (aA (s := 1) (f := ai) (fun _ => rfl)) rfl rfl rfl ae ?_
 refine .dW ai (cF ++ ([-1] : List Int)) az ey rfl rfl rfl rfl (bK bH) (bq bH) (cD bH) bH bH ae ae ?_
 refine .fa iF ?_
 refine .ak fm rfl rfl rfl rfl rfl rfl (aI rfl) rfl (.nil ?_)
 refine .le (aT := ⟨[(1, .fp (lM.row p) 0), (2, .ptr 102 0 0 0), (3, .ptr 103 0 0 0), (12, vi ca)], [(102, .cells [.v (.string ByteArray.empty), vn, vn, vn, vn, vn, vn, vn, vi 0, vi 0, vn]), (103, .cells [.v (.string nB), .ba 401 1 0 a9.length, .ba 402 6 0 cx.length, .fz 1 (bC.map ai), .fz 5 (bM.map eu.row), .fz 3 (bj.map bI.row), .ba 406 1 0 ((cE ++ ([aC a9 1 ((3 * ca) + 1)] : List Int)).length), .ba 407 1 0 ((cF ++ ([-1] : List Int)).length), vi 0, vi 0, .ba 410 1 0 0]), (401, .rows 1 (a9.map ai)), (402, .rows 6 (cx.map Cell.row)), (406, .rows 1 ((cE ++ ([aC a9 1 ((3 * ca) + 1)] : List Int)).map ai)), (407, .rows 1 ((cF ++ ([-1] : List Int)).map ai)), (410, .rows 1 (([] : List Int).map ai))]⟩) (Le.mk (.c2 (.c (.c .nil))) (.c4 (.c2 (.c .nil)))) (.sr ?_)
 refine .fa cC ?_
 refine .ld fC ?_
 refine .mv ?_
 refine .vl (Y.qs (m := ca) eG rfl rfl bf (aq (d := default) om)) ?_
 refine .fa gU ?_
 refine .ld ta ?_
 refine .nil ?_
 refine .cond rfl (fun PZ => ?_) (fun PZ => ?_)
 refine .eU [103] [102, 103, 401, 402, 406, 407, 410] rfl (.blind 0 rfl ao (aw.fieldAddr iF rfl rfl) ae (.load 1 rfl ao aW rfl rfl rfl rfl rfl ae ?_))
 refine .blind 2 rfl ao (aw.move rfl rfl) ae (.e8 3 rfl ao dD rfl rfl rfl (aI rfl) rfl rfl ae (.blind 4 rfl ao (aw.fieldAddr cC rfl rfl) ae ?_))
 refine .load 5 rfl ao fC rfl rfl rfl rfl rfl ae (.blind 6 rfl ao (aw.move rfl rfl) ae ?_)
 refine .blind 7 rfl ao (aw.mc (m := ca) eG rfl rfl bf (aq (d := default) om)) ae ?_
 refine .blind 8 rfl ao (aw.fieldAddr ny rfl rfl) ae (.load 9 rfl ao aV rfl rfl rfl rfl rfl ae (.AP rfl rfl (cq.cells rfl rfl rfl cq.nil) ?_))
 refine .one 10 rfl ao (.g7 [401, 402, 406, 407, 410] gV (jf (n := (⟨nB, a9, cx, bC, bM, bj, cE ++ ([aC a9 1 ((3 * ca) + 1)] : List Int), cF ++ ([-1] : List Int), 0, 0, ([] : List Int)⟩ : ab)) (w := ((bj.getD ca default).width)) (k := 255) (by show (a9).length ≤ 1048576; omega) om) rfl (.agg (.ah rfl rfl (.cw rfl rfl (bo bH) (bp bH) (.cw rfl rfl (bo bH) (bp bH) (.ah rfl rfl (.ah rfl rfl (.ah rfl rfl (.cw rfl rfl (bo bH) (bp bH) (.cw rfl rfl (bo bH) (bp bH) (.ah rfl rfl (.ah rfl rfl (.cw rfl rfl (bo bH) (bp bH) .nil))))))))))) rfl (.ah rfl rfl (.ah rfl rfl .nil))) (dY rfl (aY aE) (dY rfl (aY Cell.cg) (dY rfl (aY aE) (dY rfl (aY aE) (hY rfl (aY aE)))))) ae rfl trivial ?_)
 refine .nil ⟨rfl, ?_⟩
 refine .one 11 rfl ao (.vl (Y.qt (m := ca) az rfl rfl bf bH) ?_)
 refine .nil ⟨rfl, ?_⟩
 refine .one 12 rfl ao (.dC (((cF ++ ([-1] : List Int)).set ca (aC a9 ((bj.getD ca default).width) 255)).map ai) eQ rfl rfl rfl rfl rfl rfl rfl (aB (d := 0) bH) (aI rfl) (ck rfl) ?_)
 refine .nil ⟨rfl, ?_⟩
 refine .done ao (⟨(cF ++ ([-1] : List Int)).set ca (aC a9 ((bj.getD ca default).width) 255), ⟨bH, by first | exact vR wK (cU (I0.ground.str (by show ca < bj.length; omega)).1 _) bm | exact vS wK (by simpa using bm)⟩, Le.mk (.c2 (.c (.c .nil))) (.c4 (.c2 (.c .nil)))⟩)
 refine .skip (⟨cF ++ ([-1] : List Int), ⟨om, by first | exact vR wK (cU (I0.ground.str (by show ca < bj.length; omega)).1 _) bm | exact vS wK (by simpa using bm)⟩, Le.mk (.c2 (.c (.c .nil))) (.c4 (.c2 (.c .nil)))⟩)
 obtain ⟨Jh, Ma⟩ := LZ
 refine .region ?_
 refine .mv ?_
 refine .vl (Y.qb rfl rfl om) ?_
 refine .an ?_
 refine .nil (⟨ca + 1, cE ++ ([aC a9 1 ((3 * ca) + 1)] : List Int), lK, ⟨om, by rw [List.length_append, BV]; rfl, Ma.1, zF BV he (cU I0.ground.one _) Ma⟩, om, Le.mk (.c2 (.c (.cons (aj rfl bf) .nil))) (.c (.cons (aX rfl lq) (.c4 (.c .nil))))⟩)
 refine .exit (.seq (.sr ?_))
 refine .an ?_
 refine .nil (.block ?_)
 refine .e0 (fun (eI : Nat) (eS : List Int) => ⟨[(1, .fp (lM.row p) 0), (2, .ptr 102 0 0 0), (3, .ptr 103 0 0 0), (13, vi eI)], [(102, .cells [.v (.string ByteArray.empty), vn, vn, vn, vn, vn, vn, vn, vi 0, vi 0, vn]), (103, .cells [.v (.string nB), .ba 401 1 0 a9.length, .ba 402 6 0 cx.length, .fz 1 (bC.map ai), .fz 5 (bM.map eu.row), .fz 3 (bj.map bI.row), .ba 406 1 0 cE.length, .ba 407 1 0 cF.length, vi 0, vi 0, .ba 410 1 0 eS.length]), (401, .rows 1 (a9.map ai)), (402, .rows 6 (cx.map Cell.row)), (406, .rows 1 (cE.map ai)), (407, .rows 1 (cF.map ai)), (410, .rows 1 (eS.map ai))]⟩) (fun eI eS => ((eI : Int) ≤ (p.bE.length : Int)) ∧ (∀ m ∈ eS, In m a9.length) ∧ (eS.length = eI)) (fun eI eS => ((p.bE.length : Int) - (eI : Int)).toNat) 0 ([] : List Int) (⟨om, fun m h => (by cases h), rfl⟩) (Le.mk (.c2 (.c (.cons (aj rfl bf) .nil))) (.c (.cons (aX rfl lq) (.c4 (.c .nil))))) (fun eI eS Qa => ?_)
 obtain ⟨TC, hr, Fj⟩ := Qa
 refine .seq (.sr ?_)
 refine .mv ?_
 refine .fa xx ?_
 refine .ld zL ?_
 refine .vl (Y.qx (n := p.bE.length) zM rfl cS) (.vl (Y.zc rfl rfl) (.nil ?_))
 refine .a8 rfl (fun Qb => ?_) (fun Qb => ?_)
 refine .skip (.seq (.block ?_))
 have CL := hk.bE (p.bE.getD eI 0) (getD_in om)
 refine .er (⟨[(1, .fp (lM.row p) 0), (2, .ptr 102 0 0 0), (3, .ptr 103 0 0 0), (13, .v (.int .i64 (eI : Int)))], [(102, .cells [.v (.string ByteArray.empty), vn, vn, vn, vn, vn, vn, vn, .v (.int .i64 0), .v (.int .i64 0), vn]), (103, .cells [.v (.string nB), .ba 401 1 0 a9.length, .ba 402 6 0 cx.length, .fz 1 (bC.map ai), .fz 5 (bM.map eu.row), .fz 3 (bj.map bI.row), .ba 406 1 0 cE.length, .ba 407 1 0 cF.length, .v (.int .i64 0), .v (.int .i64 0), .ba 410 1 0 ((eS ++ ([((p.bE.getD eI 0 : Nat) : Int) % (a9.length : Int)] : List Int)).length)]), (401, .rows 1 (a9.map ai)), (402, .rows 6 (cx.map Cell.row)), (406, .rows 1 (cE.map ai)), (407, .rows 1 (cF.map ai)), (410, .rows 1 ((eS ++ ([((p.bE.getD eI 0 : Nat) : Int) % (a9.length : Int)] : List Int)).map ai))]⟩) rfl ?_ ?_
 refine .blind 0 rfl ao (aw.fieldAddr jR rfl rfl) ae (.blind 2 rfl ao (aw.fieldAddr xx rfl rfl) ae (.load 3 rfl ao zL rfl rfl rfl rfl rfl ae ?_))
 refine .blind 4 rfl ao (aw.move rfl rfl) ae (.blind 5 rfl ao (aw.mc (m := eI) zM rfl rfl bf (aq (d := 0) om)) ae (.load 6 rfl ao qY rfl rfl rfl rfl rfl ae (.blind 7 rfl ao (aw.ud tX q4 rfl wG) ae ?_)))
 refine .blind 8 rfl ao (aw.fieldAddr bu rfl rfl) ae (.xK ?_)
 refine .two 1 9 rfl rfl ao ?_ ?_
 refine .ld aW ?_
 refine .nil ⟨rfl, ?_⟩
 refine .one 9 rfl ao ?_
 refine .ld aW ?_
 refine .nil ⟨rfl, ?_⟩
 refine .one 10 rfl ao (.vl (Y.qx (n := a9.length) az rfl rfl) ?_)
 refine .nil ⟨rfl, ?_⟩
 refine .one 11 rfl ao (.vl (Y.zs rfl rfl om) ?_)
 refine .nil ⟨rfl, ?_⟩
 refine .one 12 rfl ao ?_
 refine .buildSlice (([((p.bE.getD eI 0 : Nat) : Int) % (a9.length : Int)] : List Int).map ai) az ey rfl rfl rfl rfl rfl (aA (s := 1) (f := ai) (fun _ => rfl)) rfl rfl rfl ae ?_
 refine .nil ⟨rfl, ?_⟩
 refine .one 13 rfl ao (.dW ai (eS ++ ([((p.bE.getD eI 0 : Nat) : Int) % (a9.length : Int)] : List Int)) az ey rfl rfl rfl rfl (bK bH) (bq bH) (cD bH) bH bH ae ae ?_)
 refine .nil ⟨rfl, ?_⟩
 refine .one 14 rfl ao ?_
 refine .fa jR ?_
 refine .nil ⟨rfl, ?_⟩
 refine .one 15 rfl ao (.ak fm rfl rfl rfl rfl rfl rfl (aI rfl) rfl ?_)
 refine .nil ⟨rfl, ?_⟩
 refine .done ao ?_
 exact Le.mk (.c2 (.c (.c .nil))) (.c4 (.c2 (.c .nil)))
 refine .ld aW ?_
 refine .nil ⟨rfl, ?_⟩
 refine .two 1 10 rfl rfl ao ?_ ?_
 refine .ld aW ?_
 refine .nil ⟨rfl, ?_⟩
 refine .one 10 rfl ao (.vl (Y.qx (n := a9.length) az rfl rfl) ?_)
 refine .nil ⟨rfl, ?_⟩
 refine .one 11 rfl ao (.vl (Y.zs rfl rfl om) ?_)
 refine .nil ⟨rfl, ?_⟩
 refine .one 12 rfl ao ?_
 refine .buildSlice (([((p.bE.getD eI 0 : Nat) : Int) % (a9.length : Int)] : List Int).map ai) az ey rfl rfl rfl rfl rfl (aA (s := 1) (f := ai) (fun _ => rfl)) rfl rfl rfl ae ?_
 refine .nil ⟨rfl, ?_⟩
 refine .one 13 rfl ao (.dW ai (eS ++ ([((p.bE.getD eI 0 : Nat) : Int) % (a9.length : Int)] : List Int)) az ey rfl rfl rfl rfl (bK bH) (bq bH) (cD bH) bH bH ae ae ?_)
 refine .nil ⟨rfl, ?_⟩
 refine .one 14 rfl ao ?_
 refine .fa jR ?_
 refine .nil ⟨rfl, ?_⟩
 refine .one 15 rfl ao (.ak fm rfl rfl rfl rfl rfl rfl (aI rfl) rfl ?_)
 refine .nil ⟨rfl, ?_⟩
 refine .done ao ?_
 exact Le.mk (.c2 (.c (.c .nil))) (.c4 (.c2 (.c .nil)))
 refine .vl (Y.qx (n := a9.length) az rfl rfl) ?_
 refine .nil ⟨rfl, ?_⟩
 refine .blind 11 rfl ao (aw.CA rfl rfl om) ae ?_
 refine .two 1 12 rfl rfl ao ?_ ?_
 refine .ld aW ?_
 refine .nil ⟨rfl, ?_⟩
 refine .one 12 rfl ao ?_
 refine .buildSlice (([((p.bE.getD eI 0 : Nat) : Int) % (a9.length : Int)] : List Int).map ai) az ey rfl rfl rfl rfl rfl (aA (s := 1) (f := ai) (fun _ => rfl)) rfl rfl rfl ae ?_
 refine .nil ⟨rfl, ?_⟩
 refine .one 13 rfl ao (.dW ai (eS ++ ([((p.bE.getD eI 0 : Nat) : Int) % (a9.length : Int)] : List Int)) az ey rfl rfl rfl rfl (bK bH) (bq bH) (cD bH) bH bH ae ae ?_)
 refine .nil ⟨rfl, ?_⟩
 refine .one 14 rfl ao ?_
 refine .fa jR ?_
 refine .nil ⟨rfl, ?_⟩
 refine .one 15 rfl ao (.ak fm rfl rfl rfl rfl rfl rfl (aI rfl) rfl ?_)
 refine .nil ⟨rfl, ?_⟩
 refine .done ao ?_
 exact Le.mk (.c2 (.c (.c .nil))) (.c4 (.c2 (.c .nil)))
 refine .buildSlice (([((p.bE.getD eI 0 : Nat) : Int) % (a9.length : Int)] : List Int).map ai) az ey rfl rfl rfl rfl rfl (aA (s := 1) (f := ai) (fun _ => rfl)) rfl rfl rfl ae ?_
 refine .nil ⟨rfl, ?_⟩
 refine .one 1 rfl ao ?_
 refine .ld aW ?_
 refine .nil ⟨rfl, ?_⟩
 refine .one 13 rfl ao (.dW ai (eS ++ ([((p.bE.getD eI 0 : Nat) : Int) % (a9.length : Int)] : List Int)) az ey rfl rfl rfl rfl (bK bH) (bq bH) (cD bH) bH bH ae ae ?_)
 refine .nil ⟨rfl, ?_⟩
 refine .one 14 rfl ao ?_
 refine .fa jR ?_
 refine .nil ⟨rfl, ?_⟩
 refine .one 15 rfl ao (.ak fm rfl rfl rfl rfl rfl rfl (aI rfl) rfl ?_)
 refine .nil ⟨rfl, ?_⟩
 refine .done ao ?_
 exact Le.mk (.c2 (.c (.c .nil))) (.c4 (.c2 (.c .nil)))
 refine .region ?_
 refine .mv ?_
 refine .vl (Y.qb rfl rfl om) ?_
 refine .an ?_
 refine .nil (⟨eI + 1, eS ++ ([((p.bE.getD eI 0 : Nat) : Int) % (a9.length : Int)] : List Int), ⟨om, rH hr (u9 (n := pn a9 cx bC bM bj) I0.ground (by show 0 < a9.length; omega)), by rw [List.length_append, Fj]; rfl⟩, om, Le.mk (.c2 (.c (.cons (aj rfl bf) .nil))) (.c (.cons (aX rfl lq) (.c4 (.c .nil))))⟩)
 refine .exit (.sr (.vl (Y.zb dD rfl rfl (aI rfl) rfl rfl) ?_))
 refine .fa oF ?_
 refine .ld x4 ?_
 refine .vl (Y.qx (n := p.parts.length) x6 rfl cS) (.vl (Y.qk q4 tX rfl (by first | rfl | exact IntWalk.u8_in _ om)) (.g7 [401, 402, 406, 407, 410] gV (jf (n := (⟨nB, a9, cx, bC, bM, bj, cE, cF, 0, 0, eS⟩ : ab)) (w := 1) (k := p.parts.length) (by show (a9).length ≤ 1048576; omega) om) rfl (.agg (.ah rfl rfl (.cw rfl rfl (bo om) (bp om) (.cw rfl rfl (bo om) (bp om) (.ah rfl rfl (.ah rfl rfl (.ah rfl rfl (.cw rfl rfl (bo om) (bp om) (.cw rfl rfl (bo om) (bp om) (.ah rfl rfl (.ah rfl rfl (.cw rfl rfl (bo om) (bp om) .nil))))))))))) rfl (.ah rfl rfl (.ah rfl rfl .nil))) (dY rfl (aY aE) (dY rfl (aY Cell.cg) (dY rfl (aY aE) (dY rfl (aY aE) (hY rfl (aY aE)))))) ae rfl trivial ?_))
 refine .fa oE ?_
 refine .ak eQ rfl rfl rfl rfl rfl rfl (aI rfl) rfl (.nil (.sr ?_))
 refine .vl (Y.zb dD rfl rfl (aI rfl) rfl rfl) ?_
 refine .fa oF ?_
 refine .ld x4 ?_
 refine .vl (Y.qx (n := p.parts.length) x6 rfl cS) (.vl (Y.zi rfl rfl om) (.vl (Y.qb rfl rfl om) (.vl (Y.qj q4 tX rfl (wg ((7 * p.parts.length) + 1))) (.g7 [401, 402, 406, 407, 410] gV (jf (n := (⟨nB, a9, cx, bC, bM, bj, cE, cF, aC a9 1 p.parts.length, 0, eS⟩ : ab)) (w := 1) (k := (((7 * p.parts.length) + 1) % 256)) (by show (a9).length ≤ 1048576; omega) om) rfl (.agg (.ah rfl rfl (.cw rfl rfl (bo om) (bp om) (.cw rfl rfl (bo om) (bp om) (.ah rfl rfl (.ah rfl rfl (.ah rfl rfl (.cw rfl rfl (bo om) (bp om) (.cw rfl rfl (bo om) (bp om) (.ah rfl rfl (.ah rfl rfl (.cw rfl rfl (bo om) (bp om) .nil))))))))))) rfl (.ah rfl rfl (.ah rfl rfl .nil))) (dY rfl (aY aE) (dY rfl (aY Cell.cg) (dY rfl (aY aE) (dY rfl (aY aE) (hY rfl (aY aE)))))) ae rfl trivial ?_))))
 refine .fa pZ ?_
 refine .ak eQ rfl rfl rfl rfl rfl rfl (aI rfl) rfl (.nil (.seq ?_))
 refine .sh (Sh.ox 103 406 6 rfl rfl rfl (b5 om) (cQ.map aE) ae rfl rfl rfl) (.sh (Sh.ox 103 407 7 rfl rfl rfl (b5 om) (cQ.map aE) ae rfl rfl rfl) (.sh (Sh.ox 103 410 10 rfl rfl rfl (b5 om) (cQ.map aE) ae rfl rfl rfl) ?_))
 refine .region (.vl (Y.zb dD rfl rfl (aI rfl) rfl rfl) (.ak Ep rfl rfl rfl rfl rfl rfl (aI rfl) rfl ?_))
 refine .nil (.ret ?_)
 exact ⟨_, rfl, _, _, _, (Sh.La (d := 0) 1 401 rfl rfl rfl sZ rfl ae).then (Sh.La (d := 0) 2 402 rfl rfl rfl sZ rfl ae), rfl, rfl, (⟨nB, a9, cx, bC, bM, bj, cE, cF, aC a9 1 p.parts.length, aC a9 1 (((7 * p.parts.length) + 1) % 256), eS⟩ : ab), (I0.made om om om om om om (fun m h => (hm m h).1) (fun m h => (hs m h).1) om om (fun j hj => he j om) hr (cU I0.ground.one _) (cU I0.ground.one _)), rfl, rfl⟩
open Go Go.AW Go.Proofs
theorem Dh {p : lM} : au Try.prog 18 [.agg (lM.row p)] [] [] (fun r o => r = .v (.bool (decide (p.Mo))) ∧ o = []) := by
 refine au.of Try.func18 rfl rfl rfl (n := 31) ae (aI rfl) (.sr (.box 101 rfl rfl rfl rfl rfl ae ?_))
 refine .an ?_
 refine .nil (.sr ?_)
 refine .fa uA ?_
 refine .ld vT ?_
 refine .vl (Y.qx (n := p.a7.length) vU rfl cS) (.vl (Y.qz rfl rfl) ?_)
 refine .mv ?_
 refine .ax (d := 7) rfl (fun c7 => ?_) (fun c7 => ?_)
 refine .gw 7 (Y.qp uB rfl rfl) (.gw 7 (Y.za vT rfl rfl rfl rfl) (.gw 7 (Y.qx (n := p.streams.length) vU rfl cS) ?_))
 refine .gw 7 (Y.qz rfl rfl) ?_
 refine .pk ?_
 refine .mv ?_
 refine .ax (d := 13) rfl (fun wL => ?_) (fun wL => ?_)
 refine .gw 13 (Y.qp xw rfl rfl) (.gw 13 (Y.za zL rfl rfl rfl rfl) (.gw 13 (Y.qx (n := p.ins.length) zM rfl cS) ?_))
 refine .gw 13 (Y.qz rfl rfl) ?_
 refine .pk ?_
 refine .mv ?_
 refine .ax (d := 19) rfl (fun oq => ?_) (fun oq => ?_)
 refine .gw 19 (Y.qp oF rfl rfl) (.gw 19 (Y.za x4 rfl rfl rfl rfl) (.gw 19 (Y.qx (n := p.parts.length) x6 rfl cS) ?_))
 refine .gw 19 (Y.qz rfl rfl) ?_
 refine .pk ?_
 refine .mv ?_
 refine .ax (d := 25) rfl (fun EL => ?_) (fun EL => ?_)
 refine .gw 25 (Y.qp xx rfl rfl) (.gw 25 (Y.za zL rfl rfl rfl rfl) (.gw 25 (Y.qx (n := p.bE.length) zM rfl cS) ?_))
 refine .gw 25 (Y.qz rfl rfl) ?_
 refine .pk ?_
 refine .an ?_
 refine .nil (.ret ?_)
 exact .rb rfl (dd ⟨fun h => ⟨om, om, om, om, om⟩, fun h => by have h5 := h.bE; omega⟩)
 refine .gz 25 (.gz 25 (.gz 25 ?_))
 refine .gz 25 ?_
 refine .pk ?_
 refine .an ?_
 refine .nil (.ret ?_)
 exact .rb rfl (df (fun h => by have h1 := h.a7; have h2 := h.streams; have h3 := h.ins; have h4 := h.parts; have h5 := h.bE; omega))
 refine .gz 19 (.gz 19 (.gz 19 ?_))
 refine .gz 19 ?_
 refine .pk ?_
 refine .mv ?_
 refine .gz 25 (.gz 25 (.gz 25 ?_))
 refine .gz 25 ?_
 refine .pk ?_
 refine .an ?_
 refine .nil (.ret ?_)
 exact .rb rfl (df (fun h => by have h1 := h.a7; have h2 := h.streams; have h3 := h.ins; have h4 := h.parts; have h5 := h.bE; omega))
 refine .gz 13 (.gz 13 (.gz 13 ?_))
 refine .gz 13 ?_
 refine .pk ?_
 refine .mv ?_
 refine .gz 19 (.gz 19 (.gz 19 ?_))
 refine .gz 19 ?_
 refine .pk ?_
 refine .mv ?_
 refine .gz 25 (.gz 25 (.gz 25 ?_))
 refine .gz 25 ?_
 refine .pk ?_
 refine .an ?_
 refine .nil (.ret ?_)
 exact .rb rfl (df (fun h => by have h1 := h.a7; have h2 := h.streams; have h3 := h.ins; have h4 := h.parts; have h5 := h.bE; omega))
 refine .gz 7 (.gz 7 (.gz 7 ?_))
 refine .gz 7 ?_
 refine .pk ?_
 refine .mv ?_
 refine .gz 13 (.gz 13 (.gz 13 ?_))
 refine .gz 13 ?_
 refine .pk ?_
 refine .mv ?_
 refine .gz 19 (.gz 19 (.gz 19 ?_))
 refine .gz 19 ?_
 refine .pk ?_
 refine .mv ?_
 refine .gz 25 (.gz 25 (.gz 25 ?_))
 refine .gz 25 ?_
 refine .pk ?_
 refine .an ?_
 refine .nil (.ret ?_)
 exact .rb rfl (df (fun h => by have h1 := h.a7; have h2 := h.streams; have h3 := h.ins; have h4 := h.parts; have h5 := h.bE; omega))
open Go Go.AW Go.Proofs
theorem vg {n : ab} (hM : VB n) : au Try.prog 46 [.agg (ab.row n)] [] [] (fun r o => ∃ at_ : List Int, r = .tup [.ei 1 (at_.map ai), vi (fK n)] ∧ o = []) := by
  by_cases h : fK n = 0
  · exact (jq (hM.vt h)).mono fun r o ⟨_, at_, _, _, h1, h2⟩ => ⟨at_, by rw [h]; exact h1, h2⟩
  · exact (mq hM h).mono fun r o h1 => ⟨[], h1⟩
theorem AD {n : ab} (hM : VB n) : au Try.prog 43 [.agg (ab.row n)] [] [] (fun r o => ∃ (d : Int) (st : List Int), r = .tup [.agg [vi d, .fz 1 (st.map ai)], vi (fK n)] ∧ o = []) := by
  by_cases h : fK n = 0
  · exact (sQ (hM.vt h)).mono fun r o ⟨_, _, st, d, _, _, _, h1, h2⟩ => ⟨d, st, by rw [h]; exact h1, h2⟩
  · exact (At hM h).mono fun r o h1 => ⟨0, [], h1⟩
theorem AE {n : ab} {p : Int} (hM : VB n) (hp : -1000000 ≤ p ∧ p ≤ 1000000) : au Try.prog 48 [.agg (ab.row n), vi p] [] [] (fun r o => ∃ at_ : List Int, r = .tup [.ei 1 (at_.map ai), vi (fK n)] ∧ o = []) := by
  by_cases h : fK n = 0
  · exact (ye (hM.vt h) hp).mono fun r o ⟨_, _, s, _, _, _, h1, h2⟩ => ⟨s, by rw [h]; exact h1, h2⟩
  · exact (Au hM h).mono fun r o h1 => ⟨[], h1⟩
theorem od {p : lM} {a : Nat} {c : Cell} (hk : p.Ok) (ha : a < 256) (hc : FE c) : au Try.prog 13 [.agg (lM.row p), .v (.int .u8 (a : Int)), .agg (Cell.row c)] [] [] (fun r o => r = .v (.bool true) ∧ o = []) := by
 refine au.of Try.func13 rfl rfl rfl (n := 106) ae (aI rfl) ?_
 have Qz := hc.1; have J8 := hc.2
 refine .sr (.box 103 rfl rfl rfl rfl rfl ae (.box 105 rfl rfl rfl rfl rfl ae ?_))
 refine .an ?_
 refine .nil (.seq (.sr ?_))
 refine .aH Hl (mr) rfl .nil ae rfl (.vl (Y.zm rfl) ?_)
 refine .mv ?_
 refine .gw 21 (Y.zb K7 rfl rfl (aI rfl) rfl rfl) (.ar (d := 21) rfl ae rfl (.aH Nz (Dh (p := p)) rfl (.ah rfl rfl .nil) ae rfl ?_))
 refine .gw 21 (Y.zm rfl) ?_
 refine .pk ?_
 refine .mv ?_
 refine .dP (d := 26) rfl (fun TD => ?_) (fun TD => ?_)
 refine .gz 26 (.gz 26 (.gz 26 ?_))
 refine .gz 26 ?_
 refine .pk ?_
 refine .nil (.aM rfl (.sr ?_))
 refine .aH Hl (mr) rfl .nil ae rfl ?_
 refine .an ?_
 refine .nil (.ret ?_)
 exact .rb rfl (rfl)
 refine .gw 26 (Y.qp bF rfl rfl) (.gw 26 (Y.za aW rfl rfl rfl rfl) (.gw 26 (Y.qx (n := c.args.length) az rfl cS) ?_))
 refine .gw 26 (Y.qr rfl rfl) ?_
 refine .pk ?_
 refine .nil ?_
 refine .a8 rfl (fun tp => ?_) (fun tp => ?_)
 refine .sr (.aH Hl (mr) rfl .nil ae rfl ?_)
 refine .an ?_
 refine .nil (.ret ?_)
 exact .rb rfl (rfl)
 refine .skip (.sr (.vl (Y.zb K7 rfl rfl (aI rfl) rfl rfl) ?_))
 refine .kh NA (AB (p := p) bm hk) rfl (.ah rfl rfl .nil) ae ?_
 rintro _ ⟨cP, tC, rfl, _⟩
 refine ⟨rfl, ?_⟩
 refine .alloc 107 zO rfl rfl ae (.sh (Sh.CC (d := 34) 1 1181 cP.aa.length rfl rfl rfl ae (b5 rfl)) (.sh (Sh.CC (d := 34) 2 1182 cP.cells.length rfl rfl rfl ae (b5 rfl)) ?_))
 refine .ak Ep rfl rfl rfl rfl rfl rfl (aI rfl) rfl (.nil (.seq ?_))
 have hs := tC.small; have hf := tC.formed; have MB := tC.fit; have MC := tC.acyclic; have Ct := tC.bR; have Gf := tC.b8; have Ha := tC.pY; have sa := tC.ic; have hM := tC.vp.vt
 refine .region (.vl (Y.zb dD rfl rfl (aI rfl) rfl rfl) ?_)
 refine .u6 [1181, 1182] zJ (jq (n := cP) hM) rfl (.agg (.ah rfl rfl (.cw rfl rfl (bo om) (bp om) (.cw rfl rfl (bo om) (bp om) (.ah rfl rfl (.ah rfl rfl (.ah rfl rfl (.ah rfl rfl (.ah rfl rfl (.ah rfl rfl (.ah rfl rfl (.ah rfl rfl .nil))))))))))) rfl .nil) (dY rfl (aY aE) (hY rfl (aY Cell.cg))) ae ?_
 rintro _ ⟨TE, Di, Qc, Mb, rfl, _⟩
 refine ⟨rfl, ⟨(gR hZ _), trivial, trivial⟩, ?_⟩
 refine .jK rfl ae (.e6 rfl rfl ae (.vl (Y.qn rfl rfl rfl) ?_))
 refine .dy rfl ae (.sh (Sh.dg (d := 8) (Di.map ai) rfl jJ (cQ.map aE)) ?_)
 refine .an ?_
 refine .nil (.sr (.vl (Y.zb dD rfl rfl (aI rfl) rfl rfl) ?_))
 refine .u6 [1181, 1182] Ob (wj (n := cP) hM) rfl (.agg (.ah rfl rfl (.cw rfl rfl (bo om) (bp om) (.cw rfl rfl (bo om) (bp om) (.ah rfl rfl (.ah rfl rfl (.ah rfl rfl (.ah rfl rfl (.ah rfl rfl (.ah rfl rfl (.ah rfl rfl (.ah rfl rfl .nil))))))))))) rfl .nil) (dY rfl (aY aE) (hY rfl (aY Cell.cg))) ae ?_
 rintro _ ⟨sY, Mc, rfl, _⟩
 refine ⟨rfl, (gR hZ _), ?_⟩
 refine .dy rfl ae (.sh (Sh.dg (d := 10) (sY.map ai) rfl jJ (cQ.map aE)) (.nil ?_))
 refine .seq (.seq ?_)
 have he := Mb.uniq hf Qc Mc; have BV := Mc.len; have TF := Mb.len
 refine .region ?_
 refine .mv ?_
 refine .vl (Y.zk rfl rfl) ?_
 refine .mv ?_
 refine .gw 44 (Y.zg rfl rfl) (.gw 44 (Y.qx (n := Di.length) az rfl cS) (.gw 44 (Y.zg rfl rfl) ?_))
 refine .gw 44 (Y.qx (n := sY.length) az rfl cS) (.gw 44 (Y.zk rfl rfl) ?_)
 refine .pk ?_
 refine .nil ?_
 refine .a8 rfl (fun OV => ?_) (fun OV => ?_)
 exfalso; omega
 refine .skip (.seq (.sr ?_))
 refine .mv ?_
 refine .vl (Y.qx (n := sY.length) az rfl cS) ?_
 refine .mv ?_
 refine .nil (.block ?_)
 refine .fY (fun (pH : Nat) => ⟨[(1, .v (.int .u8 (a : Int))), (5, .ptr 105 0 0 0), (7, .ptr 107 0 0 0), (8, .fz 1 (Di.map ai)), (10, .fz 1 (sY.map ai)), (52, vi sY.length), (53, vi pH)], [(105, .cells (Cell.row c)), (107, .cells [.v (.string cP.name), .ba 1181 1 0 cP.aa.length, .ba 1182 6 0 cP.cells.length, .fz 1 (cP.ins.map ai), .fz 5 (cP.a7.map eu.row), .fz 3 (cP.streams.map bI.row), .fz 1 (cP.aR.map ai), .fz 1 (cP.data.map ai), vi cP.freeze, vi cP.done, .fz 1 (cP.bE.map ai)]), (1181, .rows 1 (cP.aa.map ai)), (1182, .rows 6 (cP.cells.map Cell.row))]⟩) (fun pH => ((pH : Int) ≤ (sY.length : Int))) (fun pH => ((sY.length : Int) - (pH : Int)).toNat) 0 om (Le.mk (.c4 (.c2 (.cons (aj rfl bf) .nil))) (.c2 (.c (.c .nil)))) (fun pH TG => ?_)
 have Uy := TG
 refine .sr (.vl (Y.zc rfl rfl) (.nil ?_))
 refine .seq ?_
 refine .a8 rfl (fun Dy => ?_) (fun Dy => ?_)
 refine .skip (.seq (.block ?_))
 refine .sr ?_
 refine .mv ?_
 refine .an ?_
 refine .nil (.seq (.fR rfl ao ?_))
 refine .val (Y.zg rfl rfl) ae (.val (Y.zg rfl rfl) ae ?_)
 refine .val (Y.qs (m := pH) az rfl rfl bf (aq (d := 0) om)) ae ?_
 refine .val (Y.za aV rfl rfl rfl rfl) ae (.val (Y.zg rfl rfl) ae (.val (Y.zg rfl rfl) ae ?_))
 refine .val (Y.qs (m := pH) az rfl rfl bf (aq (d := 0) om)) ae ?_
 refine .val (Y.za aV rfl rfl rfl rfl) ae (.val (Y.zk rfl rfl) ae (.nil ?_))
 refine .a8 rfl (fun As => ?_) (fun As => ?_)
 exact absurd (by rw [he]) As
 refine .skip (.region ?_)
 refine .vl (Y.qb rfl rfl bw) ?_
 refine .mv ?_
 refine .nil ⟨pH + 1, om, om, Le.mk (.c4 (.c2 (.cons (aj rfl bf) .nil))) (.c2 (.c (.c .nil)))⟩
 refine .exit (.seq ?_)
 have MD := Nat.mod_lt a (show 0 < cP.cells.length by omega)
 refine .pb 10 rfl ao (.val (Y.qp bL rfl rfl) ae (.val (Y.za eT rfl rfl rfl rfl) ae ?_))
 refine .val (Y.zg rfl rfl) ae (.val (Y.qk tX q4 rfl wG) ae ?_)
 refine .val (Y.qp bL rfl rfl) ae (.val (Y.za eT rfl rfl rfl rfl) ae (.val (Y.qx (n := cP.cells.length) dr rfl rfl) ae ?_))
 refine .val (Y.zs rfl rfl om) ae (.val (Y.zb dS rfl rfl (aI rfl) rfl rfl) ae (.val (Y.qt (m := a % cP.cells.length) dr rfl rfl bf om) ae (.nil (.dC ((cP.cells.set (a % cP.cells.length) c).map Cell.row) eE rfl rfl rfl rfl rfl rfl rfl (aB (d := default) om) (aI rfl) (ck rfl) ?_))))
 refine .nil (.seq ?_)
 have Uz : (cP.cells.set (a % cP.cells.length) c).length = cP.cells.length := List.length_set
 refine .sh (Sh.ox 107 1181 1 rfl rfl rfl (b5 om) (cQ.map aE) ae rfl rfl rfl) (.sh (Sh.ox 107 1182 2 rfl rfl rfl (b5 om) (cQ.map Cell.cg) ae rfl rfl rfl) (.sh (Sh.cW 107 rfl rfl) ?_))
 have hB := tC.Sb (c := c) (k := a % cP.cells.length) om J8
 refine .region (.vl (Y.zb dD rfl rfl (aI rfl) rfl rfl) (.aH Ny (tA (n := (⟨cP.name, cP.aa, cP.cells.set (a % cP.cells.length) c, cP.ins, cP.a7, cP.streams, cP.aR, cP.data, cP.freeze, cP.done, cP.bE⟩ : ab)) hB.small) rfl (.ah rfl rfl .nil) ae rfl ?_))
 refine .an ?_
 refine .nil (.sr (.vl (Y.zb dD rfl rfl (aI rfl) rfl rfl) ?_))
 refine .kh zJ (vg (n := (⟨cP.name, cP.aa, cP.cells.set (a % cP.cells.length) c, cP.ins, cP.a7, cP.streams, cP.aR, cP.data, cP.freeze, cP.done, cP.bE⟩ : ab)) hB) rfl (.ah rfl rfl .nil) ae ?_
 rintro _ ⟨Md, rfl, _⟩
 refine ⟨rfl, ?_⟩
 refine .jK rfl ae (.e6 rfl rfl ae (.vl (Y.qn rfl rfl rfl) ?_))
 refine .dy rfl ae (.sh (Sh.dg (d := 13) (Md.map ai) rfl jJ (cQ.map aE)) ?_)
 refine .an ?_
 refine .nil (.sr (.vl (Y.zb dD rfl rfl (aI rfl) rfl rfl) ?_))
 refine .kh Kx (AD (n := (⟨cP.name, cP.aa, cP.cells.set (a % cP.cells.length) c, cP.ins, cP.a7, cP.streams, cP.aR, cP.data, cP.freeze, cP.done, cP.bE⟩ : ab)) hB) rfl (.ah rfl rfl .nil) ae ?_
 rintro _ ⟨TH, TJ, rfl, _⟩
 refine ⟨rfl, ?_⟩
 refine .mv ?_
 refine .vl (Y.qn rfl rfl rfl) (.vl (Y.qn rfl rfl rfl) (.alloc 115 x7 rfl rfl ae ?_))
 refine .ak Cg rfl rfl rfl rfl rfl rfl (aI rfl) rfl ?_
 refine .an ?_
 refine .nil (.sr (.vl (Y.zb dD rfl rfl (aI rfl) rfl rfl) ?_))
 refine .kh Oc (AE (n := (⟨cP.name, cP.aa, cP.cells.set (a % cP.cells.length) c, cP.ins, cP.a7, cP.streams, cP.aR, cP.data, cP.freeze, cP.done, cP.bE⟩ : ab)) (p := 100) hB om) rfl (.ah rfl rfl (.ah rfl rfl .nil)) ae ?_
 rintro _ ⟨Me, rfl, _⟩
 refine ⟨rfl, ?_⟩
 refine .jK rfl ae (.e6 rfl rfl ae (.vl (Y.qn rfl rfl rfl) ?_))
 refine .dy rfl ae (.sh (Sh.dg (d := 17) (Me.map ai) rfl jJ (cQ.map aE)) ?_)
 refine .an ?_
 refine .nil (.sr ?_)
 refine .mv ?_
 refine .mv ?_
 refine .vl (Y.ql rfl rfl) ?_
 refine .mv ?_
 refine .ax (d := 96) rfl (fun Gn => ?_) (fun Gn => ?_)
 refine .gw 96 (Y.zg rfl rfl) (.gw 96 (Y.zg rfl rfl) (.gw 96 (Y.ql rfl rfl) ?_))
 refine .pk ?_
 refine .mv ?_
 refine .ax (d := 101) rfl (fun Fa => ?_) (fun Fa => ?_)
 refine .gw 101 (Y.zg rfl rfl) (.gw 101 (Y.zg rfl rfl) (.gw 101 (Y.ql rfl rfl) ?_))
 refine .pk ?_
 refine .an ?_
 refine .nil (.ret ?_)
 exact .rb rfl (by simp)
 exact absurd rfl Fa
 exact absurd rfl Gn
end Go.Proofs.Ytligpghohcfpnaa
