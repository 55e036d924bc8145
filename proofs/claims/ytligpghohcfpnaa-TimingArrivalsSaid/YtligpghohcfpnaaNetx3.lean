/- The walk of Slack. -/
import Derived.Test.YtligpghohcfpnaaNetx0
import Derived.Test.YtligpghohcfpnaaNetx1
import Derived.Test.YtligpghohcfpnaaNetx2
import Derived.Test.YtligpghohcfpnaaAWx2
import Derived.Test.YtligpghohcfpnaaAWx3
set_option linter.unusedSimpArgs false
set_option linter.unusedVariables false
set_option linter.unusedSectionVars false
set_option maxRecDepth 4000
set_option maxHeartbeats 8000000
namespace Go.Proofs.Ytligpghohcfpnaa
open Go Go.AW Go.Proofs
theorem ye {n : ab} {p : Int} (hM : VT n) (hp : -1000000 ≤ p ∧ p ≤ 1000000) : au Try.prog 48 [.agg (ab.row n), vi p] [] [] (fun r o => ∃ l at_ s : List Int, Ord n l ∧ vk n at_ ∧ SL n p at_ (oo n l) n.aa.length s ∧ r = .tup [.ei 1 (s.map ai), vi 0] ∧ o = []) := by
 refine au.ofM Try.func48 rfl rfl rfl (n := 137) ae (aI rfl) ?_
 have hs := hM.small; have hf := hM.formed; have Ct := hM.bR; have Gf := hM.b8; have sa := hM.ic; have tD := hM.iS; have HH := hM.bt; have FV := hf.cb; have IG := hf.dR; have Ha := hM.pY; have MB := hM.fit; have MC := hM.acyclic
 refine dT.ml (.region (.box 102 rfl rfl rfl rfl rfl ae ?_))
 refine .an ?_
 refine .an ?_
 refine .nil (dT.ml (.sh (Sh.cW 102 rfl rfl) ?_))
 refine .region (.vl (Y.zb dD rfl rfl (aI rfl) rfl rfl) (.kh zJ (jq (n := n) hM) rfl (.ah rfl rfl .nil) ae ?_))
 rintro _ ⟨Ta, pD, Pz, Io, rfl, _⟩
 refine ⟨rfl, ?_⟩
 refine .jK rfl ae (.e6 rfl rfl ae (.vl (Y.qn rfl rfl rfl) ?_))
 refine .dy rfl ae (.sh (Sh.dg (d := 6) (pD.map ai) rfl jJ (cQ.map aE)) ?_)
 refine .an ?_
 refine .nil (dT.ml (.sr ?_))
 refine .mv ?_
 refine .vl (Y.zk rfl rfl) (.nil (.bO rfl ?_))
 refine .skip (dT.ml (.region ?_))
 refine .fa bu ?_
 refine .ld aW ?_
 refine .vl (Y.qx (n := n.aa.length) az rfl cS) (.makeSlice (n := n.aa.length) az ey rfl rfl rfl rfl om om ae ?_)
 refine .alloc 108 zN rfl rfl ae (.sh (Sh.ep (d := 33) (n := n.aa.length) 133 ((List.replicate n.aa.length 0).map ai) rfl jJ (b5 (by simp)) ae) (.ak fm rfl rfl rfl rfl rfl rfl (aI rfl) rfl ?_))
 refine .nil (dT.ml (.sr ?_))
 refine .ld aW ?_
 refine .vl (Y.qx (n := n.aa.length) az rfl rfl) ?_
 refine .mv ?_
 refine .nil (.block ?_)
 refine .e0 (fun (nC : Nat) (rr : List Int) => ⟨[(1, vi p), (2, .fp (ab.row n) 0), (6, .fz 1 (pD.map ai)), (8, .ptr 108 0 0 0), (35, vi n.aa.length), (36, vi nC)], [(108, .cells [.ba 133 1 0 n.aa.length]), (133, .rows 1 (rr.map ai))]⟩) (fun nC rr => (rr.length = n.aa.length) ∧ ((nC : Int) ≤ (n.aa.length : Int)) ∧ (EI n nC rr)) (fun nC rr => ((n.aa.length : Int) - (nC : Int)).toNat) 0 (List.replicate n.aa.length 0) (⟨oS, oS, EI.init⟩) (Le.mk (.c4 (.c (.cons (aj rfl bf) .nil))) (.c (.c .nil))) (fun nC rr Lz => ?_)
 obtain ⟨LA, QP, hI⟩ := Lz
 refine .sr (.vl (Y.zc rfl rfl) (.nil ?_))
 refine .seq ?_
 refine .a8 rfl (fun P0 => ?_) (fun P0 => ?_)
 refine .skip (.seq (.block ?_))
 refine .sr ?_
 refine .mv ?_
 refine .an ?_
 refine .nil (.region ?_)
 refine .ld aW ?_
 refine .mv ?_
 refine .vl (Y.qt (m := nC) az rfl rfl bf om) (.dC ((rr.set nC (-1)).map ai) eQ rfl rfl rfl rfl rfl rfl rfl (aB (d := 0) om) (aI rfl) (ck rfl) ?_)
 refine .nil (.region ?_)
 refine .vl (Y.qb rfl rfl bw) ?_
 refine .mv ?_
 refine .nil (⟨nC + 1, rr.set nC (-1), ⟨oS, oS, hI.step om⟩, om, Le.mk (.c4 (.c (.cons (aj rfl bf) .nil))) (.c (.c .nil))⟩)
 refine .exit (dT.seq (dT.ml ?_))
 obtain rfl := hI.rep om
 refine .region (.vl (Y.zb dD rfl rfl (aI rfl) rfl rfl) (.aH K3 (um (n := n)) rfl (.ah rfl rfl .nil) ae rfl ?_))
 refine .nil (dT.block ?_)
 refine dT.rangeFunc (p1 := 45) (p2 := 46) [108, 133] (fun i => [(108, .cells [.ba 133 1 0 n.aa.length]), (133, .rows 1 ((jx (List.replicate n.aa.length (-1)) i).map ai))]) (fun x => x ∈ fL n) [(8, .ptr 108 0 0 0)] rfl FN (CP (n := n) hM) rfl ae ae ae (.c .nil) rfl (.c (.c .nil)) (fun _ => rfl) (fun i o ob h => by exact qJ (p := r9 [108, 133]) (by exact ⟨⟨trivial, trivial⟩, trivial, by simp, fun xs e q h => by cases e; simp [X.cG, X.dN] at h; simp [h]⟩) (by exact r9.rows (gR hZ _) (cQ.map aE)) h) (fun l i x P1 Gi => ?_) (fun y h => h) ?_
 have qR := (iH hf Gi).1; unfold In at qR; have ux := zZ (T := (List.replicate n.aa.length (-1))) (i := i); rw [List.length_replicate] at ux
 refine bc.seq (bc.region ?_)
 refine .an ?_
 refine .nil (bc.region ?_)
 refine .an ?_
 refine .nil (bc.block (bc.eU [108] [108, 133] rfl ?_))
 refine .load 0 rfl ao aW rfl rfl rfl rfl rfl ae (.blind 1 rfl ao (aw.move rfl rfl) ae (.load 2 rfl ao aW rfl rfl rfl rfl rfl ae ?_))
 refine .blind 3 rfl ao (aw.move rfl rfl) ae (.blind 4 rfl ao (aw.sC (m := (x.1).toNat) az rfl rfl om om) ae ?_)
 refine .blind 6 rfl ao (aw.move rfl rfl) ae (.AP rfl rfl (cq.cells rfl rfl rfl cq.nil) (.one 5 rfl ao ?_))
 refine .vl (Y.za aV rfl (aB (d := 0) om) rfl rfl) ?_
 refine .nil ⟨rfl, ?_⟩
 refine .one 7 rfl ao (.vl (Y.ze rfl rfl rfl) ?_)
 refine .nil ⟨rfl, ?_⟩
 refine .one 8 rfl ao (.vl (Y.qt (m := (x.1).toNat) az rfl rfl om om) ?_)
 refine .nil ⟨rfl, ?_⟩
 refine .one 9 rfl ao (.dC (((jx (List.replicate n.aa.length (-1)) i).set ((x.1).toNat) (if x.2 > ((jx (List.replicate n.aa.length (-1)) i).getD ((x.1).toNat) 0) then x.2 else ((jx (List.replicate n.aa.length (-1)) i).getD ((x.1).toNat) 0))).map ai) eQ rfl rfl rfl rfl rfl rfl rfl (aB (d := 0) om) (aI rfl) (ck rfl) ?_)
 refine .nil ⟨rfl, ?_⟩
 refine .done ao ?_
 refine ⟨rfl, ?_⟩
 show eM _ ([(108, .cells [.ba 133 1 0 n.aa.length]), (133, .rows 1 ((jx (List.replicate n.aa.length (-1)) (i ++ [x])).map ai))] : List (Nat × Go.AW.Obj))
 rw [s8]; exact .c (.c .nil)
 refine dT.ml (.region (.vl (Y.zb dD rfl rfl (aI rfl) rfl rfl) ?_))
 refine .kh Hk (oQ (n := n) hs om) rfl (.ah rfl rfl .nil) ae ?_
 rintro _ ⟨DA, Um, P2, rfl, _⟩
 refine ⟨rfl, ?_⟩
 refine .jK rfl ae (.e6 rfl rfl ae (.vl (Y.qn rfl rfl rfl) ?_))
 refine .dy rfl ae (.sh (Sh.dg (d := 12) (DA.map ai) rfl jJ (cQ.map aE)) ?_)
 refine .an ?_
 refine .nil (dT.seq (dT.ml ?_))
 obtain ⟨hO, QU⟩ := P2.ok hf MB MC; have wX := hO.len; have Ip := C6 hM hO
 refine .region ?_
 refine .mv ?_
 refine .aH Od (tw (l := DA)) rfl (.ah rfl rfl .nil) ae rfl (.nil (dT.block ?_))
 refine dT.rangeFunc (p1 := 63) (p2 := 64) [108, 133] (fun i => [(108, .cells [.ba 133 1 0 n.aa.length]), (133, .rows 1 ((mD n (Cy n) i).map ai))]) (fun x => 0 ≤ x.2 ∧ x.2 < n.cells.length) [(2, .fp (ab.row n) 0), (8, .ptr 108 0 0 0)] rfl KA (wy (l := DA) om) rfl ae ae ae (.c (.c .nil)) rfl (.c (.c .nil)) (fun _ => rfl) (fun i o ob h => by exact qJ (p := r9 [108, 133]) (by exact ⟨⟨trivial, trivial⟩, trivial, by simp, fun xs e q h => by cases e; simp [X.cG, X.dN] at h; simp [h]⟩) (by exact r9.rows (gR hZ _) (cQ.map aE)) h) (fun l i x P1 Gi => ?_) (fun y h => hO.og _ (Ab h)) ?_
 obtain ⟨QV, Ql⟩ := Gi; have hb := Ac hM Ip i P1; have ET := hb.len
 refine bc.region ?_
 refine .an ?_
 refine .nil (bc.block (bc.seq ?_))
 refine bc.region ?_
 refine .fa bL ?_
 refine .ld eT ?_
 refine .mv ?_
 refine .vl (Y.qs (m := (x.2).toNat) dr rfl rfl om (aq (d := default) om)) ?_
 refine .vl (Y.zb dS rfl rfl (aI rfl) rfl rfl) (.alloc 116 dM rfl rfl ae (.ak eE rfl rfl rfl rfl rfl rfl (aI rfl) rfl ?_))
 refine .nil (bc.seq (bc.seq ?_))
 have QW := hf.cells x.2.toNat om; have Tb := sa (n.cells.getD x.2.toNat default) (getD_in om)
 refine bc.region ?_
 refine .fa bP ?_
 refine .ld aV ?_
 refine .aH zH (jY (w := ((n.cells.getD ((x.2).toNat) default).kind))) rfl (.ah rfl rfl .nil) ae rfl (.vl (Y.zm rfl) ?_)
 refine .mv ?_
 refine .dP (d := 74) rfl (fun qH => ?_) (fun qH => ?_)
 refine .gz 74 (.gz 74 (.gz 74 ?_))
 refine .gz 74 (.gz 74 (.gz 74 ?_))
 refine .pk ?_
 refine .nil (bc.aM rfl (bc.exit ?_))
 refine ⟨rfl, ?_⟩
 show eM _ ([(108, .cells [.ba 133 1 0 n.aa.length]), (133, .rows 1 ((mD n (Cy n) (i ++ [x])).map ai))] : List (Nat × Go.AW.Obj))
 rw [kA]; (first | rw [qC bm] | rw [qD bm] | rw [qE qH om (show bY = _ by omega), ← hT]); exact .c (.c .nil)
 have Iq := QW.2.2.2 (fun e => by rw [e] at qH; revert qH; unfold bJ; omega); have Tc := Iq; unfold In at Tc
 refine .gw 74 (Y.za aW rfl rfl rfl rfl) (.gw 74 (Y.qp cN rfl rfl) (.gw 74 (Y.za aV rfl rfl rfl rfl) ?_))
 refine .gw 74 (Y.qt (m := ((n.cells.getD ((x.2).toNat) default).out).toNat) az rfl rfl bw bw) (.gw 74 (Y.za aV rfl (aB (d := 0) om) rfl rfl) (.gw 74 (Y.zc rfl rfl) ?_))
 refine .pk ?_
 refine .nil ?_
 refine bc.a8 rfl (fun Dz => ?_) (fun Dz => ?_)
 refine bc.exit ?_
 refine ⟨rfl, ?_⟩
 show eM _ ([(108, .cells [.ba 133 1 0 n.aa.length]), (133, .rows 1 ((mD n (Cy n) (i ++ [x])).map ai))] : List (Nat × Go.AW.Obj))
 rw [kA]; (first | rw [qC bm] | rw [qD bm] | rw [qE qH om (show bY = _ by omega), ← hT]); exact .c (.c .nil)
 refine bc.skip (bc.seq (bc.region ?_))
 refine .fa bF ?_
 refine .ld aW ?_
 refine .vl (Y.qx (n := ((n.cells.getD ((x.2).toNat) default).args).length) az rfl cS) ?_
 refine .mv ?_
 refine .nil (bc.block ?_)
 refine bc.e0 (fun (bY : Nat) (bZ : List Int) => ⟨[(2, .fp (ab.row n) 0), (8, .ptr 108 0 0 0), (16, .ptr 116 0 0 0), (83, .fz 1 (((n.cells.getD ((x.2).toNat) default).args).map ai)), (84, .v (.int .i64 ((((n.cells.getD ((x.2).toNat) default).args).length : Nat) : Int))), (85, .v (.int .i64 (bY : Int)))], [(108, .cells [.ba 133 1 0 n.aa.length]), (116, .cells [.v (.int .i64 ((n.cells.getD ((x.2).toNat) default).kind)), .v (.int .i64 ((n.cells.getD ((x.2).toNat) default).op)), .v (.int .i64 ((n.cells.getD ((x.2).toNat) default).out)), .fz 1 (((n.cells.getD ((x.2).toNat) default).args).map ai), .v (.int .u64 (((n.cells.getD ((x.2).toNat) default).num : Nat) : Int)), .v (.int .i64 ((n.cells.getD ((x.2).toNat) default).mem))]), (133, .rows 1 (bZ.map ai))]⟩) (fun bY bZ => (bZ.length = n.aa.length) ∧ ((bY : Int) ≤ ((((n.cells.getD ((x.2).toNat) default).args).length : Nat) : Int)) ∧ (bZ = jw n (n.cells.getD x.2.toNat default) (mD n (Cy n) i) ((n.cells.getD x.2.toNat default).args.take bY))) (fun bY bZ => (((((n.cells.getD ((x.2).toNat) default).args).length : Nat) : Int) - (bY : Int)).toNat) 0 (mD n (Cy n) i) (⟨om, om, rfl⟩) (Le.mk (.c4 (.c (.cons (aj rfl bf) .nil))) (.c2 (.c .nil))) (fun bY bZ CG => ?_)
 obtain ⟨LA, Ln, hT⟩ := CG
 refine bc.seq (bc.region (.vl (Y.zc rfl rfl) ?_))
 refine .nil (bc.seq ?_)
 refine bc.a8 rfl (fun Ih => ?_) (fun Ih => ?_)
 have Mn := QW.1 ((n.cells.getD x.2.toNat default).args.getD bY 0) (br om); have P3 := Mn; unfold In at P3; have rz := hb.jw hM Ip (i := x.2.toNat) om qH om ((n.cells.getD x.2.toNat default).args.take bY) (fun a h => List.mem_of_mem_take h); rw [← hT] at rz; have Dj := rz.1.lo _ Iq; have Q9 := rz.1.lo _ Mn; have Oz := Ip.le hM hO Iq; have Un := Ip.le hM hO Mn; have wK := hM.eJ (i := x.2.toNat) om; have Td := rz.1.len
 refine bc.skip (bc.seq (bc.block ?_))
 refine bc.seq (bc.region ?_)
 refine .vl (Y.qs (m := bY) az rfl rfl bf (aq (d := 0) om)) ?_
 refine .ld aV ?_
 refine .an ?_
 refine .nil ?_
 refine bc.ij [108, 116] [108, 116, 133] (⟨[(2, .fp (ab.row n) 0), (8, .ptr 108 0 0 0), (16, .ptr 116 0 0 0), (83, .fz 1 (((n.cells.getD ((x.2).toNat) default).args).map ai)), (84, .v (.int .i64 ((((n.cells.getD ((x.2).toNat) default).args).length : Nat) : Int))), (85, .v (.int .i64 (bY : Int)))], [(108, .cells [.ba 133 1 0 n.aa.length]), (116, .cells [.v (.int .i64 ((n.cells.getD ((x.2).toNat) default).kind)), .v (.int .i64 ((n.cells.getD ((x.2).toNat) default).op)), .v (.int .i64 ((n.cells.getD ((x.2).toNat) default).out)), .fz 1 (((n.cells.getD ((x.2).toNat) default).args).map ai), .v (.int .u64 (((n.cells.getD ((x.2).toNat) default).num : Nat) : Int)), .v (.int .i64 ((n.cells.getD ((x.2).toNat) default).mem))]), (133, .rows 1 ((bZ.set ((((n.cells.getD ((x.2).toNat) default).args).getD bY 0).toNat) (if ((bZ.getD (((n.cells.getD ((x.2).toNat) default).out).toNat) 0) + (eJ n (n.cells.getD ((x.2).toNat) default))) > (bZ.getD ((((n.cells.getD ((x.2).toNat) default).args).getD bY 0).toNat) 0) then ((bZ.getD (((n.cells.getD ((x.2).toNat) default).out).toNat) 0) + (eJ n (n.cells.getD ((x.2).toNat) default))) else (bZ.getD ((((n.cells.getD ((x.2).toNat) default).args).getD bY 0).toNat) 0))).map ai))]⟩) rfl ?_ ?_
 refine .load 0 rfl ao aW rfl rfl rfl rfl rfl ae (.blind 1 rfl ao (aw.move rfl rfl) ae (.load 2 rfl ao aW rfl rfl rfl rfl rfl ae ?_))
 refine .blind 3 rfl ao (aw.move rfl rfl) ae (.blind 4 rfl ao (aw.sC (m := (((n.cells.getD ((x.2).toNat) default).args).getD bY 0).toNat) az rfl rfl om om) ae ?_)
 refine .load 6 rfl ao aW rfl rfl rfl rfl rfl ae (.blind 7 rfl ao (aw.fieldAddr cN rfl rfl) ae (.load 8 rfl ao aV rfl rfl rfl rfl rfl ae ?_))
 refine .blind 9 rfl ao (aw.sC (m := ((n.cells.getD ((x.2).toNat) default).out).toNat) az rfl rfl om om) ae ?_
 refine .e8 11 rfl ao dD rfl rfl rfl (aI rfl) rfl rfl ae (.e8 12 rfl ao dS rfl rfl rfl (aI rfl) rfl rfl ae (.AP rfl rfl (cq.cells rfl rfl rfl (cq.cells rfl rfl rfl cq.nil)) ?_))
 refine .three 5 10 13 rfl rfl rfl ao ?_ ?_ ?_
 refine .vl (Y.za aV rfl (aB (d := 0) om) rfl rfl) ?_
 refine .nil ⟨rfl, ?_⟩
 refine .two 10 13 rfl rfl ao ?_ ?_
 refine .vl (Y.za aV rfl (aB (d := 0) om) rfl rfl) ?_
 refine .nil ⟨rfl, ?_⟩
 refine .one 13 rfl ao (.aH zI (jc (n := n) (c := (n.cells.getD ((x.2).toNat) default)) hf.p3 (hf.cells _ om) (sa _ (getD_in om)) om) rfl (.ah rfl rfl (.ah rfl rfl .nil)) ae rfl ?_)
 refine .nil ⟨rfl, ?_⟩
 refine .one 14 rfl ao (.vl (Y.qb rfl rfl bw) ?_)
 refine .nil ⟨rfl, ?_⟩
 refine .one 15 rfl ao (.vl (Y.ze rfl rfl rfl) ?_)
 refine .nil ⟨rfl, ?_⟩
 refine .one 16 rfl ao (.vl (Y.qt (m := (((n.cells.getD ((x.2).toNat) default).args).getD bY 0).toNat) az rfl rfl om om) ?_)
 refine .nil ⟨rfl, ?_⟩
 refine .one 17 rfl ao (.dC ((bZ.set ((((n.cells.getD ((x.2).toNat) default).args).getD bY 0).toNat) (if ((bZ.getD (((n.cells.getD ((x.2).toNat) default).out).toNat) 0) + (eJ n (n.cells.getD ((x.2).toNat) default))) > (bZ.getD ((((n.cells.getD ((x.2).toNat) default).args).getD bY 0).toNat) 0) then ((bZ.getD (((n.cells.getD ((x.2).toNat) default).out).toNat) 0) + (eJ n (n.cells.getD ((x.2).toNat) default))) else (bZ.getD ((((n.cells.getD ((x.2).toNat) default).args).getD bY 0).toNat) 0))).map ai) eQ rfl rfl rfl rfl rfl rfl rfl (aB (d := 0) om) (aI rfl) (ck rfl) ?_)
 refine .nil ⟨rfl, ?_⟩
 refine .done ao ?_
 exact Le.mk (.c4 (.c (.c .nil))) (.c2 (.c .nil))
 refine .aH zI (jc (n := n) (c := (n.cells.getD ((x.2).toNat) default)) hf.p3 (hf.cells _ om) (sa _ (getD_in om)) om) rfl (.ah rfl rfl (.ah rfl rfl .nil)) ae rfl ?_
 refine .nil ⟨rfl, ?_⟩
 refine .one 10 rfl ao (.vl (Y.za aV rfl (aB (d := 0) om) rfl rfl) ?_)
 refine .nil ⟨rfl, ?_⟩
 refine .one 14 rfl ao (.vl (Y.qb rfl rfl bw) ?_)
 refine .nil ⟨rfl, ?_⟩
 refine .one 15 rfl ao (.vl (Y.ze rfl rfl rfl) ?_)
 refine .nil ⟨rfl, ?_⟩
 refine .one 16 rfl ao (.vl (Y.qt (m := (((n.cells.getD ((x.2).toNat) default).args).getD bY 0).toNat) az rfl rfl om om) ?_)
 refine .nil ⟨rfl, ?_⟩
 refine .one 17 rfl ao (.dC ((bZ.set ((((n.cells.getD ((x.2).toNat) default).args).getD bY 0).toNat) (if ((bZ.getD (((n.cells.getD ((x.2).toNat) default).out).toNat) 0) + (eJ n (n.cells.getD ((x.2).toNat) default))) > (bZ.getD ((((n.cells.getD ((x.2).toNat) default).args).getD bY 0).toNat) 0) then ((bZ.getD (((n.cells.getD ((x.2).toNat) default).out).toNat) 0) + (eJ n (n.cells.getD ((x.2).toNat) default))) else (bZ.getD ((((n.cells.getD ((x.2).toNat) default).args).getD bY 0).toNat) 0))).map ai) eQ rfl rfl rfl rfl rfl rfl rfl (aB (d := 0) om) (aI rfl) (ck rfl) ?_)
 refine .nil ⟨rfl, ?_⟩
 refine .done ao ?_
 exact Le.mk (.c4 (.c (.c .nil))) (.c2 (.c .nil))
 refine .vl (Y.za aV rfl (aB (d := 0) om) rfl rfl) ?_
 refine .nil ⟨rfl, ?_⟩
 refine .two 5 13 rfl rfl ao ?_ ?_
 refine .vl (Y.za aV rfl (aB (d := 0) om) rfl rfl) ?_
 refine .nil ⟨rfl, ?_⟩
 refine .one 13 rfl ao (.aH zI (jc (n := n) (c := (n.cells.getD ((x.2).toNat) default)) hf.p3 (hf.cells _ om) (sa _ (getD_in om)) om) rfl (.ah rfl rfl (.ah rfl rfl .nil)) ae rfl ?_)
 refine .nil ⟨rfl, ?_⟩
 refine .one 14 rfl ao (.vl (Y.qb rfl rfl bw) ?_)
 refine .nil ⟨rfl, ?_⟩
 refine .one 15 rfl ao (.vl (Y.ze rfl rfl rfl) ?_)
 refine .nil ⟨rfl, ?_⟩
 refine .one 16 rfl ao (.vl (Y.qt (m := (((n.cells.getD ((x.2).toNat) default).args).getD bY 0).toNat) az rfl rfl om om) ?_)
 refine .nil ⟨rfl, ?_⟩
 refine .one 17 rfl ao (.dC ((bZ.set ((((n.cells.getD ((x.2).toNat) default).args).getD bY 0).toNat) (if ((bZ.getD (((n.cells.getD ((x.2).toNat) default).out).toNat) 0) + (eJ n (n.cells.getD ((x.2).toNat) default))) > (bZ.getD ((((n.cells.getD ((x.2).toNat) default).args).getD bY 0).toNat) 0) then ((bZ.getD (((n.cells.getD ((x.2).toNat) default).out).toNat) 0) + (eJ n (n.cells.getD ((x.2).toNat) default))) else (bZ.getD ((((n.cells.getD ((x.2).toNat) default).args).getD bY 0).toNat) 0))).map ai) eQ rfl rfl rfl rfl rfl rfl rfl (aB (d := 0) om) (aI rfl) (ck rfl) ?_)
 refine .nil ⟨rfl, ?_⟩
 refine .done ao ?_
 exact Le.mk (.c4 (.c (.c .nil))) (.c2 (.c .nil))
 refine .aH zI (jc (n := n) (c := (n.cells.getD ((x.2).toNat) default)) hf.p3 (hf.cells _ om) (sa _ (getD_in om)) om) rfl (.ah rfl rfl (.ah rfl rfl .nil)) ae rfl ?_
 refine .nil ⟨rfl, ?_⟩
 refine .blind 14 rfl ao (aw.C9 rfl rfl om) ae (.one 5 rfl ao (.vl (Y.za aV rfl (aB (d := 0) om) rfl rfl) ?_))
 refine .nil ⟨rfl, ?_⟩
 refine .one 15 rfl ao (.vl (Y.ze rfl rfl rfl) ?_)
 refine .nil ⟨rfl, ?_⟩
 refine .one 16 rfl ao (.vl (Y.qt (m := (((n.cells.getD ((x.2).toNat) default).args).getD bY 0).toNat) az rfl rfl om om) ?_)
 refine .nil ⟨rfl, ?_⟩
 refine .one 17 rfl ao (.dC ((bZ.set ((((n.cells.getD ((x.2).toNat) default).args).getD bY 0).toNat) (if ((bZ.getD (((n.cells.getD ((x.2).toNat) default).out).toNat) 0) + (eJ n (n.cells.getD ((x.2).toNat) default))) > (bZ.getD ((((n.cells.getD ((x.2).toNat) default).args).getD bY 0).toNat) 0) then ((bZ.getD (((n.cells.getD ((x.2).toNat) default).out).toNat) 0) + (eJ n (n.cells.getD ((x.2).toNat) default))) else (bZ.getD ((((n.cells.getD ((x.2).toNat) default).args).getD bY 0).toNat) 0))).map ai) eQ rfl rfl rfl rfl rfl rfl rfl (aB (d := 0) om) (aI rfl) (ck rfl) ?_)
 refine .nil ⟨rfl, ?_⟩
 refine .done ao ?_
 exact Le.mk (.c4 (.c (.c .nil))) (.c2 (.c .nil))
 refine .aH zI (jc (n := n) (c := (n.cells.getD ((x.2).toNat) default)) hf.p3 (hf.cells _ om) (sa _ (getD_in om)) om) rfl (.ah rfl rfl (.ah rfl rfl .nil)) ae rfl ?_
 refine .nil ⟨rfl, ?_⟩
 refine .two 5 10 rfl rfl ao ?_ ?_
 refine .vl (Y.za aV rfl (aB (d := 0) om) rfl rfl) ?_
 refine .nil ⟨rfl, ?_⟩
 refine .one 10 rfl ao (.vl (Y.za aV rfl (aB (d := 0) om) rfl rfl) ?_)
 refine .nil ⟨rfl, ?_⟩
 refine .one 14 rfl ao (.vl (Y.qb rfl rfl bw) ?_)
 refine .nil ⟨rfl, ?_⟩
 refine .one 15 rfl ao (.vl (Y.ze rfl rfl rfl) ?_)
 refine .nil ⟨rfl, ?_⟩
 refine .one 16 rfl ao (.vl (Y.qt (m := (((n.cells.getD ((x.2).toNat) default).args).getD bY 0).toNat) az rfl rfl om om) ?_)
 refine .nil ⟨rfl, ?_⟩
 refine .one 17 rfl ao (.dC ((bZ.set ((((n.cells.getD ((x.2).toNat) default).args).getD bY 0).toNat) (if ((bZ.getD (((n.cells.getD ((x.2).toNat) default).out).toNat) 0) + (eJ n (n.cells.getD ((x.2).toNat) default))) > (bZ.getD ((((n.cells.getD ((x.2).toNat) default).args).getD bY 0).toNat) 0) then ((bZ.getD (((n.cells.getD ((x.2).toNat) default).out).toNat) 0) + (eJ n (n.cells.getD ((x.2).toNat) default))) else (bZ.getD ((((n.cells.getD ((x.2).toNat) default).args).getD bY 0).toNat) 0))).map ai) eQ rfl rfl rfl rfl rfl rfl rfl (aB (d := 0) om) (aI rfl) (ck rfl) ?_)
 refine .nil ⟨rfl, ?_⟩
 refine .done ao ?_
 exact Le.mk (.c4 (.c (.c .nil))) (.c2 (.c .nil))
 refine .vl (Y.za aV rfl (aB (d := 0) om) rfl rfl) ?_
 refine .nil ⟨rfl, ?_⟩
 refine .blind 14 rfl ao (aw.C9 rfl rfl om) ae (.one 5 rfl ao (.vl (Y.za aV rfl (aB (d := 0) om) rfl rfl) ?_))
 refine .nil ⟨rfl, ?_⟩
 refine .one 15 rfl ao (.vl (Y.ze rfl rfl rfl) ?_)
 refine .nil ⟨rfl, ?_⟩
 refine .one 16 rfl ao (.vl (Y.qt (m := (((n.cells.getD ((x.2).toNat) default).args).getD bY 0).toNat) az rfl rfl om om) ?_)
 refine .nil ⟨rfl, ?_⟩
 refine .one 17 rfl ao (.dC ((bZ.set ((((n.cells.getD ((x.2).toNat) default).args).getD bY 0).toNat) (if ((bZ.getD (((n.cells.getD ((x.2).toNat) default).out).toNat) 0) + (eJ n (n.cells.getD ((x.2).toNat) default))) > (bZ.getD ((((n.cells.getD ((x.2).toNat) default).args).getD bY 0).toNat) 0) then ((bZ.getD (((n.cells.getD ((x.2).toNat) default).out).toNat) 0) + (eJ n (n.cells.getD ((x.2).toNat) default))) else (bZ.getD ((((n.cells.getD ((x.2).toNat) default).args).getD bY 0).toNat) 0))).map ai) eQ rfl rfl rfl rfl rfl rfl rfl (aB (d := 0) om) (aI rfl) (ck rfl) ?_)
 refine .nil ⟨rfl, ?_⟩
 refine .done ao ?_
 exact Le.mk (.c4 (.c (.c .nil))) (.c2 (.c .nil))
 refine bc.region (.vl (Y.qb rfl rfl bw) ?_)
 refine .mv ?_
 refine .nil (⟨bY + 1, bZ.set ((((n.cells.getD ((x.2).toNat) default).args).getD bY 0).toNat) (if ((bZ.getD (((n.cells.getD ((x.2).toNat) default).out).toNat) 0) + (eJ n (n.cells.getD ((x.2).toNat) default))) > (bZ.getD ((((n.cells.getD ((x.2).toNat) default).args).getD bY 0).toNat) 0) then ((bZ.getD (((n.cells.getD ((x.2).toNat) default).out).toNat) 0) + (eJ n (n.cells.getD ((x.2).toNat) default))) else (bZ.getD ((((n.cells.getD ((x.2).toNat) default).args).getD bY 0).toNat) 0)), ⟨oS, oS, by rw [Aa om, ← hT]; rfl⟩, om, Le.mk (.c4 (.c (.cons (aj rfl bf) .nil))) (.c2 (.c .nil))⟩)
 refine bc.exit ?_
 refine ⟨rfl, ?_⟩
 show eM _ ([(108, .cells [.ba 133 1 0 n.aa.length]), (133, .rows 1 ((mD n (Cy n) (i ++ [x])).map ai))] : List (Nat × Go.AW.Obj))
 rw [kA]; (first | rw [qC bm] | rw [qD bm] | rw [qE qH om (show bY = _ by omega), ← hT]); exact .c (.c .nil)
 refine dT.of (.seq ?_)
 have QB := Ip.cl.len; have BV := Io.len
 refine .region ?_
 refine .fa bu ?_
 refine .ld aW ?_
 refine .vl (Y.qx (n := n.aa.length) az rfl cS) (.makeSlice (n := n.aa.length) az ey rfl rfl rfl rfl om om ae ?_)
 refine .dy rfl ae (.sh (Sh.ep (d := 19) (n := n.aa.length) 119 ((List.replicate n.aa.length 0).map ai) rfl jJ (b5 (by simp)) ae) (.nil ?_))
 refine .seq (.sr ?_)
 refine .ld aW ?_
 refine .vl (Y.qx (n := n.aa.length) az rfl rfl) ?_
 refine .mv ?_
 refine .nil (.block ?_)
 refine .e0 (fun (dh : Nat) (gm : List Int) => ⟨[(1, vi p), (6, .fz 1 (pD.map ai)), (19, .ba 119 1 0 n.aa.length), (111, .ba 133 1 0 n.aa.length), (112, vi n.aa.length), (113, vi dh)], [(119, .rows 1 (gm.map ai)), (133, .rows 1 ((oo n DA).map ai))]⟩) (fun dh gm => (gm.length = n.aa.length) ∧ ((dh : Int) ≤ (n.aa.length : Int)) ∧ (SL n p pD (oo n DA) dh gm)) (fun dh gm => ((n.aa.length : Int) - (dh : Int)).toNat) 0 (List.replicate n.aa.length 0) (⟨oS, oS, SL.init⟩) (Le.mk (.c4 (.c (.cons (aj rfl bf) .nil))) (.c (.c .nil))) (fun dh gm Ia => ?_)
 obtain ⟨QX, OZ, hS⟩ := Ia
 refine .sr (.vl (Y.zc rfl rfl) (.nil ?_))
 refine .seq ?_
 refine .a8 rfl (fun vc => ?_) (fun vc => ?_)
 refine .skip ?_
 refine .fb (fun (kb : List Int) => ⟨[(1, vi p), (6, .fz 1 (pD.map ai)), (19, .ba 119 1 0 n.aa.length), (111, .ba 133 1 0 n.aa.length), (112, vi n.aa.length), (113, vi dh)], [(119, .rows 1 (kb.map ai)), (133, .rows 1 ((oo n DA).map ai))]⟩) (fun kb => (kb.length = n.aa.length) ∧ (SL n p pD (oo n DA) (dh + 1) kb)) ?_ (fun kb LC => ?_)
 refine .block (.sr ?_)
 refine .mv ?_
 refine .vl (Y.qt (m := dh) az rfl rfl bf om) (.vl (Y.za aV rfl (aB (d := 0) om) rfl rfl) ?_)
 refine .an ?_
 refine .an ?_
 refine .nil (.seq ?_)
 have CL : In (dh : Int) n.aa.length := (by unfold In; omega); have Te := Io.og hM Pz CL; have Dj := Ip.cl.lo _ CL; have Tf := Ip.le hM hO CL; rw [Int.toNat_natCast] at Te Dj Tf
 refine .region ?_
 refine .mv ?_
 refine .mv ?_
 refine .mv ?_
 refine .vl (Y.qt (m := dh) az rfl rfl bf om) (.dC ((gm.set dh p).map ai) eQ rfl rfl rfl rfl rfl rfl rfl (aB (d := 0) om) (aI rfl) (ck rfl) ?_)
 refine .nil (.sr ?_)
 refine .mv ?_
 refine .vl (Y.qq rfl rfl) (.nil ?_)
 refine .a8 rfl (fun qK => ?_) (fun qK => ?_)
 refine .region ?_
 refine .mv ?_
 refine .mv ?_
 refine .mv ?_
 refine .mv ?_
 refine .mv ?_
 refine .vl (Y.qs (m := dh) az rfl rfl bf (aq (d := 0) om)) ?_
 refine .ld aV ?_
 refine .vl (Y.zz rfl rfl bw) ?_
 refine .mv ?_
 refine .vl (Y.zz rfl rfl bw) (.vl (Y.qt (m := dh) az rfl rfl bf om) (.dC (((gm.set dh p).set dh ((p - (pD.getD dh 0)) - ((oo n DA).getD dh 0))).map ai) eQ rfl rfl rfl rfl rfl rfl rfl (aB (d := 0) bw) (aI rfl) (ck rfl) (.nil (⟨(gm.set dh p).set dh ((p - (pD.getD dh 0)) - ((oo n DA).getD dh 0)), ⟨oS, hS.step om (by rw [if_pos qK])⟩, Le.mk (.c4 (.c (.c .nil))) (.c (.c .nil))⟩))))
 refine .skip (⟨gm.set dh p, ⟨oS, hS.KS om qK⟩, Le.mk (.c4 (.c (.c .nil))) (.c (.c .nil))⟩)
 obtain ⟨Jd, L1⟩ := LC
 refine .region (.vl (Y.qb rfl rfl bw) ?_)
 refine .mv ?_
 refine .nil (⟨dh + 1, kb, ⟨om, om, L1⟩, om, Le.mk (.c4 (.c (.cons (aj rfl bf) .nil))) (.c (.c .nil))⟩)
 refine .exit (.sr ?_)
 refine .mv ?_
 refine .an ?_
 refine .sh (Sh.kX (d := 4) (o := 119) rfl rfl (b5 om) ae) ?_
 refine .an ?_
 refine .nil (.ret ?_)
 exact ⟨_, _, rfl, rfl, DA, pD, gm, hO, Io, (show dh = n.aa.length by omega) ▸ hS, rfl, rfl⟩
open Go Go.AW Go.Proofs
theorem mq {n : ab} (hM : VB n) (ew : fK n ≠ 0) : au Try.prog 46 [.agg (ab.row n)] [] [] (fun r o => r = .tup [.ei 1 (([] : List Int).map ai), vi (fK n)] ∧ o = []) := by
 refine au.of Try.func46 rfl rfl rfl (n := 67) ae (aI rfl) ?_
 have hs := hM.small; have Gf := hM.b8; have Ha := hM.pY
 refine .sr (.box 101 rfl rfl rfl rfl rfl ae ?_)
 refine .an ?_
 refine .an ?_
 refine .nil (.seq (.sh (Sh.cW 101 rfl rfl) ?_))
 refine .region (.vl (Y.zb dD rfl rfl (aI rfl) rfl rfl) (.kh Hk (oQ (n := n) hs om) rfl (.ah rfl rfl .nil) ae ?_))
 rintro _ ⟨iT, SU, Im, rfl, _⟩
 refine ⟨rfl, ?_⟩
 refine .jK rfl ae (.e6 rfl rfl ae (.vl (Y.qn rfl rfl rfl) ?_))
 refine .dy rfl ae (.sh (Sh.dg (d := 4) (iT.map ai) rfl jJ (cQ.map aE)) ?_)
 refine .an ?_
 refine .nil (.seq (.seq ?_))
 have P6 := Im.err
 refine .region ?_
 refine .mv ?_
 refine .vl (Y.zk rfl rfl) (.nil ?_)
 refine .a8 rfl (fun oq => ?_) (fun oq => ?_)
 refine .sr ?_
 refine .mv ?_
 refine .an ?_
 refine .an ?_
 refine .nil (.sh (Sh.z2 (d := 2) 1 rfl) (.ret ?_))
 exact ⟨_, _, rfl, rfl, by rw [P6]; rfl, rfl⟩
 exfalso; omega
theorem At {n : ab} (hM : VB n) (ew : fK n ≠ 0) : au Try.prog 43 [.agg (ab.row n)] [] [] (fun r o => r = .tup [.agg [vi 0, .fz 1 (([] : List Int).map ai)], vi (fK n)] ∧ o = []) := by
 refine au.ofM Try.func43 rfl rfl rfl (n := 93) ae (aI rfl) (dT.ml (.region ?_))
 refine .box 101 rfl rfl rfl rfl rfl ae (.alloc 102 x7 rfl rfl ae ?_)
 refine .an ?_
 refine .nil (dT.ml (.sh (Sh.cW 101 rfl rfl) ?_))
 refine .region (.vl (Y.zb dD rfl rfl (aI rfl) rfl rfl) (.aH zJ (mq (n := n) hM ew) rfl (.ah rfl rfl .nil) ae rfl ?_))
 refine .jK rfl ae (.e6 rfl rfl ae (.vl (Y.qn rfl rfl rfl) ?_))
 refine .alloc 104 zN rfl rfl ae (.sh (Sh.dg (d := 17) (([] : List Int).map ai) rfl jJ (cQ.map aE)) (.ak fm rfl rfl rfl rfl rfl rfl (aI rfl) rfl ?_))
 refine .an ?_
 refine .nil (dT.ml (.sr ?_))
 refine .mv ?_
 refine .vl (Y.zk rfl rfl) (.nil ?_)
 refine .a8 rfl (fun sA => ?_) (fun sA => ?_)
 refine .sr (.vl (Y.qh K6 x7 rfl rfl rfl) ?_)
 refine .mv ?_
 refine .ak Cg rfl rfl rfl rfl rfl rfl (aI rfl) rfl ?_
 refine .an ?_
 refine .sh (Sh.eC 102 302 1 1 rfl rfl rfl rfl ae) ?_
 refine .sh (Sh.ox 102 302 1 rfl rfl rfl (n := 0) rfl (fun _ h => by cases h) ae rfl rfl rfl) ?_
 refine .nil (.ret ?_)
 exact ⟨_, _, rfl, rfl, rfl, rfl⟩
 exfalso; omega
theorem Au {n : ab} {p : Int} (hM : VB n) (ew : fK n ≠ 0) : au Try.prog 48 [.agg (ab.row n), vi p] [] [] (fun r o => r = .tup [.ei 1 (([] : List Int).map ai), vi (fK n)] ∧ o = []) := by
 refine au.ofM Try.func48 rfl rfl rfl (n := 137) ae (aI rfl) (dT.ml (.region ?_))
 refine .box 102 rfl rfl rfl rfl rfl ae ?_
 refine .an ?_
 refine .an ?_
 refine .nil (dT.ml (.sh (Sh.cW 102 rfl rfl) ?_))
 refine .region (.vl (Y.zb dD rfl rfl (aI rfl) rfl rfl) (.aH zJ (mq (n := n) hM ew) rfl (.ah rfl rfl .nil) ae rfl ?_))
 refine .jK rfl ae (.e6 rfl rfl ae (.vl (Y.qn rfl rfl rfl) ?_))
 refine .dy rfl ae (.sh (Sh.dg (d := 6) (([] : List Int).map ai) rfl jJ (cQ.map aE)) ?_)
 refine .an ?_
 refine .nil (dT.ml (.sr ?_))
 refine .mv ?_
 refine .vl (Y.zk rfl rfl) (.nil ?_)
 refine .a8 rfl (fun tm => ?_) (fun tm => ?_)
 refine .sr ?_
 refine .mv ?_
 refine .an ?_
 refine .an ?_
 refine .nil (.sh (Sh.z2 (d := 4) 1 rfl) (.ret ?_))
 exact ⟨_, _, rfl, rfl, rfl, rfl⟩
 exfalso; omega
open Go Go.AW Go.Proofs
theorem tz {n : ab} (hM : VT n) : au Try.prog 81 [.agg (ab.row n)] [] [] (fun r o => ∃ cs : List Cell, zX n cs ∧ r = .ei 6 (cs.map Cell.row) ∧ o = []) := by
 refine au.of Try.func81 rfl rfl rfl (n := 27) ae (aI rfl) ?_
 have hs := hM.small; have hf := hM.formed; have Ct := hM.bR; have Gf := hM.b8; have sa := hM.ic; have tD := hM.iS; have HH := hM.bt; have FV := hf.cb; have IG := hf.dR
 refine .sr (.box 101 rfl rfl rfl rfl rfl ae ?_)
 refine .an ?_
 refine .nil (.seq (.sh (Sh.cW 101 rfl rfl) ?_))
 refine .region ?_
 refine .fa bu ?_
 refine .ld aW ?_
 refine .vl (Y.qx (n := n.aa.length) az rfl cS) (.makeSlice (n := n.aa.length) dr dM rfl rfl rfl rfl om om ae ?_)
 refine .sh (Sh.Th (d := 9) (z' := Cell.row (⟨0, 0, 0, [], 0, 0⟩ : Cell)) rfl rfl rfl (.same (.same (.same (.LG (.same (.same .nil))))))) (.dy rfl ae (.sh (Sh.ep (d := 3) (n := (List.replicate n.aa.length (⟨0, 0, 0, [], 0, 0⟩ : Cell)).length) 103 ((List.replicate n.aa.length (⟨0, 0, 0, [], 0, 0⟩ : Cell)).map Cell.row) rfl jJ (b5 rfl) ae) ?_))
 refine .nil (.seq (.sr ?_))
 refine .fa bL ?_
 refine .ld eT ?_
 refine .vl (Y.qx (n := n.cells.length) dr rfl cS) ?_
 refine .mv ?_
 refine .nil (.block ?_)
 refine .e0 (fun (jz : Nat) (ln : List Cell) => ⟨[(3, .ba 103 6 0 ((List.replicate n.aa.length (⟨0, 0, 0, [], 0, 0⟩ : Cell)).length)), (11, .fz 6 (n.cells.map Cell.row)), (12, vi n.cells.length), (13, vi jz)], [(103, .rows 6 (ln.map Cell.row))]⟩) (fun jz ln => (ln.length = (List.replicate n.aa.length (⟨0, 0, 0, [], 0, 0⟩ : Cell)).length) ∧ ((jz : Int) ≤ (n.cells.length : Int)) ∧ (l5 n jz ln)) (fun jz ln => ((n.cells.length : Int) - (jz : Int)).toNat) 0 (List.replicate n.aa.length (⟨0, 0, 0, [], 0, 0⟩ : Cell)) (⟨om, om, l5.init⟩) (Le.mk (.c2 (.c (.cons (aj rfl bf) .nil))) (.c .nil)) (fun jz ln uR => ?_)
 obtain ⟨mF, HL, hD⟩ := uR
 refine .sr (.vl (Y.zc rfl rfl) (.nil ?_))
 refine .seq ?_
 refine .a8 rfl (fun Af => ?_) (fun Af => ?_)
 refine .skip ?_
 refine .fb (fun (nU : List Cell) => ⟨[(3, .ba 103 6 0 ((List.replicate n.aa.length (⟨0, 0, 0, [], 0, 0⟩ : Cell)).length)), (11, .fz 6 (n.cells.map Cell.row)), (12, vi n.cells.length), (13, vi jz)], [(103, .rows 6 (nU.map Cell.row))]⟩) (fun nU => (nU.length = (List.replicate n.aa.length (⟨0, 0, 0, [], 0, 0⟩ : Cell)).length) ∧ (l5 n (jz + 1) nU)) ?_ (fun nU P7 => ?_)
 refine .block (.sr ?_)
 refine .vl (Y.qs (m := jz) dr rfl rfl bf (aq (d := default) om)) ?_
 refine .vl (Y.zb dS rfl rfl (aI rfl) rfl rfl) (.alloc 105 dM rfl rfl ae (.ak eE rfl rfl rfl rfl rfl rfl (aI rfl) rfl ?_))
 refine .nil (.seq ?_)
 have h5 := x8 hf (j := jz) om; have Uo := hD.len
 refine .region ?_
 refine .fa cN ?_
 refine .ld aV ?_
 refine .vl (Y.qq rfl rfl) (.nil ?_)
 refine .a8 rfl (fun oq => ?_) (fun oq => ?_)
 refine .region ?_
 refine .mv ?_
 refine .fa cN ?_
 refine .ld aV ?_
 refine .vl (Y.zb dS rfl rfl (aI rfl) rfl rfl) (.vl (Y.qt (m := ((n.cells.getD jz default).out).toNat) dr rfl rfl bw bw) (.dC ((ln.set (((n.cells.getD jz default).out).toNat) (n.cells.getD jz default)).map Cell.row) eE rfl rfl rfl rfl rfl rfl rfl (aB (d := default) bw) (aI rfl) (ck rfl) (.nil (⟨ln.set (((n.cells.getD jz default).out).toNat) (n.cells.getD jz default), ⟨oS, by first | exact hD.set hf om bm | exact hD.skip hf om bm⟩, Le.mk (.c2 (.c (.c .nil))) (.c .nil)⟩))))
 refine .skip (⟨ln, ⟨om, by first | exact hD.set hf om bm | exact hD.skip hf om bm⟩, Le.mk (.c2 (.c (.c .nil))) (.c .nil)⟩)
 obtain ⟨LI, KT⟩ := P7
 refine .region (.vl (Y.qb rfl rfl bw) ?_)
 refine .mv ?_
 refine .nil (⟨jz + 1, nU, ⟨om, om, KT⟩, om, Le.mk (.c2 (.c (.cons (aj rfl bf) .nil))) (.c .nil)⟩)
 refine .exit (.sr ?_)
 refine .mv ?_
 refine .an ?_
 refine .sh (Sh.kX (d := 2) (o := 103) rfl rfl (b5 om) ae) ?_
 refine .nil (.ret ?_)
 exact ⟨_, _, rfl, rfl, ln, hD.done om, rfl, rfl⟩
theorem vd {l : List Int} (hl : l.length ≤ 17592186043904) : au Try.prog 82 [.ba 0 1 0 l.length] [.rows 1 (l.map ai)] [0] (fun r o => r = .tup [] ∧ o = [.rows 1 (l.reverse.map ai)]) := by
 refine au.of Try.func82 rfl rfl rfl (n := 28) ae (aI rfl) (.sr ?_)
 refine .mv ?_
 refine .vl (Y.qx (n := l.length) az rfl rfl) (.vl (Y.zz rfl rfl bw) ?_)
 refine .an ?_
 refine .an ?_
 refine .nil (.block ?_)
 refine .jt (fun (pE : Int) (pF : Int) (yP : List Int) => ⟨[(0, .ba 0 1 0 l.length), (2, vi pE), (3, vi pF)], [(0, .rows 1 (yP.map ai))]⟩) (fun pE pF yP => (yP.length = l.length) ∧ (E8 l yP pE pF)) (fun pE pF yP => (pF - pE).toNat) 0 ((l.length : Int) - 1) l (⟨om, E8.init l⟩) (Le.mk (.c (.cons (aj rfl bf) (.cons (aj rfl bf) .nil))) (.c .nil)) (fun pE pF yP JD => ?_)
 obtain ⟨Qt, hR⟩ := JD
 refine .seq (.sr ?_)
 refine .mv ?_
 refine .mv ?_
 refine .vl (Y.zc rfl rfl) (.nil ?_)
 refine .a8 rfl (fun c9 => ?_) (fun c9 => ?_)
 refine .skip (.seq (.block ?_))
 have h3 := hR.sum; have Up := hR.i0; have Uq := hR.len
 refine .fN rfl (.blind 0 rfl ao (aw.move rfl rfl) ae (.blind 1 rfl ao (aw.move rfl rfl) ae ?_))
 refine .blind 2 rfl ao (aw.move rfl rfl) ae (.blind 3 rfl ao (aw.move rfl rfl) ae (.bT (n := 3) [4, 5, 6, 7, 8, 9, 10, 11, 12] [13, 14, 15] 13 rfl ao ?_))
 refine .cn 4 rfl (Y.zg rfl rfl) (.cn 5 rfl (Y.zg rfl rfl) ?_)
 refine .cn 6 rfl (Y.qt (m := (pF).toNat) az rfl rfl om om) (.cn 7 rfl (Y.za aV rfl (aB (d := 0) om) rfl rfl) ?_)
 refine .cn 8 rfl (Y.zg rfl rfl) (.cn 9 rfl (Y.zg rfl rfl) ?_)
 refine .cn 10 rfl (Y.qt (m := (pE).toNat) az rfl rfl om om) (.cn 11 rfl (Y.za aV rfl (aB (d := 0) om) rfl rfl) (.cn 12 rfl (Y.qt (m := (pE).toNat) az rfl rfl om om) ?_))
 refine .nil (.one 13 rfl ao ?_)
 refine .dC ((yP.set ((pE).toNat) (yP.getD ((pF).toNat) 0)).map ai) eQ rfl rfl rfl rfl rfl rfl rfl (aB (d := 0) om) (aI rfl) (ck rfl) ?_
 refine .nil ⟨rfl, ?_⟩
 refine .bT (n := 1) [14] [15] 15 rfl ao (.cn 14 rfl (Y.qt (m := (pF).toNat) az rfl rfl om om) ?_)
 refine .nil (.one 15 rfl ao ?_)
 refine .dC (((yP.set ((pE).toNat) (yP.getD ((pF).toNat) 0)).set ((pF).toNat) (yP.getD ((pE).toNat) 0)).map ai) eQ rfl rfl rfl rfl rfl rfl rfl (aB (d := 0) bw) (aI rfl) (ck rfl) ?_
 refine .nil ⟨rfl, ?_⟩
 refine .done ao (.region ?_)
 refine .mv ?_
 refine .vl (Y.qb rfl rfl bw) ?_
 refine .mv ?_
 refine .vl (Y.zz rfl rfl bw) ?_
 refine .an ?_
 refine .an ?_
 refine .nil (⟨pE + 1, pF - 1, (yP.set ((pE).toNat) (yP.getD ((pF).toNat) 0)).set ((pF).toNat) (yP.getD ((pE).toNat) 0), ⟨oS, hR.step bm⟩, om, Le.mk (.c (.cons (aj rfl bf) (.cons (aj rfl bf) .nil))) (.c .nil)⟩)
 refine .exit ⟨_, _, rfl, rfl, rfl, by rw [hR.done om]⟩
open Go Go.AW Go.Proofs
theorem sQ {n : ab} (hM : VT n) : au Try.prog 43 [.agg (ab.row n)] [] [] (fun r o => ∃ (at_ l st : List Int) (d : Int), Ord n l ∧ vk n at_ ∧ ua n at_ st d ∧ r = .tup [.agg [vi d, .fz 1 (st.map ai)], vi 0] ∧ o = []) := by
 refine au.ofM Try.func43 rfl rfl rfl (n := 93) ae (aI rfl) ?_
 have hs := hM.small; have hf := hM.formed; have Ct := hM.bR; have Gf := hM.b8; have sa := hM.ic; have tD := hM.iS; have HH := hM.bt; have FV := hf.cb; have IG := hf.dR
 refine dT.ml (.region (.box 101 rfl rfl rfl rfl rfl ae ?_))
 refine .alloc 102 x7 rfl rfl ae ?_
 refine .an ?_
 refine .nil (dT.ml (.sh (Sh.cW 101 rfl rfl) ?_))
 refine .region (.vl (Y.zb dD rfl rfl (aI rfl) rfl rfl) (.kh zJ (jq (n := n) hM) rfl (.ah rfl rfl .nil) ae ?_))
 rintro _ ⟨LJ, eB, Db, w6, rfl, _⟩
 refine ⟨rfl, ?_⟩
 refine .jK rfl ae (.e6 rfl rfl ae (.vl (Y.qn rfl rfl rfl) ?_))
 refine .alloc 104 zN rfl rfl ae (.sh (Sh.dg (d := 17) (eB.map ai) rfl jJ (cQ.map aE)) (.ak fm rfl rfl rfl rfl rfl rfl (aI rfl) rfl ?_))
 refine .an ?_
 refine .nil (dT.ml (.seq ?_))
 refine .sh (Sh.cW 104 rfl rfl) (.region ?_)
 refine .mv ?_
 refine .vl (Y.zk rfl rfl) (.nil (.bO rfl ?_))
 refine .skip (dT.ml (.region ?_))
 refine .vl (Y.qh K6 x7 rfl rfl rfl) (.alloc 106 x7 rfl rfl ae (.alloc 107 ey rfl rfl ae ?_))
 refine .ak Cg rfl rfl rfl rfl rfl rfl (aI rfl) rfl (.ak eQ rfl rfl rfl rfl rfl rfl (aI rfl) rfl (.nil ?_))
 refine dT.seq (dT.ml (.region ?_))
 refine .vl (Y.zb dD rfl rfl (aI rfl) rfl rfl) (.aH K3 (um (n := n)) rfl (.ah rfl rfl .nil) ae rfl (.nil ?_))
 refine dT.block ?_
 refine dT.rangeFunc (p1 := 26) (p2 := 27) [106, 107] (fun i => [(106, .cells [.v (.int .i64 ((gg eB i).1)), vn]), (107, .cells [.v (.int .i64 ((gg eB i).2))])]) (fun x => x ∈ fL n) [(4, .fp [.fz 1 (eB.map ai)] 0), (6, .ptr 106 0 0 0), (7, .ptr 107 0 0 0)] rfl FN (CP (n := n) hM) rfl ae ae ae (.c2 (.c .nil)) rfl (.c (.c .nil)) (fun _ => rfl) (fun i o ob h => by exact qJ (p := r9 [106, 107]) (by exact r9.cells (by exact ⟨trivial, trivial, trivial⟩) rfl) (by exact r9.cells (by exact ⟨trivial, trivial⟩) rfl) h) (fun l i x P1 Gi => ?_) (fun y h => h) ?_
 have qR := iH hf Gi; have Ur := w6.og hM Db qR.1; have JW := qR.1; have BV := w6.len; unfold In at JW
 refine bc.seq (bc.region ?_)
 refine .an ?_
 refine .nil (bc.region ?_)
 refine .an ?_
 refine .nil (bc.block (bc.seq ?_))
 refine bc.eU [106, 107] [106, 107] rfl (.load 0 rfl ao aV rfl rfl rfl rfl rfl ae (.blind 1 rfl ao (aw.lss rfl rfl) ae ?_))
 refine .blind 2 rfl ao (aw.move rfl rfl) ae ?_
 refine .ax (d := 30) rfl (fun rh => ?_) (fun rh => ?_)
 refine .aZ 3 rfl ao rfl ae ae rfl rfl (.aZ 4 rfl ao rfl ae ae rfl rfl (.aZ 5 rfl ao rfl ae ae rfl rfl ?_))
 refine .aZ 6 rfl ao rfl ae ae rfl rfl (.aZ 7 rfl ao rfl ae ae rfl rfl (.aZ 8 rfl ao rfl ae ae rfl rfl ?_))
 refine .aZ 9 rfl ao rfl ae ae rfl rfl (.aZ 10 rfl ao rfl ae ae rfl rfl (.aZ 11 rfl ao rfl ae ae rfl rfl ?_))
 refine .blind 12 rfl ao (aw.pick rfl rfl rfl) ae (.AP rfl rfl (cq.cells rfl rfl rfl (cq.cells rfl rfl rfl cq.nil)) (.done ao ?_))
 refine bc.aM rfl (bc.region ?_)
 refine .ld aW ?_
 refine .mv ?_
 refine .vl (Y.qs (m := (x.1).toNat) az rfl rfl om (aq (d := 0) om)) ?_
 refine .ld aV ?_
 refine .mv ?_
 refine .vl (Y.qb rfl rfl bw) ?_
 refine .mv ?_
 refine .fa uD ?_
 refine .ak eQ rfl rfl rfl rfl rfl rfl (aI rfl) rfl (.ak eQ rfl rfl rfl rfl rfl rfl (aI rfl) rfl (.nil ?_))
 have hs : gg eB (i ++ [x]) = ((eB.getD ((x.1).toNat) 0) + x.2, x.1) := by (rw [oG]; unfold Ez; rw [if_pos om])
 refine ⟨rfl, ?_⟩
 show eM _ ([(106, .cells [.v (.int .i64 ((gg eB (i ++ [x])).1)), vn]), (107, .cells [.v (.int .i64 ((gg eB (i ++ [x])).2))])] : List (Nat × Go.AW.Obj))
 rw [hs]; exact .c (.c .nil)
 refine .uS 3 rfl ao rfl ae rfl aW rfl rfl rfl rfl rfl ae (.dQ 4 rfl ao rfl ae rfl (aw.move rfl rfl) ae ?_)
 refine .dQ 5 rfl ao rfl ae rfl (aw.mc (m := (x.1).toNat) az rfl rfl om (aq (d := 0) om)) ae ?_
 refine .uS 6 rfl ao rfl ae rfl aV rfl rfl rfl rfl rfl ae (.dQ 7 rfl ao rfl ae rfl (aw.move rfl rfl) ae ?_)
 refine .dQ 8 rfl ao rfl ae rfl (aw.C9 rfl rfl om) ae ?_
 refine .dQ 9 rfl ao rfl ae rfl (aw.fieldAddr uD rfl rfl) ae (.uS 10 rfl ao rfl ae rfl aV rfl rfl rfl rfl rfl ae (.dQ 11 rfl ao rfl ae rfl (aw.gtr rfl rfl) ae ?_))
 refine .blind 12 rfl ao (aw.pick rfl rfl rfl) ae (.AP rfl rfl (cq.cells rfl rfl rfl (cq.cells rfl rfl rfl cq.nil)) (.done ao ?_))
 refine bc.a8 rfl (fun p7 => ?_) (fun p7 => ?_)
 refine bc.region ?_
 refine .ld aW ?_
 refine .mv ?_
 refine .vl (Y.qs (m := (x.1).toNat) az rfl rfl om (aq (d := 0) om)) ?_
 refine .ld aV ?_
 refine .mv ?_
 refine .vl (Y.qb rfl rfl bw) ?_
 refine .mv ?_
 refine .fa uD ?_
 refine .ak eQ rfl rfl rfl rfl rfl rfl (aI rfl) rfl (.ak eQ rfl rfl rfl rfl rfl rfl (aI rfl) rfl (.nil ?_))
 have hs : gg eB (i ++ [x]) = ((eB.getD ((x.1).toNat) 0) + x.2, x.1) := by (rw [oG]; unfold Ez; rw [if_pos om])
 refine ⟨rfl, ?_⟩
 show eM _ ([(106, .cells [.v (.int .i64 ((gg eB (i ++ [x])).1)), vn]), (107, .cells [.v (.int .i64 ((gg eB (i ++ [x])).2))])] : List (Nat × Go.AW.Obj))
 rw [hs]; exact .c (.c .nil)
 refine bc.skip ?_
 have hs : gg eB (i ++ [x]) = gg eB i := by (rw [oG]; unfold Ez; rw [if_neg om])
 refine ⟨rfl, ?_⟩
 show eM _ ([(106, .cells [.v (.int .i64 ((gg eB (i ++ [x])).1)), vn]), (107, .cells [.v (.int .i64 ((gg eB (i ++ [x])).2))])] : List (Nat × Go.AW.Obj))
 rw [hs]; exact .c (.c .nil)
 refine dT.of (.seq ?_)
 have hW := uL (at_ := eB) (L := fL n) (fun e h => (iH hf h).1.1)
 obtain ⟨e9, QZ, Lu⟩ := hW.some (List.ne_nil_of_mem (vV hf))
 have h9 := iH hf QZ; have Ti : (gg eB (fL n)).2 = e9.1 := by rw [Lu]
 have BV := w6.len
 refine .region (.vl (Y.zb dD rfl rfl (aI rfl) rfl rfl) (.kh NM (tz (n := n) hM) rfl (.ah rfl rfl .nil) ae ?_))
 rintro _ ⟨mQ, uq, rfl, _⟩
 refine ⟨rfl, ?_⟩
 refine .dy rfl ae (.sh (Sh.dg (d := 10) (mQ.map Cell.row) rfl jJ (cQ.map Cell.cg)) (.nil ?_))
 refine .fb (fun (lF : List Int) => ⟨[(2, .ptr 102 0 0 0), (6, .ptr 106 0 0 0)], [(102, .cells [vi 0, vn]), (106, .cells [vi ((gg eB (fL n)).1), .ba 301 1 0 lF.length]), (301, .rows 1 (lF.map ai))]⟩) (fun lF => PD n eB e9.1 lF) ?_ (fun lF LL => ?_)
 refine .block (.sh (Sh.eC 106 301 1 1 rfl rfl rfl rfl ae) ?_)
 refine .e0 (fun (bB : Int) (fG : List Int) => ⟨[(2, .ptr 102 0 0 0), (4, .fp [.fz 1 (eB.map ai)] 0), (6, .ptr 106 0 0 0), (7, .ptr 107 0 0 0), (10, .fz 6 (mQ.map Cell.row))], [(102, .cells [vi 0, vn]), (106, .cells [vi ((gg eB (fL n)).1), .ba 301 1 0 fG.length]), (107, .cells [vi bB]), (301, .rows 1 (fG.map ai))]⟩) (fun bB fG => (PP n LJ eB e9.1 fG bB)) (fun bB fG => n.cells.length + 1 - fG.length) ((gg eB (fL n)).2) ([] : List Int) (by (rw [Ti]; exact PP.init hf Db h9.1)) (Le.mk (.c4 (.c .nil)) (.c (.cons (aX rfl lq) (.cons (aX rfl lq) (.c .nil))))) (fun bB fG CF => ?_)
 have hP := CF
 refine .seq (.sr ?_)
 refine .ld aV ?_
 refine .vl (Y.qq rfl rfl) (.nil ?_)
 refine .a8 rfl (fun yO => ?_) (fun yO => ?_)
 refine .skip (.block (.seq ?_))
 have Us := hP.lt hf bm; have P8 := hP.Cq bm; unfold In at P8; have Tj := uq.len; have Dc := hP.args hf uq bm; have DC := hP.Oq hM uq bm
 refine .region ?_
 refine .fa uE ?_
 refine .ld aW ?_
 refine .ld aV ?_
 refine .buildSlice (([bB] : List Int).map ai) az ey rfl rfl rfl rfl rfl (aA (s := 1) (f := ai) (fun _ => rfl)) rfl rfl rfl ae ?_
 refine .dW ai (fG ++ ([bB] : List Int)) az ey rfl rfl rfl rfl (bK bw) (bq bw) (cD bw) bw bw ae ae ?_
 refine .fa uE ?_
 refine .ak fm rfl rfl rfl rfl rfl rfl (aI rfl) rfl (.nil (.sr ?_))
 refine .mv ?_
 refine .ld aV ?_
 refine .vl (Y.qs (m := (bB).toNat) dr rfl rfl om (aq (d := default) om)) ?_
 refine .vl (Y.zb dS rfl rfl (aI rfl) rfl rfl) (.alloc 111 dM rfl rfl ae (.ak eE rfl rfl rfl rfl rfl rfl (aI rfl) rfl ?_))
 refine .nil (.sr (.ak eQ rfl rfl rfl rfl rfl rfl (aI rfl) rfl ?_))
 refine .nil (.seq (.sr ?_))
 refine .fa bP ?_
 refine .ld aV ?_
 refine .aH zH (jY (w := ((mQ.getD ((bB).toNat) default).kind))) rfl (.ah rfl rfl .nil) ae rfl (.vl (Y.zm rfl) (.nil ?_))
 refine .dB rfl (fun LM => ?_) (fun LM => ?_)
 refine .exit ⟨fG ++ ([bB] : List Int), by first | exact hP.done om | exact hP.stop hf w6 uq bm bm, Le.mk (.c (.c .nil)) (.c (.cons (aX rfl lq) (.c .nil)))⟩
 refine .skip (.sr ?_)
 refine .fa bF ?_
 refine .ld aW ?_
 refine .vl (Y.qx (n := ((mQ.getD ((bB).toNat) default).args).length) az rfl cS) ?_
 refine .mv ?_
 refine .nil (.block ?_)
 refine .e0 (fun (g9 : Nat) (eh : Int) => ⟨[(2, .ptr 102 0 0 0), (4, .fp [.fz 1 (eB.map ai)] 0), (6, .ptr 106 0 0 0), (7, .ptr 107 0 0 0), (10, .fz 6 (mQ.map Cell.row)), (68, .fz 1 (((mQ.getD ((bB).toNat) default).args).map ai)), (69, vi ((((mQ.getD ((bB).toNat) default).args).length : Nat) : Int)), (70, vi g9)], [(102, .cells [vi 0, vn]), (106, .cells [vi ((gg eB (fL n)).1), .ba 301 1 0 ((fG ++ ([bB] : List Int)).length)]), (107, .cells [vi eh]), (301, .rows 1 ((fG ++ ([bB] : List Int)).map ai))]⟩) (fun g9 eh => ((g9 : Int) ≤ ((((mQ.getD ((bB).toNat) default).args).length : Nat) : Int)) ∧ (p5 eB ((mQ.getD bB.toNat default).args.take g9) eh)) (fun g9 eh => (((((mQ.getD ((bB).toNat) default).args).length : Nat) : Int) - (g9 : Int)).toNat) 0 (-1) (⟨om, p5.nil⟩) (Le.mk (.c4 (.c2 (.c (.cons (aj rfl bf) .nil)))) (.c2 (.cons (aX rfl lq) (.c .nil)))) (fun g9 eh CV => ?_)
 obtain ⟨Lw, hB⟩ := CV
 refine .sr (.vl (Y.zc rfl rfl) (.nil ?_))
 refine .seq ?_
 refine .a8 rfl (fun Je => ?_) (fun Je => ?_)
 refine .skip ?_
 refine .fb (fun (j0 : Int) => ⟨[(2, .ptr 102 0 0 0), (4, .fp [.fz 1 (eB.map ai)] 0), (6, .ptr 106 0 0 0), (7, .ptr 107 0 0 0), (10, .fz 6 (mQ.map Cell.row)), (68, .fz 1 (((mQ.getD ((bB).toNat) default).args).map ai)), (69, vi ((((mQ.getD ((bB).toNat) default).args).length : Nat) : Int)), (70, vi g9)], [(102, .cells [vi 0, vn]), (106, .cells [vi ((gg eB (fL n)).1), .ba 301 1 0 ((fG ++ ([bB] : List Int)).length)]), (107, .cells [vi j0]), (301, .rows 1 ((fG ++ ([bB] : List Int)).map ai))]⟩) (fun j0 => p5 eB ((mQ.getD bB.toNat default).args.take (g9 + 1)) j0) ?_ (fun j0 xZ => ?_)
 refine .block (.seq ?_)
 have Tk := Dc ((mQ.getD bB.toNat default).args.getD g9 0) (br om); unfold In at Tk; have Ut : eh < 0 ∨ (0 ≤ eh ∧ eh < (n.aa.length : Int)) := by (rcases Int.lt_or_le eh 0 with h | h; exact .inl h; exact .inr (Dc _ (hB.Cq h)))
 refine .region (.vl (Y.qs (m := g9) az rfl rfl bf (aq (d := 0) om)) ?_)
 refine .ld aV ?_
 refine .an ?_
 refine .nil (.seq (.fR rfl ao ?_))
 refine .val (Y.za aV rfl rfl rfl rfl) ae (.val (Y.zc rfl rfl) ae (.val (Y.zg rfl rfl) ae ?_))
 refine .ax (d := 76) rfl (fun Aq => ?_) (fun Aq => ?_)
 refine .al (d := 76) rfl ae ae rfl rfl (.al (d := 76) rfl ae ae rfl rfl (.al (d := 76) rfl ae ae rfl rfl ?_))
 refine .al (d := 76) rfl ae ae rfl rfl (.al (d := 76) rfl ae ae rfl rfl (.al (d := 76) rfl ae ae rfl rfl ?_))
 refine .al (d := 76) rfl ae ae rfl rfl (.al (d := 76) rfl ae ae rfl rfl (.al (d := 76) rfl ae ae rfl rfl ?_))
 refine .val (Y.zn rfl rfl rfl) ae (.nil (.aM rfl ?_))
 refine .region ?_
 refine .mv ?_
 refine .ak eQ rfl rfl rfl rfl rfl rfl (aI rfl) rfl (.nil ?_)
 exact ⟨((mQ.getD ((bB).toNat) default).args).getD g9 0, by first | exact hB.step om (fun x hx => (Dc x hx).1) om | exact hB.ah om om, Le.mk (.c4 (.c2 (.c (.c .nil)))) (.c2 (.cons (aX rfl lq) (.c .nil)))⟩
 refine .ar (d := 76) rfl ae rfl (.val (Y.za aW rfl rfl rfl rfl) ae (.ar (d := 76) rfl ae rfl ?_))
 refine .val (Y.zg rfl rfl) ae (.ar (d := 76) rfl ae rfl ?_)
 refine .val (Y.qs (m := (((mQ.getD ((bB).toNat) default).args).getD g9 0).toNat) az rfl rfl om (aq (d := 0) om)) ae ?_
 refine .ar (d := 76) rfl ae rfl (.val (Y.za aV rfl rfl rfl rfl) ae (.ar (d := 76) rfl ae rfl ?_))
 refine .val (Y.za aW rfl rfl rfl rfl) ae (.ar (d := 76) rfl ae rfl (.val (Y.za aV rfl rfl rfl rfl) ae ?_))
 refine .ar (d := 76) rfl ae rfl (.val (Y.qs (m := (eh).toNat) az rfl rfl om (aq (d := 0) om)) ae ?_)
 refine .ar (d := 76) rfl ae rfl (.val (Y.za aV rfl rfl rfl rfl) ae (.ar (d := 76) rfl ae rfl ?_))
 refine .val (Y.qr rfl rfl) ae (.val (Y.zn rfl rfl rfl) ae (.nil ?_))
 refine .a8 rfl (fun Ih => ?_) (fun Ih => ?_)
 refine .region ?_
 refine .mv ?_
 refine .ak eQ rfl rfl rfl rfl rfl rfl (aI rfl) rfl (.nil ?_)
 exact ⟨((mQ.getD ((bB).toNat) default).args).getD g9 0, by first | exact hB.step om (fun x hx => (Dc x hx).1) om | exact hB.ah om om, Le.mk (.c4 (.c2 (.c (.c .nil)))) (.c2 (.cons (aX rfl lq) (.c .nil)))⟩
 refine .skip ⟨eh, by first | exact hB.step om (fun x hx => (Dc x hx).1) om | exact hB.ah om om, Le.mk (.c4 (.c2 (.c (.c .nil)))) (.c2 (.cons (aX rfl lq) (.c .nil)))⟩
 refine .region (.vl (Y.qb rfl rfl bw) ?_)
 refine .mv ?_
 refine .nil (⟨g9 + 1, j0, ⟨om, xZ⟩, om, Le.mk (.c4 (.c2 (.c (.cons (aj rfl bf) .nil)))) (.c2 (.cons (aX rfl lq) (.c .nil)))⟩)
 refine .exit ⟨eh, fG ++ ([bB] : List Int), hP.go hf Db w6 (fun w hw => (w6.og hM Db hw).1) uq bm bm (k := g9) om hB, by (simp only [List.length_append, List.length_cons, List.length_nil]; omega), Le.mk (.c4 (.c .nil)) (.c (.cons (aX rfl lq) (.cons (aX rfl lq) (.c .nil))))⟩
 refine .exit ⟨fG, by first | exact hP.done om | exact hP.stop hf w6 uq bm bm, Le.mk (.c (.c .nil)) (.c (.cons (aX rfl lq) (.c .nil)))⟩
 refine .seq ?_
 have QE := LL.len
 refine .region ?_
 refine .fa uE ?_
 refine .ld aW ?_
 refine .Fv [301] [] NN (vd (l := lF) om) rfl (.named rfl rfl .nil) ⟨rfl, trivial⟩ rfl ae (fun _ h => by cases h) (fun _ h => by cases h) ae ae ?_
 rintro r bn ⟨rfl, rfl⟩ _
 refine ⟨⟨rfl, (by intro ob dm; simp only [List.mem_cons, List.not_mem_nil, or_false] at dm; rcases dm with rfl; rfl), .inl rfl⟩, ?_⟩
 refine .nil (.seq ?_)
 refine .sh (Sh.ox 106 301 1 rfl rfl rfl (b5 bw) (cQ.map aE) ae rfl rfl rfl) ?_
 refine .region (.vl (Y.zb NY rfl rfl (aI rfl) rfl rfl) (.ak Cg rfl rfl rfl rfl rfl rfl (aI rfl) rfl ?_))
 refine .an ?_
 refine .nil (.ret ?_)
 exact ⟨_, _, rfl, rfl, eB, LJ, _, _, Db, w6, LL.rev (a := e9.2) QZ (by rw [Lu]) hW.max, rfl, rfl⟩
open Go Go.AW Go.Proofs
theorem mr  : au Try.prog 40 [] [] [] (fun r o => r = .v (.bool true) ∧ o = []) := by
 refine au.of Try.func40 rfl rfl rfl (n := 28) ae (Nat.zero_le _) (.sr ?_)
 refine .an ?_
 refine .nil (.sr ?_)
 refine .buildSlice (([1, 1] : List Int).map ai) az ey rfl rfl rfl rfl rfl (aA (s := 1) (f := ai) (fun _ => rfl)) rfl rfl rfl ae ?_
 refine .buildSlice (([1, 0] : List Int).map ai) az ey rfl rfl rfl rfl rfl (aA (s := 1) (f := ai) (fun _ => rfl)) rfl rfl rfl ae ?_
 refine .sh (Sh.dg (d := 5) (([1, 0] : List Int).map ai) rfl jJ (cQ.map aE)) (.vl (Y.qh uG dM rfl rfl rfl) (.vl (Y.qh uG dM rfl rfl rfl) ?_))
 refine .sh (Sh.FC (d := 7) 1 3 rfl rfl) ?_
 refine .buildSlice (([(⟨4, 0, 0, ([1, 0] : List Int), 0, 0⟩ : Cell), (⟨1, 0, 1, ([] : List Int), 0, 0⟩ : Cell)] : List Cell).map Cell.row) dr dM rfl rfl rfl rfl rfl (aA (s := 6) (f := Cell.row) (fun _ => rfl)) rfl rfl rfl ae ?_
 refine .sh (Sh.dg (d := 8) (([(⟨4, 0, 0, ([1, 0] : List Int), 0, 0⟩ : Cell), (⟨1, 0, 1, ([] : List Int), 0, 0⟩ : Cell)] : List Cell).map Cell.row) rfl jJ (cQ.map Cell.cg)) (.sh (Sh.dg (d := 4) (([1, 1] : List Int).map ai) rfl jJ (cQ.map aE)) (.vl (Y.qh K5 zO rfl rfl rfl) ?_))
 refine .sh (Sh.FC (d := 9) 1 3 rfl rfl) (.sh (Sh.FC (d := 9) 5 4 rfl rfl) (.sh (Sh.FC (d := 9) 3 5 rfl rfl) ?_))
 refine .sh (Sh.FC (d := 9) 1 6 rfl rfl) (.sh (Sh.FC (d := 9) 1 7 rfl rfl) (.sh (Sh.FC (d := 9) 1 10 rfl rfl) ?_))
 refine .alloc 101 zO rfl rfl ae (.ak Ep rfl rfl rfl rfl rfl rfl (aI rfl) rfl (.nil ?_))
 refine .sr (.vl (Y.zb dD rfl rfl (aI rfl) rfl rfl) ?_)
 refine .kh Kx (sQ (n := (⟨ByteArray.empty, ([1, 1] : List Int), ([(⟨4, 0, 0, ([1, 0] : List Int), 0, 0⟩ : Cell), (⟨1, 0, 1, ([] : List Int), 0, 0⟩ : Cell)] : List Cell), ([] : List Int), ([] : List eu), ([] : List bI), ([] : List Int), ([] : List Int), 1, 0, ([] : List Int)⟩ : ab)) KM) rfl (.ah rfl rfl .nil) ae ?_
 rintro _ ⟨Rf, Tm, P9, Tn, To, PA, LN, rfl, _⟩
 refine ⟨rfl, ?_⟩
 refine .mv ?_
 refine .vl (Y.qn rfl rfl rfl) (.vl (Y.qn rfl rfl rfl) (.alloc 102 x7 rfl rfl ae ?_))
 refine .ak Cg rfl rfl rfl rfl rfl rfl (aI rfl) rfl ?_
 refine .an ?_
 refine .nil (.seq ?_)
 have hp := E9 PA LN
 refine .region ?_
 refine .mv ?_
 refine .vl (Y.ql rfl rfl) ?_
 refine .mv ?_
 refine .gw 17 (Y.qp uD rfl rfl) (.gw 17 (Y.za aV rfl rfl rfl rfl) (.gw 17 (Y.ql rfl rfl) ?_))
 refine .pk ?_
 refine .mv ?_
 refine .ax (d := 22) rfl (fun nY => ?_) (fun nY => ?_)
 refine .gw 22 (Y.qp uE rfl rfl) (.gw 22 (Y.za aW rfl rfl rfl rfl) (.gw 22 (Y.qx (n := P9.length) az rfl cS) ?_))
 refine .gw 22 (Y.ql rfl rfl) ?_
 refine .pk ?_
 refine .an ?_
 refine .nil (.ret ?_)
 exact .rb rfl (decide_eq_true om)
 refine .gz 22 (.gz 22 (.gz 22 ?_))
 refine .gz 22 ?_
 refine .pk ?_
 refine .an ?_
 refine .nil (.ret ?_)
 exact .rb rfl (absurd hp.1 nY)
open Go Go.AW Go.Proofs
end Go.Proofs.Ytligpghohcfpnaa
namespace Go.Proofs.Ytligpghohcfpnaa
open Go Go.AW Go.Proofs
theorem eY {k : Nat} : au Try.prog 53 [.v (.int .u8 (k : Int))] [] [] (fun r o => r = (vi (ay k)) ∧ o = []) := by
 refine au.of Try.func53 rfl rfl rfl (n := 8) ae (aI rfl) (.sr ?_)
 refine .an ?_
 refine .nil (.sr ?_)
 refine .buildSlice (([1, 2, 4, 7, 8, 13, 33, 64] : List Int).map ai) az ey rfl rfl rfl rfl rfl (aA (s := 1) (f := ai) (fun _ => rfl)) rfl rfl rfl ae ?_
 refine .mv ?_
 refine .vl (Y.zs rfl rfl bw) (.sh (Sh.dg (d := 3) (([1, 2, 4, 7, 8, 13, 33, 64] : List Int).map ai) rfl jJ (cQ.map aE)) (.vl (Y.qs (m := k % 8) az rfl rfl bf (aq (d := 0) bw)) ?_))
 refine .ld aV ?_
 refine .an ?_
 refine .nil (.ret ?_)
 exact .ri rfl (rfl)
theorem cj {n : ab} {w : Int} {k : Nat} (hn : n.aa.length ≤ 1048576) (hk : k < 256) : au Try.prog 56 [.agg (ab.ph n), vi w, .v (.int .u8 (k : Int))] [] [] (fun r o => r = (vi (aC n.aa w k)) ∧ o = []) := by
 refine au.of Try.func56 rfl rfl rfl (n := 38) ae (aI rfl) ?_
 have Dd := tS n.aa w
 refine .sr (.box 103 rfl rfl rfl rfl rfl ae ?_)
 refine .an ?_
 refine .nil (.sr ?_)
 refine .an ?_
 refine .sh (Sh.nil (d := 7) 107 1 rfl ae) (.nil (.seq ?_))
 refine .sr ?_
 refine .an ?_
 refine .nil (.block ?_)
 refine .e0 (fun (nD : Nat) (oR : List Int) => ⟨[(1, vi w), (2, .v (.int .u8 (k : Int))), (3, .ptr 103 0 0 0), (7, .ba 107 1 0 oR.length), (8, vi nD)], [(103, .cells (ab.ph n)), (107, .rows 1 (oR.map ai))]⟩) (fun nD oR => ((nD : Int) ≤ (n.aa.length : Int)) ∧ (oR = ib n.aa w nD)) (fun nD oR => ((n.aa.length : Int) - (nD : Int)).toNat) 0 ([] : List Int) (⟨oS, rfl⟩) (Le.mk (.c2 (.c (.cons (bV rfl bw) (.cons (aj rfl bf) .nil)))) (.c (.c .nil))) (fun nD oR uR => ?_)
 obtain ⟨HL, hl⟩ := uR
 refine .seq (.sr ?_)
 refine .mv ?_
 refine .fa bu ?_
 refine .ld aW ?_
 refine .vl (Y.qx (n := n.aa.length) az rfl cS) (.vl (Y.zc rfl rfl) (.nil ?_))
 refine .a8 rfl (fun wL => ?_) (fun wL => ?_)
 refine .skip ?_
 refine .fb (fun (qL : List Int) => ⟨[(1, vi w), (2, .v (.int .u8 (k : Int))), (3, .ptr 103 0 0 0), (7, .ba 107 1 0 qL.length), (8, vi nD)], [(103, .cells (ab.ph n)), (107, .rows 1 (qL.map ai))]⟩) (fun qL => qL = ib n.aa w (nD + 1)) ?_ (fun qL wM => ?_)
 refine .block (.seq ?_)
 have Is := Dd nD; rw [← hl] at Is
 refine .region ?_
 refine .fa bu ?_
 refine .ld aW ?_
 refine .mv ?_
 refine .vl (Y.qs (m := nD) az rfl rfl bf (aq (d := 0) om)) ?_
 refine .ld aV ?_
 refine .mv ?_
 refine .vl (Y.ql rfl rfl) (.nil ?_)
 refine .a8 rfl (fun nY => ?_) (fun nY => ?_)
 refine .region ?_
 refine .mv ?_
 refine .mv ?_
 refine .buildSlice (([(nD : Int)] : List Int).map ai) az ey rfl rfl rfl rfl rfl (aA (s := 1) (f := ai) (fun _ => rfl)) rfl rfl rfl ae ?_
 refine .dW ai (oR ++ ([(nD : Int)] : List Int)) az ey rfl rfl rfl rfl (bK bw) (bq bw) (cD bw) bw bw ae ae ?_
 refine .an ?_
 refine .nil ⟨oR ++ ([(nD : Int)] : List Int), by first | (rw [hl]; exact (nQ bm).symm) | exact hl.trans (pj bm).symm, Le.mk (.c2 (.c (.cons (bV rfl om) (.c .nil)))) (.c (.c .nil))⟩
 refine .skip ⟨oR, by first | (rw [hl]; exact (nQ bm).symm) | exact hl.trans (pj bm).symm, Le.mk (.c2 (.c (.cons (bV rfl om) (.c .nil)))) (.c (.c .nil))⟩
 refine .region ?_
 refine .mv ?_
 refine .vl (Y.qb rfl rfl bw) ?_
 refine .an ?_
 refine .nil (⟨nD + 1, qL, ⟨om, wM⟩, om, Le.mk (.c2 (.c (.cons (bV rfl om) (.cons (aj rfl bf) .nil)))) (.c (.c .nil))⟩)
 refine .exit (.seq (.seq ?_))
 have he : oR = ib n.aa w n.aa.length := by rw [hl, show nD = n.aa.length by omega]
 have Is := Dd nD; rw [← hl] at Is
 refine .region ?_
 refine .mv ?_
 refine .vl (Y.qx (n := oR.length) az rfl rfl) (.vl (Y.ql rfl rfl) (.nil ?_))
 refine .a8 rfl (fun CS => ?_) (fun CS => ?_)
 refine .sr ?_
 refine .an ?_
 refine .nil (.ret ?_)
 exact .ri rfl (by unfold aC; rw [← he, if_pos om])
 refine .skip (.seq ?_)
 have PC : k % oR.length < oR.length := Nat.mod_lt _ om
 refine .region ?_
 refine .mv ?_
 refine .mv ?_
 refine .vl (Y.qk tX q4 rfl wG) ?_
 refine .mv ?_
 refine .vl (Y.qx (n := oR.length) az rfl rfl) (.vl (Y.zs rfl rfl bw) (.vl (Y.qt (m := k % oR.length) az rfl rfl bf om) (.vl (Y.za aV rfl (aB (d := 0) om) rfl rfl) ?_)))
 refine .an ?_
 refine .nil (.ret ?_)
 exact .ri rfl (by unfold aC; rw [← he, if_neg om])
theorem jf {n : ab} {w : Int} {k : Nat} (hn : n.aa.length ≤ 1048576) (hk : k < 256) : au Try.prog 56 [.agg (ab.row n), vi w, .v (.int .u8 (k : Int))] [] [] (fun r o => r = (vi (aC n.aa w k)) ∧ o = []) := by
 refine au.of Try.func56 rfl rfl rfl (n := 38) ae (aI rfl) ?_
 have Dd := tS n.aa w
 refine .sr (.box 103 rfl rfl rfl rfl rfl ae ?_)
 refine .an ?_
 refine .nil (.sr ?_)
 refine .an ?_
 refine .sh (Sh.nil (d := 7) 107 1 rfl ae) (.nil (.seq ?_))
 refine .sr ?_
 refine .an ?_
 refine .nil (.block ?_)
 refine .e0 (fun (nD : Nat) (oR : List Int) => ⟨[(1, vi w), (2, .v (.int .u8 (k : Int))), (3, .ptr 103 0 0 0), (7, .ba 107 1 0 oR.length), (8, vi nD)], [(103, .cells (ab.row n)), (107, .rows 1 (oR.map ai))]⟩) (fun nD oR => ((nD : Int) ≤ (n.aa.length : Int)) ∧ (oR = ib n.aa w nD)) (fun nD oR => ((n.aa.length : Int) - (nD : Int)).toNat) 0 ([] : List Int) (⟨oS, rfl⟩) (Le.mk (.c2 (.c (.cons (bV rfl bw) (.cons (aj rfl bf) .nil)))) (.c (.c .nil))) (fun nD oR uR => ?_)
 obtain ⟨HL, hl⟩ := uR
 refine .seq (.sr ?_)
 refine .mv ?_
 refine .fa bu ?_
 refine .ld aW ?_
 refine .vl (Y.qx (n := n.aa.length) az rfl cS) (.vl (Y.zc rfl rfl) (.nil ?_))
 refine .a8 rfl (fun wL => ?_) (fun wL => ?_)
 refine .skip ?_
 refine .fb (fun (qL : List Int) => ⟨[(1, vi w), (2, .v (.int .u8 (k : Int))), (3, .ptr 103 0 0 0), (7, .ba 107 1 0 qL.length), (8, vi nD)], [(103, .cells (ab.row n)), (107, .rows 1 (qL.map ai))]⟩) (fun qL => qL = ib n.aa w (nD + 1)) ?_ (fun qL wM => ?_)
 refine .block (.seq ?_)
 have Is := Dd nD; rw [← hl] at Is
 refine .region ?_
 refine .fa bu ?_
 refine .ld aW ?_
 refine .mv ?_
 refine .vl (Y.qs (m := nD) az rfl rfl bf (aq (d := 0) om)) ?_
 refine .ld aV ?_
 refine .mv ?_
 refine .vl (Y.ql rfl rfl) (.nil ?_)
 refine .a8 rfl (fun nY => ?_) (fun nY => ?_)
 refine .region ?_
 refine .mv ?_
 refine .mv ?_
 refine .buildSlice (([(nD : Int)] : List Int).map ai) az ey rfl rfl rfl rfl rfl (aA (s := 1) (f := ai) (fun _ => rfl)) rfl rfl rfl ae ?_
 refine .dW ai (oR ++ ([(nD : Int)] : List Int)) az ey rfl rfl rfl rfl (bK bw) (bq bw) (cD bw) bw bw ae ae ?_
 refine .an ?_
 refine .nil ⟨oR ++ ([(nD : Int)] : List Int), by first | (rw [hl]; exact (nQ bm).symm) | exact hl.trans (pj bm).symm, Le.mk (.c2 (.c (.cons (bV rfl om) (.c .nil)))) (.c (.c .nil))⟩
 refine .skip ⟨oR, by first | (rw [hl]; exact (nQ bm).symm) | exact hl.trans (pj bm).symm, Le.mk (.c2 (.c (.cons (bV rfl om) (.c .nil)))) (.c (.c .nil))⟩
 refine .region ?_
 refine .mv ?_
 refine .vl (Y.qb rfl rfl bw) ?_
 refine .an ?_
 refine .nil (⟨nD + 1, qL, ⟨om, wM⟩, om, Le.mk (.c2 (.c (.cons (bV rfl om) (.cons (aj rfl bf) .nil)))) (.c (.c .nil))⟩)
 refine .exit (.seq (.seq ?_))
 have he : oR = ib n.aa w n.aa.length := by rw [hl, show nD = n.aa.length by omega]
 have Is := Dd nD; rw [← hl] at Is
 refine .region ?_
 refine .mv ?_
 refine .vl (Y.qx (n := oR.length) az rfl rfl) (.vl (Y.ql rfl rfl) (.nil ?_))
 refine .a8 rfl (fun CS => ?_) (fun CS => ?_)
 refine .sr ?_
 refine .an ?_
 refine .nil (.ret ?_)
 exact .ri rfl (by unfold aC; rw [← he, if_pos om])
 refine .skip (.seq ?_)
 have PC : k % oR.length < oR.length := Nat.mod_lt _ om
 refine .region ?_
 refine .mv ?_
 refine .mv ?_
 refine .vl (Y.qk tX q4 rfl wG) ?_
 refine .mv ?_
 refine .vl (Y.qx (n := oR.length) az rfl rfl) (.vl (Y.zs rfl rfl bw) (.vl (Y.qt (m := k % oR.length) az rfl rfl bf om) (.vl (Y.za aV rfl (aB (d := 0) om) rfl rfl) ?_)))
 refine .an ?_
 refine .nil (.ret ?_)
 exact .ri rfl (by unfold aC; rw [← he, if_neg om])
open Go Go.AW
theorem Av {l : List Int} {i : Nat} {v : Int} {f : Nat → Int} (hl : l.length = i) (h : ∀ j, j < i → l.getD j 0 = f j) (hv : v = f i) : ∀ j, j < i + 1 → (l ++ [v]).getD j 0 = f j := by
 intro j hj
 by_cases e : j < l.length
 ·rw [la e]; exact h j om
 ·rw [lb om, show j = i by omega, hl, Nat.sub_self]; exact hv
theorem fU (w : Int) (x : Nat) : kP w x = x ↔ x ≤ 2 ^ fO w - 1 := by
 have hp := ju (fO w) (by have := jl w; omega)
 have hl := y0 w x
 constructor
 ·intro h; omega
 ·intro h; exact Nat.mod_eq_of_lt om
theorem LO {n : ab} {c : Cell} (h : 0 ≤ c.out) : n.ow c = n.aa.getD c.out.toNat 0 := by unfold ab.ow ab.wd; rw [if_pos h]
theorem Fg {n : ab} {c : Cell} {i : Nat} (h : ∀ k, k < i → fj n c k) (h1 : fj n c i) (h2 : fj n c (i + 1)) : ∀ k, k < i + 2 → fj n c k := sm (sm h h1) h2
theorem ve {op a b d a' b' d' w : Int} (h0 : a = a') (h1 : op < 22 ∨ 24 < op → b = b') (h2 : op = 21 → d = d') : cp op a b d w ↔ cp op a' b' d' w := by
 subst h0
 unfold cp ga
 by_cases e : op = 21
 ·rw [h1 om, h2 e]
 ·by_cases e2 : op < 22 ∨ 24 < op
  ·rw [h1 e2]; omega
  ·omega
open Go Go.AW Go.Proofs
theorem nV {w : Int} : au Try.prog 121 [vi w] [] [] (fun r o => r = .v (.int .u64 ((2 ^ fO w - 1 : Nat) : Int)) ∧ o = []) := by
 refine au.of Try.func121 rfl rfl rfl (n := 15) ae (aI rfl) ?_
 have hl := jl w
 refine .sr ?_
 refine .an ?_
 refine .nil (.sr ?_)
 refine .an ?_
 refine .nil (.seq (.sr ?_))
 refine .an ?_
 refine .nil (.block ?_)
 refine .e0 (fun (nE : Nat) (dH : Nat) => ⟨[(0, vi w), (3, .v (.int .u64 (nE : Int))), (4, vi dH)], []⟩) (fun nE dH => ((dH : Int) ≤ ((fO w : Nat) : Int)) ∧ (nE = 2 ^ dH - 1)) (fun nE dH => (((fO w : Nat) : Int) - (dH : Int)).toNat) 0 0 (⟨om, rfl⟩) (Le.mk (.c (.cons (aj rfl bf) (.cons (aj rfl bf) .nil))) .nil) (fun nE dH uR => ?_)
 obtain ⟨HL, hx⟩ := uR
 refine .seq (.sr ?_)
 refine .mv ?_
 refine .mv ?_
 refine .aH FM (rj (w := w)) rfl (.ah rfl rfl .nil) ae rfl (.vl (Y.zc rfl rfl) (.nil ?_))
 refine .a8 rfl (fun c8 => ?_) (fun c8 => ?_)
 refine .skip (.seq (.block ?_))
 refine .region ?_
 refine .mv ?_
 refine .vl (Y.zj (a := 2) (b := nE) rfl rfl) (.vl (Y.qc (a := ((2 * nE) % 18446744073709551616)) (b := 1) rfl rfl) ?_)
 refine .an ?_
 refine .nil (.region ?_)
 refine .mv ?_
 refine .vl (Y.qb rfl rfl bw) ?_
 refine .an ?_
 refine .nil (⟨(((2 * nE) % 18446744073709551616) + 1) % 18446744073709551616, dH + 1, ⟨om, zB hx om⟩, om, Le.mk (.c (.cons (aj rfl bf) (.cons (aj rfl bf) .nil))) .nil⟩)
 refine .exit (.sr ?_)
 refine .mv ?_
 refine .an ?_
 refine .nil (.ret ?_)
 exact .ri rfl (by rw [hx, show dH = fO w by omega])
theorem Aw {w : Int} {x : Nat} (hx : x < 18446744073709551616) : au Try.prog 67 [vi w, .v (.int .u64 (x : Int))] [] [] (fun r o => r = .ei 1 ((iR (fO w) x).map ai) ∧ o = []) := by
 refine au.of Try.func67 rfl rfl rfl (n := 22) ae (aI rfl) ?_
 have hl := jl w
 refine .sr ?_
 refine .an ?_
 refine .nil (.sr ?_)
 refine .an ?_
 refine .sh (Sh.nil (d := 5) 105 1 rfl ae) (.nil (.seq ?_))
 refine .sr ?_
 refine .an ?_
 refine .nil (.block ?_)
 refine .jt (fun (rB : Nat) (jg : Nat) (kM : List Int) => ⟨[(0, vi w), (1, .v (.int .u64 (rB : Int))), (5, .ba 105 1 0 kM.length), (6, vi jg)], [(105, .rows 1 (kM.map ai))]⟩) (fun rB jg kM => ((jg : Int) ≤ ((fO w : Nat) : Int)) ∧ (kM.length = jg) ∧ (kM = iR jg x) ∧ (rB = x / 2 ^ jg) ∧ (rB < 18446744073709551616)) (fun rB jg kM => (((fO w : Nat) : Int) - (jg : Int)).toNat) x 0 ([] : List Int) (⟨oS, rfl, rfl, by simp, hx⟩) (Le.mk (.c (.cons (aj rfl bf) (.cons (bV rfl bw) (.cons (aj rfl bf) .nil)))) (.c .nil)) (fun rB jg kM uR => ?_)
 obtain ⟨HL, hlen, hb, hv, hm⟩ := uR
 refine .seq (.sr ?_)
 refine .mv ?_
 refine .mv ?_
 refine .aH FM (rj (w := w)) rfl (.ah rfl rfl .nil) ae rfl (.vl (Y.zc rfl rfl) (.nil ?_))
 refine .a8 rfl (fun EE => ?_) (fun EE => ?_)
 refine .skip (.seq (.block ?_))
 refine .sr ?_
 refine .mv ?_
 refine .mv ?_
 refine .vl (Y.zt (a := rB) (b := 2) rfl rfl om) (.vl (Y.qk xy q4 rfl wG) ?_)
 refine .buildSlice (([((rB % 2 : Nat) : Int)] : List Int).map ai) az ey rfl rfl rfl rfl rfl (aA (s := 1) (f := ai) (fun _ => rfl)) rfl rfl rfl ae ?_
 refine .dW ai (kM ++ ([((rB % 2 : Nat) : Int)] : List Int)) az ey rfl rfl rfl rfl (bK bw) (bq bw) (cD bw) bw bw ae ae ?_
 refine .an ?_
 refine .nil (.region ?_)
 refine .mv ?_
 refine .vl (Y.zq (a := rB) (b := 2) rfl rfl om) ?_
 refine .an ?_
 refine .nil (.region ?_)
 refine .mv ?_
 refine .vl (Y.qb rfl rfl bw) ?_
 refine .an ?_
 refine .nil (⟨rB / 2, jg + 1, kM ++ ([((rB % 2 : Nat) : Int)] : List Int), ⟨om, by simp; omega, by rw [hb, xl, hv], by rw [hv, Nat.div_div_eq_div_mul, Nat.pow_succ], om⟩, om, Le.mk (.c (.cons (aj rfl bf) (.cons (bV rfl om) (.cons (aj rfl bf) .nil)))) (.c .nil)⟩)
 refine .exit (.sr ?_)
 refine .mv ?_
 refine .an ?_
 refine .sh (Sh.kX (d := 4) (o := 105) rfl rfl (b5 om) ae) ?_
 refine .nil (.ret ?_)
 exact ⟨_, _, rfl, rfl, (Ml (fun (z0 : List Int) => X.ei 1 (z0.map ai)) (by rw [hb, show jg = fO w by omega] : kM = iR (fO w) x) : X.ei 1 (kM.map ai) = X.ei 1 ((iR (fO w) x).map ai)), rfl⟩
theorem Ax {l : List Int} (h1 : ∀ b ∈ l, 0 ≤ b ∧ b ≤ 1) (h2 : l.length ≤ 64) : au Try.prog 66 [.fz 1 (l.map ai)] [] [] (fun r o => r = .v (.int .u64 ((mA l : Nat) : Int)) ∧ o = []) := by
 refine au.of Try.func66 rfl rfl rfl (n := 21) ae (aI rfl) (.sr ?_)
 refine .an ?_
 refine .nil (.sr ?_)
 refine .an ?_
 refine .nil (.seq (.sr ?_))
 refine .mv ?_
 refine .vl (Y.qx (n := l.length) az rfl cS) (.vl (Y.zz rfl rfl bw) ?_)
 refine .an ?_
 refine .nil (.block ?_)
 refine .e0 (fun (nE : Nat) (dH : Int) => ⟨[(0, .fz 1 (l.map ai)), (3, .v (.int .u64 (nE : Int))), (4, vi dH)], []⟩) (fun nE dH => (-1 ≤ dH ∧ dH < (l.length : Int)) ∧ (nE = mA (l.drop (dH + 1).toNat))) (fun nE dH => (dH + 1).toNat) 0 ((l.length : Int) - 1) (⟨om, by rw [List.drop_eq_nil_of_le om]; rfl⟩) (Le.mk (.c (.cons (aj rfl bf) (.cons (aj rfl bf) .nil))) .nil) (fun nE dH uR => ?_)
 obtain ⟨hi, hx⟩ := uR
 refine .seq (.sr ?_)
 refine .mv ?_
 refine .vl (Y.qq rfl rfl) (.nil ?_)
 refine .a8 rfl (fun c9 => ?_) (fun c9 => ?_)
 refine .skip (.seq (.block ?_))
 refine .region ?_
 refine .mv ?_
 refine .vl (Y.zj (a := 2) (b := nE) rfl rfl) ?_
 refine .mv ?_
 refine .mv ?_
 refine .vl (Y.qs (m := (dH).toNat) az rfl rfl om (aq (d := 0) om)) ?_
 have hb := h1 _ (br (l := l) (i := dH.toNat) om)
 refine .ld aV ?_
 refine .vl (Y.qj q4 xy rfl (tO _ om)) (.vl (Y.qc (a := ((2 * nE) % 18446744073709551616)) (b := ((l.getD ((dH).toNat) 0).toNat)) rfl rfl) ?_)
 refine .an ?_
 refine .nil (.region ?_)
 refine .mv ?_
 refine .vl (Y.zz rfl rfl bw) ?_
 refine .an ?_
 refine .nil (⟨(((2 * nE) % 18446744073709551616) + ((l.getD ((dH).toNat) 0).toNat)) % 18446744073709551616, dH - 1, ⟨om, zA h1 h2 om hx⟩, om, Le.mk (.c (.cons (aj rfl bf) (.cons (aj rfl bf) .nil))) .nil⟩)
 refine .exit (.sr ?_)
 refine .mv ?_
 refine .an ?_
 refine .nil (.ret ?_)
 exact .ri rfl (by rw [hx, show (dH + 1).toNat = 0 by omega, List.drop_zero])
theorem ur {w : Int} {x : Nat} (hx : x < 18446744073709551616) : au Try.prog 26 [vi w, .v (.int .u64 (x : Int))] [] [] (fun r o => r = .v (.int .u64 ((kP w x : Nat) : Int)) ∧ o = []) := by
 refine au.of Try.func26 rfl rfl rfl (n := 9) ae (aI rfl) (.sr ?_)
 refine .an ?_
 refine .nil (.sr ?_)
 refine .mv ?_
 refine .mv ?_
 refine .aH NJ (Aw (w := w) (x := x) (om)) rfl (.ah rfl rfl (.ah rfl rfl .nil)) ae rfl ?_
 refine .sh (Sh.dg (d := 7) ((iR (fO w) x).map ai) rfl jJ (cQ.map aE)) (.aH NI (Ax (l := (iR (fO w) x)) (BF _ _) (by rw [z9]; exact jl _)) rfl (.ah rfl rfl .nil) ae rfl ?_)
 refine .an ?_
 refine .nil (.ret ?_)
 exact .ri rfl (by rw [xn]; rfl)
open Go Go.AW Go.Proofs
theorem lG {op w : Int} {a : List Int} (h1 : 1 ≤ a.length) (h2 : op < 22 ∨ 24 < op → 2 ≤ a.length) (h3 : op = 21 → 3 ≤ a.length) (ha : a.length ≤ 17592186043904) : au Try.prog 122 [vi op, .fz 1 (a.map ai), vi w] [] [] (fun r o => r = .v (.bool (decide (cp op (a.getD 0 0) (a.getD 1 0) (a.getD 2 0) w))) ∧ o = []) := by
 refine au.of Try.func122 rfl rfl rfl (n := 70) ae (aI rfl) (.sr ?_)
 refine .an ?_
 refine .nil (.seq (.block ?_))
 refine .sr ?_
 refine .mv ?_
 refine .vl (Y.ql rfl rfl) ?_
 refine .an ?_
 refine .nil ?_
 refine .a8 rfl (fun c7 => ?_) (fun c7 => ?_)
 refine .sr ?_
 refine .mv ?_
 refine .vl (Y.qs (m := 0) az rfl rfl bf (aq (d := 0) (by first | omega | (unfold Unary ga at *; omega)))) ?_
 refine .ld aV ?_
 refine .vl (Y.ql rfl rfl) ?_
 refine .mv ?_
 refine .ax (d := 14) rfl (fun Af => ?_) (fun Af => ?_)
 refine .gw 14 (Y.zg rfl rfl) (.gw 14 (Y.qs (m := 1) az rfl rfl bf (aq (d := 0) (by first | omega | (unfold Unary ga at *; omega)))) (.gw 14 (Y.za aV rfl rfl rfl rfl) ?_))
 refine .gw 14 (Y.zg rfl rfl) (.gw 14 (Y.ql rfl rfl) ?_)
 refine .pk ?_
 refine .mv ?_
 refine .ax (d := 21) rfl (fun xG => ?_) (fun xG => ?_)
 refine .gw 21 (Y.zg rfl rfl) (.gw 21 (Y.qs (m := 2) az rfl rfl bf (aq (d := 0) (by first | omega | (unfold Unary ga at *; omega)))) (.gw 21 (Y.za aV rfl rfl rfl rfl) ?_))
 refine .gw 21 (Y.zg rfl rfl) (.gw 21 (Y.ql rfl rfl) ?_)
 refine .pk ?_
 refine .an ?_
 refine .nil (.ret ?_)
 exact .rb rfl (dd (by unfold cp ga; (try unfold Unary at *); (try unfold ga at *); (first | omega | grind)))
 refine .gz 21 (.gz 21 (.gz 21 ?_))
 refine .gz 21 (.gz 21 ?_)
 refine .pk ?_
 refine .an ?_
 refine .nil (.ret ?_)
 exact .rb rfl (df (by unfold cp ga; (try unfold Unary at *); (try unfold ga at *); (first | omega | grind)))
 refine .gz 14 (.gz 14 (.gz 14 ?_))
 refine .gz 14 (.gz 14 ?_)
 refine .pk ?_
 refine .mv ?_
 refine .gz 21 (.gz 21 (.gz 21 ?_))
 refine .gz 21 (.gz 21 ?_)
 refine .pk ?_
 refine .an ?_
 refine .nil (.ret ?_)
 exact .rb rfl (df (by unfold cp ga; (try unfold Unary at *); (try unfold ga at *); (first | omega | grind)))
 refine .sr ?_
 refine .mv ?_
 refine .vl (Y.ql rfl rfl) ?_
 refine .an ?_
 refine .nil ?_
 refine .a8 rfl (fun tm => ?_) (fun tm => ?_)
 refine .sr ?_
 refine .mv ?_
 refine .vl (Y.qs (m := 0) az rfl rfl bf (aq (d := 0) (by first | omega | (unfold Unary ga at *; omega)))) ?_
 refine .ld aV ?_
 refine .mv ?_
 refine .vl (Y.qq rfl rfl) ?_
 refine .an ?_
 refine .nil (.ret ?_)
 exact .rb rfl (dd (by unfold cp ga; (try unfold Unary at *); (try unfold ga at *); (first | omega | grind)))
 refine .sr ?_
 refine .mv ?_
 refine .aH pw (fD (w := op)) rfl (.ah rfl rfl .nil) ae rfl ?_
 refine .an ?_
 refine .nil ?_
 refine .a8 rfl (fun uc => ?_) (fun uc => ?_)
 refine .sr ?_
 refine .mv ?_
 refine .vl (Y.qs (m := 0) az rfl rfl bf (aq (d := 0) (by first | omega | (unfold Unary ga at *; omega)))) ?_
 refine .ld aV ?_
 refine .mv ?_
 refine .vl (Y.qz rfl rfl) ?_
 refine .an ?_
 refine .nil (.ret ?_)
 exact .rb rfl (dd (by unfold cp ga; (try unfold Unary at *); (try unfold ga at *); (first | omega | grind)))
 refine .sr ?_
 refine .mv ?_
 refine .aH Hn (iI (w := op)) rfl (.ah rfl rfl .nil) ae rfl ?_
 refine .an ?_
 refine .nil ?_
 refine .a8 rfl (fun LP => ?_) (fun LP => ?_)
 refine .seq (.fR rfl ao (.val (Y.zg rfl rfl) ae ?_))
 refine .val (Y.qs (m := 0) az rfl rfl bf (aq (d := 0) (by first | omega | (unfold Unary ga at *; omega)))) ae (.val (Y.za aV rfl rfl rfl rfl) ae (.val (Y.zg rfl rfl) ae ?_))
 refine .val (Y.qs (m := 1) az rfl rfl bf (aq (d := 0) (by first | omega | (unfold Unary ga at *; omega)))) ae (.val (Y.za aV rfl rfl rfl rfl) ae (.val (Y.ql rfl rfl) ae ?_))
 refine .val (Y.zg rfl rfl) ae ?_
 refine .ax (d := 54) rfl (fun Dy => ?_) (fun Dy => ?_)
 refine .ar (d := 54) rfl ae rfl (.val (Y.zg rfl rfl) ae (.ar (d := 54) rfl ae rfl ?_))
 refine .val (Y.ql rfl rfl) ae (.val (Y.zn rfl rfl rfl) ae (.val (Y.qf rfl rfl) ae ?_))
 refine .nil (.ret ?_)
 exact .rb rfl (dd (by unfold cp ga; (try unfold Unary at *); (try unfold ga at *); (first | omega | grind)))
 refine .al (d := 54) rfl ae ae rfl rfl (.al (d := 54) rfl ae ae rfl rfl (.val (Y.zn rfl rfl rfl) ae ?_))
 refine .val (Y.qf rfl rfl) ae (.nil (.ret ?_))
 exact .rb rfl (df (by unfold cp ga; (try unfold Unary at *); (try unfold ga at *); (first | omega | grind)))
 refine .skip (.sr ?_)
 refine .mv ?_
 refine .vl (Y.qs (m := 0) az rfl rfl bf (aq (d := 0) (by first | omega | (unfold Unary ga at *; omega)))) ?_
 refine .ld aV ?_
 refine .mv ?_
 refine .vl (Y.ql rfl rfl) ?_
 refine .mv ?_
 refine .ax (d := 63) rfl (fun tc => ?_) (fun tc => ?_)
 refine .gw 63 (Y.zg rfl rfl) (.gw 63 (Y.qs (m := 1) az rfl rfl bf (aq (d := 0) (by first | omega | (unfold Unary ga at *; omega)))) (.gw 63 (Y.za aV rfl rfl rfl rfl) ?_))
 refine .gw 63 (Y.zg rfl rfl) (.gw 63 (Y.ql rfl rfl) ?_)
 refine .pk ?_
 refine .an ?_
 refine .nil (.ret ?_)
 exact .rb rfl (dd (by unfold cp ga; (try unfold Unary at *); (try unfold ga at *); (first | omega | grind)))
 refine .gz 63 (.gz 63 (.gz 63 ?_))
 refine .gz 63 (.gz 63 ?_)
 refine .pk ?_
 refine .an ?_
 refine .nil (.ret ?_)
 exact .rb rfl (df (by unfold cp ga; (try unfold Unary at *); (try unfold ga at *); (first | omega | grind)))
theorem w7 {n : ab} {op out mem : Int} {args : List Int} {num : Nat} (hs : n.Small) (hc : args.length ≤ 17592186043904) (hn : num < 18446744073709551616) {kind : Int} (qG : Shaped n (⟨kind, op, out, args, num, mem⟩ : Cell)) (hw : tQ n (⟨kind, op, out, args, num, mem⟩ : Cell)) : au Try.prog 89 [.agg (ab.row n), .agg [vi kind, vi op, vi out, .fz 1 (args.map ai), .v (.int .u64 (num : Int)), vi mem]] [] [] (fun r o => r = .v (.bool (decide (Fits n (⟨kind, op, out, args, num, mem⟩ : Cell)))) ∧ o = []) := by
 refine au.of Try.func89 rfl rfl rfl (n := 155) ae (aI rfl) ?_
 have EY := hs.ins; have EZ := hs.a7; have Gm := hs.streams; have IN := hs.aa; have Tp := qG.kind; simp only at Tp
 refine .sr (.box 102 rfl rfl rfl rfl rfl ae (.box 103 rfl rfl rfl rfl rfl ae ?_))
 refine .an ?_
 refine .nil (.sr ?_)
 refine .an ?_
 refine .sh (Sh.nil (d := 5) 105 1 rfl ae) (.nil (.seq ?_))
 refine .sr ?_
 refine .an ?_
 refine .nil (.block ?_)
 refine .e0 (fun (jg : Nat) (mw : List Int) => ⟨[(2, .ptr 102 0 0 0), (3, .ptr 103 0 0 0), (5, .ba 105 1 0 mw.length), (6, vi jg)], [(102, .cells (ab.row n)), (103, .cells [vi kind, vi op, vi out, .fz 1 (args.map ai), .v (.int .u64 (num : Int)), vi mem]), (105, .rows 1 (mw.map ai))]⟩) (fun jg mw => ((jg : Int) ≤ (args.length : Int)) ∧ (mw.length = jg) ∧ (∀ j, j < jg → mw.getD j 0 = n.av (⟨kind, op, out, args, num, mem⟩ : Cell) j)) (fun jg mw => ((args.length : Int) - (jg : Int)).toNat) 0 ([] : List Int) (⟨oS, rfl, fun j hj => by omega⟩) (Le.mk (.c2 (.cons (bV rfl bw) (.cons (aj rfl bf) .nil))) (.c2 (.c .nil))) (fun jg mw uR => ?_)
 obtain ⟨HL, BV, ha⟩ := uR
 refine .seq (.sr ?_)
 refine .mv ?_
 refine .fa bF ?_
 refine .ld aW ?_
 refine .vl (Y.qx (n := args.length) az rfl cS) (.vl (Y.zc rfl rfl) (.nil ?_))
 refine .a8 rfl (fun wL => ?_) (fun wL => ?_)
 refine .skip (.seq (.block ?_))
 have HC := hw.arg (k := jg) (by show _ < args.length; omega)
 simp only at HC
 refine .fN rfl (.blind 0 rfl ao (aw.move rfl rfl) ae (.bT (n := 3) [1, 2, 3, 4, 5, 6, 7, 8, 9] [10, 11, 12] 10 rfl ao ?_))
 refine .cn 1 rfl (Y.qp bu rfl rfl) (.cn 2 rfl (Y.za aW rfl rfl rfl rfl) (.cn 3 rfl (Y.qp bF rfl rfl) ?_))
 refine .cn 4 rfl (Y.za aW rfl rfl rfl rfl) (.cn 5 rfl (Y.zg rfl rfl) ?_)
 refine .cn 6 rfl (Y.qs (m := jg) az rfl rfl bf (aq (d := 0) om)) (.cn 7 rfl (Y.za aV rfl rfl rfl rfl) (.cn 8 rfl (Y.qs (m := (args.getD jg 0).toNat) az rfl rfl om (aq (d := 0) om)) ?_))
 refine .cn 9 rfl (Y.za aV rfl rfl rfl rfl) (.nil (.one 10 rfl ao ?_))
 refine .buildSlice (([n.aa.getD ((args.getD jg 0).toNat) 0] : List Int).map ai) az ey rfl rfl rfl rfl rfl (aA (s := 1) (f := ai) (fun _ => rfl)) rfl rfl rfl ae ?_
 refine .nil ⟨rfl, ?_⟩
 refine .one 11 rfl ao (.dW ai (mw ++ ([n.aa.getD ((args.getD jg 0).toNat) 0] : List Int)) az ey rfl rfl rfl rfl (bK bw) (bq bw) (cD bw) bw bw ae ae ?_)
 refine .nil ⟨rfl, ?_⟩
 refine .bT (n := 0) [12] [] 0 rfl ao (.cn 12 rfl (Y.qf rfl rfl) (.nil ?_))
 refine .done ao (.region ?_)
 refine .mv ?_
 refine .vl (Y.qb rfl rfl bw) ?_
 refine .an ?_
 refine .nil (⟨jg + 1, mw ++ ([n.aa.getD ((args.getD jg 0).toNat) 0] : List Int), ⟨om, by rw [List.length_append, BV]; rfl, Av BV ha rfl⟩, om, Le.mk (.c2 (.cons (bV rfl om) (.cons (aj rfl bf) .nil))) (.c2 (.c .nil))⟩)
 refine .exit (.seq (.seq ?_))
 have QQ : 0 < args.length → mw.getD 0 0 = n.av (⟨kind, op, out, args, num, mem⟩ : Cell) 0 := fun h => ha 0 om
 have IQ : 1 < args.length → mw.getD 1 0 = n.av (⟨kind, op, out, args, num, mem⟩ : Cell) 1 := fun h => ha 1 om
 have QR : 2 < args.length → mw.getD 2 0 = n.av (⟨kind, op, out, args, num, mem⟩ : Cell) 2 := fun h => ha 2 om
 refine .region ?_
 refine .fa bP ?_
 refine .ld aV ?_
 refine .vl (Y.ql rfl rfl) (.nil ?_)
 refine .a8 rfl (fun rh => ?_) (fun rh => ?_)
 have hk := qG.k7 rh; simp only at hk
 refine .seq (.fR rfl ao (.val (Y.zg rfl rfl) ae ?_))
 refine .val (Y.qt (m := 0) az rfl rfl bf om) ae (.val (Y.za aV rfl (aB (d := 0) om) rfl rfl) ae ?_)
 refine .val (Y.ql rfl rfl) ae (.val (Y.zg rfl rfl) ae ?_)
 refine .ax (d := 35) rfl (fun r6 => ?_) (fun r6 => ?_)
 refine .ar (d := 35) rfl ae rfl (.val (Y.zg rfl rfl) ae (.ar (d := 35) rfl ae rfl ?_))
 refine .val (Y.qt (m := 2) az rfl rfl bf om) ae (.ar (d := 35) rfl ae rfl (.val (Y.za aV rfl (aB (d := 0) om) rfl rfl) ae ?_))
 refine .ar (d := 35) rfl ae rfl (.val (Y.qp ef rfl rfl) ae (.ar (d := 35) rfl ae rfl ?_))
 refine .val (Y.za jS rfl rfl rfl rfl) ae (.ar (d := 35) rfl ae rfl (.val (Y.qp bU rfl rfl) ae ?_))
 refine .ar (d := 35) rfl ae rfl (.val (Y.za aV rfl rfl rfl rfl) ae (.ar (d := 35) rfl ae rfl ?_))
 refine .val (Y.qs (m := (mem).toNat) iG rfl rfl om (aq (d := default) om)) ae ?_
 refine .ar (d := 35) rfl ae rfl (.val (Y.qp nw rfl rfl) ae (.ar (d := 35) rfl ae rfl ?_))
 refine .val (Y.za aV rfl rfl rfl rfl) ae (.ar (d := 35) rfl ae rfl (.val (Y.ql rfl rfl) ae ?_))
 refine .val (Y.zn rfl rfl rfl) ae (.val (Y.qf rfl rfl) ae (.nil ?_))
 refine .ret (.rb rfl (dd (by subst_vars; simp only [Fits, cp, ga, fU, Int.reduceEq, Bool.not_eq_true, false_and, true_and, and_true, and_false, or_false, false_or, ne_eq] <;> (first | omega | grind))))
 refine .al (d := 35) rfl ae ae rfl rfl (.al (d := 35) rfl ae ae rfl rfl (.al (d := 35) rfl ae ae rfl rfl ?_))
 refine .al (d := 35) rfl ae ae rfl rfl (.al (d := 35) rfl ae ae rfl rfl (.al (d := 35) rfl ae ae rfl rfl ?_))
 refine .al (d := 35) rfl ae ae rfl rfl (.al (d := 35) rfl ae ae rfl rfl (.al (d := 35) rfl ae ae rfl rfl ?_))
 refine .al (d := 35) rfl ae ae rfl rfl (.al (d := 35) rfl ae ae rfl rfl (.val (Y.zn rfl rfl rfl) ae ?_))
 refine .val (Y.qf rfl rfl) ae (.nil (.ret ?_))
 exact .rb rfl (df (by subst_vars; simp only [Fits, cp, ga, fU, Int.reduceEq, Bool.not_eq_true, false_and, true_and, and_true, and_false, or_false, false_or, ne_eq] <;> (first | omega | grind)))
 have ho : 0 ≤ out ∧ out < n.aa.length := by have := hw.out; simp only at this; omega
 have wP : n.ow (⟨kind, op, out, args, num, mem⟩ : Cell) = n.aa.getD out.toNat 0 := LO ho.1
 refine .skip (.sr ?_)
 refine .fa bu ?_
 refine .ld aW ?_
 refine .fa cN ?_
 refine .ld aV ?_
 refine .vl (Y.qs (m := (out).toNat) az rfl rfl om (aq (d := 0) om)) ?_
 refine .ld aV ?_
 refine .an ?_
 refine .nil (.seq (.sr ?_))
 refine .fa bP ?_
 refine .ld aV ?_
 refine .nil (.block (.sr ?_))
 refine .vl (Y.ql rfl rfl) ?_
 refine .an ?_
 refine .nil ?_
 refine .a8 rfl (fun Ib => ?_) (fun Ib => ?_)
 have wX := ju (fO (n.aa.getD out.toNat 0)) (by have := jl (n.aa.getD out.toNat 0); omega)
 refine .seq (.fN rfl (.blind 0 rfl ao (aw.fieldAddr dp rfl rfl) ae ?_))
 refine .blind 2 rfl ao (aw.move rfl rfl) ae ?_
 refine .two 1 3 rfl rfl ao ?_ ?_
 refine .ld fv ?_
 refine .nil ⟨rfl, ?_⟩
 refine .one 3 rfl ao (.aH yB (nV (w := (n.aa.getD ((out).toNat) 0))) rfl (.ah rfl rfl .nil) ae rfl ?_)
 refine .nil ⟨rfl, ?_⟩
 refine .bT (n := 0) [4, 5] [] 0 rfl ao (.cn 4 rfl (Y.qz rfl rfl) (.cn 5 rfl (Y.qf rfl rfl) ?_))
 refine .nil (.done ao (.ret ?_))
 exact .rb rfl (dd (by subst_vars; simp only [Fits, cp, ga, fU, wP, Int.reduceEq, Bool.not_eq_true, false_and, true_and, and_true, and_false, or_false, false_or, ne_eq] <;> (first | omega | grind)))
 refine .aH yB (nV (w := (n.aa.getD ((out).toNat) 0))) rfl (.ah rfl rfl .nil) ae rfl ?_
 refine .nil ⟨rfl, ?_⟩
 refine .bT (n := 0) [1, 4, 5] [] 0 rfl ao (.cn 1 rfl (Y.za fv rfl rfl rfl rfl) (.cn 4 rfl (Y.qz rfl rfl) ?_))
 refine .cn 5 rfl (Y.qf rfl rfl) (.nil (.done ao ?_))
 refine .ret (.rb rfl (dd (by subst_vars; simp only [Fits, cp, ga, fU, wP, Int.reduceEq, Bool.not_eq_true, false_and, true_and, and_true, and_false, or_false, false_or, ne_eq] <;> (first | omega | grind))))
 refine .seq (.sr (.vl (Y.ql rfl rfl) ?_))
 refine .an ?_
 refine .nil ?_
 refine .bx rfl (fun tc => ?_) (fun tc => ?_)
 refine .skip (.aM rfl (.seq ?_))
 have hk : (1 ≤ args.length ∧ (op < 22 ∨ 24 < op → 2 ≤ args.length) ∧ (op = 21 → 3 ≤ args.length)) := by (rcases (show kind = 2 ∨ kind = 5 by first | omega | grind) with h | h; (have h2 := qG.k2 h; simp only at h2; omega); (have h2 := qG.k5 h; simp only at h2; omega))
 refine .region ?_
 refine .fa ct ?_
 refine .ld aV ?_
 refine .mv ?_
 refine .mv ?_
 refine .g7 [105] FQ (lG (op := op) (a := mw) (w := (n.aa.getD ((out).toNat) 0)) om (fun _ => by omega) (fun _ => by omega) om) rfl (.ah rfl rfl (.cw rfl rfl (bo om) (bp om) (.ah rfl rfl .nil))) (hY rfl (aY aE)) ae rfl trivial ?_
 refine .an ?_
 refine .nil (.ret ?_)
 exact .rb rfl (dd ((ve (QQ om) (fun _ => IQ om) (fun _ => QR om)).trans (by subst_vars; simp only [Fits, wP, Int.reduceEq, Bool.not_eq_true, false_and, true_and, and_true, and_false, or_false, false_or, ne_eq])))
 refine .region (.vl (Y.ql rfl rfl) ?_)
 refine .an ?_
 refine .nil ?_
 refine .bx rfl (fun tc => ?_) (fun tc => ?_)
 refine .seq ?_
 have hk : (1 ≤ args.length ∧ (op < 22 ∨ 24 < op → 2 ≤ args.length) ∧ (op = 21 → 3 ≤ args.length)) := by (rcases (show kind = 2 ∨ kind = 5 by first | omega | grind) with h | h; (have h2 := qG.k2 h; simp only at h2; omega); (have h2 := qG.k5 h; simp only at h2; omega))
 refine .region ?_
 refine .fa ct ?_
 refine .ld aV ?_
 refine .mv ?_
 refine .mv ?_
 refine .g7 [105] FQ (lG (op := op) (a := mw) (w := (n.aa.getD ((out).toNat) 0)) om (fun _ => by omega) (fun _ => by omega) om) rfl (.ah rfl rfl (.cw rfl rfl (bo om) (bp om) (.ah rfl rfl .nil))) (hY rfl (aY aE)) ae rfl trivial ?_
 refine .an ?_
 refine .nil (.ret ?_)
 exact .rb rfl (dd (by subst_vars; have Tq := qG.k5 rfl; simp only at Tq; simp only [Fits, cp, ga, fU, wP, Int.reduceEq, Bool.not_eq_true, false_and, true_and, and_true, and_false, or_false, false_or, ne_eq] <;> (first | omega | grind)))
 refine .sr (.vl (Y.ql rfl rfl) ?_)
 refine .an ?_
 refine .nil ?_
 refine .a8 rfl (fun Je => ?_) (fun Je => ?_)
 have hk := qG.k3 Je; simp only at hk
 refine .sr ?_
 refine .an ?_
 refine .nil (.block ?_)
 refine .fY (fun (gI : Nat) => ⟨[(5, .ba 105 1 0 mw.length), (7, vi (n.aa.getD ((out).toNat) 0)), (8, vi gI)], [(105, .rows 1 (mw.map ai))]⟩) (fun gI => ((gI : Int) ≤ (mw.length : Int)) ∧ (gI % 2 = 0) ∧ (∀ k, k < gI → fj n (⟨kind, op, out, args, num, mem⟩ : Cell) k)) (fun gI => ((mw.length : Int) - (gI : Int)).toNat) 0 (⟨om, rfl, fun k hk => by omega⟩) (Le.mk (.c2 (.cons (aj rfl bf) .nil)) (.c .nil)) (fun gI CV => ?_)
 obtain ⟨Lw, hp, hm⟩ := CV
 refine .seq (.sr ?_)
 refine .mv ?_
 refine .mv ?_
 refine .vl (Y.qx (n := mw.length) az rfl rfl) (.vl (Y.zc rfl rfl) (.nil ?_))
 refine .a8 rfl (fun Aq => ?_) (fun Aq => ?_)
 refine .skip (.seq (.block ?_))
 refine .sr ?_
 refine .mv ?_
 refine .mv ?_
 refine .vl (Y.qt (m := gI) az rfl rfl bf om) (.vl (Y.za aV rfl (aB (d := 0) om) rfl rfl) (.vl (Y.zk rfl rfl) ?_))
 refine .mv ?_
 refine .ax (d := 84) rfl (fun Ph => ?_) (fun Ph => ?_)
 refine .gz 84 (.gz 84 (.gz 84 ?_))
 refine .gz 84 (.gz 84 (.gz 84 ?_))
 refine .gz 84 ?_
 refine .pk ?_
 refine .nil (.aM rfl (.sr ?_))
 refine .an ?_
 refine .nil (.ret ?_)
 exact .rb rfl (df (fun h => by subst_vars; simp only [Fits, Int.reduceEq, Bool.not_eq_true, false_and, true_and, and_true, and_false, or_false, false_or, ne_eq] at h; have h1 := h gI (by show _ < args.length; omega); have h2 := h (gI + 1) (by show _ < args.length; omega); have h3 := ha gI om; have h4 := ha (gI + 1) om; unfold fj at h1 h2; omega))
 refine .gw 84 (Y.zg rfl rfl) (.gw 84 (Y.zg rfl rfl) ?_)
 refine .gw 84 (Y.qb rfl rfl om) (.gw 84 (Y.qt (m := gI + 1) az rfl rfl bf om) (.gw 84 (Y.za aV rfl (aB (d := 0) om) rfl rfl) ?_))
 refine .gw 84 (Y.zg rfl rfl) (.gw 84 (Y.zk rfl rfl) ?_)
 refine .pk ?_
 refine .nil ?_
 refine .a8 rfl (fun Gq => ?_) (fun Gq => ?_)
 refine .sr ?_
 refine .an ?_
 refine .nil (.ret ?_)
 exact .rb rfl (df (fun h => by subst_vars; simp only [Fits, Int.reduceEq, Bool.not_eq_true, false_and, true_and, and_true, and_false, or_false, false_or, ne_eq] at h; have h1 := h gI (by show _ < args.length; omega); have h2 := h (gI + 1) (by show _ < args.length; omega); have h3 := ha gI om; have h4 := ha (gI + 1) om; unfold fj at h1 h2; omega))
 refine .skip (.region ?_)
 refine .mv ?_
 refine .vl (Y.qb rfl rfl bw) ?_
 refine .an ?_
 refine .nil (⟨gI + 2, ⟨om, om, Fg hm (by have h2 := ha gI om; unfold fj; omega) (by have h2 := ha (gI + 1) om; unfold fj; omega)⟩, om, Le.mk (.c2 (.cons (aj rfl bf) .nil)) (.c .nil)⟩)
 refine .exit (.sr ?_)
 refine .an ?_
 refine .nil (.ret ?_)
 exact .rb rfl (dt (by subst_vars; simp only [Fits, Int.reduceEq, Bool.not_eq_true, false_and, true_and, and_true, and_false, or_false, false_or, ne_eq]; exact fun k hk => hm k (by have : k < args.length := hk; omega)))
 refine .sr (.vl (Y.ql rfl rfl) ?_)
 refine .an ?_
 refine .nil ?_
 refine .a8 rfl (fun AR => ?_) (fun AR => ?_)
 have hk := qG.k4 AR; simp only at hk
 refine .seq (.fN rfl (.blind 0 rfl ao (aw.move rfl rfl) ae ?_))
 refine .one 1 rfl ao (.vl (Y.qt (m := 0) az rfl rfl bf bw) ?_)
 refine .nil ⟨rfl, ?_⟩
 refine .one 2 rfl ao (.vl (Y.za aV rfl (aB (d := 0) om) rfl rfl) ?_)
 refine .nil ⟨rfl, ?_⟩
 refine .one 3 rfl ao (.vl (Y.ql rfl rfl) ?_)
 refine .nil ⟨rfl, ?_⟩
 refine .blind 4 rfl ao (aw.move rfl rfl) ae ?_
 refine .ax (d := 99) rfl (fun Tr => ?_) (fun Tr => ?_)
 refine .dQ 5 rfl ao rfl ae rfl (aw.move rfl rfl) ae (.dQ 8 rfl ao rfl ae rfl (aw.move rfl rfl) ae (.one 6 rfl ao ?_))
 refine .gw 99 (Y.qt (m := 1) az rfl rfl bf om) ?_
 refine .nil ⟨rfl, ?_⟩
 refine .one 7 rfl ao (.gw 99 (Y.za aV rfl (aB (d := 0) om) rfl rfl) ?_)
 refine .nil ⟨rfl, ?_⟩
 refine .one 9 rfl ao (.gw 99 (Y.ql rfl rfl) ?_)
 refine .nil ⟨rfl, ?_⟩
 refine .one 10 rfl ao ?_
 refine .pk ?_
 refine .nil ⟨rfl, ?_⟩
 refine .blind 11 rfl ao (aw.move rfl rfl) ae ?_
 refine .ax (d := 106) rfl (fun CT => ?_) (fun CT => ?_)
 refine .dQ 12 rfl ao rfl ae rfl (aw.fieldAddr dp rfl rfl) ae (.dQ 14 rfl ao rfl ae rfl (aw.move rfl rfl) ae ?_)
 refine .two 13 15 rfl rfl ao ?_ ?_
 refine .gw 106 (Y.za fv rfl rfl rfl rfl) ?_
 refine .nil ⟨rfl, ?_⟩
 refine .one 15 rfl ao (.ar (d := 106) rfl ae rfl (.aH yB (nV (w := (n.aa.getD ((out).toNat) 0))) rfl (.ah rfl rfl .nil) ae rfl ?_))
 refine .nil ⟨rfl, ?_⟩
 refine .bT (n := 0) [16, 17, 18] [] 0 rfl ao (.rn 16 rfl rfl rfl (Y.qz rfl rfl) (.cn 17 rfl (Y.zn rfl rfl rfl) ?_))
 refine .cn 18 rfl (Y.qf rfl rfl) (.nil (.done ao ?_))
 refine .ret (.rb rfl (dd (by subst_vars; simp only [Fits, cp, ga, fU, wP, Int.reduceEq, Bool.not_eq_true, false_and, true_and, and_true, and_false, or_false, false_or, ne_eq] <;> (first | omega | grind))))
 refine .ar (d := 106) rfl ae rfl (.aH yB (nV (w := (n.aa.getD ((out).toNat) 0))) rfl (.ah rfl rfl .nil) ae rfl ?_)
 refine .nil ⟨rfl, ?_⟩
 refine .bT (n := 0) [13, 16, 17, 18] [] 0 rfl ao (.rn 13 rfl rfl rfl (Y.za fv rfl rfl rfl rfl) (.rn 16 rfl rfl rfl (Y.qz rfl rfl) ?_))
 refine .cn 17 rfl (Y.zn rfl rfl rfl) (.cn 18 rfl (Y.qf rfl rfl) (.nil ?_))
 refine .done ao (.ret ?_)
 exact .rb rfl (dd (by subst_vars; simp only [Fits, cp, ga, fU, wP, Int.reduceEq, Bool.not_eq_true, false_and, true_and, and_true, and_false, or_false, false_or, ne_eq] <;> (first | omega | grind)))
 refine .aZ 12 rfl ao rfl ae ae rfl rfl (.aZ 13 rfl ao rfl ae ae rfl rfl (.aZ 14 rfl ao rfl ae ae rfl rfl ?_))
 refine .aZ 15 rfl ao rfl ae ae rfl rfl (.aZ 16 rfl ao rfl ae ae rfl rfl (.bT (n := 0) [17, 18] [] 0 rfl ao ?_))
 refine .cn 17 rfl (Y.zn rfl rfl rfl) (.cn 18 rfl (Y.qf rfl rfl) (.nil ?_))
 refine .done ao (.ret ?_)
 exact .rb rfl (df (by subst_vars; simp only [Fits, cp, ga, fU, wP, Int.reduceEq, Bool.not_eq_true, false_and, true_and, and_true, and_false, or_false, false_or, ne_eq] <;> (first | omega | grind)))
 refine .aZ 5 rfl ao rfl ae ae rfl rfl (.aZ 6 rfl ao rfl ae ae rfl rfl (.aZ 7 rfl ao rfl ae ae rfl rfl ?_))
 refine .aZ 8 rfl ao rfl ae ae rfl rfl (.aZ 9 rfl ao rfl ae ae rfl rfl (.one 10 rfl ao ?_))
 refine .pk ?_
 refine .nil ⟨rfl, ?_⟩
 refine .blind 11 rfl ao (aw.move rfl rfl) ae (.aZ 12 rfl ao rfl ae ae rfl rfl (.aZ 13 rfl ao rfl ae ae rfl rfl ?_))
 refine .aZ 14 rfl ao rfl ae ae rfl rfl (.aZ 15 rfl ao rfl ae ae rfl rfl (.aZ 16 rfl ao rfl ae ae rfl rfl ?_))
 refine .bT (n := 0) [17, 18] [] 0 rfl ao (.cn 17 rfl (Y.zn rfl rfl rfl) (.cn 18 rfl (Y.qf rfl rfl) ?_))
 refine .nil (.done ao (.ret ?_))
 exact .rb rfl (df (by subst_vars; simp only [Fits, cp, ga, fU, wP, Int.reduceEq, Bool.not_eq_true, false_and, true_and, and_true, and_false, or_false, false_or, ne_eq] <;> (first | omega | grind)))
 refine .sr (.vl (Y.ql rfl rfl) ?_)
 refine .an ?_
 refine .nil ?_
 refine .a8 rfl (fun LQ => ?_) (fun LQ => ?_)
 have hk := qG.k6 LQ; simp only at hk
 refine .sr ?_
 refine .mv ?_
 refine .vl (Y.qt (m := 0) az rfl rfl bf bw) (.vl (Y.za aV rfl (aB (d := 0) om) rfl rfl) (.vl (Y.ql rfl rfl) ?_))
 refine .mv ?_
 refine .ax (d := 119) rfl (fun PE => ?_) (fun PE => ?_)
 refine .gw 119 (Y.zg rfl rfl) (.gw 119 (Y.qp ef rfl rfl) (.gw 119 (Y.za jS rfl rfl rfl rfl) ?_))
 refine .gw 119 (Y.qp bU rfl rfl) (.gw 119 (Y.za aV rfl rfl rfl rfl) ?_)
 refine .gw 119 (Y.qs (m := (mem).toNat) iG rfl rfl om (aq (d := default) om)) ?_
 refine .gw 119 (Y.qp nw rfl rfl) (.gw 119 (Y.za aV rfl rfl rfl rfl) (.gw 119 (Y.ql rfl rfl) ?_))
 refine .pk ?_
 refine .an ?_
 refine .nil (.ret ?_)
 exact .rb rfl (dd (by subst_vars; simp only [Fits, cp, ga, fU, wP, Int.reduceEq, Bool.not_eq_true, false_and, true_and, and_true, and_false, or_false, false_or, ne_eq] <;> (first | omega | grind)))
 refine .gz 119 (.gz 119 (.gz 119 ?_))
 refine .gz 119 (.gz 119 (.gz 119 ?_))
 refine .gz 119 (.gz 119 (.gz 119 ?_))
 refine .pk ?_
 refine .an ?_
 refine .nil (.ret ?_)
 exact .rb rfl (df (by subst_vars; simp only [Fits, cp, ga, fU, wP, Int.reduceEq, Bool.not_eq_true, false_and, true_and, and_true, and_false, or_false, false_or, ne_eq] <;> (first | omega | grind)))
 refine .sr (.vl (Y.ql rfl rfl) ?_)
 refine .an ?_
 refine .nil ?_
 refine .a8 rfl (fun LR => ?_) (fun LR => ?_)
 have hk := qG.k8 LR; simp only at hk
 refine .sr ?_
 refine .mv ?_
 refine .fa iZ ?_
 refine .ld aW ?_
 refine .fa dp ?_
 refine .ld fv ?_
 refine .vl (Y.qs (m := num) az rfl rfl bf (aq (d := 0) om)) ?_
 refine .ld aV ?_
 refine .vl (Y.ql rfl rfl) ?_
 refine .an ?_
 refine .nil (.ret ?_)
 exact .rb rfl (dd (by subst_vars; simp only [Fits, cp, ga, fU, wP, Int.reduceEq, Bool.not_eq_true, false_and, true_and, and_true, and_false, or_false, false_or, ne_eq] <;> (first | omega | grind)))
 refine .sr (.vl (Y.ql rfl rfl) ?_)
 refine .an ?_
 refine .nil ?_
 refine .a8 rfl (fun LS => ?_) (fun LS => ?_)
 have hk := qG.k9 LS; simp only at hk
 refine .sr ?_
 refine .mv ?_
 refine .vl (Y.ql rfl rfl) ?_
 refine .an ?_
 refine .nil (.ret ?_)
 exact .rb rfl (dd (by subst_vars; simp only [Fits, cp, ga, fU, wP, Int.reduceEq, Bool.not_eq_true, false_and, true_and, and_true, and_false, or_false, false_or, ne_eq] <;> (first | omega | grind)))
 refine .sr (.vl (Y.ql rfl rfl) ?_)
 refine .an ?_
 refine .nil ?_
 refine .a8 rfl (fun uZ => ?_) (fun uZ => ?_)
 have hk := qG.JP uZ; simp only at hk
 refine .sr ?_
 refine .mv ?_
 refine .fa cC ?_
 refine .ld fC ?_
 refine .fa bU ?_
 refine .ld aV ?_
 refine .vl (Y.qs (m := (mem).toNat) eG rfl rfl om (aq (d := default) om)) ?_
 refine .fa ny ?_
 refine .ld aV ?_
 refine .vl (Y.ql rfl rfl) ?_
 refine .an ?_
 refine .nil (.ret ?_)
 exact .rb rfl (dd (by subst_vars; simp only [Fits, cp, ga, fU, wP, Int.reduceEq, Bool.not_eq_true, false_and, true_and, and_true, and_false, or_false, false_or, ne_eq] <;> (first | omega | grind)))
 refine .skip (.sr ?_)
 refine .an ?_
 refine .nil (.ret ?_)
 exact .rb rfl (by exfalso; omega)
open Go Go.AW
def vm (n : ab) (k : Nat) (kn : List Bool) : Prop := ∀ w : Int, In w n.aa.length → (kn.getD w.toNat false = true ↔ ∃ j, b7 n j w ∧ j < k ∧ ¬ bJ (n.cell j).kind)
theorem vm.init (n : ab) : vm n 0 (List.replicate n.aa.length false) := by
 intro w hw
 unfold In at hw
 rw [List.getD_eq_getElem?_getD, List.getElem?_replicate, if_pos om]
 exact ⟨fun h => (by cases h), fun ⟨j, h1, h2, _⟩ => (by have := h1.1; omega)⟩
theorem vm.skip {n : ab} {k : Nat} {l : List Bool} (h : vm n k l) (hc : bJ (n.cells.getD k default).kind ∨ (n.cells.getD k default).kind = 7) : vm n (k + 1) l := by
 intro w hw
 rw [h w hw]
 constructor
 ·rintro ⟨j, h1, h2, h3⟩; exact ⟨j, h1, om, h3⟩
 ·rintro ⟨j, h1, h2, h3⟩
  refine ⟨j, h1, ?_, h3⟩
  rcases Int.lt_or_eq_of_le (show j ≤ k by omega) with h' | h'
  ·exact h'
  ·subst h'
   rcases hc with hc | hc
   ·exact absurd hc h3
   ·exact absurd hc h1.2.1
theorem vm.step {n : ab} {k : Nat} {l : List Bool} (h : vm n k l) (hk : k < n.cells.length) (hl : l.length = n.aa.length) (hc : ¬ bJ (n.cells.getD k default).kind) (h7 : (n.cells.getD k default).kind ≠ 7) (ho : In (n.cells.getD k default).out n.aa.length) :
  vm n (k + 1) (l.set (n.cells.getD k default).out.toNat true) := by
 intro w hw
 unfold In at ho
 have qQ := hw
 unfold In at qQ
 rw [bs]
 by_cases e : (n.cells.getD k default).out = w
 ·rw [if_pos ⟨om, om⟩]
  exact ⟨fun _ => ⟨(k : Int), ⟨⟨om, om⟩, h7, e⟩, om, hc⟩, fun _ => rfl⟩
 ·rw [if_neg om, h w hw]
  constructor
  ·rintro ⟨j, h1, h2, h3⟩; exact ⟨j, h1, om, h3⟩
  ·rintro ⟨j, h1, h2, h3⟩
   refine ⟨j, h1, ?_, h3⟩
   rcases Int.lt_or_eq_of_le (show j ≤ k by omega) with h' | h'
   ·exact h'
   ·subst h'; exact absurd h1.2.2 e
structure LD (n : ab) (done : List Int) (kn : List Bool) (left : Int) : Prop where
 nd : done.Nodup
 cm : ∀ x ∈ done, b6 n x
 kn : ∀ w, In w n.aa.length → (kn.getD w.toNat false = true ↔ ¬ Open n done w)
 left : left = (n.cells.length : Int) - ((fJ n n.cells.length).length : Int) - (done.length : Int)
 mM : ∀ p i s, done = p ++ i :: s → da n p i = 0
section
variable {n : ab} (hf : aU n)
include hf
theorem LD.init {kn : List Bool} (h : vm n n.cells.length kn) : LD n [] kn ((n.cells.length : Int) - ((fJ n n.cells.length).length : Int)) where
 nd := List.nodup_nil
 cm := fun _ h => (by cases h)
 kn := fun w hw => by
  rw [h w hw]
  constructor
  ·rintro ⟨j, h1, h2, h3⟩ ⟨⟨i, hi, e⟩, _⟩
   have := hf.unique h1 (e ▸ hi.iW)
   subst this; exact h3 hi.2
  ·intro ho
   obtain ⟨j, hj⟩ := hf.gT hw
   refine ⟨j, hj, by have := hj.1; omega, fun hc => ho ⟨⟨j, ⟨hj.1, hc⟩, hj.2.2⟩, fun _ h => (by cases h)⟩⟩
 left := by simp
 mM := fun p i s h => by simp at h
theorem LD.step {done : List Int} {kn : List Bool} {left i : Int} (h : LD n done kn left) (hl : kn.length = n.aa.length) (hi : b6 n i) (hk : kn.getD (n.cell i).out.toNat false = false) (hz : da n done i = 0) :
  LD n (done ++ [i]) (kn.set (n.cell i).out.toNat true) (left - 1) := by
 have Ff := hf.eF hi.iW
 have Hd : Open n done (n.cell i).out := Classical.byContradiction fun hh => by
  have := (h.kn _ Ff).2 hh
  rw [hk] at this; cases this
 have Ha : i ∉ done := fun hm => Hd.2 i hm rfl
 refine ⟨?_, fun x hx => ?_, fun w hw => ?_, ?_, fun p j s e => ?_⟩
 ·rw [List.nodup_append]
  exact ⟨h.nd, by simp, fun a ha b hb e => Ha (by rw [← List.mem_singleton.1 hb, ← e]; exact ha)⟩
 ·rcases List.mem_append.1 hx with hx | hx
  ·exact h.cm x hx
  ·rw [List.mem_singleton.1 hx]; exact hi
 ·unfold In at Ff
  have qQ := hw
  unfold In at qQ
  have ho : Open n (done ++ [i]) w ↔ Open n done w ∧ (n.cell i).out ≠ w := by
   constructor
   ·rintro ⟨a, b⟩
    exact ⟨⟨a, fun j hj => b j (by simp [hj])⟩, b i (by simp)⟩
   ·rintro ⟨⟨a, b⟩, c⟩
    refine ⟨a, fun j hj => ?_⟩
    rcases List.mem_append.1 hj with hj | hj
    ·exact b j hj
    ·rw [List.mem_singleton.1 hj]; exact c
  rw [bs, ho]
  by_cases e : (n.cell i).out = w
  ·rw [if_pos ⟨om, om⟩]
   exact ⟨fun _ h => h.2 e, fun _ => rfl⟩
  ·rw [if_neg om, h.kn w hw]
   exact ⟨fun h1 h2 => h1 h2.1, fun h1 h2 => h1 ⟨h2, e⟩⟩
 ·rw [h.left, List.length_append]; simp; omega
 ·rcases List.eq_nil_or_concat s with rfl | ⟨s', x, rfl⟩
  ·obtain ⟨rfl, e3⟩ := List.append_inj' (t₁ := [i]) (t₂ := [j]) e rfl
   cases e3
   exact hz
  ·have e2 := List.append_inj' (s₁ := done) (s₂ := p ++ j :: s') (t₁ := [i]) (t₂ := [x]) (by rw [e]; simp) rfl
   exact h.mM p j s' e2.1
theorem LD.known {done : List Int} {kn : List Bool} {left : Int} (h : LD n done kn left) {i : Int} (hi : 0 ≤ i ∧ i < n.cells.length) : (∀ x ∈ (n.cell i).args, kn.getD x.toNat false = true) ↔ da n done i = 0 := by
 unfold da
 rw [List.countP_eq_zero]
 constructor
 ·intro hh x hx ho
  exact (h.kn x (hf.ia hi hx)).1 (hh x hx) (of_decide_eq_true ho)
 ·intro hh x hx
  exact (h.kn x (hf.ia hi hx)).2 (fun ho => hh x hx (decide_eq_true ho))
def yQ (n : ab) (k : Int) (done : List Int) : Prop := ∀ i, b6 n i → i < k → Open n done (n.cell i).out → da n done i ≠ 0
theorem LD.ki {done : List Int} {kn : List Bool} {left : Int} (h : LD n done kn left) (hs : yQ n n.cells.length done) : KI n done [] ((List.range n.cells.length).map (fun (i : Nat) => (da n done (i : Int) : Int))) where
 nd := by simpa using h.nd
 cm := fun x hx => h.cm x (by simpa using hx)
 l3 := fun i hi => by
  have hb := hi.1
  rw [List.getD_eq_getElem?_getD, List.getElem?_map, List.getElem?_range om]
  simp only [Option.map_some, Option.getD_some]
  rw [show (i.toNat : Int) = i by omega]
 full := fun i hi => by
  rw [List.append_nil]
  constructor
  ·intro hm
   obtain ⟨p, s, e⟩ := List.append_of_mem hm
   have := h.mM p i s e
   rw [nP] at this ⊢
   intro x hx hc
   obtain ⟨j, hj, e2⟩ := this x hx hc
   exact ⟨j, by rw [e]; simp [hj], e2⟩
  ·intro hz
   refine Classical.byContradiction fun hn => hs i hi hi.1.2 ⟨⟨i, hi, rfl⟩, fun j hj e => hn ?_⟩ hz
   have := hf.unique (h.cm j hj).iW (e ▸ hi.iW)
   exact this ▸ hj
 mM := h.mM
theorem LD.res {done : List Int} {kn : List Bool} {left : Int} (h : LD n done kn left) (hs : yQ n n.cells.length done) : 0 < left ↔ ¬ Acyclic n := by
 have hk := h.ki hf hs
 have hl := h.left
 constructor
 ·intro h0
  exact hk.FH (by rw [List.length_append]; omega)
 ·intro ha
  refine Classical.byContradiction fun h0 => ha (hk.ok hf (by rw [List.length_append]; omega)).1
end
theorem LD.pos {n : ab} {done : List Int} {kn : List Bool} {left : Int} (h : LD n done kn left) : 0 ≤ left ∧ left ≤ n.cells.length := by
 have iV : (fJ n n.cells.length ++ done).Nodup := by
  rw [List.nodup_append]
  refine ⟨so _ _, h.nd, fun a ha b hb e => ?_⟩
  subst e
  exact (jv.1 ha).2 (h.cm a hb).2
 have := length_le_of_subset (m := (List.range n.cells.length).map (fun (i : Nat) => (i : Int))) iV (fun x hx => by
  have iw : 0 ≤ x ∧ x < n.cells.length := by
   rcases List.mem_append.1 hx with hx | hx
   ·exact (jv.1 hx).1
   ·exact (h.cm x hx).1
  exact List.mem_map.2 ⟨x.toNat, List.mem_range.2 om, om⟩)
 rw [List.length_append, List.length_map, List.length_range] at this
 have hl := h.left
 omega
def oc (n : ab) (k kN : Int) (kn : List Bool) (left : Int) (more : Bool) : Prop := ∃ done, LD n done kn left ∧ left ≤ kN ∧ (more = true → left < kN) ∧ (more = false → yQ n k done)
theorem oc.seq {n : ab} {k : Nat} {kN left : Int} {kn : List Bool} {more : Bool} (h : oc n k kN kn left more) (hc : ¬ bJ (n.cells.getD k default).kind) : oc n ((k + 1 : Nat) : Int) kN kn left more := by
 obtain ⟨done, h1, h2, h3, h4⟩ := h
 refine ⟨done, h1, h2, h3, fun hm i hi h0 => h4 hm i hi (lY hc hi h0)⟩
section
variable {n : ab} (hf : aU n) {k : Nat} {kN left : Int} {kn : List Bool} {more : Bool}
include hf
theorem oc.skip (h : oc n k kN kn left more) (hk : k < n.cells.length) (hc : kn.getD (n.cells.getD k default).out.toNat false = true ∨ ¬ ∀ x ∈ (n.cells.getD k default).args, kn.getD x.toNat false = true) (vM : bJ (n.cells.getD k default).kind) : oc n ((k + 1 : Nat) : Int) kN kn left more := by
 obtain ⟨done, h1, h2, h3, h4⟩ := h
 have hi : b6 n (k : Int) := ⟨⟨om, om⟩, vM⟩
 refine ⟨done, h1, h2, h3, fun hm i Tt h0 => ?_⟩
 by_cases e : i = k
 ·subst e
  intro ho hz
  rcases hc with hc | hc
  ·exact (h1.kn _ (hf.eF hi.iW)).1 hc ho
  ·exact hc ((h1.known hf hi.1).2 hz)
 ·exact h4 hm i Tt om
theorem oc.step (h : oc n k kN kn left more) (hk : k < n.cells.length) (hl : kn.length = n.aa.length) (h1 : kn.getD (n.cells.getD k default).out.toNat false = false) (h2 : ∀ x ∈ (n.cells.getD k default).args, kn.getD x.toNat false = true) (vM : bJ (n.cells.getD k default).kind) :
  oc n ((k + 1 : Nat) : Int) kN (kn.set (n.cells.getD k default).out.toNat true) (left - 1) true := by
 obtain ⟨done, a1, a2, a3, a4⟩ := h
 have hi : b6 n (k : Int) := ⟨⟨om, om⟩, vM⟩
 refine ⟨done ++ [(k : Int)], a1.step hf hl hi h1 ((a1.known hf hi.1).1 h2), om, fun _ => by omega, fun h => (by cases h)⟩
end
theorem vm.next {n : ab} (hf : aU n) {k : Nat} {kn : List Bool} (h : vm n k kn) (hk : k < n.cells.length) (hl : kn.length = n.aa.length) :
  (¬ bJ (n.cells.getD k default).kind → 0 ≤ (n.cells.getD k default).out → vm n (k + 1) (kn.set (n.cells.getD k default).out.toNat true)) ∧ (bJ (n.cells.getD k default).kind → vm n (k + 1) kn ∧ 0 ≤ (n.cells.getD k default).out) ∧
  (¬ 0 ≤ (n.cells.getD k default).out → vm n (k + 1) kn) ∧ (0 ≤ (n.cells.getD k default).out → (n.cells.getD k default).out < n.aa.length) := by
 obtain ⟨_, _, a3, a4⟩ := hf.cells k hk
 refine ⟨fun hc ho => ?_, fun hc => ⟨h.skip (.inl hc), ?_⟩, fun ho => ?_, fun ho => ?_⟩
 ·have h7 : (n.cells.getD k default).kind ≠ 7 := fun h7 => by have := a3 h7; omega
  exact h.step hk hl hc h7 (a4 h7)
 ·have h7 : (n.cells.getD k default).kind ≠ 7 := fun h7 => by rw [h7] at hc; revert hc; unfold bJ; omega
  exact (a4 h7).1
 ·have h7 : (n.cells.getD k default).kind = 7 := Classical.byContradiction fun h7 => ho (a4 h7).1
  exact h.skip (.inr h7)
 ·have h7 : (n.cells.getD k default).kind ≠ 7 := fun h7 => by have := a3 h7; omega
  exact (a4 h7).2
theorem Ay (n : ab) (k : Nat) : (bJ (n.cells.getD k default).kind → (fJ n (k + 1)).length = (fJ n k).length) ∧ (¬ bJ (n.cells.getD k default).kind → (fJ n (k + 1)).length = (fJ n k).length + 1) := by
 rw [pW]
 exact ⟨fun h => by rw [if_pos h, List.append_nil], fun h => by rw [if_neg h, List.length_append]; rfl⟩
theorem oc.mu {n : ab} (hf : aU n) {k kN left : Int} {kn : List Bool} {more Gs : Bool} (h : oc n k kN kn left more) (hm : Gs = true) : 2 * left.toNat + more.toNat < 2 * kN.toNat + Gs.toNat := by
 obtain ⟨done, b1, b2, b3, b4⟩ := h
 have hp := b1.pos
 subst hm
 cases more
 ·simp only [Bool.toNat_false, Bool.toNat_true]; omega
 ·have := b3 rfl
  simp only [Bool.toNat_true]; omega
theorem oc.bd {n : ab} (hf : aU n) {k kN left : Int} {kn : List Bool} {more : Bool} (h : oc n k kN kn left more) : 0 ≤ left ∧ left ≤ n.cells.length := by
 obtain ⟨done, b1, b2, b3, b4⟩ := h
 exact b1.pos
open Go Go.AW
end Go.Proofs.Ytligpghohcfpnaa
namespace Go.Proofs.Ytligpghohcfpnaa
open Go Go.AW Go.Proofs
theorem vf {n : ab} {c : Cell} (hs : n.Small) (hc : c.args.length ≤ 17592186043904) (hn : c.num < 18446744073709551616) (qG : Shaped n c) (hw : tQ n c) : au Try.prog 89 [.agg (ab.row n), .agg (Cell.row c)] [] [] (fun r o => r = .v (.bool (decide (Fits n c))) ∧ o = []) := by
 obtain ⟨k, op, out, args, num, mem⟩ := c
 exact w7 hs hc hn qG hw
open Go Go.AW Go.Proofs
theorem De {n : ab} {op out mem : Int} {args : List Int} {num : Nat} (hs : n.Small) (hc : args.length ≤ 17592186043904) {kind : Int} : au Try.prog 88 [.agg (ab.row n), .agg [vi kind, vi op, vi out, .fz 1 (args.map ai), .v (.int .u64 (num : Int)), vi mem]] [] [] (fun r o => r = .v (.bool (decide (Shaped n ⟨kind, op, out, args, num, mem⟩))) ∧ o = []) := by
 refine au.of Try.func88 rfl rfl rfl (n := 207) ae (aI rfl) ?_
 have EY := hs.ins; have EZ := hs.a7; have Gm := hs.streams
 refine .sr (.box 102 rfl rfl rfl rfl rfl ae (.box 103 rfl rfl rfl rfl rfl ae ?_))
 refine .an ?_
 refine .nil (.sr ?_)
 refine .fa bF ?_
 refine .ld aW ?_
 refine .vl (Y.qx (n := args.length) az rfl cS) ?_
 refine .an ?_
 refine .nil ?_
 refine .nn (⟨[(2, .ptr 102 0 0 0), (3, .ptr 103 0 0 0), (5, vi args.length)], [(102, .cells (ab.row n)), (103, .cells [vi kind, vi op, vi out, .fz 1 (args.map ai), .v (.int .u64 (num : Int)), vi mem])]⟩) ((kind ≠ 2 → kind ≠ 5 → op = 0)) ?_ (fun wM => ?_)
 refine .sr ?_
 refine .fa bP ?_
 refine .ld aV ?_
 refine .vl (Y.zk rfl rfl) ?_
 refine .mv ?_
 refine .ax (d := 14) rfl (fun Af => ?_) (fun Af => ?_)
 refine .gw 14 (Y.qp bP rfl rfl) (.gw 14 (Y.za aV rfl rfl rfl rfl) (.gw 14 (Y.zk rfl rfl) ?_))
 refine .pk ?_
 refine .mv ?_
 refine .ax (d := 19) rfl (fun oq => ?_) (fun oq => ?_)
 refine .gw 19 (Y.qp ct rfl rfl) (.gw 19 (Y.za aV rfl rfl rfl rfl) (.gw 19 (Y.zk rfl rfl) ?_))
 refine .pk ?_
 refine .nil ?_
 refine .a8 rfl (fun pK => ?_) (fun pK => ?_)
 refine .sr ?_
 refine .an ?_
 refine .nil (.ret ?_)
 exact .rb rfl (df oD)
 refine .skip ⟨om, Le.mk (.c2 (.c .nil)) (.c (.c .nil))⟩
 refine .gz 19 (.gz 19 (.gz 19 ?_))
 refine .pk ?_
 refine .nil (.bO rfl (.skip ?_))
 exact ⟨om, Le.mk (.c2 (.c .nil)) (.c (.c .nil))⟩
 refine .gz 14 (.gz 14 (.gz 14 ?_))
 refine .pk ?_
 refine .mv ?_
 refine .gz 19 (.gz 19 (.gz 19 ?_))
 refine .pk ?_
 refine .nil (.bO rfl (.skip ?_))
 exact ⟨om, Le.mk (.c2 (.c .nil)) (.c (.c .nil))⟩
 refine .fb (fun (gZ : Bool) => ⟨[(2, .ptr 102 0 0 0), (3, .ptr 103 0 0 0), (5, vi args.length), (6, .v (.bool gZ))], [(102, .cells (ab.row n)), (103, .cells [vi kind, vi op, vi out, .fz 1 (args.map ai), .v (.int .u64 (num : Int)), vi mem])]⟩) (fun gZ => (gZ = true ↔ kind = 6 ∨ kind = 7)) ?_ (fun gZ yL => ?_)
 refine .region ?_
 refine .fa bP ?_
 refine .ld aV ?_
 refine .vl (Y.ql rfl rfl) ?_
 refine .mv ?_
 refine .ax (d := 27) rfl (fun xF => ?_) (fun xF => ?_)
 refine .gz 27 (.gz 27 (.gz 27 ?_))
 refine .pk ?_
 refine .an ?_
 refine .nil ⟨true, by grind, Le.mk (.c2 (.c (.cons (aF rfl fw) .nil))) (.c (.c .nil))⟩
 refine .gw 27 (Y.qp bP rfl rfl) (.gw 27 (Y.za aV rfl rfl rfl rfl) (.gw 27 (Y.ql rfl rfl) ?_))
 refine .pk ?_
 refine .an ?_
 refine .nil ⟨decide (kind = 7), by grind, Le.mk (.c2 (.c (.cons (aF rfl fw) .nil))) (.c (.c .nil))⟩
 refine .fb (fun (jh : Bool) => ⟨[(2, .ptr 102 0 0 0), (3, .ptr 103 0 0 0), (5, vi args.length), (6, .v (.bool gZ)), (7, .v (.bool jh))], [(102, .cells (ab.row n)), (103, .cells [vi kind, vi op, vi out, .fz 1 (args.map ai), .v (.int .u64 (num : Int)), vi mem])]⟩) (fun jh => (jh = true ↔ kind = 9 ∨ kind = 10)) ?_ (fun jh yR => ?_)
 refine .region ?_
 refine .fa bP ?_
 refine .ld aV ?_
 refine .vl (Y.ql rfl rfl) ?_
 refine .mv ?_
 refine .ax (d := 35) rfl (fun r6 => ?_) (fun r6 => ?_)
 refine .gz 35 (.gz 35 (.gz 35 ?_))
 refine .pk ?_
 refine .an ?_
 refine .nil ⟨true, by grind, Le.mk (.c4 (.cons (aF rfl fw) .nil)) (.c (.c .nil))⟩
 refine .gw 35 (Y.qp bP rfl rfl) (.gw 35 (Y.za aV rfl rfl rfl rfl) (.gw 35 (Y.ql rfl rfl) ?_))
 refine .pk ?_
 refine .an ?_
 refine .nil ⟨decide (kind = 10), by grind, Le.mk (.c4 (.cons (aF rfl fw) .nil)) (.c (.c .nil))⟩
 refine .nn (⟨[(2, .ptr 102 0 0 0), (3, .ptr 103 0 0 0), (5, vi args.length)], [(102, .cells (ab.row n)), (103, .cells [vi kind, vi op, vi out, .fz 1 (args.map ai), .v (.int .u64 (num : Int)), vi mem])]⟩) (((kind ≠ 6 → kind ≠ 7 → kind ≠ 9 → kind ≠ 10 → mem = 0) ∧ (kind = 6 ∨ kind = 7 → In mem n.a7.length) ∧ (kind = 9 ∨ kind = 10 → In mem n.streams.length))) ?_ (fun Dx => ?_)
 refine .sr ?_
 refine .mv ?_
 refine .vl (Y.zm rfl) ?_
 refine .mv ?_
 refine .split (d := 42) rfl (fun wN => ?_) (fun wN => ?_)
 replace wN : gZ = false := by simpa using wN
 have LU := yL; rw [wN] at LU; simp at LU
 refine .gw 42 (Y.zg rfl rfl) (.gw 42 (Y.zm rfl) ?_)
 refine .pk ?_
 refine .mv ?_
 refine .split (d := 46) rfl (fun xM => ?_) (fun xM => ?_)
 replace xM : jh = false := by simpa using xM
 have LV := yR; rw [xM] at LV; simp at LV
 refine .gw 46 (Y.qp bU rfl rfl) (.gw 46 (Y.za aV rfl rfl rfl rfl) (.gw 46 (Y.zk rfl rfl) ?_))
 refine .pk ?_
 refine .mv ?_
 refine .ax (d := 51) rfl (fun O6 => ?_) (fun O6 => ?_)
 refine .gz 51 (.gz 51 (.gz 53 ?_))
 refine .gz 53 (.gz 53 (.gz 53 ?_))
 refine .gz 53 (.gz 53 (.gz 53 ?_))
 refine .gz 51 ?_
 refine .pk ?_
 refine .mv ?_
 refine .gz 63 (.gz 63 (.gz 65 ?_))
 refine .gz 65 (.gz 65 (.gz 65 ?_))
 refine .gz 65 (.gz 65 (.gz 65 ?_))
 refine .gz 63 ?_
 refine .pk ?_
 refine .nil (.aM rfl (.sr ?_))
 refine .an ?_
 refine .nil (.ret ?_)
 exact .rb rfl (df oD)
 refine .gw 51 (Y.zg rfl rfl) (.gw 51 (Y.zg rfl rfl) ?_)
 refine .split (d := 53) rfl (fun Ap => ?_) (fun Ap => ?_)
 have w8 := yL; rw [Ap] at w8; simp at w8
 refine .gw 53 (Y.qp bU rfl rfl) (.gw 53 (Y.za aV rfl rfl rfl rfl) (.gw 53 (Y.qp ef rfl rfl) ?_))
 refine .gw 53 (Y.za jS rfl rfl rfl rfl) (.gw 53 (Y.qx (n := n.a7.length) iG rfl cS) (.ar (d := 53) rfl ae rfl ?_))
 refine .aH nX (cM (i := mem) (n := (n.a7.length : Int))) rfl (.ah rfl rfl (.ah rfl rfl .nil)) ae rfl (.gw 53 (Y.zm rfl) (.gw 51 (Y.zn rfl rfl rfl) ?_))
 refine .pk ?_
 refine .mv ?_
 refine .dP (d := 63) rfl (fun tc => ?_) (fun tc => ?_)
 refine .gz 63 (.gz 63 (.gz 65 ?_))
 refine .gz 65 (.gz 65 (.gz 65 ?_))
 refine .gz 65 (.gz 65 (.gz 65 ?_))
 refine .gz 63 ?_
 refine .pk ?_
 refine .nil (.aM rfl (.sr ?_))
 refine .an ?_
 refine .nil (.ret ?_)
 exact .rb rfl (df oD)
 refine .gw 63 (Y.zg rfl rfl) (.gw 63 (Y.zg rfl rfl) ?_)
 refine .split (d := 65) rfl (fun sR => ?_) (fun sR => ?_)
 have nF := yR; rw [sR] at nF; simp at nF
 refine .gw 65 (Y.qp bU rfl rfl) (.gw 65 (Y.za aV rfl rfl rfl rfl) (.gw 65 (Y.qp cC rfl rfl) ?_))
 refine .gw 65 (Y.za fC rfl rfl rfl rfl) (.gw 65 (Y.qx (n := n.streams.length) eG rfl cS) (.ar (d := 65) rfl ae rfl ?_))
 refine .aH nX (cM (i := mem) (n := (n.streams.length : Int))) rfl (.ah rfl rfl (.ah rfl rfl .nil)) ae rfl (.gw 65 (Y.zm rfl) (.gw 63 (Y.zn rfl rfl rfl) ?_))
 refine .pk ?_
 refine .nil ?_
 refine .dB rfl (fun qH => ?_) (fun qH => ?_)
 refine .sr ?_
 refine .an ?_
 refine .nil (.ret ?_)
 exact .rb rfl (df oD)
 refine .skip ⟨by grind, Le.mk (.c2 (.c .nil)) (.c (.c .nil))⟩
 have nF := yR; rw [sR] at nF; simp at nF
 refine .gz 65 (.gz 65 (.gz 65 ?_))
 refine .gz 65 (.gz 65 (.gz 65 ?_))
 refine .gz 65 (.gw 63 (Y.zn rfl rfl rfl) ?_)
 refine .pk ?_
 refine .nil (.bO rfl (.skip ?_))
 exact ⟨by grind, Le.mk (.c2 (.c .nil)) (.c (.c .nil))⟩
 have w8 := yL; rw [Ap] at w8; simp at w8
 refine .gz 53 (.gz 53 (.gz 53 ?_))
 refine .gz 53 (.gz 53 (.gz 53 ?_))
 refine .gz 53 (.gw 51 (Y.zn rfl rfl rfl) ?_)
 refine .pk ?_
 refine .mv ?_
 refine .gw 63 (Y.zg rfl rfl) (.gw 63 (Y.zg rfl rfl) ?_)
 refine .split (d := 65) rfl (fun sR => ?_) (fun sR => ?_)
 have nF := yR; rw [sR] at nF; simp at nF
 refine .gw 65 (Y.qp bU rfl rfl) (.gw 65 (Y.za aV rfl rfl rfl rfl) (.gw 65 (Y.qp cC rfl rfl) ?_))
 refine .gw 65 (Y.za fC rfl rfl rfl rfl) (.gw 65 (Y.qx (n := n.streams.length) eG rfl cS) (.ar (d := 65) rfl ae rfl ?_))
 refine .aH nX (cM (i := mem) (n := (n.streams.length : Int))) rfl (.ah rfl rfl (.ah rfl rfl .nil)) ae rfl (.gw 65 (Y.zm rfl) (.gw 63 (Y.zn rfl rfl rfl) ?_))
 refine .pk ?_
 refine .nil ?_
 refine .dB rfl (fun qH => ?_) (fun qH => ?_)
 refine .sr ?_
 refine .an ?_
 refine .nil (.ret ?_)
 exact .rb rfl (df oD)
 refine .skip ⟨by grind, Le.mk (.c2 (.c .nil)) (.c (.c .nil))⟩
 have nF := yR; rw [sR] at nF; simp at nF
 refine .gz 65 (.gz 65 (.gz 65 ?_))
 refine .gz 65 (.gz 65 (.gz 65 ?_))
 refine .gz 65 (.gw 63 (Y.zn rfl rfl rfl) ?_)
 refine .pk ?_
 refine .nil (.bO rfl (.skip ?_))
 exact ⟨by grind, Le.mk (.c2 (.c .nil)) (.c (.c .nil))⟩
 replace xM : jh = true := by simpa using xM
 have LV := yR; rw [xM] at LV; simp at LV
 refine .gz 46 (.gz 46 (.gz 46 ?_))
 refine .pk ?_
 refine .mv ?_
 refine .gw 51 (Y.zg rfl rfl) (.gw 51 (Y.zg rfl rfl) ?_)
 refine .split (d := 53) rfl (fun Ap => ?_) (fun Ap => ?_)
 have w8 := yL; rw [Ap] at w8; simp at w8
 refine .gw 53 (Y.qp bU rfl rfl) (.gw 53 (Y.za aV rfl rfl rfl rfl) (.gw 53 (Y.qp ef rfl rfl) ?_))
 refine .gw 53 (Y.za jS rfl rfl rfl rfl) (.gw 53 (Y.qx (n := n.a7.length) iG rfl cS) (.ar (d := 53) rfl ae rfl ?_))
 refine .aH nX (cM (i := mem) (n := (n.a7.length : Int))) rfl (.ah rfl rfl (.ah rfl rfl .nil)) ae rfl (.gw 53 (Y.zm rfl) (.gw 51 (Y.zn rfl rfl rfl) ?_))
 refine .pk ?_
 refine .mv ?_
 refine .dP (d := 63) rfl (fun tc => ?_) (fun tc => ?_)
 refine .gz 63 (.gz 63 (.gz 65 ?_))
 refine .gz 65 (.gz 65 (.gz 65 ?_))
 refine .gz 65 (.gz 65 (.gz 65 ?_))
 refine .gz 63 ?_
 refine .pk ?_
 refine .nil (.aM rfl (.sr ?_))
 refine .an ?_
 refine .nil (.ret ?_)
 exact .rb rfl (df oD)
 refine .gw 63 (Y.zg rfl rfl) (.gw 63 (Y.zg rfl rfl) ?_)
 refine .split (d := 65) rfl (fun sR => ?_) (fun sR => ?_)
 have nF := yR; rw [sR] at nF; simp at nF
 refine .gw 65 (Y.qp bU rfl rfl) (.gw 65 (Y.za aV rfl rfl rfl rfl) (.gw 65 (Y.qp cC rfl rfl) ?_))
 refine .gw 65 (Y.za fC rfl rfl rfl rfl) (.gw 65 (Y.qx (n := n.streams.length) eG rfl cS) (.ar (d := 65) rfl ae rfl ?_))
 refine .aH nX (cM (i := mem) (n := (n.streams.length : Int))) rfl (.ah rfl rfl (.ah rfl rfl .nil)) ae rfl (.gw 65 (Y.zm rfl) (.gw 63 (Y.zn rfl rfl rfl) ?_))
 refine .pk ?_
 refine .nil ?_
 refine .dB rfl (fun qH => ?_) (fun qH => ?_)
 refine .sr ?_
 refine .an ?_
 refine .nil (.ret ?_)
 exact .rb rfl (df oD)
 refine .skip ⟨by grind, Le.mk (.c2 (.c .nil)) (.c (.c .nil))⟩
 have nF := yR; rw [sR] at nF; simp at nF
 refine .gz 65 (.gz 65 (.gz 65 ?_))
 refine .gz 65 (.gz 65 (.gz 65 ?_))
 refine .gz 65 (.gw 63 (Y.zn rfl rfl rfl) ?_)
 refine .pk ?_
 refine .nil (.bO rfl (.skip ?_))
 exact ⟨by grind, Le.mk (.c2 (.c .nil)) (.c (.c .nil))⟩
 have w8 := yL; rw [Ap] at w8; simp at w8
 refine .gz 53 (.gz 53 (.gz 53 ?_))
 refine .gz 53 (.gz 53 (.gz 53 ?_))
 refine .gz 53 (.gw 51 (Y.zn rfl rfl rfl) ?_)
 refine .pk ?_
 refine .mv ?_
 refine .gw 63 (Y.zg rfl rfl) (.gw 63 (Y.zg rfl rfl) ?_)
 refine .split (d := 65) rfl (fun sR => ?_) (fun sR => ?_)
 have nF := yR; rw [sR] at nF; simp at nF
 refine .gw 65 (Y.qp bU rfl rfl) (.gw 65 (Y.za aV rfl rfl rfl rfl) (.gw 65 (Y.qp cC rfl rfl) ?_))
 refine .gw 65 (Y.za fC rfl rfl rfl rfl) (.gw 65 (Y.qx (n := n.streams.length) eG rfl cS) (.ar (d := 65) rfl ae rfl ?_))
 refine .aH nX (cM (i := mem) (n := (n.streams.length : Int))) rfl (.ah rfl rfl (.ah rfl rfl .nil)) ae rfl (.gw 65 (Y.zm rfl) (.gw 63 (Y.zn rfl rfl rfl) ?_))
 refine .pk ?_
 refine .nil ?_
 refine .dB rfl (fun qH => ?_) (fun qH => ?_)
 refine .sr ?_
 refine .an ?_
 refine .nil (.ret ?_)
 exact .rb rfl (df oD)
 refine .skip ⟨by grind, Le.mk (.c2 (.c .nil)) (.c (.c .nil))⟩
 have nF := yR; rw [sR] at nF; simp at nF
 refine .gz 65 (.gz 65 (.gz 65 ?_))
 refine .gz 65 (.gz 65 (.gz 65 ?_))
 refine .gz 65 (.gw 63 (Y.zn rfl rfl rfl) ?_)
 refine .pk ?_
 refine .nil (.bO rfl (.skip ?_))
 exact ⟨by grind, Le.mk (.c2 (.c .nil)) (.c (.c .nil))⟩
 replace wN : gZ = true := by simpa using wN
 have LU := yL; rw [wN] at LU; simp at LU
 refine .gz 42 (.gz 42 ?_)
 refine .pk ?_
 refine .mv ?_
 refine .gz 46 (.gz 46 (.gz 46 ?_))
 refine .pk ?_
 refine .mv ?_
 refine .gw 51 (Y.zg rfl rfl) (.gw 51 (Y.zg rfl rfl) ?_)
 refine .split (d := 53) rfl (fun Ap => ?_) (fun Ap => ?_)
 have w8 := yL; rw [Ap] at w8; simp at w8
 refine .gw 53 (Y.qp bU rfl rfl) (.gw 53 (Y.za aV rfl rfl rfl rfl) (.gw 53 (Y.qp ef rfl rfl) ?_))
 refine .gw 53 (Y.za jS rfl rfl rfl rfl) (.gw 53 (Y.qx (n := n.a7.length) iG rfl cS) (.ar (d := 53) rfl ae rfl ?_))
 refine .aH nX (cM (i := mem) (n := (n.a7.length : Int))) rfl (.ah rfl rfl (.ah rfl rfl .nil)) ae rfl (.gw 53 (Y.zm rfl) (.gw 51 (Y.zn rfl rfl rfl) ?_))
 refine .pk ?_
 refine .mv ?_
 refine .dP (d := 63) rfl (fun tc => ?_) (fun tc => ?_)
 refine .gz 63 (.gz 63 (.gz 65 ?_))
 refine .gz 65 (.gz 65 (.gz 65 ?_))
 refine .gz 65 (.gz 65 (.gz 65 ?_))
 refine .gz 63 ?_
 refine .pk ?_
 refine .nil (.aM rfl (.sr ?_))
 refine .an ?_
 refine .nil (.ret ?_)
 exact .rb rfl (df oD)
 refine .gw 63 (Y.zg rfl rfl) (.gw 63 (Y.zg rfl rfl) ?_)
 refine .split (d := 65) rfl (fun sR => ?_) (fun sR => ?_)
 have nF := yR; rw [sR] at nF; simp at nF
 refine .gw 65 (Y.qp bU rfl rfl) (.gw 65 (Y.za aV rfl rfl rfl rfl) (.gw 65 (Y.qp cC rfl rfl) ?_))
 refine .gw 65 (Y.za fC rfl rfl rfl rfl) (.gw 65 (Y.qx (n := n.streams.length) eG rfl cS) (.ar (d := 65) rfl ae rfl ?_))
 refine .aH nX (cM (i := mem) (n := (n.streams.length : Int))) rfl (.ah rfl rfl (.ah rfl rfl .nil)) ae rfl (.gw 65 (Y.zm rfl) (.gw 63 (Y.zn rfl rfl rfl) ?_))
 refine .pk ?_
 refine .nil ?_
 refine .dB rfl (fun qH => ?_) (fun qH => ?_)
 refine .sr ?_
 refine .an ?_
 refine .nil (.ret ?_)
 exact .rb rfl (df oD)
 refine .skip ⟨by grind, Le.mk (.c2 (.c .nil)) (.c (.c .nil))⟩
 have nF := yR; rw [sR] at nF; simp at nF
 refine .gz 65 (.gz 65 (.gz 65 ?_))
 refine .gz 65 (.gz 65 (.gz 65 ?_))
 refine .gz 65 (.gw 63 (Y.zn rfl rfl rfl) ?_)
 refine .pk ?_
 refine .nil (.bO rfl (.skip ?_))
 exact ⟨by grind, Le.mk (.c2 (.c .nil)) (.c (.c .nil))⟩
 have w8 := yL; rw [Ap] at w8; simp at w8
 refine .gz 53 (.gz 53 (.gz 53 ?_))
 refine .gz 53 (.gz 53 (.gz 53 ?_))
 refine .gz 53 (.gw 51 (Y.zn rfl rfl rfl) ?_)
 refine .pk ?_
 refine .mv ?_
 refine .gw 63 (Y.zg rfl rfl) (.gw 63 (Y.zg rfl rfl) ?_)
 refine .split (d := 65) rfl (fun sR => ?_) (fun sR => ?_)
 have nF := yR; rw [sR] at nF; simp at nF
 refine .gw 65 (Y.qp bU rfl rfl) (.gw 65 (Y.za aV rfl rfl rfl rfl) (.gw 65 (Y.qp cC rfl rfl) ?_))
 refine .gw 65 (Y.za fC rfl rfl rfl rfl) (.gw 65 (Y.qx (n := n.streams.length) eG rfl cS) (.ar (d := 65) rfl ae rfl ?_))
 refine .aH nX (cM (i := mem) (n := (n.streams.length : Int))) rfl (.ah rfl rfl (.ah rfl rfl .nil)) ae rfl (.gw 65 (Y.zm rfl) (.gw 63 (Y.zn rfl rfl rfl) ?_))
 refine .pk ?_
 refine .nil ?_
 refine .dB rfl (fun qH => ?_) (fun qH => ?_)
 refine .sr ?_
 refine .an ?_
 refine .nil (.ret ?_)
 exact .rb rfl (df oD)
 refine .skip ⟨by grind, Le.mk (.c2 (.c .nil)) (.c (.c .nil))⟩
 have nF := yR; rw [sR] at nF; simp at nF
 refine .gz 65 (.gz 65 (.gz 65 ?_))
 refine .gz 65 (.gz 65 (.gz 65 ?_))
 refine .gz 65 (.gw 63 (Y.zn rfl rfl rfl) ?_)
 refine .pk ?_
 refine .nil (.bO rfl (.skip ?_))
 exact ⟨by grind, Le.mk (.c2 (.c .nil)) (.c (.c .nil))⟩
 refine .nn (⟨[(2, .ptr 102 0 0 0), (3, .ptr 103 0 0 0), (5, vi args.length)], [(102, .cells (ab.row n)), (103, .cells [vi kind, vi op, vi out, .fz 1 (args.map ai), .v (.int .u64 (num : Int)), vi mem])]⟩) ((kind ≠ 1 → kind ≠ 4 → kind ≠ 5 → kind ≠ 8 → num = 0)) ?_ (fun Tu => ?_)
 refine .sr ?_
 refine .fa bP ?_
 refine .ld aV ?_
 refine .vl (Y.zk rfl rfl) ?_
 refine .mv ?_
 refine .ax (d := 78) rfl (fun CH => ?_) (fun CH => ?_)
 refine .gw 78 (Y.qp bP rfl rfl) (.gw 78 (Y.za aV rfl rfl rfl rfl) (.gw 78 (Y.zk rfl rfl) ?_))
 refine .pk ?_
 refine .mv ?_
 refine .ax (d := 83) rfl (fun PF => ?_) (fun PF => ?_)
 refine .gw 83 (Y.qp bP rfl rfl) (.gw 83 (Y.za aV rfl rfl rfl rfl) (.gw 83 (Y.zk rfl rfl) ?_))
 refine .pk ?_
 refine .mv ?_
 refine .ax (d := 88) rfl (fun nZ => ?_) (fun nZ => ?_)
 refine .gw 88 (Y.qp bP rfl rfl) (.gw 88 (Y.za aV rfl rfl rfl rfl) (.gw 88 (Y.zk rfl rfl) ?_))
 refine .pk ?_
 refine .mv ?_
 refine .ax (d := 93) rfl (fun AR => ?_) (fun AR => ?_)
 refine .gw 93 (Y.qp dp rfl rfl) (.gw 93 (Y.za fv rfl rfl rfl rfl) (.gw 93 (Y.zk rfl rfl) ?_))
 refine .pk ?_
 refine .nil ?_
 refine .a8 rfl (fun PG => ?_) (fun PG => ?_)
 refine .sr ?_
 refine .an ?_
 refine .nil (.ret ?_)
 exact .rb rfl (df oD)
 refine .skip ⟨om, Le.mk (.c2 (.c .nil)) (.c (.c .nil))⟩
 refine .gz 93 (.gz 93 (.gz 93 ?_))
 refine .pk ?_
 refine .nil (.bO rfl (.skip ?_))
 exact ⟨om, Le.mk (.c2 (.c .nil)) (.c (.c .nil))⟩
 refine .gz 88 (.gz 88 (.gz 88 ?_))
 refine .pk ?_
 refine .mv ?_
 refine .gz 93 (.gz 93 (.gz 93 ?_))
 refine .pk ?_
 refine .nil (.bO rfl (.skip ?_))
 exact ⟨om, Le.mk (.c2 (.c .nil)) (.c (.c .nil))⟩
 refine .gz 83 (.gz 83 (.gz 83 ?_))
 refine .pk ?_
 refine .mv ?_
 refine .gz 88 (.gz 88 (.gz 88 ?_))
 refine .pk ?_
 refine .mv ?_
 refine .gz 93 (.gz 93 (.gz 93 ?_))
 refine .pk ?_
 refine .nil (.bO rfl (.skip ?_))
 exact ⟨om, Le.mk (.c2 (.c .nil)) (.c (.c .nil))⟩
 refine .gz 78 (.gz 78 (.gz 78 ?_))
 refine .pk ?_
 refine .mv ?_
 refine .gz 83 (.gz 83 (.gz 83 ?_))
 refine .pk ?_
 refine .mv ?_
 refine .gz 88 (.gz 88 (.gz 88 ?_))
 refine .pk ?_
 refine .mv ?_
 refine .gz 93 (.gz 93 (.gz 93 ?_))
 refine .pk ?_
 refine .nil (.bO rfl (.skip ?_))
 exact ⟨om, Le.mk (.c2 (.c .nil)) (.c (.c .nil))⟩
 refine .seq (.sr ?_)
 refine .fa bP ?_
 refine .ld aV ?_
 refine .nil (.block (.seq ?_))
 refine .sr (.vl (Y.ql rfl rfl) ?_)
 refine .an ?_
 refine .nil ?_
 refine .bx rfl (fun Df => ?_) (fun Df => ?_)
 refine .skip (.aM rfl (.sr ?_))
 refine .mv ?_
 refine .vl (Y.ql rfl rfl) ?_
 refine .an ?_
 refine .nil (.ret ?_)
 exact .rb rfl (dd wI)
 refine .region (.vl (Y.ql rfl rfl) ?_)
 refine .an ?_
 refine .nil ?_
 refine .bx rfl (fun Df => ?_) (fun Df => ?_)
 refine .sr ?_
 refine .mv ?_
 refine .vl (Y.ql rfl rfl) ?_
 refine .an ?_
 refine .nil (.ret ?_)
 exact .rb rfl (dd wI)
 refine .sr (.vl (Y.ql rfl rfl) ?_)
 refine .an ?_
 refine .nil ?_
 refine .a8 rfl (fun PH => ?_) (fun PH => ?_)
 refine .sr ?_
 refine .fa ct ?_
 refine .ld aV ?_
 refine .aH pw (fD (w := op)) rfl (.ah rfl rfl .nil) ae rfl ?_
 refine .mv ?_
 refine .ax (d := 110) rfl (fun CU => ?_) (fun CU => ?_)
 refine .gw 110 (Y.zg rfl rfl) (.gw 110 (Y.ql rfl rfl) ?_)
 refine .pk ?_
 refine .mv ?_
 refine .ax (d := 114) rfl (fun vc => ?_) (fun vc => ?_)
 refine .gz 114 (.gz 114 (.gz 114 ?_))
 refine .gz 114 (.gz 118 (.gz 118 ?_))
 refine .gz 114 ?_
 refine .pk ?_
 refine .mv ?_
 refine .gz 123 (.gz 123 (.gz 123 ?_))
 refine .gz 123 (.gz 127 (.gz 127 ?_))
 refine .gz 127 (.gz 127 (.gz 123 ?_))
 refine .gz 123 (.gz 133 (.gz 133 ?_))
 refine .gz 133 (.gz 123 (.gz 123 ?_))
 refine .gz 138 (.gz 138 (.gz 123 ?_))
 refine .pk ?_
 refine .an ?_
 refine .nil (.ret ?_)
 exact .rb rfl (dt wI)
 refine .gw 114 (Y.qp ct rfl rfl) (.gw 114 (Y.za aV rfl rfl rfl rfl) (.gw 114 (Y.ql rfl rfl) ?_))
 refine .gw 114 (Y.zg rfl rfl) ?_
 refine .ax (d := 118) rfl (fun C8 => ?_) (fun C8 => ?_)
 refine .gw 118 (Y.zg rfl rfl) (.gw 118 (Y.ql rfl rfl) (.gw 114 (Y.zn rfl rfl rfl) ?_))
 refine .pk ?_
 refine .mv ?_
 refine .ax (d := 123) rfl (fun qK => ?_) (fun qK => ?_)
 refine .gz 123 (.gz 123 (.gz 123 ?_))
 refine .gz 123 (.gz 127 (.gz 127 ?_))
 refine .gz 127 (.gz 127 (.gz 123 ?_))
 refine .gz 123 (.gz 133 (.gz 133 ?_))
 refine .gz 133 (.gz 123 (.gz 123 ?_))
 refine .gz 138 (.gz 138 (.gz 123 ?_))
 refine .pk ?_
 refine .an ?_
 refine .nil (.ret ?_)
 exact .rb rfl (dt wI)
 refine .gw 123 (Y.qp ct rfl rfl) (.gw 123 (Y.za aV rfl rfl rfl rfl) (.ar (d := 123) rfl ae rfl ?_))
 refine .aH yA (mb (w := op)) rfl (.ah rfl rfl .nil) ae rfl (.gw 123 (Y.zg rfl rfl) ?_)
 refine .ax (d := 127) rfl (fun yf => ?_) (fun yf => ?_)
 refine .gw 127 (Y.qp ct rfl rfl) (.gw 127 (Y.za aV rfl rfl rfl rfl) (.ar (d := 127) rfl ae rfl ?_))
 refine .aH pw (fD (w := op)) rfl (.ah rfl rfl .nil) ae rfl (.gw 127 (Y.zm rfl) (.gw 123 (Y.zn rfl rfl rfl) ?_))
 refine .gw 123 (Y.zg rfl rfl) ?_
 refine .dP (d := 133) rfl (fun sP => ?_) (fun sP => ?_)
 refine .gw 133 (Y.qp ct rfl rfl) (.gw 133 (Y.za aV rfl rfl rfl rfl) (.gw 133 (Y.zk rfl rfl) ?_))
 refine .gw 123 (Y.zn rfl rfl rfl) (.gw 123 (Y.zg rfl rfl) ?_)
 refine .ax (d := 138) rfl (fun yg => ?_) (fun yg => ?_)
 refine .gw 138 (Y.zg rfl rfl) (.gw 138 (Y.ql rfl rfl) (.gw 123 (Y.zn rfl rfl rfl) ?_))
 refine .pk ?_
 refine .an ?_
 refine .nil (.ret ?_)
 exact .rb rfl (dd wI)
 refine .gz 138 (.gz 138 (.gw 123 (Y.zn rfl rfl rfl) ?_))
 refine .pk ?_
 refine .an ?_
 refine .nil (.ret ?_)
 exact .rb rfl (df oD)
 refine .gz 133 (.gz 133 (.gz 133 ?_))
 refine .gw 123 (Y.zn rfl rfl rfl) (.gw 123 (Y.zg rfl rfl) (.gz 138 ?_))
 refine .gz 138 (.gw 123 (Y.zn rfl rfl rfl) ?_)
 refine .pk ?_
 refine .an ?_
 refine .nil (.ret ?_)
 exact .rb rfl (df oD)
 refine .gz 127 (.gz 127 (.gz 127 ?_))
 refine .gz 127 (.gw 123 (Y.zn rfl rfl rfl) (.gw 123 (Y.zg rfl rfl) ?_))
 refine .gz 133 (.gz 133 (.gz 133 ?_))
 refine .gw 123 (Y.zn rfl rfl rfl) (.gw 123 (Y.zg rfl rfl) (.gz 138 ?_))
 refine .gz 138 (.gw 123 (Y.zn rfl rfl rfl) ?_)
 refine .pk ?_
 refine .an ?_
 refine .nil (.ret ?_)
 exact .rb rfl (df oD)
 refine .gz 118 (.gz 118 (.gw 114 (Y.zn rfl rfl rfl) ?_))
 refine .pk ?_
 refine .mv ?_
 refine .gw 123 (Y.qp ct rfl rfl) (.gw 123 (Y.za aV rfl rfl rfl rfl) (.ar (d := 123) rfl ae rfl ?_))
 refine .aH yA (mb (w := op)) rfl (.ah rfl rfl .nil) ae rfl (.gw 123 (Y.zg rfl rfl) ?_)
 refine .ax (d := 127) rfl (fun yf => ?_) (fun yf => ?_)
 refine .gw 127 (Y.qp ct rfl rfl) (.gw 127 (Y.za aV rfl rfl rfl rfl) (.ar (d := 127) rfl ae rfl ?_))
 refine .aH pw (fD (w := op)) rfl (.ah rfl rfl .nil) ae rfl (.gw 127 (Y.zm rfl) (.gw 123 (Y.zn rfl rfl rfl) ?_))
 refine .gw 123 (Y.zg rfl rfl) ?_
 refine .dP (d := 133) rfl (fun sP => ?_) (fun sP => ?_)
 refine .gw 133 (Y.qp ct rfl rfl) (.gw 133 (Y.za aV rfl rfl rfl rfl) (.gw 133 (Y.zk rfl rfl) ?_))
 refine .gw 123 (Y.zn rfl rfl rfl) (.gw 123 (Y.zg rfl rfl) ?_)
 refine .ax (d := 138) rfl (fun yg => ?_) (fun yg => ?_)
 refine .gw 138 (Y.zg rfl rfl) (.gw 138 (Y.ql rfl rfl) (.gw 123 (Y.zn rfl rfl rfl) ?_))
 refine .pk ?_
 refine .an ?_
 refine .nil (.ret ?_)
 exact .rb rfl (dd wI)
 refine .gz 138 (.gz 138 (.gw 123 (Y.zn rfl rfl rfl) ?_))
 refine .pk ?_
 refine .an ?_
 refine .nil (.ret ?_)
 exact .rb rfl (df oD)
 refine .gz 133 (.gz 133 (.gz 133 ?_))
 refine .gw 123 (Y.zn rfl rfl rfl) (.gw 123 (Y.zg rfl rfl) (.gz 138 ?_))
 refine .gz 138 (.gw 123 (Y.zn rfl rfl rfl) ?_)
 refine .pk ?_
 refine .an ?_
 refine .nil (.ret ?_)
 exact .rb rfl (df oD)
 refine .gz 127 (.gz 127 (.gz 127 ?_))
 refine .gz 127 (.gw 123 (Y.zn rfl rfl rfl) (.gw 123 (Y.zg rfl rfl) ?_))
 refine .gz 133 (.gz 133 (.gz 133 ?_))
 refine .gw 123 (Y.zn rfl rfl rfl) (.gw 123 (Y.zg rfl rfl) (.gz 138 ?_))
 refine .gz 138 (.gw 123 (Y.zn rfl rfl rfl) ?_)
 refine .pk ?_
 refine .an ?_
 refine .nil (.ret ?_)
 exact .rb rfl (df oD)
 refine .gz 110 (.gz 110 ?_)
 refine .pk ?_
 refine .mv ?_
 refine .gw 114 (Y.qp ct rfl rfl) (.gw 114 (Y.za aV rfl rfl rfl rfl) (.gw 114 (Y.ql rfl rfl) ?_))
 refine .gw 114 (Y.zg rfl rfl) ?_
 refine .ax (d := 118) rfl (fun C8 => ?_) (fun C8 => ?_)
 refine .gw 118 (Y.zg rfl rfl) (.gw 118 (Y.ql rfl rfl) (.gw 114 (Y.zn rfl rfl rfl) ?_))
 refine .pk ?_
 refine .mv ?_
 refine .ax (d := 123) rfl (fun qK => ?_) (fun qK => ?_)
 refine .gz 123 (.gz 123 (.gz 123 ?_))
 refine .gz 123 (.gz 127 (.gz 127 ?_))
 refine .gz 127 (.gz 127 (.gz 123 ?_))
 refine .gz 123 (.gz 133 (.gz 133 ?_))
 refine .gz 133 (.gz 123 (.gz 123 ?_))
 refine .gz 138 (.gz 138 (.gz 123 ?_))
 refine .pk ?_
 refine .an ?_
 refine .nil (.ret ?_)
 exact .rb rfl (dt wI)
 refine .gw 123 (Y.qp ct rfl rfl) (.gw 123 (Y.za aV rfl rfl rfl rfl) (.ar (d := 123) rfl ae rfl ?_))
 refine .aH yA (mb (w := op)) rfl (.ah rfl rfl .nil) ae rfl (.gw 123 (Y.zg rfl rfl) ?_)
 refine .ax (d := 127) rfl (fun yf => ?_) (fun yf => ?_)
 refine .gw 127 (Y.qp ct rfl rfl) (.gw 127 (Y.za aV rfl rfl rfl rfl) (.ar (d := 127) rfl ae rfl ?_))
 refine .aH pw (fD (w := op)) rfl (.ah rfl rfl .nil) ae rfl (.gw 127 (Y.zm rfl) (.gw 123 (Y.zn rfl rfl rfl) ?_))
 refine .gw 123 (Y.zg rfl rfl) ?_
 refine .dP (d := 133) rfl (fun sP => ?_) (fun sP => ?_)
 refine .gw 133 (Y.qp ct rfl rfl) (.gw 133 (Y.za aV rfl rfl rfl rfl) (.gw 133 (Y.zk rfl rfl) ?_))
 refine .gw 123 (Y.zn rfl rfl rfl) (.gw 123 (Y.zg rfl rfl) ?_)
 refine .ax (d := 138) rfl (fun yg => ?_) (fun yg => ?_)
 refine .gw 138 (Y.zg rfl rfl) (.gw 138 (Y.ql rfl rfl) (.gw 123 (Y.zn rfl rfl rfl) ?_))
 refine .pk ?_
 refine .an ?_
 refine .nil (.ret ?_)
 exact .rb rfl (dd wI)
 refine .gz 138 (.gz 138 (.gw 123 (Y.zn rfl rfl rfl) ?_))
 refine .pk ?_
 refine .an ?_
 refine .nil (.ret ?_)
 exact .rb rfl (df oD)
 refine .gz 133 (.gz 133 (.gz 133 ?_))
 refine .gw 123 (Y.zn rfl rfl rfl) (.gw 123 (Y.zg rfl rfl) (.gz 138 ?_))
 refine .gz 138 (.gw 123 (Y.zn rfl rfl rfl) ?_)
 refine .pk ?_
 refine .an ?_
 refine .nil (.ret ?_)
 exact .rb rfl (df oD)
 refine .gz 127 (.gz 127 (.gz 127 ?_))
 refine .gz 127 (.gw 123 (Y.zn rfl rfl rfl) (.gw 123 (Y.zg rfl rfl) ?_))
 refine .gz 133 (.gz 133 (.gz 133 ?_))
 refine .gw 123 (Y.zn rfl rfl rfl) (.gw 123 (Y.zg rfl rfl) (.gz 138 ?_))
 refine .gz 138 (.gw 123 (Y.zn rfl rfl rfl) ?_)
 refine .pk ?_
 refine .an ?_
 refine .nil (.ret ?_)
 exact .rb rfl (df oD)
 refine .gz 118 (.gz 118 (.gw 114 (Y.zn rfl rfl rfl) ?_))
 refine .pk ?_
 refine .mv ?_
 refine .gw 123 (Y.qp ct rfl rfl) (.gw 123 (Y.za aV rfl rfl rfl rfl) (.ar (d := 123) rfl ae rfl ?_))
 refine .aH yA (mb (w := op)) rfl (.ah rfl rfl .nil) ae rfl (.gw 123 (Y.zg rfl rfl) ?_)
 refine .ax (d := 127) rfl (fun yf => ?_) (fun yf => ?_)
 refine .gw 127 (Y.qp ct rfl rfl) (.gw 127 (Y.za aV rfl rfl rfl rfl) (.ar (d := 127) rfl ae rfl ?_))
 refine .aH pw (fD (w := op)) rfl (.ah rfl rfl .nil) ae rfl (.gw 127 (Y.zm rfl) (.gw 123 (Y.zn rfl rfl rfl) ?_))
 refine .gw 123 (Y.zg rfl rfl) ?_
 refine .dP (d := 133) rfl (fun sP => ?_) (fun sP => ?_)
 refine .gw 133 (Y.qp ct rfl rfl) (.gw 133 (Y.za aV rfl rfl rfl rfl) (.gw 133 (Y.zk rfl rfl) ?_))
 refine .gw 123 (Y.zn rfl rfl rfl) (.gw 123 (Y.zg rfl rfl) ?_)
 refine .ax (d := 138) rfl (fun yg => ?_) (fun yg => ?_)
 refine .gw 138 (Y.zg rfl rfl) (.gw 138 (Y.ql rfl rfl) (.gw 123 (Y.zn rfl rfl rfl) ?_))
 refine .pk ?_
 refine .an ?_
 refine .nil (.ret ?_)
 exact .rb rfl (dd wI)
 refine .gz 138 (.gz 138 (.gw 123 (Y.zn rfl rfl rfl) ?_))
 refine .pk ?_
 refine .an ?_
 refine .nil (.ret ?_)
 exact .rb rfl (df oD)
 refine .gz 133 (.gz 133 (.gz 133 ?_))
 refine .gw 123 (Y.zn rfl rfl rfl) (.gw 123 (Y.zg rfl rfl) (.gz 138 ?_))
 refine .gz 138 (.gw 123 (Y.zn rfl rfl rfl) ?_)
 refine .pk ?_
 refine .an ?_
 refine .nil (.ret ?_)
 exact .rb rfl (df oD)
 refine .gz 127 (.gz 127 (.gz 127 ?_))
 refine .gz 127 (.gw 123 (Y.zn rfl rfl rfl) (.gw 123 (Y.zg rfl rfl) ?_))
 refine .gz 133 (.gz 133 (.gz 133 ?_))
 refine .gw 123 (Y.zn rfl rfl rfl) (.gw 123 (Y.zg rfl rfl) (.gz 138 ?_))
 refine .gz 138 (.gw 123 (Y.zn rfl rfl rfl) ?_)
 refine .pk ?_
 refine .an ?_
 refine .nil (.ret ?_)
 exact .rb rfl (df oD)
 refine .sr (.vl (Y.ql rfl rfl) ?_)
 refine .an ?_
 refine .nil ?_
 refine .a8 rfl (fun Il => ?_) (fun Il => ?_)
 refine .sr ?_
 refine .mv ?_
 refine .vl (Y.qq rfl rfl) ?_
 refine .mv ?_
 refine .ax (d := 147) rfl (fun PI => ?_) (fun PI => ?_)
 refine .gw 147 (Y.zg rfl rfl) (.gw 147 (Y.zs rfl rfl om) (.gw 147 (Y.ql rfl rfl) ?_))
 refine .pk ?_
 refine .an ?_
 refine .nil (.ret ?_)
 exact .rb rfl (dd wI)
 refine .gz 147 (.gz 147 (.gz 147 ?_))
 refine .pk ?_
 refine .an ?_
 refine .nil (.ret ?_)
 exact .rb rfl (df oD)
 refine .seq (.sr (.vl (Y.ql rfl rfl) ?_))
 refine .an ?_
 refine .nil ?_
 refine .bx rfl (fun It => ?_) (fun It => ?_)
 refine .skip (.aM rfl (.sr ?_))
 refine .mv ?_
 refine .vl (Y.ql rfl rfl) ?_
 refine .an ?_
 refine .nil (.ret ?_)
 exact .rb rfl (dd wI)
 refine .region (.vl (Y.ql rfl rfl) ?_)
 refine .an ?_
 refine .nil ?_
 refine .bx rfl (fun It => ?_) (fun It => ?_)
 refine .sr ?_
 refine .mv ?_
 refine .vl (Y.ql rfl rfl) ?_
 refine .an ?_
 refine .nil (.ret ?_)
 exact .rb rfl (dd wI)
 refine .sr (.vl (Y.ql rfl rfl) ?_)
 refine .an ?_
 refine .nil ?_
 refine .a8 rfl (fun va => ?_) (fun va => ?_)
 refine .sr ?_
 refine .fa ct ?_
 refine .ld aV ?_
 refine .aH FP (mE (w := op)) rfl (.ah rfl rfl .nil) ae rfl ?_
 refine .mv ?_
 refine .ax (d := 162) rfl (fun Iu => ?_) (fun Iu => ?_)
 refine .gw 162 (Y.zg rfl rfl) (.gw 162 (Y.ql rfl rfl) ?_)
 refine .pk ?_
 refine .mv ?_
 refine .ax (d := 166) rfl (fun Fb => ?_) (fun Fb => ?_)
 refine .gw 166 (Y.qp dp rfl rfl) (.gw 166 (Y.za fv rfl rfl rfl rfl) (.gw 166 (Y.qq rfl rfl) ?_))
 refine .pk ?_
 refine .mv ?_
 refine .ax (d := 171) rfl (fun PJ => ?_) (fun PJ => ?_)
 refine .gw 171 (Y.qp dp rfl rfl) (.gw 171 (Y.za fv rfl rfl rfl rfl) (.gw 171 (Y.qz rfl rfl) ?_))
 refine .pk ?_
 refine .an ?_
 refine .nil (.ret ?_)
 exact .rb rfl (dd wI)
 refine .gz 171 (.gz 171 (.gz 171 ?_))
 refine .pk ?_
 refine .an ?_
 refine .nil (.ret ?_)
 exact .rb rfl (df oD)
 refine .gz 166 (.gz 166 (.gz 166 ?_))
 refine .pk ?_
 refine .mv ?_
 refine .gz 171 (.gz 171 (.gz 171 ?_))
 refine .pk ?_
 refine .an ?_
 refine .nil (.ret ?_)
 exact .rb rfl (df oD)
 refine .gz 162 (.gz 162 ?_)
 refine .pk ?_
 refine .mv ?_
 refine .gz 166 (.gz 166 (.gz 166 ?_))
 refine .pk ?_
 refine .mv ?_
 refine .gz 171 (.gz 171 (.gz 171 ?_))
 refine .pk ?_
 refine .an ?_
 refine .nil (.ret ?_)
 exact .rb rfl (df oD)
 refine .sr (.vl (Y.ql rfl rfl) ?_)
 refine .an ?_
 refine .nil ?_
 refine .a8 rfl (fun Iv => ?_) (fun Iv => ?_)
 refine .sr ?_
 refine .mv ?_
 refine .vl (Y.ql rfl rfl) ?_
 refine .an ?_
 refine .nil (.ret ?_)
 exact .rb rfl (dd wI)
 refine .sr (.vl (Y.ql rfl rfl) ?_)
 refine .an ?_
 refine .nil ?_
 refine .a8 rfl (fun Fc => ?_) (fun Fc => ?_)
 refine .sr ?_
 refine .mv ?_
 refine .vl (Y.ql rfl rfl) ?_
 refine .mv ?_
 refine .ax (d := 184) rfl (fun PK => ?_) (fun PK => ?_)
 refine .gw 184 (Y.qp dp rfl rfl) (.gw 184 (Y.za fv rfl rfl rfl rfl) (.gw 184 (Y.qp iZ rfl rfl) ?_))
 refine .gw 184 (Y.za aW rfl rfl rfl rfl) (.gw 184 (Y.qx (n := n.ins.length) az rfl cS) ?_)
 refine .gw 184 (Y.qk q4 xy rfl (by first | rfl | exact IntWalk.u64_in _ om)) (.gw 184 (Y.zc rfl rfl) ?_)
 refine .pk ?_
 refine .an ?_
 refine .nil (.ret ?_)
 exact .rb rfl (dd wI)
 refine .gz 184 (.gz 184 (.gz 184 ?_))
 refine .gz 184 (.gz 184 (.gz 184 ?_))
 refine .gz 184 ?_
 refine .pk ?_
 refine .an ?_
 refine .nil (.ret ?_)
 exact .rb rfl (df oD)
 refine .sr (.vl (Y.ql rfl rfl) ?_)
 refine .an ?_
 refine .nil ?_
 refine .a8 rfl (fun PL => ?_) (fun PL => ?_)
 refine .sr ?_
 refine .mv ?_
 refine .vl (Y.ql rfl rfl) ?_
 refine .mv ?_
 refine .ax (d := 197) rfl (fun Fe => ?_) (fun Fe => ?_)
 refine .gw 197 (Y.qp cC rfl rfl) (.gw 197 (Y.za fC rfl rfl rfl rfl) (.gw 197 (Y.qp bU rfl rfl) ?_))
 refine .gw 197 (Y.za aV rfl rfl rfl rfl) (.gw 197 (Y.qs (m := (mem).toNat) eG rfl rfl gu (aq (d := default) gu)) ?_)
 refine .gw 197 (Y.qp gU rfl rfl) (.gw 197 (Y.za ta rfl rfl rfl rfl) (.gw 197 (Y.zm rfl) ?_))
 refine .pk ?_
 refine .an ?_
 refine .nil (.ret ?_)
 exact .rb rfl (db wI)
 refine .gz 197 (.gz 197 (.gz 197 ?_))
 refine .gz 197 (.gz 197 (.gz 197 ?_))
 refine .gz 197 (.gz 197 ?_)
 refine .pk ?_
 refine .an ?_
 refine .nil (.ret ?_)
 exact .rb rfl (df oD)
 refine .skip (.sr ?_)
 refine .an ?_
 refine .nil (.ret ?_)
 exact .rb rfl (df oD)
open Go Go.AW Go.Proofs
theorem Az {n : ab} {c : Cell} (hs : n.Small) (hc : c.args.length ≤ 17592186043904) : au Try.prog 88 [.agg (ab.row n), .agg (Cell.row c)] [] [] (fun r o => r = .v (.bool (decide (Shaped n c))) ∧ o = []) := by
 obtain ⟨k, op, out, args, num, mem⟩ := c
 exact De hs hc
open Go Go.AW Go.Proofs
theorem nG {l : List Int} (hl : l.length ≤ 17592186043904) : au Try.prog 116 [.fz 1 (l.map ai)] [] [] (fun r o => r = .v (.bool (decide (∀ j, j < l.length → eO (l.getD j 0)))) ∧ o = []) := by
 refine au.of Try.func116 rfl rfl rfl (n := 16) ae (aI rfl) (.sr ?_)
 refine .an ?_
 refine .nil (.seq (.sr ?_))
 refine .an ?_
 refine .nil (.block ?_)
 refine .fY (fun (bA : Nat) => ⟨[(0, .fz 1 (l.map ai)), (3, vi bA)], []⟩) (fun bA => ((bA : Int) ≤ (l.length : Int)) ∧ (∀ j, j < bA → eO (l.getD j 0))) (fun bA => ((l.length : Int) - (bA : Int)).toNat) 0 (⟨om, fun j hj => by omega⟩) (Le.mk (.c (.cons (aj rfl bf) .nil)) .nil) (fun bA th => ?_)
 obtain ⟨rz, hw⟩ := th
 refine .seq (.sr ?_)
 refine .mv ?_
 refine .mv ?_
 refine .vl (Y.qx (n := l.length) az rfl cS) (.vl (Y.zc rfl rfl) (.nil ?_))
 refine .a8 rfl (fun c7 => ?_) (fun c7 => ?_)
 refine .skip (.seq (.block ?_))
 refine .sr ?_
 refine .mv ?_
 refine .mv ?_
 refine .vl (Y.qs (m := bA) az rfl rfl bf (aq (d := 0) om)) ?_
 refine .ld aV ?_
 refine .aH Ce (oI (w := (l.getD bA 0))) rfl (.ah rfl rfl .nil) ae rfl (.vl (Y.zm rfl) (.nil ?_))
 refine .dB rfl (fun rJ => ?_) (fun rJ => ?_)
 refine .sr ?_
 refine .an ?_
 refine .nil (.ret ?_)
 exact .rb rfl (df (fun h => by have := h bA om; contradiction))
 refine .skip (.region ?_)
 refine .mv ?_
 refine .vl (Y.qb rfl rfl bw) ?_
 refine .an ?_
 refine .nil (⟨bA + 1, ⟨om, cT hw bm⟩, om, Le.mk (.c (.cons (aj rfl bf) .nil)) .nil⟩)
 refine .exit (.sr ?_)
 refine .an ?_
 refine .nil (.ret ?_)
 exact .rb rfl (dt (fun j hj => hw j om))
theorem yh {n : ab} (hs : n.Small) : au Try.prog 87 [.agg (ab.row n)] [] [] (fun r o => r = .v (.bool (decide (tU n))) ∧ o = []) := by
 refine au.of Try.func87 rfl rfl rfl (n := 170) ae (aI rfl) ?_
 have IN := hs.name; have M5 := hs.aa; have M6 := hs.cells; have EY := hs.ins; have EZ := hs.a7; have Gm := hs.streams; have M7 := hs.aR; have SI := hs.data; have Lu := hs.bE
 refine .sr (.box 101 rfl rfl rfl rfl rfl ae ?_)
 refine .an ?_
 refine .nil (.seq (.sr ?_))
 refine .fa BX ?_
 refine .ld I9 ?_
 refine .aH Cd (lf (s := n.name) (by first | assumption | omega)) rfl (.ah rfl rfl .nil) ae rfl (.vl (Y.zm rfl) ?_)
 refine .mv ?_
 refine .dP (d := 11) rfl (fun Gb => ?_) (fun Gb => ?_)
 refine .gz 11 (.gz 11 (.gz 11 ?_))
 refine .gz 11 ?_
 refine .pk ?_
 refine .mv ?_
 refine .gz 17 (.gz 17 (.gz 17 ?_))
 refine .gz 17 ?_
 refine .pk ?_
 refine .mv ?_
 refine .gz 23 (.gz 23 (.gz 23 ?_))
 refine .gz 23 ?_
 refine .pk ?_
 refine .mv ?_
 refine .gz 29 (.gz 29 (.gz 29 ?_))
 refine .gz 29 ?_
 refine .pk ?_
 refine .mv ?_
 refine .gz 35 (.gz 35 (.gz 35 ?_))
 refine .gz 35 ?_
 refine .pk ?_
 refine .mv ?_
 refine .gz 41 (.gz 41 (.gz 41 ?_))
 refine .gz 41 ?_
 refine .pk ?_
 refine .mv ?_
 refine .gz 47 (.gz 47 (.gz 47 ?_))
 refine .gz 47 (.gz 47 (.gz 47 ?_))
 refine .gz 47 ?_
 refine .pk ?_
 refine .mv ?_
 refine .gz 56 (.gz 56 (.gz 56 ?_))
 refine .gz 56 (.gz 56 (.gz 56 ?_))
 refine .gz 56 ?_
 refine .pk ?_
 refine .nil (.aM rfl (.sr ?_))
 refine .an ?_
 refine .nil (.ret ?_)
 exact .rb rfl (df (fun h => by have h1 := h.name; have h2 := h.bR; have h3 := h.b8; have h4 := h.fk; have h5 := h.bt; have h6 := h.cb; have h7 := h.dR; have h8 := h.aa; have h9 := h.ins; first | contradiction | omega))
 refine .gw 11 (Y.qp bL rfl rfl) (.gw 11 (Y.za eT rfl rfl rfl rfl) (.gw 11 (Y.qx (n := n.cells.length) dr rfl cS) ?_))
 refine .gw 11 (Y.qr rfl rfl) ?_
 refine .pk ?_
 refine .mv ?_
 refine .ax (d := 17) rfl (fun OU => ?_) (fun OU => ?_)
 refine .gz 17 (.gz 17 (.gz 17 ?_))
 refine .gz 17 ?_
 refine .pk ?_
 refine .mv ?_
 refine .gz 23 (.gz 23 (.gz 23 ?_))
 refine .gz 23 ?_
 refine .pk ?_
 refine .mv ?_
 refine .gz 29 (.gz 29 (.gz 29 ?_))
 refine .gz 29 ?_
 refine .pk ?_
 refine .mv ?_
 refine .gz 35 (.gz 35 (.gz 35 ?_))
 refine .gz 35 ?_
 refine .pk ?_
 refine .mv ?_
 refine .gz 41 (.gz 41 (.gz 41 ?_))
 refine .gz 41 ?_
 refine .pk ?_
 refine .mv ?_
 refine .gz 47 (.gz 47 (.gz 47 ?_))
 refine .gz 47 (.gz 47 (.gz 47 ?_))
 refine .gz 47 ?_
 refine .pk ?_
 refine .mv ?_
 refine .gz 56 (.gz 56 (.gz 56 ?_))
 refine .gz 56 (.gz 56 (.gz 56 ?_))
 refine .gz 56 ?_
 refine .pk ?_
 refine .nil (.aM rfl (.sr ?_))
 refine .an ?_
 refine .nil (.ret ?_)
 exact .rb rfl (df (fun h => by have h1 := h.name; have h2 := h.bR; have h3 := h.b8; have h4 := h.fk; have h5 := h.bt; have h6 := h.cb; have h7 := h.dR; have h8 := h.aa; have h9 := h.ins; first | contradiction | omega))
 refine .gw 17 (Y.qp bu rfl rfl) (.gw 17 (Y.za aW rfl rfl rfl rfl) (.gw 17 (Y.qx (n := n.aa.length) az rfl cS) ?_))
 refine .gw 17 (Y.qr rfl rfl) ?_
 refine .pk ?_
 refine .mv ?_
 refine .ax (d := 23) rfl (fun pK => ?_) (fun pK => ?_)
 refine .gz 23 (.gz 23 (.gz 23 ?_))
 refine .gz 23 ?_
 refine .pk ?_
 refine .mv ?_
 refine .gz 29 (.gz 29 (.gz 29 ?_))
 refine .gz 29 ?_
 refine .pk ?_
 refine .mv ?_
 refine .gz 35 (.gz 35 (.gz 35 ?_))
 refine .gz 35 ?_
 refine .pk ?_
 refine .mv ?_
 refine .gz 41 (.gz 41 (.gz 41 ?_))
 refine .gz 41 ?_
 refine .pk ?_
 refine .mv ?_
 refine .gz 47 (.gz 47 (.gz 47 ?_))
 refine .gz 47 (.gz 47 (.gz 47 ?_))
 refine .gz 47 ?_
 refine .pk ?_
 refine .mv ?_
 refine .gz 56 (.gz 56 (.gz 56 ?_))
 refine .gz 56 (.gz 56 (.gz 56 ?_))
 refine .gz 56 ?_
 refine .pk ?_
 refine .nil (.aM rfl (.sr ?_))
 refine .an ?_
 refine .nil (.ret ?_)
 exact .rb rfl (df (fun h => by have h1 := h.name; have h2 := h.bR; have h3 := h.b8; have h4 := h.fk; have h5 := h.bt; have h6 := h.cb; have h7 := h.dR; have h8 := h.aa; have h9 := h.ins; first | contradiction | omega))
 refine .gw 23 (Y.qp bu rfl rfl) (.gw 23 (Y.za aW rfl rfl rfl rfl) (.ar (d := 23) rfl ae rfl ?_))
 refine .aH FO (nG (l := n.aa) (om)) rfl (.ah rfl rfl .nil) ae rfl (.gw 23 (Y.zm rfl) ?_)
 refine .pk ?_
 refine .mv ?_
 refine .dP (d := 29) rfl (fun CS => ?_) (fun CS => ?_)
 refine .gz 29 (.gz 29 (.gz 29 ?_))
 refine .gz 29 ?_
 refine .pk ?_
 refine .mv ?_
 refine .gz 35 (.gz 35 (.gz 35 ?_))
 refine .gz 35 ?_
 refine .pk ?_
 refine .mv ?_
 refine .gz 41 (.gz 41 (.gz 41 ?_))
 refine .gz 41 ?_
 refine .pk ?_
 refine .mv ?_
 refine .gz 47 (.gz 47 (.gz 47 ?_))
 refine .gz 47 (.gz 47 (.gz 47 ?_))
 refine .gz 47 ?_
 refine .pk ?_
 refine .mv ?_
 refine .gz 56 (.gz 56 (.gz 56 ?_))
 refine .gz 56 (.gz 56 (.gz 56 ?_))
 refine .gz 56 ?_
 refine .pk ?_
 refine .nil (.aM rfl (.sr ?_))
 refine .an ?_
 refine .nil (.ret ?_)
 exact .rb rfl (df (fun h => by have h1 := h.name; have h2 := h.bR; have h3 := h.b8; have h4 := h.fk; have h5 := h.bt; have h6 := h.cb; have h7 := h.dR; have h8 := h.aa; have h9 := h.ins; first | contradiction | omega))
 refine .gw 29 (Y.qp iZ rfl rfl) (.gw 29 (Y.za aW rfl rfl rfl rfl) (.ar (d := 29) rfl ae rfl ?_))
 refine .aH FO (nG (l := n.ins) (om)) rfl (.ah rfl rfl .nil) ae rfl (.gw 29 (Y.zm rfl) ?_)
 refine .pk ?_
 refine .mv ?_
 refine .dP (d := 35) rfl (fun r6 => ?_) (fun r6 => ?_)
 refine .gz 35 (.gz 35 (.gz 35 ?_))
 refine .gz 35 ?_
 refine .pk ?_
 refine .mv ?_
 refine .gz 41 (.gz 41 (.gz 41 ?_))
 refine .gz 41 ?_
 refine .pk ?_
 refine .mv ?_
 refine .gz 47 (.gz 47 (.gz 47 ?_))
 refine .gz 47 (.gz 47 (.gz 47 ?_))
 refine .gz 47 ?_
 refine .pk ?_
 refine .mv ?_
 refine .gz 56 (.gz 56 (.gz 56 ?_))
 refine .gz 56 (.gz 56 (.gz 56 ?_))
 refine .gz 56 ?_
 refine .pk ?_
 refine .nil (.aM rfl (.sr ?_))
 refine .an ?_
 refine .nil (.ret ?_)
 exact .rb rfl (df (fun h => by have h1 := h.name; have h2 := h.bR; have h3 := h.b8; have h4 := h.fk; have h5 := h.bt; have h6 := h.cb; have h7 := h.dR; have h8 := h.aa; have h9 := h.ins; first | contradiction | omega))
 refine .gw 35 (Y.qp ef rfl rfl) (.gw 35 (Y.za jS rfl rfl rfl rfl) (.gw 35 (Y.qx (n := n.a7.length) iG rfl cS) ?_))
 refine .gw 35 (Y.qr rfl rfl) ?_
 refine .pk ?_
 refine .mv ?_
 refine .ax (d := 41) rfl (fun tt => ?_) (fun tt => ?_)
 refine .gz 41 (.gz 41 (.gz 41 ?_))
 refine .gz 41 ?_
 refine .pk ?_
 refine .mv ?_
 refine .gz 47 (.gz 47 (.gz 47 ?_))
 refine .gz 47 (.gz 47 (.gz 47 ?_))
 refine .gz 47 ?_
 refine .pk ?_
 refine .mv ?_
 refine .gz 56 (.gz 56 (.gz 56 ?_))
 refine .gz 56 (.gz 56 (.gz 56 ?_))
 refine .gz 56 ?_
 refine .pk ?_
 refine .nil (.aM rfl (.sr ?_))
 refine .an ?_
 refine .nil (.ret ?_)
 exact .rb rfl (df (fun h => by have h1 := h.name; have h2 := h.bR; have h3 := h.b8; have h4 := h.fk; have h5 := h.bt; have h6 := h.cb; have h7 := h.dR; have h8 := h.aa; have h9 := h.ins; first | contradiction | omega))
 refine .gw 41 (Y.qp cC rfl rfl) (.gw 41 (Y.za fC rfl rfl rfl rfl) (.gw 41 (Y.qx (n := n.streams.length) eG rfl cS) ?_))
 refine .gw 41 (Y.qr rfl rfl) ?_
 refine .pk ?_
 refine .mv ?_
 refine .ax (d := 47) rfl (fun IT => ?_) (fun IT => ?_)
 refine .gz 47 (.gz 47 (.gz 47 ?_))
 refine .gz 47 (.gz 47 (.gz 47 ?_))
 refine .gz 47 ?_
 refine .pk ?_
 refine .mv ?_
 refine .gz 56 (.gz 56 (.gz 56 ?_))
 refine .gz 56 (.gz 56 (.gz 56 ?_))
 refine .gz 56 ?_
 refine .pk ?_
 refine .nil (.aM rfl (.sr ?_))
 refine .an ?_
 refine .nil (.ret ?_)
 exact .rb rfl (df (fun h => by have h1 := h.name; have h2 := h.bR; have h3 := h.b8; have h4 := h.fk; have h5 := h.bt; have h6 := h.cb; have h7 := h.dR; have h8 := h.aa; have h9 := h.ins; first | contradiction | omega))
 refine .gw 47 (Y.qp jE rfl rfl) (.gw 47 (Y.za aW rfl rfl rfl rfl) (.gw 47 (Y.qx (n := n.aR.length) az rfl cS) ?_))
 refine .gw 47 (Y.qp cC rfl rfl) (.gw 47 (Y.za fC rfl rfl rfl rfl) (.gw 47 (Y.qx (n := n.streams.length) eG rfl cS) ?_))
 refine .gw 47 (Y.zk rfl rfl) ?_
 refine .pk ?_
 refine .mv ?_
 refine .ax (d := 56) rfl (fun Ib => ?_) (fun Ib => ?_)
 refine .gz 56 (.gz 56 (.gz 56 ?_))
 refine .gz 56 (.gz 56 (.gz 56 ?_))
 refine .gz 56 ?_
 refine .pk ?_
 refine .nil (.aM rfl (.sr ?_))
 refine .an ?_
 refine .nil (.ret ?_)
 exact .rb rfl (df (fun h => by have h1 := h.name; have h2 := h.bR; have h3 := h.b8; have h4 := h.fk; have h5 := h.bt; have h6 := h.cb; have h7 := h.dR; have h8 := h.aa; have h9 := h.ins; first | contradiction | omega))
 refine .gw 56 (Y.qp iF rfl rfl) (.gw 56 (Y.za aW rfl rfl rfl rfl) (.gw 56 (Y.qx (n := n.data.length) az rfl cS) ?_))
 refine .gw 56 (Y.qp cC rfl rfl) (.gw 56 (Y.za fC rfl rfl rfl rfl) (.gw 56 (Y.qx (n := n.streams.length) eG rfl cS) ?_))
 refine .gw 56 (Y.zk rfl rfl) ?_
 refine .pk ?_
 refine .nil ?_
 refine .a8 rfl (fun As => ?_) (fun As => ?_)
 refine .sr ?_
 refine .an ?_
 refine .nil (.ret ?_)
 exact .rb rfl (df (fun h => by have h1 := h.name; have h2 := h.bR; have h3 := h.b8; have h4 := h.fk; have h5 := h.bt; have h6 := h.cb; have h7 := h.dR; have h8 := h.aa; have h9 := h.ins; first | contradiction | omega))
 refine .skip (.seq (.sr ?_))
 refine .an ?_
 refine .nil (.block ?_)
 refine .fY (fun (iu : Nat) => ⟨[(1, .ptr 101 0 0 0), (3, vi iu)], [(101, .cells (ab.row n))]⟩) (fun iu => ((iu : Int) ≤ (n.a7.length : Int)) ∧ (∀ j, j < iu → gE (n.a7.getD j default))) (fun iu => ((n.a7.length : Int) - (iu : Int)).toNat) 0 (⟨om, fun j hj => by omega⟩) (Le.mk (.c (.cons (aj rfl bf) .nil)) (.c .nil)) (fun iu CD => ?_)
 obtain ⟨Lj, hm⟩ := CD
 refine .seq (.sr ?_)
 refine .mv ?_
 refine .fa ef ?_
 refine .ld jS ?_
 refine .vl (Y.qx (n := n.a7.length) iG rfl cS) (.vl (Y.zc rfl rfl) (.nil ?_))
 refine .a8 rfl (fun Gg => ?_) (fun Gg => ?_)
 refine .skip (.seq (.block ?_))
 refine .sr ?_
 refine .fa ef ?_
 refine .ld jS ?_
 refine .mv ?_
 refine .vl (Y.qs (m := iu) iG rfl rfl bf (aq (d := default) om)) ?_
 refine .vl (Y.zb K8 rfl rfl (aI rfl) rfl rfl) (.alloc 104 q5 rfl rfl ae (.ak K9 rfl rfl rfl rfl rfl rfl (aI rfl) rfl ?_))
 refine .nil (.sr ?_)
 have SK := hs.kq _ (dZ (l := n.a7) (i := iu) (d := default) om)
 refine .fa BY ?_
 refine .ld I9 ?_
 refine .aH Cd (lf (s := ((n.a7.getD iu default).name)) (by first | assumption | omega)) rfl (.ah rfl rfl .nil) ae rfl (.vl (Y.zm rfl) ?_)
 refine .mv ?_
 refine .dP (d := 81) rfl (fun Dz => ?_) (fun Dz => ?_)
 refine .gz 81 (.gz 81 (.gz 81 ?_))
 refine .gz 81 ?_
 refine .pk ?_
 refine .mv ?_
 refine .gz 87 (.gz 87 (.gz 87 ?_))
 refine .pk ?_
 refine .mv ?_
 refine .gz 92 (.gz 92 (.gz 92 ?_))
 refine .pk ?_
 refine .mv ?_
 refine .gz 97 (.gz 97 (.gz 97 ?_))
 refine .pk ?_
 refine .mv ?_
 refine .gz 102 (.gz 102 (.gz 102 ?_))
 refine .pk ?_
 refine .nil (.aM rfl (.sr ?_))
 refine .an ?_
 refine .nil (.ret ?_)
 exact .rb rfl (df (fun h => by have h1 := h.a7 iu om; unfold gE at h1; obtain ⟨a1, a2, a3, a4, a5, a6⟩ := h1; first | contradiction | omega))
 refine .gw 81 (Y.qp nw rfl rfl) (.gw 81 (Y.za aV rfl rfl rfl rfl) (.ar (d := 81) rfl ae rfl ?_))
 refine .aH Ce (oI (w := ((n.a7.getD iu default).width))) rfl (.ah rfl rfl .nil) ae rfl (.gw 81 (Y.zm rfl) ?_)
 refine .pk ?_
 refine .mv ?_
 refine .dP (d := 87) rfl (fun KV => ?_) (fun KV => ?_)
 refine .gz 87 (.gz 87 (.gz 87 ?_))
 refine .pk ?_
 refine .mv ?_
 refine .gz 92 (.gz 92 (.gz 92 ?_))
 refine .pk ?_
 refine .mv ?_
 refine .gz 97 (.gz 97 (.gz 97 ?_))
 refine .pk ?_
 refine .mv ?_
 refine .gz 102 (.gz 102 (.gz 102 ?_))
 refine .pk ?_
 refine .nil (.aM rfl (.sr ?_))
 refine .an ?_
 refine .nil (.ret ?_)
 exact .rb rfl (df (fun h => by have h1 := h.a7 iu om; unfold gE at h1; obtain ⟨a1, a2, a3, a4, a5, a6⟩ := h1; first | contradiction | omega))
 refine .gw 87 (Y.qp uC rfl rfl) (.gw 87 (Y.za aV rfl rfl rfl rfl) (.gw 87 (Y.zc rfl rfl) ?_))
 refine .pk ?_
 refine .mv ?_
 refine .ax (d := 92) rfl (fun Gq => ?_) (fun Gq => ?_)
 refine .gz 92 (.gz 92 (.gz 92 ?_))
 refine .pk ?_
 refine .mv ?_
 refine .gz 97 (.gz 97 (.gz 97 ?_))
 refine .pk ?_
 refine .mv ?_
 refine .gz 102 (.gz 102 (.gz 102 ?_))
 refine .pk ?_
 refine .nil (.aM rfl (.sr ?_))
 refine .an ?_
 refine .nil (.ret ?_)
 exact .rb rfl (df (fun h => by have h1 := h.a7 iu om; unfold gE at h1; obtain ⟨a1, a2, a3, a4, a5, a6⟩ := h1; first | contradiction | omega))
 refine .gw 92 (Y.qp uC rfl rfl) (.gw 92 (Y.za aV rfl rfl rfl rfl) (.gw 92 (Y.qr rfl rfl) ?_))
 refine .pk ?_
 refine .mv ?_
 refine .ax (d := 97) rfl (fun PG => ?_) (fun PG => ?_)
 refine .gz 97 (.gz 97 (.gz 97 ?_))
 refine .pk ?_
 refine .mv ?_
 refine .gz 102 (.gz 102 (.gz 102 ?_))
 refine .pk ?_
 refine .nil (.aM rfl (.sr ?_))
 refine .an ?_
 refine .nil (.ret ?_)
 exact .rb rfl (df (fun h => by have h1 := h.a7 iu om; unfold gE at h1; obtain ⟨a1, a2, a3, a4, a5, a6⟩ := h1; first | contradiction | omega))
 refine .gw 97 (Y.qp BZ rfl rfl) (.gw 97 (Y.za aV rfl rfl rfl rfl) (.gw 97 (Y.zk rfl rfl) ?_))
 refine .pk ?_
 refine .mv ?_
 refine .ax (d := 102) rfl (fun C7 => ?_) (fun C7 => ?_)
 refine .gz 102 (.gz 102 (.gz 102 ?_))
 refine .pk ?_
 refine .nil (.aM rfl (.sr ?_))
 refine .an ?_
 refine .nil (.ret ?_)
 exact .rb rfl (df (fun h => by have h1 := h.a7 iu om; unfold gE at h1; obtain ⟨a1, a2, a3, a4, a5, a6⟩ := h1; first | contradiction | omega))
 refine .gw 102 (Y.qp Ca rfl rfl) (.gw 102 (Y.za aV rfl rfl rfl rfl) (.gw 102 (Y.zk rfl rfl) ?_))
 refine .pk ?_
 refine .nil ?_
 refine .a8 rfl (fun CT => ?_) (fun CT => ?_)
 refine .sr ?_
 refine .an ?_
 refine .nil (.ret ?_)
 exact .rb rfl (df (fun h => by have h1 := h.a7 iu om; unfold gE at h1; obtain ⟨a1, a2, a3, a4, a5, a6⟩ := h1; first | contradiction | omega))
 refine .skip (.region ?_)
 refine .mv ?_
 refine .vl (Y.qb rfl rfl bw) ?_
 refine .an ?_
 refine .nil ?_
 exact ⟨iu + 1, ⟨om, cT hm (by unfold gE; refine ⟨?_, ?_, ?_, ?_, ?_, ?_⟩ <;> first | assumption | omega)⟩, om, Le.mk (.c (.cons (aj rfl bf) .nil)) (.c .nil)⟩
 refine .exit (.seq (.sr ?_))
 refine .an ?_
 refine .nil (.block ?_)
 refine .fY (fun (bh : Nat) => ⟨[(1, .ptr 101 0 0 0), (5, vi bh)], [(101, .cells (ab.row n))]⟩) (fun bh => ((bh : Int) ≤ (n.streams.length : Int)) ∧ (∀ j, j < bh → fy n j)) (fun bh => ((n.streams.length : Int) - (bh : Int)).toNat) 0 (⟨om, fun j hj => by omega⟩) (Le.mk (.c (.cons (aj rfl bf) .nil)) (.c .nil)) (fun bh xY => ?_)
 obtain ⟨HY, vy⟩ := xY
 refine .seq (.sr ?_)
 refine .mv ?_
 refine .fa cC ?_
 refine .ld fC ?_
 refine .vl (Y.qx (n := n.streams.length) eG rfl cS) (.vl (Y.zc rfl rfl) (.nil ?_))
 refine .a8 rfl (fun uW => ?_) (fun uW => ?_)
 refine .skip ?_
 refine .yw (fun (sS : Bool) (sT : Bool) (sU : Bool) (sV : Bool) => ⟨[(1, .ptr 101 0 0 0), (5, vi bh), (124, .ptr 106 0 0 1), (125, vi ((n.streams.getD bh default).width)), (126, .v (.bool (decide (eO ((n.streams.getD bh default).width))))), (127, .v (.bool (!decide (eO ((n.streams.getD bh default).width))))), (130, .ptr 101 0 0 6), (131, .fz 1 (n.aR.map ai)), (132, vi bh), (133, .fp (ai (n.aR.getD bh 0)) 0), (134, vi (n.aR.getD bh 0)), (135, .ptr 101 0 0 1), (136, .fz 1 (n.aa.map ai)), (137, vi n.aa.length), (138, .v (.bool (decide (In (n.aR.getD bh 0) (n.aa.length : Int))))), (139, .v (.bool (!decide (In (n.aR.getD bh 0) (n.aa.length : Int))))), (142, .ptr 106 0 0 2), (143, .v (.bool ((n.streams.getD bh default).out))), (144, .v (.bool sS)), (155, .v (.bool sT)), (158, .ptr 106 0 0 2), (159, .v (.bool ((n.streams.getD bh default).out))), (160, .v (.bool (!((n.streams.getD bh default).out)))), (161, .v (.bool sU)), (168, .v (.bool sV))], [(101, .cells (ab.row n)), (106, .cells [.v (.string ((n.streams.getD bh default).name)), vi ((n.streams.getD bh default).width), .v (.bool ((n.streams.getD bh default).out))])]⟩) (fun sS sT sU sV => fy n bh) ?_ (fun sS sT sU sV wu => ?_)
 refine .block (.sr ?_)
 refine .fa cC ?_
 refine .ld fC ?_
 refine .mv ?_
 refine .vl (Y.qs (m := bh) eG rfl rfl bf (aq (d := default) om)) ?_
 refine .vl (Y.zb Ht rfl rfl (aI rfl) rfl rfl) (.alloc 106 px rfl rfl ae (.ak Hv rfl rfl rfl rfl rfl rfl (aI rfl) rfl ?_))
 refine .nil (.seq ?_)
 have SO := hs.kr _ (dZ (l := n.streams) (i := bh) (d := default) om)
 refine .fN rfl (.bT (n := 49) [0, 1] [2, 3, 4, 5, 6, 7, 8, 9, 10, 11, 12, 13, 14, 15, 16, 17, 18, 19, 20, 21, 22, 23, 24, 25, 26, 27, 28, 29, 30, 31, 32, 33, 34, 35, 36, 37, 38, 39, 40, 41, 42, 43, 44, 45, 46, 47, 48, 49, 50] 2 rfl ao (.cn 0 rfl (Y.qp Cb rfl rfl) ?_))
 refine .cn 1 rfl (Y.za I9 rfl rfl rfl rfl) (.nil (.one 2 rfl ao ?_))
 refine .aH Cd (lf (s := ((n.streams.getD bh default).name)) (by first | assumption | omega)) rfl (.ah rfl rfl .nil) ae rfl ?_
 refine .nil ⟨rfl, ?_⟩
 refine .bT (n := 44) [3, 4, 5, 6] [7, 8, 9, 10, 11, 12, 13, 14, 15, 16, 17, 18, 19, 20, 21, 22, 23, 24, 25, 26, 27, 28, 29, 30, 31, 32, 33, 34, 35, 36, 37, 38, 39, 40, 41, 42, 43, 44, 45, 46, 47, 48, 49, 50] 7 rfl ao (.cn 3 rfl (Y.zm rfl) (.cn 4 rfl (Y.zg rfl rfl) ?_))
 refine .split (d := 123) rfl (fun qK => ?_) (fun qK => ?_)
 replace qK : ¬ (ks ((n.streams.getD bh default).name)) := by simpa using qK
 refine .sk 5 rfl rfl rfl rfl (.sk 6 rfl rfl rfl rfl (.nil ?_))
 refine .aZ 7 rfl ao rfl ae ae rfl rfl (.aZ 8 rfl ao rfl ae ae rfl rfl (.bT (n := 32) [9, 10, 11, 12, 13, 14, 15, 16, 17, 18] [19, 20, 21, 22, 23, 24, 25, 26, 27, 28, 29, 30, 31, 32, 33, 34, 35, 36, 37, 38, 39, 40, 41, 42, 43, 44, 45, 46, 47, 48, 49, 50] 19 rfl ao ?_))
 refine .cn 9 rfl (Y.zn rfl rfl rfl) (.cn 10 rfl (Y.zg rfl rfl) (.sk 11 rfl rfl rfl rfl ?_))
 refine .sk 12 rfl rfl rfl rfl (.sk 13 rfl rfl rfl rfl (.sk 14 rfl rfl rfl rfl ?_))
 refine .sk 15 rfl rfl rfl rfl (.sk 16 rfl rfl rfl rfl (.sk 17 rfl rfl rfl rfl ?_))
 refine .sk 18 rfl rfl rfl rfl (.nil (.aZ 19 rfl ao rfl ae ae rfl rfl ?_))
 refine .aZ 20 rfl ao rfl ae ae rfl rfl (.bT (n := 17) [21, 22, 23, 24, 25, 26, 27, 28, 29, 30, 31, 32, 33] [34, 35, 36, 37, 38, 39, 40, 41, 42, 43, 44, 45, 46, 47, 48, 49, 50] 34 rfl ao (.cn 21 rfl (Y.zn rfl rfl rfl) ?_))
 refine .cn 22 rfl (Y.zg rfl rfl) (.sk 23 rfl rfl rfl rfl (.sk 24 rfl rfl rfl rfl ?_))
 refine .sk 25 rfl rfl rfl rfl (.sk 26 rfl rfl rfl rfl (.sk 27 rfl rfl rfl rfl ?_))
 refine .sk 28 rfl rfl rfl rfl (.sk 29 rfl rfl rfl rfl (.sk 30 rfl rfl rfl rfl ?_))
 refine .sk 31 rfl rfl rfl rfl (.sk 32 rfl rfl rfl rfl (.sk 33 rfl rfl rfl rfl ?_))
 refine .nil (.aZ 34 rfl ao rfl ae ae rfl rfl (.aZ 35 rfl ao rfl ae ae rfl rfl ?_))
 refine .aZ 36 rfl ao rfl ae ae rfl rfl (.bT (n := 0) [37, 38, 39, 40, 41, 42, 43, 44, 45, 46, 47, 48, 49, 50] [] 0 rfl ao (.cn 37 rfl (Y.zn rfl rfl rfl) ?_))
 refine .cn 38 rfl (Y.zg rfl rfl) (.sk 39 rfl rfl rfl rfl (.sk 40 rfl rfl rfl rfl ?_))
 refine .sk 41 rfl rfl rfl rfl (.sk 42 rfl rfl rfl rfl (.sk 43 rfl rfl rfl rfl ?_))
 refine .sk 44 rfl rfl rfl rfl (.sk 45 rfl rfl rfl rfl (.sk 46 rfl rfl rfl rfl ?_))
 refine .sk 47 rfl rfl rfl rfl (.sk 48 rfl rfl rfl rfl (.sk 49 rfl rfl rfl rfl ?_))
 refine .cn 50 rfl (Y.zn rfl rfl rfl) (.nil (.done ao ?_))
 refine .aM rfl (.sr ?_)
 refine .an ?_
 refine .nil (.ret ?_)
 exact .rb rfl (df (fun h => by have h1 := h.strs bh om; unfold fy at h1; obtain ⟨a1, a2, a3, a4, a5⟩ := h1; first | contradiction | grind))
 replace qK : ks ((n.streams.getD bh default).name) := by simpa using qK
 refine .rn 5 rfl rfl rfl (Y.qp ny rfl rfl) (.rn 6 rfl rfl rfl (Y.za aV rfl rfl rfl rfl) (.nil ?_))
 refine .one 7 rfl ao (.ar (d := 123) rfl ae rfl (.aH Ce (oI (w := ((n.streams.getD bh default).width))) rfl (.ah rfl rfl .nil) ae rfl ?_))
 refine .nil ⟨rfl, ?_⟩
 refine .bT (n := 32) [8, 9, 10, 11, 12, 13, 14, 15, 16, 17, 18] [19, 20, 21, 22, 23, 24, 25, 26, 27, 28, 29, 30, 31, 32, 33, 34, 35, 36, 37, 38, 39, 40, 41, 42, 43, 44, 45, 46, 47, 48, 49, 50] 19 rfl ao (.rn 8 rfl rfl rfl (Y.zm rfl) (.cn 9 rfl (Y.zn rfl rfl rfl) ?_))
 refine .cn 10 rfl (Y.zg rfl rfl) ?_
 refine .split (d := 129) rfl (fun sO => ?_) (fun sO => ?_)
 replace sO : ¬ (eO ((n.streams.getD bh default).width)) := by simpa using sO
 refine .sk 11 rfl rfl rfl rfl (.sk 12 rfl rfl rfl rfl (.sk 13 rfl rfl rfl rfl ?_))
 refine .sk 14 rfl rfl rfl rfl (.sk 15 rfl rfl rfl rfl (.sk 16 rfl rfl rfl rfl ?_))
 refine .sk 17 rfl rfl rfl rfl (.sk 18 rfl rfl rfl rfl (.nil ?_))
 refine .aZ 19 rfl ao rfl ae ae rfl rfl (.aZ 20 rfl ao rfl ae ae rfl rfl (.bT (n := 17) [21, 22, 23, 24, 25, 26, 27, 28, 29, 30, 31, 32, 33] [34, 35, 36, 37, 38, 39, 40, 41, 42, 43, 44, 45, 46, 47, 48, 49, 50] 34 rfl ao ?_))
 refine .cn 21 rfl (Y.zn rfl rfl rfl) (.cn 22 rfl (Y.zg rfl rfl) (.sk 23 rfl rfl rfl rfl ?_))
 refine .sk 24 rfl rfl rfl rfl (.sk 25 rfl rfl rfl rfl (.sk 26 rfl rfl rfl rfl ?_))
 refine .sk 27 rfl rfl rfl rfl (.sk 28 rfl rfl rfl rfl (.sk 29 rfl rfl rfl rfl ?_))
 refine .sk 30 rfl rfl rfl rfl (.sk 31 rfl rfl rfl rfl (.sk 32 rfl rfl rfl rfl ?_))
 refine .sk 33 rfl rfl rfl rfl (.nil (.aZ 34 rfl ao rfl ae ae rfl rfl ?_))
 refine .aZ 35 rfl ao rfl ae ae rfl rfl (.aZ 36 rfl ao rfl ae ae rfl rfl (.bT (n := 0) [37, 38, 39, 40, 41, 42, 43, 44, 45, 46, 47, 48, 49, 50] [] 0 rfl ao ?_))
 refine .cn 37 rfl (Y.zn rfl rfl rfl) (.cn 38 rfl (Y.zg rfl rfl) (.sk 39 rfl rfl rfl rfl ?_))
 refine .sk 40 rfl rfl rfl rfl (.sk 41 rfl rfl rfl rfl (.sk 42 rfl rfl rfl rfl ?_))
 refine .sk 43 rfl rfl rfl rfl (.sk 44 rfl rfl rfl rfl (.sk 45 rfl rfl rfl rfl ?_))
 refine .sk 46 rfl rfl rfl rfl (.sk 47 rfl rfl rfl rfl (.sk 48 rfl rfl rfl rfl ?_))
 refine .sk 49 rfl rfl rfl rfl (.cn 50 rfl (Y.zn rfl rfl rfl) (.nil ?_))
 refine .done ao (.aM rfl (.sr ?_))
 refine .an ?_
 refine .nil (.ret ?_)
 exact .rb rfl (df (fun h => by have h1 := h.strs bh om; unfold fy at h1; obtain ⟨a1, a2, a3, a4, a5⟩ := h1; first | contradiction | grind))
 replace sO : eO ((n.streams.getD bh default).width) := by simpa using sO
 refine .rn 11 rfl rfl rfl (Y.qp jE rfl rfl) (.rn 12 rfl rfl rfl (Y.za aW rfl rfl rfl rfl) (.rn 13 rfl rfl rfl (Y.zg rfl rfl) ?_))
 refine .rn 14 rfl rfl rfl (Y.qs (m := bh) az rfl rfl bf (aq (d := 0) om)) ?_
 refine .rn 15 rfl rfl rfl (Y.za aV rfl rfl rfl rfl) (.rn 16 rfl rfl rfl (Y.qp bu rfl rfl) (.rn 17 rfl rfl rfl (Y.za aW rfl rfl rfl rfl) ?_))
 refine .rn 18 rfl rfl rfl (Y.qx (n := n.aa.length) az rfl cS) (.nil (.one 19 rfl ao ?_))
 refine .ar (d := 129) rfl ae rfl (.aH nX (cM (i := (n.aR.getD bh 0)) (n := (n.aa.length : Int))) rfl (.ah rfl rfl (.ah rfl rfl .nil)) ae rfl ?_)
 refine .nil ⟨rfl, ?_⟩
 refine .bT (n := 17) [20, 21, 22, 23, 24, 25, 26, 27, 28, 29, 30, 31, 32, 33] [34, 35, 36, 37, 38, 39, 40, 41, 42, 43, 44, 45, 46, 47, 48, 49, 50] 34 rfl ao (.rn 20 rfl rfl rfl (Y.zm rfl) (.cn 21 rfl (Y.zn rfl rfl rfl) ?_))
 refine .cn 22 rfl (Y.zg rfl rfl) ?_
 refine .split (d := 141) rfl (fun sN => ?_) (fun sN => ?_)
 replace sN : ¬ (In (n.aR.getD bh 0) (n.aa.length : Int)) := by simpa using sN
 refine .sk 23 rfl rfl rfl rfl (.sk 24 rfl rfl rfl rfl (.sk 25 rfl rfl rfl rfl ?_))
 refine .sk 26 rfl rfl rfl rfl (.sk 27 rfl rfl rfl rfl (.sk 28 rfl rfl rfl rfl ?_))
 refine .sk 29 rfl rfl rfl rfl (.sk 30 rfl rfl rfl rfl (.sk 31 rfl rfl rfl rfl ?_))
 refine .sk 32 rfl rfl rfl rfl (.sk 33 rfl rfl rfl rfl (.nil ?_))
 refine .aZ 34 rfl ao rfl ae ae rfl rfl (.aZ 35 rfl ao rfl ae ae rfl rfl (.aZ 36 rfl ao rfl ae ae rfl rfl ?_))
 refine .bT (n := 0) [37, 38, 39, 40, 41, 42, 43, 44, 45, 46, 47, 48, 49, 50] [] 0 rfl ao (.cn 37 rfl (Y.zn rfl rfl rfl) (.cn 38 rfl (Y.zg rfl rfl) ?_))
 refine .sk 39 rfl rfl rfl rfl (.sk 40 rfl rfl rfl rfl (.sk 41 rfl rfl rfl rfl ?_))
 refine .sk 42 rfl rfl rfl rfl (.sk 43 rfl rfl rfl rfl (.sk 44 rfl rfl rfl rfl ?_))
 refine .sk 45 rfl rfl rfl rfl (.sk 46 rfl rfl rfl rfl (.sk 47 rfl rfl rfl rfl ?_))
 refine .sk 48 rfl rfl rfl rfl (.sk 49 rfl rfl rfl rfl (.cn 50 rfl (Y.zn rfl rfl rfl) ?_))
 refine .nil (.done ao (.aM rfl ?_))
 refine .sr ?_
 refine .an ?_
 refine .nil (.ret ?_)
 exact .rb rfl (df (fun h => by have h1 := h.strs bh om; unfold fy at h1; obtain ⟨a1, a2, a3, a4, a5⟩ := h1; first | contradiction | grind))
 replace sN : In (n.aR.getD bh 0) (n.aa.length : Int) := by simpa using sN
 refine .rn 23 rfl rfl rfl (Y.qp gU rfl rfl) (.rn 24 rfl rfl rfl (Y.za ta rfl rfl rfl rfl) (.rn 25 rfl rfl rfl (Y.zg rfl rfl) ?_))
 refine .split (d := 144) rfl (fun uZ => ?_) (fun uZ => ?_)
 refine .rn 26 rfl rfl rfl (Y.qp iF rfl rfl) (.rn 27 rfl rfl rfl (Y.za aW rfl rfl rfl rfl) (.rn 28 rfl rfl rfl (Y.zg rfl rfl) ?_))
 refine .rn 29 rfl rfl rfl (Y.qs (m := bh) az rfl rfl bf (aq (d := 0) om)) ?_
 refine .rn 30 rfl rfl rfl (Y.za aV rfl rfl rfl rfl) (.rn 31 rfl rfl rfl (Y.qp bu rfl rfl) (.rn 32 rfl rfl rfl (Y.za aW rfl rfl rfl rfl) ?_))
 refine .rn 33 rfl rfl rfl (Y.qx (n := n.aa.length) az rfl cS) (.nil (.one 34 rfl ao ?_))
 refine .ar (d := 144) rfl ae rfl (.aH nX (cM (i := (n.data.getD bh 0)) (n := (n.aa.length : Int))) rfl (.ah rfl rfl (.ah rfl rfl .nil)) ae rfl ?_)
 refine .nil ⟨rfl, ?_⟩
 refine .bT (n := 0) [35, 36, 37, 38, 39, 40, 41, 42, 43, 44, 45, 46, 47, 48, 49, 50] [] 0 rfl ao (.rn 35 rfl rfl rfl (Y.zm rfl) (.rn 36 rfl rfl rfl (Y.zn rfl rfl rfl) ?_))
 refine .cn 37 rfl (Y.zn rfl rfl rfl) (.cn 38 rfl (Y.zg rfl rfl) ?_)
 refine .split (d := 157) rfl (fun va => ?_) (fun va => ?_)
 replace va : ¬ (In (n.data.getD bh 0) (n.aa.length : Int)) := by simpa using va
 refine .sk 39 rfl rfl rfl rfl (.sk 40 rfl rfl rfl rfl (.sk 41 rfl rfl rfl rfl ?_))
 refine .sk 42 rfl rfl rfl rfl (.sk 43 rfl rfl rfl rfl (.sk 44 rfl rfl rfl rfl ?_))
 refine .sk 45 rfl rfl rfl rfl (.sk 46 rfl rfl rfl rfl (.sk 47 rfl rfl rfl rfl ?_))
 refine .sk 48 rfl rfl rfl rfl (.sk 49 rfl rfl rfl rfl (.cn 50 rfl (Y.zn rfl rfl rfl) ?_))
 refine .nil (.done ao (.aM rfl ?_))
 refine .sr ?_
 refine .an ?_
 refine .nil (.ret ?_)
 exact .rb rfl (df (fun h => by have h1 := h.strs bh om; unfold fy at h1; obtain ⟨a1, a2, a3, a4, a5⟩ := h1; first | contradiction | grind))
 replace va : In (n.data.getD bh 0) (n.aa.length : Int) := by simpa using va
 refine .rn 39 rfl rfl rfl (Y.qp gU rfl rfl) (.rn 40 rfl rfl rfl (Y.za ta rfl rfl rfl rfl) (.rn 41 rfl rfl rfl (Y.zm rfl) ?_))
 refine .rn 42 rfl rfl rfl (Y.zg rfl rfl) ?_
 refine .split (d := 161) rfl (fun sW => ?_) (fun sW => ?_)
 replace sW : ((n.streams.getD bh default).out) = false := by simpa using sW
 refine .rn 43 rfl rfl rfl (Y.qp iF rfl rfl) (.rn 44 rfl rfl rfl (Y.za aW rfl rfl rfl rfl) (.rn 45 rfl rfl rfl (Y.zg rfl rfl) ?_))
 refine .rn 46 rfl rfl rfl (Y.qs (m := bh) az rfl rfl bf (aq (d := 0) om)) ?_
 refine .rn 47 rfl rfl rfl (Y.za aV rfl rfl rfl rfl) (.rn 48 rfl rfl rfl (Y.zk rfl rfl) (.rn 49 rfl rfl rfl (Y.zn rfl rfl rfl) ?_))
 refine .cn 50 rfl (Y.zn rfl rfl rfl) (.nil (.done ao ?_))
 refine .a8 rfl (fun Iw => ?_) (fun Iw => ?_)
 refine .sr ?_
 refine .an ?_
 refine .nil (.ret ?_)
 exact .rb rfl (df (fun h => by have h1 := h.strs bh om; unfold fy at h1; obtain ⟨a1, a2, a3, a4, a5⟩ := h1; first | contradiction | grind))
 refine .skip ⟨true, (!decide (In (n.data.getD bh 0) (n.aa.length : Int))), true, decide ((n.data.getD bh 0) ≠ (-1)), by unfold fy; grind, Le.mk (.c8 (.c8 (.c2 (.cons (aF rfl fw) (.cons (aF rfl fw) (.c2 (.c (.cons (aF rfl fw) (.cons (aF rfl fw) .nil))))))))) (.c (.c .nil))⟩
 replace sW : ((n.streams.getD bh default).out) = true := by simpa using sW
 refine .sk 43 rfl rfl rfl rfl (.sk 44 rfl rfl rfl rfl (.sk 45 rfl rfl rfl rfl ?_))
 refine .sk 46 rfl rfl rfl rfl (.sk 47 rfl rfl rfl rfl (.sk 48 rfl rfl rfl rfl ?_))
 refine .rn 49 rfl rfl rfl (Y.zn rfl rfl rfl) (.cn 50 rfl (Y.zn rfl rfl rfl) (.nil ?_))
 refine .done ao (.bO rfl (.skip ?_))
 exact ⟨true, (!decide (In (n.data.getD bh 0) (n.aa.length : Int))), false, false, by unfold fy; grind, Le.mk (.c8 (.c8 (.c2 (.cons (aF rfl fw) (.cons (aF rfl fw) (.c2 (.c (.cons (aF rfl fw) (.cons (aF rfl fw) .nil))))))))) (.c (.c .nil))⟩
 refine .sk 26 rfl rfl rfl rfl (.sk 27 rfl rfl rfl rfl (.sk 28 rfl rfl rfl rfl ?_))
 refine .sk 29 rfl rfl rfl rfl (.sk 30 rfl rfl rfl rfl (.sk 31 rfl rfl rfl rfl ?_))
 refine .sk 32 rfl rfl rfl rfl (.sk 33 rfl rfl rfl rfl (.nil ?_))
 refine .aZ 34 rfl ao rfl ae ae rfl rfl (.aZ 35 rfl ao rfl ae ae rfl rfl (.bT (n := 0) [36, 37, 38, 39, 40, 41, 42, 43, 44, 45, 46, 47, 48, 49, 50] [] 0 rfl ao ?_))
 refine .rn 36 rfl rfl rfl (Y.zn rfl rfl rfl) (.cn 37 rfl (Y.zn rfl rfl rfl) (.cn 38 rfl (Y.zg rfl rfl) ?_))
 refine .rn 39 rfl rfl rfl (Y.qp gU rfl rfl) (.rn 40 rfl rfl rfl (Y.za ta rfl rfl rfl rfl) (.rn 41 rfl rfl rfl (Y.zm rfl) ?_))
 refine .rn 42 rfl rfl rfl (Y.zg rfl rfl) ?_
 refine .split (d := 161) rfl (fun sW => ?_) (fun sW => ?_)
 replace sW : ((n.streams.getD bh default).out) = false := by simpa using sW
 refine .rn 43 rfl rfl rfl (Y.qp iF rfl rfl) (.rn 44 rfl rfl rfl (Y.za aW rfl rfl rfl rfl) (.rn 45 rfl rfl rfl (Y.zg rfl rfl) ?_))
 refine .rn 46 rfl rfl rfl (Y.qs (m := bh) az rfl rfl bf (aq (d := 0) om)) ?_
 refine .rn 47 rfl rfl rfl (Y.za aV rfl rfl rfl rfl) (.rn 48 rfl rfl rfl (Y.zk rfl rfl) (.rn 49 rfl rfl rfl (Y.zn rfl rfl rfl) ?_))
 refine .cn 50 rfl (Y.zn rfl rfl rfl) (.nil (.done ao ?_))
 refine .a8 rfl (fun Iw => ?_) (fun Iw => ?_)
 refine .sr ?_
 refine .an ?_
 refine .nil (.ret ?_)
 exact .rb rfl (df (fun h => by have h1 := h.strs bh om; unfold fy at h1; obtain ⟨a1, a2, a3, a4, a5⟩ := h1; first | contradiction | grind))
 refine .skip ⟨false, false, true, decide ((n.data.getD bh 0) ≠ (-1)), by unfold fy; grind, Le.mk (.c8 (.c8 (.c2 (.cons (aF rfl fw) (.cons (aF rfl fw) (.c2 (.c (.cons (aF rfl fw) (.cons (aF rfl fw) .nil))))))))) (.c (.c .nil))⟩
 replace sW : ((n.streams.getD bh default).out) = true := by simpa using sW
 refine .sk 43 rfl rfl rfl rfl (.sk 44 rfl rfl rfl rfl (.sk 45 rfl rfl rfl rfl ?_))
 refine .sk 46 rfl rfl rfl rfl (.sk 47 rfl rfl rfl rfl (.sk 48 rfl rfl rfl rfl ?_))
 refine .rn 49 rfl rfl rfl (Y.zn rfl rfl rfl) (.cn 50 rfl (Y.zn rfl rfl rfl) (.nil ?_))
 refine .done ao (.bO rfl (.skip ?_))
 exact ⟨false, false, false, false, by unfold fy; grind, Le.mk (.c8 (.c8 (.c2 (.cons (aF rfl fw) (.cons (aF rfl fw) (.c2 (.c (.cons (aF rfl fw) (.cons (aF rfl fw) .nil))))))))) (.c (.c .nil))⟩
 refine .region ?_
 refine .mv ?_
 refine .vl (Y.qb rfl rfl bw) ?_
 refine .an ?_
 refine .nil (⟨bh + 1, ⟨om, cT vy wu⟩, om, Le.mk (.c (.cons (aj rfl bf) .nil)) (.c .nil)⟩)
 refine .exit (.sr ?_)
 refine .an ?_
 refine .nil (.ret ?_)
 exact .rb rfl (dt ⟨bm, om, om, bm, bm, om, om, om, om, fun j hj => hm j om, fun j hj => vy j om⟩)
theorem sX {n : ab} (hs : n.Small) : au Try.prog 50 [.agg (ab.row n)] [] [] (fun r o => r = .v (.bool (decide (aU n))) ∧ o = []) := by
 refine au.of Try.func50 rfl rfl rfl (n := 115) ae (aI rfl) ?_
 have M5 := hs.aa; have M6 := hs.cells; have Lu := hs.bE
 refine .sr (.box 101 rfl rfl rfl rfl rfl ae ?_)
 refine .an ?_
 refine .nil (.seq (.sr ?_))
 refine .vl (Y.zb dD rfl rfl (aI rfl) rfl rfl) (.aH NP (yh (n := n) hs) rfl (.ah rfl rfl .nil) ae rfl (.vl (Y.zm rfl) ?_))
 refine .mv ?_
 refine .dP (d := 12) rfl (fun EO => ?_) (fun EO => ?_)
 refine .gz 12 (.gz 12 (.gz 12 ?_))
 refine .gz 12 (.gz 12 (.gz 12 ?_))
 refine .gz 12 ?_
 refine .pk ?_
 refine .mv ?_
 refine .gz 21 (.gz 21 (.gz 21 ?_))
 refine .gz 21 (.gz 21 (.gz 21 ?_))
 refine .gz 21 ?_
 refine .pk ?_
 refine .nil (.aM rfl (.sr ?_))
 refine .an ?_
 refine .nil (.ret ?_)
 exact .rb rfl (df (fun h => by have h1 := h.parts; have h2 := h.freeze; have h3 := h.done; contradiction))
 refine .gw 12 (Y.qp oE rfl rfl) (.gw 12 (Y.za aV rfl rfl rfl rfl) (.gw 12 (Y.qp bu rfl rfl) ?_))
 refine .gw 12 (Y.za aW rfl rfl rfl rfl) (.gw 12 (Y.qx (n := n.aa.length) az rfl cS) (.ar (d := 12) rfl ae rfl ?_))
 refine .aH nX (cM (i := n.freeze) (n := (n.aa.length : Int))) rfl (.ah rfl rfl (.ah rfl rfl .nil)) ae rfl (.gw 12 (Y.zm rfl) ?_)
 refine .pk ?_
 refine .mv ?_
 refine .dP (d := 21) rfl (fun xG => ?_) (fun xG => ?_)
 refine .gz 21 (.gz 21 (.gz 21 ?_))
 refine .gz 21 (.gz 21 (.gz 21 ?_))
 refine .gz 21 ?_
 refine .pk ?_
 refine .nil (.aM rfl (.sr ?_))
 refine .an ?_
 refine .nil (.ret ?_)
 exact .rb rfl (df (fun h => by have h1 := h.parts; have h2 := h.freeze; have h3 := h.done; contradiction))
 refine .gw 21 (Y.qp pZ rfl rfl) (.gw 21 (Y.za aV rfl rfl rfl rfl) (.gw 21 (Y.qp bu rfl rfl) ?_))
 refine .gw 21 (Y.za aW rfl rfl rfl rfl) (.gw 21 (Y.qx (n := n.aa.length) az rfl cS) (.ar (d := 21) rfl ae rfl ?_))
 refine .aH nX (cM (i := n.done) (n := (n.aa.length : Int))) rfl (.ah rfl rfl (.ah rfl rfl .nil)) ae rfl (.gw 21 (Y.zm rfl) ?_)
 refine .pk ?_
 refine .nil ?_
 refine .dB rfl (fun CS => ?_) (fun CS => ?_)
 refine .sr ?_
 refine .an ?_
 refine .nil (.ret ?_)
 exact .rb rfl (df (fun h => by have h1 := h.parts; have h2 := h.freeze; have h3 := h.done; contradiction))
 refine .skip (.seq (.sr ?_))
 refine .an ?_
 refine .nil (.block ?_)
 refine .fY (fun (iu : Nat) => ⟨[(1, .ptr 101 0 0 0), (3, vi iu)], [(101, .cells (ab.row n))]⟩) (fun iu => ((iu : Int) ≤ (n.bE.length : Int)) ∧ (∀ j, j < iu → In (n.bE.getD j 0) n.aa.length)) (fun iu => ((n.bE.length : Int) - (iu : Int)).toNat) 0 (⟨om, fun j hj => by omega⟩) (Le.mk (.c (.cons (aj rfl bf) .nil)) (.c .nil)) (fun iu CD => ?_)
 obtain ⟨Lj, hr⟩ := CD
 refine .seq (.sr ?_)
 refine .mv ?_
 refine .fa jR ?_
 refine .ld aW ?_
 refine .vl (Y.qx (n := n.bE.length) az rfl cS) (.vl (Y.zc rfl rfl) (.nil ?_))
 refine .a8 rfl (fun wc => ?_) (fun wc => ?_)
 refine .skip (.seq (.block ?_))
 refine .seq (.pb 8 rfl ao (.val (Y.qp jR rfl rfl) ae ?_))
 refine .val (Y.za aW rfl rfl rfl rfl) ae (.val (Y.zg rfl rfl) ae ?_)
 refine .val (Y.qs (m := iu) az rfl rfl bf (aq (d := 0) om)) ae ?_
 refine .val (Y.za aV rfl rfl rfl rfl) ae (.val (Y.qp bu rfl rfl) ae (.val (Y.za aW rfl rfl rfl rfl) ae ?_))
 refine .val (Y.qx (n := n.aa.length) az rfl cS) ae (.nil (.aH nX (cM (i := (n.bE.getD iu 0)) (n := (n.aa.length : Int))) rfl (.ah rfl rfl (.ah rfl rfl .nil)) ae rfl ?_))
 refine .vl (Y.zm rfl) (.nil ?_)
 refine .dB rfl (fun xM => ?_) (fun xM => ?_)
 refine .sr ?_
 refine .an ?_
 refine .nil (.ret ?_)
 exact .rb rfl (df (fun h => absurd (h.bE _ (br (i := iu) om)) bm))
 refine .skip (.region ?_)
 refine .mv ?_
 refine .vl (Y.qb rfl rfl om) ?_
 refine .an ?_
 refine .nil (⟨iu + 1, ⟨om, cT hr bm⟩, om, Le.mk (.c (.cons (aj rfl bf) .nil)) (.c .nil)⟩)
 refine .exit (.sr ?_)
 refine .fa bu ?_
 refine .ld aW ?_
 refine .vl (Y.qx (n := n.aa.length) az rfl cS) (.makeSlice (n := n.aa.length) az ey rfl rfl rfl rfl om om ae ?_)
 refine .dy rfl ae (.sh (Sh.ep (d := 4) (n := n.aa.length) 104 ((List.replicate n.aa.length 0).map ai) rfl jJ (b5 (by simp)) ae) (.nil ?_))
 refine .seq (.sr ?_)
 refine .an ?_
 refine .nil (.block ?_)
 refine .e0 (fun (bh : Nat) (dv : List Int) => ⟨[(1, .ptr 101 0 0 0), (4, .ba 104 1 0 n.aa.length), (5, vi bh)], [(101, .cells (ab.row n)), (104, .rows 1 (dv.map ai))]⟩) (fun bh dv => (dv.length = n.aa.length) ∧ ((bh : Int) ≤ (n.cells.length : Int)) ∧ (xq n bh dv) ∧ (∀ j, j < bh → gS n (n.cells.getD j default))) (fun bh dv => ((n.cells.length : Int) - (bh : Int)).toNat) 0 (List.replicate n.aa.length 0) (⟨gu, gu, xq.init n, fun j hj => by omega⟩) (Le.mk (.c2 (.cons (aj rfl bf) .nil)) (.c (.c .nil))) (fun bh dv xY => ?_)
 obtain ⟨wk, HY, hd, hc⟩ := xY
 refine .seq (.sr ?_)
 refine .mv ?_
 refine .fa bL ?_
 refine .ld eT ?_
 refine .vl (Y.qx (n := n.cells.length) dr rfl cS) (.vl (Y.zc rfl rfl) (.nil ?_))
 refine .a8 rfl (fun OQ => ?_) (fun OQ => ?_)
 refine .skip ?_
 refine .fb (fun (im : List Int) => ⟨[(1, .ptr 101 0 0 0), (4, .ba 104 1 0 n.aa.length), (5, vi bh)], [(101, .cells (ab.row n)), (104, .rows 1 (im.map ai))]⟩) (fun im => (im.length = n.aa.length) ∧ (gS n (n.cells.getD bh default) ∧ xq n (bh + 1) im)) ?_ (fun im LW => ?_)
 refine .block (.sr ?_)
 refine .fa bL ?_
 refine .ld eT ?_
 refine .mv ?_
 refine .vl (Y.qs (m := bh) dr rfl rfl bf (aq (d := default) om)) ?_
 refine .vl (Y.zb dS rfl rfl (aI rfl) rfl rfl) (.alloc 106 dM rfl rfl ae (.ak eE rfl rfl rfl rfl rfl rfl (aI rfl) rfl ?_))
 refine .nil (.seq (.sr ?_))
 have QO := hs.args (n.cells.getD bh default) (dZ om)
 refine .vl (Y.zb dD rfl rfl (aI rfl) rfl rfl) (.vl (Y.zb dS rfl rfl (aI rfl) rfl rfl) (.aH NQ (Az (n := n) (c := (n.cells.getD bh default)) hs (by first | assumption | omega)) rfl (.ah rfl rfl (.ah rfl rfl .nil)) ae rfl ?_))
 refine .vl (Y.zm rfl) (.nil ?_)
 refine .dB rfl (fun LM => ?_) (fun LM => ?_)
 refine .sr ?_
 refine .an ?_
 refine .nil (.ret ?_)
 exact .rb rfl (df (fun h => by have h1 := h.cells bh om; obtain ⟨a1, a2, a3, a4⟩ := h1; first | contradiction | (have := a3 bm; contradiction) | (have := a4 bm; contradiction)))
 refine .skip (.seq (.sr ?_))
 refine .an ?_
 refine .nil (.block ?_)
 refine .fY (fun (nH : Nat) => ⟨[(1, .ptr 101 0 0 0), (4, .ba 104 1 0 n.aa.length), (5, vi bh), (6, .ptr 106 0 0 0), (7, vi nH)], [(101, .cells (ab.row n)), (104, .rows 1 (dv.map ai)), (106, .cells [vi ((n.cells.getD bh default).kind), vi ((n.cells.getD bh default).op), vi ((n.cells.getD bh default).out), .fz 1 (((n.cells.getD bh default).args).map ai), .v (.int .u64 (((n.cells.getD bh default).num : Nat) : Int)), vi ((n.cells.getD bh default).mem)])]⟩) (fun nH => ((nH : Int) ≤ ((((n.cells.getD bh default).args).length : Nat) : Int)) ∧ (∀ j, j < nH → In ((n.cells.getD bh default).args.getD j 0) n.aa.length)) (fun nH => (((((n.cells.getD bh default).args).length : Nat) : Int) - (nH : Int)).toNat) 0 (⟨om, fun j hj => by omega⟩) (Le.mk (.c4 (.cons (aj rfl bf) .nil)) (.c2 (.c .nil))) (fun nH Da => ?_)
 obtain ⟨L6, ha⟩ := Da
 refine .seq (.sr ?_)
 refine .mv ?_
 refine .fa bF ?_
 refine .ld aW ?_
 refine .vl (Y.qx (n := ((n.cells.getD bh default).args).length) az rfl cS) (.vl (Y.zc rfl rfl) (.nil ?_))
 refine .a8 rfl (fun Je => ?_) (fun Je => ?_)
 refine .skip (.seq (.block ?_))
 refine .seq (.pb 8 rfl ao (.val (Y.qp bF rfl rfl) ae ?_))
 refine .val (Y.za aW rfl rfl rfl rfl) ae (.val (Y.zg rfl rfl) ae ?_)
 refine .val (Y.qs (m := nH) az rfl rfl bf (aq (d := 0) om)) ae ?_
 refine .val (Y.za aV rfl rfl rfl rfl) ae (.val (Y.qp bu rfl rfl) ae (.val (Y.za aW rfl rfl rfl rfl) ae ?_))
 refine .val (Y.qx (n := n.aa.length) az rfl cS) ae (.nil (.aH nX (cM (i := (((n.cells.getD bh default).args).getD nH 0)) (n := (n.aa.length : Int))) rfl (.ah rfl rfl (.ah rfl rfl .nil)) ae rfl ?_))
 refine .vl (Y.zm rfl) (.nil ?_)
 refine .dB rfl (fun PF => ?_) (fun PF => ?_)
 refine .sr ?_
 refine .an ?_
 refine .nil (.ret ?_)
 exact .rb rfl (df (fun h => absurd ((h.cells bh om).1 _ (br (i := nH) om)) bm))
 refine .skip (.region ?_)
 refine .mv ?_
 refine .vl (Y.qb rfl rfl om) ?_
 refine .an ?_
 refine .nil (⟨nH + 1, ⟨om, cT ha bm⟩, om, Le.mk (.c4 (.cons (aj rfl bf) .nil)) (.c2 (.c .nil))⟩)
 refine .exit (.seq (.sr ?_))
 refine .fa bP ?_
 refine .ld aV ?_
 refine .vl (Y.ql rfl rfl) (.nil ?_)
 refine .a8 rfl (fun Ih => ?_) (fun Ih => ?_)
 refine .seq (.sr ?_)
 refine .fa cN ?_
 refine .ld aV ?_
 refine .vl (Y.zk rfl rfl) (.nil ?_)
 refine .a8 rfl (fun Tv => ?_) (fun Tv => ?_)
 refine .sr ?_
 refine .an ?_
 refine .nil (.ret ?_)
 exact .rb rfl (df (fun h => by have h1 := h.cells bh om; obtain ⟨a1, a2, a3, a4⟩ := h1; first | contradiction | (have := a3 bm; contradiction) | (have := a4 bm; contradiction)))
 refine .skip (.exit ?_)
 exact ⟨dv, ⟨om, ⟨⟨nu.1 (fun j hj => ha j om), bm, fun _ => by omega, fun h => absurd bm h⟩, hd.skip om bm⟩⟩, Le.mk (.c2 (.c .nil)) (.c (.c .nil))⟩
 refine .skip (.seq (.sr ?_))
 refine .fa cN ?_
 refine .ld aV ?_
 refine .fa bu ?_
 refine .ld aW ?_
 refine .vl (Y.qx (n := n.aa.length) az rfl cS) (.aH nX (cM (i := ((n.cells.getD bh default).out)) (n := (n.aa.length : Int))) rfl (.ah rfl rfl (.ah rfl rfl .nil)) ae rfl (.vl (Y.zm rfl) ?_))
 refine .nil ?_
 refine .dB rfl (fun Gn => ?_) (fun Gn => ?_)
 refine .sr ?_
 refine .an ?_
 refine .nil (.ret ?_)
 exact .rb rfl (df (fun h => by have h1 := h.cells bh om; obtain ⟨a1, a2, a3, a4⟩ := h1; first | contradiction | (have := a3 bm; contradiction) | (have := a4 bm; contradiction)))
 refine .skip (.region ?_)
 have Ff : In (n.cells.getD bh default).out n.aa.length := by assumption
 have Ik := Ff; unfold In at Ik
 have wK := hd.le (w := (n.cells.getD bh default).out.toNat) om
 refine .mv ?_
 refine .fa cN ?_
 refine .ld aV ?_
 refine .vl (Y.qt (m := ((n.cells.getD bh default).out).toNat) az rfl rfl om om) (.vl (Y.za aV rfl (aB (d := 0) gu) rfl rfl) (.vl (Y.qb rfl rfl om) (.vl (Y.qt (m := ((n.cells.getD bh default).out).toNat) az rfl rfl om om) (.dC ((dv.set (((n.cells.getD bh default).out).toNat) ((dv.getD (((n.cells.getD bh default).out).toNat) 0) + 1)).map ai) eQ rfl rfl rfl rfl rfl rfl rfl (aB (d := 0) om) (aI rfl) (ck rfl) (.nil (⟨dv.set (((n.cells.getD bh default).out).toNat) ((dv.getD (((n.cells.getD bh default).out).toNat) 0) + 1), ⟨gu, ⟨⟨nu.1 (fun j hj => ha j om), bm, fun h => absurd h bm, fun _ => by assumption⟩, hd.step om bm bm wk⟩⟩, Le.mk (.c2 (.c .nil)) (.c (.c .nil))⟩))))))
 obtain ⟨Jf, wu⟩ := LW
 refine .region ?_
 refine .mv ?_
 refine .vl (Y.qb rfl rfl om) ?_
 refine .an ?_
 refine .nil (⟨bh + 1, im, ⟨om, om, wu.2, cT hc wu.1⟩, om, Le.mk (.c2 (.cons (aj rfl bf) .nil)) (.c (.c .nil))⟩)
 refine .exit (.seq (.seq ?_))
 have IS : xq n n.cells.length dv := by rw [show n.cells.length = bh by omega]; exact hd
 unfold xq at IS; rw [List.take_length] at IS
 refine .region ?_
 refine .an ?_
 refine .nil (.block ?_)
 refine .fY (fun (nI : Nat) => ⟨[(4, .ba 104 1 0 n.aa.length), (8, vi nI)], [(104, .rows 1 (dv.map ai))]⟩) (fun nI => ((nI : Int) ≤ (n.aa.length : Int)) ∧ (∀ w, w < nI → dv.getD w 0 = 1)) (fun nI => ((n.aa.length : Int) - (nI : Int)).toNat) 0 (⟨om, fun j hj => by omega⟩) (Le.mk (.c (.cons (aj rfl bf) .nil)) (.c .nil)) (fun nI CY => ?_)
 obtain ⟨L0, h1⟩ := CY
 refine .seq (.sr ?_)
 refine .mv ?_
 refine .mv ?_
 refine .vl (Y.qx (n := n.aa.length) az rfl rfl) (.vl (Y.zc rfl rfl) (.nil ?_))
 refine .a8 rfl (fun PM => ?_) (fun PM => ?_)
 refine .skip (.seq (.block ?_))
 refine .sr ?_
 refine .mv ?_
 refine .mv ?_
 refine .vl (Y.qt (m := nI) az rfl rfl bf om) (.vl (Y.za aV rfl (aB (d := 0) gu) rfl rfl) ?_)
 refine .vl (Y.zk rfl rfl) (.nil ?_)
 refine .a8 rfl (fun vc => ?_) (fun vc => ?_)
 refine .sr ?_
 refine .an ?_
 refine .nil (.ret ?_)
 exact .rb rfl (df (fun h => by have h1 := h.iD nI om; have h2 := IS nI om; omega))
 refine .skip (.region ?_)
 refine .mv ?_
 refine .vl (Y.qb rfl rfl om) ?_
 refine .an ?_
 refine .nil (⟨nI + 1, ⟨om, cT h1 om⟩, om, Le.mk (.c (.cons (aj rfl bf) .nil)) (.c .nil)⟩)
 refine .exit (.sr ?_)
 refine .an ?_
 refine .nil (.ret ?_)
 exact .rb rfl (dt (tU.formed bm bm bm (fun j hj => hr j om) (fun j hj => hc j om) (fun w hw => by have h2 := IS w hw; have h3 := h1 w om; omega)))
end Go.Proofs.Ytligpghohcfpnaa
