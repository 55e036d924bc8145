/- Walks of Arrivals, drivers, Reverse. -/
import Derived.Test.YtligpghohcfpnaaNetx0
import Derived.Test.YtligpghohcfpnaaNetx2
import Derived.Test.YtligpghohcfpnaaAWx2
import Derived.Test.YtligpghohcfpnaaNetx1
import Derived.Test.YtligpghohcfpnaaAWx3
set_option linter.unusedSimpArgs false
set_option linter.unusedVariables false
set_option linter.unusedSectionVars false
set_option maxRecDepth 4000
set_option maxHeartbeats 8000000
namespace Go.Proofs.Ytligpghohcfpnaa
open Go Go.AW Go.Proofs
theorem nL {n : ab} (hM : VT n) : az Try.prog 46 [.agg (ab.row n)] [] [] (fun r o => ∃ l at_ : List Int, Ord n l ∧ tI n at_ ∧ r = .tup [.ep 1 (at_.map ah), vi 0] ∧ o = []) := by
 refine az.of Try.func46 rfl rfl rfl (n := 67) ae (aH rfl) ?_
 have hs := hM.small; have hf := hM.formed; have xW := hM.cK; have Cz := hM.cv; have o9 := hM.ir; have rE := hM.iW; have C5 := hM.bO; have Bh := hf.cP; have Du := hf.eY; have Gh := hM.sS; have Kq := hM.fit; have Kr := hM.acyclic
 refine .sr (.box 101 rfl rfl rfl rfl rfl ae ?_)
 refine .an ?_
 refine .an ?_
 refine .nil (.seq (.sh (Sh.dc 101 rfl rfl) ?_))
 refine .region (.vl (Y.aM eh rfl rfl (aH rfl) rfl rfl) (.kz Ir (rC (n := n) hs om) rfl (.ai rfl rfl .nil) ae ?_))
 rintro _ ⟨iQ, RT, Nt, rfl, _⟩
 refine ⟨rfl, ?_⟩
 refine .mR rfl ae (.gp rfl rfl ae (.vl (Y.extract rfl rfl rfl) ?_))
 refine .dU rfl ae (.sh (Sh.dF (d := 4) (iQ.map ah) rfl kq (da.map aD)) ?_)
 refine .an ?_
 refine .nil (.seq (.seq ?_))
 obtain ⟨hO, OR⟩ := Nt.ok hf Kq Kr; have wH := hO.len
 refine .region ?_
 refine .mv ?_
 refine .vl (Y.neq rfl rfl) (.nil ?_)
 refine .aB rfl (fun s0 => ?_) (fun s0 => ?_)
 exact absurd OR s0
 refine .skip (.sr ?_)
 refine .fa bN ?_
 refine .ld bh ?_
 refine .vl (Y.len (n := n.aa.length) a7 rfl dG) (.makeSlice (n := n.aa.length) a7 e0 rfl rfl rfl rfl om om ae ?_)
 refine .dU rfl ae (.sh (Sh.ed (d := 6) (n := n.aa.length) 106 ((List.replicate n.aa.length 0).map ah) rfl kq (bu (by simp)) ae) (.nil ?_))
 refine .seq (.sr ?_)
 refine .mv ?_
 refine .vl (Y.len (n := iQ.length) a7 rfl dG) ?_
 refine .mv ?_
 refine .nil (.block ?_)
 refine .dT (fun (bM : Nat) (gi : List Int) => ⟨[(1, .fp (ab.row n) 0), (6, .aY 106 1 0 n.aa.length), (25, .fz 1 (iQ.map ah)), (26, vi iQ.length), (27, vi bM)], [(106, .rows 1 (gi.map ah))]⟩) (fun bM gi => (gi.length = n.aa.length) ∧ ((bM : Int) ≤ (iQ.length : Int)) ∧ (kr n iQ bM gi)) (fun bM gi => ((iQ.length : Int) - (bM : Int)).toNat) 0 (List.replicate n.aa.length 0) (⟨ou, ou, kr.init⟩) (Le.mk (.c4 (.cons (ak rfl b5) (.nil))) (.c (.nil))) (fun bM gi Fu => ?_)
 obtain ⟨xo, MF, hA⟩ := Fu
 refine .sr (.vl (Y.lss rfl rfl) (.nil ?_))
 refine .seq ?_
 refine .aB rfl (fun wb => ?_) (fun wb => ?_)
 refine .skip ?_
 refine .eP (fun (ly : List Int) => ⟨[(1, .fp (ab.row n) 0), (6, .aY 106 1 0 n.aa.length), (25, .fz 1 (iQ.map ah)), (26, vi iQ.length), (27, vi bM)], [(106, .rows 1 (ly.map ah))]⟩) (fun ly => (ly.length = n.aa.length) ∧ (kr n iQ (bM + 1) ly)) ?_ (fun ly An => ?_)
 refine .block (.sr ?_)
 refine .vl (Y.aK (m := bM) a7 rfl rfl b5 (ax (d := 0) om)) ?_
 refine .ld br ?_
 refine .an ?_
 refine .nil (.seq ?_)
 have h8 := hO.nz (iQ.getD bM 0) (bm om)
 refine .region ?_
 refine .fa cb ?_
 refine .ld fD ?_
 refine .mv ?_
 refine .vl (Y.aK (m := (iQ.getD bM 0).toNat) dD rfl rfl om (ax (d := default) om)) ?_
 refine .vl (Y.aM eb rfl rfl (aH rfl) rfl rfl) (.alloc 109 dN rfl rfl ae (.aj eI rfl rfl rfl rfl rfl rfl (aH rfl) rfl ?_))
 refine .nil (.seq (.seq ?_))
 have h9 := o9 (n.cells.getD (iQ.getD bM 0).toNat default) (getD_in om); have QM := hf.cells (iQ.getD bM 0).toNat om; have RU := vP hf (j := (iQ.getD bM 0).toNat) om
 refine .region ?_
 refine .fa dx ?_
 refine .ld br ?_
 refine .vl (Y.lss rfl rfl) (.nil ?_)
 refine .aB rfl (fun Nu => ?_) (fun Nu => ?_)
 refine .exit ?_
 exact ⟨gi, ⟨om, by first | exact hA.Di hf hO om cj At | exact hA.skip hO om (xg hf om cj)⟩, Le.mk (.c4 (.c (.nil))) (.c (.nil))⟩
 refine .skip (.sr ?_)
 refine .an ?_
 refine .nil ?_
 refine .eP (fun (n8 : Int) => ⟨[(1, .fp (ab.row n) 0), (6, .aY 106 1 0 n.aa.length), (9, .ptr 109 0 0 0), (10, vi n8), (25, .fz 1 (iQ.map ah)), (26, vi iQ.length), (27, vi bM)], [(106, .rows 1 (gi.map ah)), (109, .cells [vi ((n.cells.getD ((iQ.getD bM 0).toNat) default).kind), vi ((n.cells.getD ((iQ.getD bM 0).toNat) default).op), vi ((n.cells.getD ((iQ.getD bM 0).toNat) default).out), .fz 1 (((n.cells.getD ((iQ.getD bM 0).toNat) default).args).map ah), .v (.int .u64 (((n.cells.getD ((iQ.getD bM 0).toNat) default).num : Nat) : Int)), vi ((n.cells.getD ((iQ.getD bM 0).toNat) default).mem)])]⟩) (fun n8 => n8 = (if b7 (n.cells.getD (iQ.getD bM 0).toNat default).kind then gr gi (n.cells.getD (iQ.getD bM 0).toNat default).args else 0)) ?_ (fun n8 At => ?_)
 refine .sr ?_
 refine .fa cL ?_
 refine .ld br ?_
 refine .aP xI (jA (w := ((n.cells.getD ((iQ.getD bM 0).toNat) default).kind))) rfl (.ai rfl rfl .nil) ae rfl (.nil ?_)
 refine .aB rfl (fun vX => ?_) (fun vX => ?_)
 refine .sr ?_
 refine .fa bF ?_
 refine .ld bh ?_
 refine .vl (Y.len (n := ((n.cells.getD ((iQ.getD bM 0).toNat) default).args).length) a7 rfl dG) ?_
 refine .mv ?_
 refine .nil (.block ?_)
 refine .dT (fun (nn : Int) (gE : Nat) => ⟨[(1, .fp (ab.row n) 0), (6, .aY 106 1 0 n.aa.length), (9, .ptr 109 0 0 0), (10, vi nn), (25, .fz 1 (iQ.map ah)), (26, vi iQ.length), (27, vi bM), (43, .fz 1 (((n.cells.getD ((iQ.getD bM 0).toNat) default).args).map ah)), (44, vi ((((n.cells.getD ((iQ.getD bM 0).toNat) default).args).length : Nat) : Int)), (45, vi gE)], [(106, .rows 1 (gi.map ah)), (109, .cells [vi ((n.cells.getD ((iQ.getD bM 0).toNat) default).kind), vi ((n.cells.getD ((iQ.getD bM 0).toNat) default).op), vi ((n.cells.getD ((iQ.getD bM 0).toNat) default).out), .fz 1 (((n.cells.getD ((iQ.getD bM 0).toNat) default).args).map ah), .v (.int .u64 (((n.cells.getD ((iQ.getD bM 0).toNat) default).num : Nat) : Int)), vi ((n.cells.getD ((iQ.getD bM 0).toNat) default).mem)])]⟩) (fun nn gE => ((gE : Int) ≤ ((((n.cells.getD ((iQ.getD bM 0).toNat) default).args).length : Nat) : Int)) ∧ (nn = gr gi ((n.cells.getD (iQ.getD bM 0).toNat default).args.take gE))) (fun nn gE => (((((n.cells.getD ((iQ.getD bM 0).toNat) default).args).length : Nat) : Int) - (gE : Int)).toNat) 0 0 (⟨om, rfl⟩) (Le.mk (.c2 (.c (.cons (ak rfl b5) (.c4 (.c (.cons (ak rfl b5) (.nil))))))) (.c2 (.nil))) (fun nn gE Nv => ?_)
 obtain ⟨QN, ht⟩ := Nv
 refine .sr (.vl (Y.lss rfl rfl) (.nil ?_))
 refine .seq ?_
 refine .aB rfl (fun EY => ?_) (fun EY => ?_)
 refine .skip (.seq (.block ?_))
 refine .sr (.vl (Y.aK (m := gE) a7 rfl rfl b5 (ax (d := 0) om)) ?_)
 refine .ld br ?_
 refine .an ?_
 refine .nil ?_
 have Mt := QM.1 ((n.cells.getD (iQ.getD bM 0).toNat default).args.getD gE 0) (bm om); unfold In at Mt
 refine .region ?_
 refine .mv ?_
 refine .mv ?_
 refine .mv ?_
 refine .vl (Y.bc (m := (((n.cells.getD ((iQ.getD bM 0).toNat) default).args).getD gE 0).toNat) a7 rfl rfl om om) (.vl (Y.load br rfl (a8 (d := 0) om) rfl rfl) (.vl (Y.max rfl rfl rfl) ?_))
 refine .an ?_
 refine .nil (.region ?_)
 refine .vl (Y.aT rfl rfl bw) ?_
 refine .mv ?_
 refine .nil ?_
 exact ⟨if (gi.getD ((((n.cells.getD ((iQ.getD bM 0).toNat) default).args).getD gE 0).toNat) 0) > nn then (gi.getD ((((n.cells.getD ((iQ.getD bM 0).toNat) default).args).getD gE 0).toNat) 0) else nn, gE + 1, ⟨om, ux ht om⟩, om, Le.mk (.c2 (.c (.cons (ak rfl b5) (.c4 (.c (.cons (ak rfl b5) (.nil))))))) (.c2 (.nil))⟩
 refine .exit ?_
 exact ⟨nn, by first | (rw [if_pos cj, ht, show gE = (n.cells.getD (iQ.getD bM 0).toNat default).args.length by omega, List.take_length]) | rw [if_neg cj], Le.mk (.c2 (.c (.cons (ak rfl b5) (.c2 (.c (.nil)))))) (.c2 (.nil))⟩
 refine .skip ?_
 exact ⟨0, by first | (rw [if_pos cj, ht, show gE = (n.cells.getD (iQ.getD bM 0).toNat default).args.length by omega, List.take_length]) | rw [if_neg cj], Le.mk (.c2 (.c (.cons (ak rfl b5) (.c2 (.c (.nil)))))) (.c2 (.nil))⟩
 have RV := hA.LR hM hO om At; have QO := hM.e6 (i := (iQ.getD bM 0).toNat) om
 refine .eK [109] [106, 109] rfl (.blind 0 rfl aq (ao.move rfl rfl) ae (.blind 1 rfl aq (ao.fieldAddr dx rfl rfl) ae ?_))
 refine .load 2 rfl aq br rfl rfl rfl rfl rfl ae (.blind 3 rfl aq (ao.move rfl rfl) ae (.aM 4 rfl aq eh rfl rfl rfl (aH rfl) rfl rfl ae ?_))
 refine .aM 5 rfl aq eb rfl rfl rfl (aH rfl) rfl rfl ae (.yn rfl rfl (bV.cells rfl rfl rfl bV.nil) (.one 6 rfl aq ?_))
 refine .aP xJ (iG (n := n) (c := (n.cells.getD ((iQ.getD bM 0).toNat) default)) hf.mY (hf.cells _ om) (o9 _ (getD_in om)) om) rfl (.ai rfl rfl (.ai rfl rfl .nil)) ae rfl ?_
 refine .nil ⟨rfl, ?_⟩
 refine .one 7 rfl aq (.vl (Y.aT rfl rfl bw) ?_)
 refine .nil ⟨rfl, ?_⟩
 refine .one 8 rfl aq (.vl (Y.bc (m := ((n.cells.getD ((iQ.getD bM 0).toNat) default).out).toNat) a7 rfl rfl om om) ?_)
 refine .nil ⟨rfl, ?_⟩
 refine .one 9 rfl aq (.dB ((gi.set (((n.cells.getD ((iQ.getD bM 0).toNat) default).out).toNat) (n8 + (e6 n (n.cells.getD ((iQ.getD bM 0).toNat) default)))).map ah) e8 rfl rfl rfl rfl rfl rfl rfl (a8 (d := 0) om) (aH rfl) (cp rfl) ?_)
 refine .nil ⟨rfl, ?_⟩
 refine .done aq ?_
 exact ⟨gi.set (((n.cells.getD ((iQ.getD bM 0).toNat) default).out).toNat) (n8 + (e6 n (n.cells.getD ((iQ.getD bM 0).toNat) default))), ⟨ou, by first | exact hA.Di hf hO om cj At | exact hA.skip hO om (xg hf om cj)⟩, Le.mk (.c4 (.c (.nil))) (.c (.nil))⟩
 obtain ⟨GL, Fg⟩ := An
 refine .region (.vl (Y.aT rfl rfl bw) ?_)
 refine .mv ?_
 refine .nil ?_
 exact ⟨bM + 1, ly, ⟨om, om, Fg⟩, om, Le.mk (.c4 (.cons (ak rfl b5) (.nil))) (.c (.nil))⟩
 refine .exit (.sr ?_)
 refine .mv ?_
 refine .an ?_
 refine .sh (Sh.ji (d := 2) (o := 106) rfl rfl (bu om) ae) ?_
 refine .an ?_
 refine .nil (.ret ?_)
 exact ⟨_, _, rfl, rfl, iQ, gi, hO, hA.done hO om, rfl, rfl⟩
end Go.Proofs.Ytligpghohcfpnaa
/- The walk of Slack. -/
namespace Go.Proofs.Ytligpghohcfpnaa
open Go Go.AW Go.Proofs
theorem w8 {n : ab} {p : Int} (hM : VT n) (hp : -1000000 ≤ p ∧ p ≤ 1000000) : az Try.prog 48 [.agg (ab.row n), vi p] [] [] (fun r o => ∃ l at_ s : List Int, Ord n l ∧ tI n at_ ∧ SL n p at_ (jX n l) n.aa.length s ∧ r = .tup [.ep 1 (s.map ah), vi 0] ∧ o = []) := by
 refine az.ofM Try.func48 rfl rfl rfl (n := 137) ae (aH rfl) ?_
 have hs := hM.small; have hf := hM.formed; have xW := hM.cK; have Cz := hM.cv; have o9 := hM.ir; have rE := hM.iW; have C5 := hM.bO; have Bh := hf.cP; have Du := hf.eY; have Gh := hM.sS; have Kq := hM.fit; have Kr := hM.acyclic
 refine ev.pH (.region (.box 102 rfl rfl rfl rfl rfl ae ?_))
 refine .an ?_
 refine .an ?_
 refine .nil (ev.pH (.sh (Sh.dc 102 rfl rfl) ?_))
 refine .region (.vl (Y.aM eh rfl rfl (aH rfl) rfl rfl) (.kz Iu (nL (n := n) hM) rfl (.ai rfl rfl .nil) ae ?_))
 rintro _ ⟨QP, oW, Nw, FP, rfl, _⟩
 refine ⟨rfl, ?_⟩
 refine .mR rfl ae (.gp rfl rfl ae (.vl (Y.extract rfl rfl rfl) ?_))
 refine .dU rfl ae (.sh (Sh.dF (d := 6) (oW.map ah) rfl kq (da.map aD)) ?_)
 refine .an ?_
 refine .nil (ev.pH (.sr ?_))
 refine .mv ?_
 refine .vl (Y.neq rfl rfl) (.nil (.cX rfl ?_))
 refine .skip (ev.pH (.region ?_))
 refine .fa bN ?_
 refine .ld bh ?_
 refine .vl (Y.len (n := n.aa.length) a7 rfl dG) (.makeSlice (n := n.aa.length) a7 e0 rfl rfl rfl rfl om om ae ?_)
 refine .alloc 108 zM rfl rfl ae (.sh (Sh.ed (d := 33) (n := n.aa.length) 133 ((List.replicate n.aa.length 0).map ah) rfl kq (bu (by simp)) ae) (.aj fg rfl rfl rfl rfl rfl rfl (aH rfl) rfl ?_))
 refine .nil (ev.pH (.sr ?_))
 refine .ld bh ?_
 refine .vl (Y.len (n := n.aa.length) a7 rfl rfl) ?_
 refine .mv ?_
 refine .nil (.block ?_)
 refine .dT (fun (np : Nat) (qd : List Int) => ⟨[(1, vi p), (2, .fp (ab.row n) 0), (6, .fz 1 (oW.map ah)), (8, .ptr 108 0 0 0), (35, vi n.aa.length), (36, vi np)], [(108, .cells [.aY 133 1 0 n.aa.length]), (133, .rows 1 (qd.map ah))]⟩) (fun np qd => (qd.length = n.aa.length) ∧ ((np : Int) ≤ (n.aa.length : Int)) ∧ (EI n np qd)) (fun np qd => ((n.aa.length : Int) - (np : Int)).toNat) 0 (List.replicate n.aa.length 0) (⟨ou, ou, EI.init⟩) (Le.mk (.c4 (.c (.cons (ak rfl b5) (.nil)))) (.c2 (.nil))) (fun np qd Fu => ?_)
 obtain ⟨J6, MF, hI⟩ := Fu
 refine .sr (.vl (Y.lss rfl rfl) (.nil ?_))
 refine .seq ?_
 refine .aB rfl (fun QQ => ?_) (fun QQ => ?_)
 refine .skip (.seq (.block ?_))
 refine .sr ?_
 refine .mv ?_
 refine .an ?_
 refine .nil (.region ?_)
 refine .ld bh ?_
 refine .mv ?_
 refine .vl (Y.bc (m := np) a7 rfl rfl b5 om) (.dB ((qd.set np (-1)).map ah) e8 rfl rfl rfl rfl rfl rfl rfl (a8 (d := 0) om) (aH rfl) (cp rfl) ?_)
 refine .nil (.region ?_)
 refine .vl (Y.aT rfl rfl bw) ?_
 refine .mv ?_
 refine .nil ?_
 exact ⟨np + 1, qd.set np (-1), ⟨ou, ou, hI.step om⟩, om, Le.mk (.c4 (.c (.cons (ak rfl b5) (.nil)))) (.c2 (.nil))⟩
 refine .exit (ev.seq (ev.pH ?_))
 obtain rfl := hI.rep om
 refine .region (.vl (Y.aM eh rfl rfl (aH rfl) rfl rfl) (.aP Iz (sC (n := n)) rfl (.ai rfl rfl .nil) ae rfl ?_))
 refine .nil (ev.block ?_)
 refine ev.rangeFunc (p1 := 45) (p2 := 46) [108, 133] (fun i => [(108, .cells [.aY 133 1 0 n.aa.length]), (133, .rows 1 ((iY (List.replicate n.aa.length (-1)) i).map ah))]) (fun x => x ∈ fq n) [(8, .ptr 108 0 0 0)] rfl Dg (Au (n := n) hM) rfl ae ae ae (.c (.nil)) rfl (.c2 (.nil)) (fun _ => rfl) (fun i o ob h => by exact pI (p := ql [108, 133]) (by exact ⟨⟨trivial, trivial⟩, trivial, by simp, fun xs e q h => by cases e; simp [X.cC, X.dL] at h; simp [h]⟩) (by exact ql.rows (jI k0 _) (da.map aD)) h) (fun l i x Nx Dw => ?_) (fun y h => h) ?_
 have pQ := (hX hf Dw).1; unfold In at pQ; have sJ := ye (T := (List.replicate n.aa.length (-1))) (i := i); rw [List.length_replicate] at sJ
 refine aZ.seq (aZ.region ?_)
 refine .an ?_
 refine .nil (aZ.region ?_)
 refine .an ?_
 refine .nil (aZ.block (aZ.eK [108] [108, 133] rfl ?_))
 refine .load 0 rfl aq bh rfl rfl rfl rfl rfl ae (.blind 1 rfl aq (ao.move rfl rfl) ae (.load 2 rfl aq bh rfl rfl rfl rfl rfl ae ?_))
 refine .blind 3 rfl aq (ao.move rfl rfl) ae (.blind 4 rfl aq (ao.bc (m := (x.1).toNat) a7 rfl rfl om om) ae ?_)
 refine .blind 6 rfl aq (ao.move rfl rfl) ae (.yn rfl rfl (bV.cells rfl rfl rfl bV.nil) (.one 5 rfl aq ?_))
 refine .vl (Y.load br rfl (a8 (d := 0) om) rfl rfl) ?_
 refine .nil ⟨rfl, ?_⟩
 refine .one 7 rfl aq (.vl (Y.max rfl rfl rfl) ?_)
 refine .nil ⟨rfl, ?_⟩
 refine .one 8 rfl aq (.vl (Y.bc (m := (x.1).toNat) a7 rfl rfl om om) ?_)
 refine .nil ⟨rfl, ?_⟩
 refine .one 9 rfl aq (.dB (((iY (List.replicate n.aa.length (-1)) i).set ((x.1).toNat) (if x.2 > ((iY (List.replicate n.aa.length (-1)) i).getD ((x.1).toNat) 0) then x.2 else ((iY (List.replicate n.aa.length (-1)) i).getD ((x.1).toNat) 0))).map ah) e8 rfl rfl rfl rfl rfl rfl rfl (a8 (d := 0) om) (aH rfl) (cp rfl) ?_)
 refine .nil ⟨rfl, ?_⟩
 refine .done aq ?_
 refine ⟨rfl, ?_⟩
 show eD _ ([(108, .cells [.aY 133 1 0 n.aa.length]), (133, .rows 1 ((iY (List.replicate n.aa.length (-1)) (i ++ [x])).map ah))] : List (Nat × Go.AW.Obj))
 rw [rq]; exact .c (.c .nil)
 refine ev.pH (.region (.vl (Y.aM eh rfl rfl (aH rfl) rfl rfl) ?_))
 refine .kz Ir (rC (n := n) hs om) rfl (.ai rfl rfl .nil) ae ?_
 rintro _ ⟨Bj, RW, Ny, rfl, _⟩
 refine ⟨rfl, ?_⟩
 refine .mR rfl ae (.gp rfl rfl ae (.vl (Y.extract rfl rfl rfl) ?_))
 refine .dU rfl ae (.sh (Sh.dF (d := 12) (Bj.map ah) rfl kq (da.map aD)) ?_)
 refine .an ?_
 refine .nil (ev.seq (ev.pH ?_))
 obtain ⟨hO, OR⟩ := Ny.ok hf Kq Kr; have wH := hO.len; have Bk := oQ hM hO
 refine .region ?_
 refine .mv ?_
 refine .aP LM (rR (l := Bj)) rfl (.ai rfl rfl .nil) ae rfl (.nil (ev.block ?_))
 refine ev.rangeFunc (p1 := 63) (p2 := 64) [108, 133] (fun i => [(108, .cells [.aY 133 1 0 n.aa.length]), (133, .rows 1 ((mi n (Aa n) i).map ah))]) (fun x => 0 ≤ x.2 ∧ x.2 < n.cells.length) [(2, .fp (ab.row n) 0), (8, .ptr 108 0 0 0)] rfl I6 (uJ (l := Bj) om) rfl ae ae ae (.c2 (.nil)) rfl (.c2 (.nil)) (fun _ => rfl) (fun i o ob h => by exact pI (p := ql [108, 133]) (by exact ⟨⟨trivial, trivial⟩, trivial, by simp, fun xs e q h => by cases e; simp [X.cC, X.dL] at h; simp [h]⟩) (by exact ql.rows (jI k0 _) (da.map aD)) h) (fun l i x Nx Dw => ?_) (fun y h => hO.nz _ (yg h)) ?_
 obtain ⟨OS, Oh⟩ := Dw; have hb := yh hM Bk i Nx; have Bi := hb.len
 refine aZ.region ?_
 refine .an ?_
 refine .nil (aZ.block (aZ.seq ?_))
 refine aZ.region ?_
 refine .fa cb ?_
 refine .ld fD ?_
 refine .mv ?_
 refine .vl (Y.aK (m := (x.2).toNat) dD rfl rfl om (ax (d := default) om)) ?_
 refine .vl (Y.aM eb rfl rfl (aH rfl) rfl rfl) (.alloc 116 dN rfl rfl ae (.aj eI rfl rfl rfl rfl rfl rfl (aH rfl) rfl ?_))
 refine .nil (aZ.seq (aZ.seq ?_))
 have Gt := hf.cells x.2.toNat om; have Mu := o9 (n.cells.getD x.2.toNat default) (getD_in om)
 refine aZ.region ?_
 refine .fa cL ?_
 refine .ld br ?_
 refine .aP xI (jA (w := ((n.cells.getD ((x.2).toNat) default).kind))) rfl (.ai rfl rfl .nil) ae rfl (.vl (Y.not rfl) ?_)
 refine .mv ?_
 refine .split (d := 74) rfl (fun uB => ?_) (fun uB => ?_)
 replace uB : ¬ (b7 ((n.cells.getD ((x.2).toNat) default).kind)) := by simpa using uB
 refine .gz 74 (.gz 74 (.gz 74 ?_))
 refine .gz 74 (.gz 74 (.gz 74 ?_))
 refine .pk ?_
 refine .nil (aZ.aV rfl (aZ.exit ?_))
 refine ⟨rfl, ?_⟩
 show eD _ ([(108, .cells [.aY 133 1 0 n.aa.length]), (133, .rows 1 ((mi n (Aa n) (i ++ [x])).map ah))] : List (Nat × Go.AW.Obj))
 rw [jY]; (first | rw [pC cj] | rw [pD cj] | rw [pE uB om (show bY = _ by omega), ← hT]); exact .c (.c .nil)
 replace uB : b7 ((n.cells.getD ((x.2).toNat) default).kind) := by simpa using uB
 have wo := Gt.2.2.2 (fun e => by rw [e] at uB; revert uB; unfold b7; omega); have MG := wo; unfold In at MG
 refine .gw 74 (Y.load bh rfl rfl rfl rfl) (.gw 74 (Y.fieldAddr dx rfl rfl) (.gw 74 (Y.load br rfl rfl rfl rfl) ?_))
 refine .gw 74 (Y.bc (m := ((n.cells.getD ((x.2).toNat) default).out).toNat) a7 rfl rfl bw bw) (.gw 74 (Y.load br rfl (a8 (d := 0) om) rfl rfl) (.gw 74 (Y.lss rfl rfl) ?_))
 refine .pk ?_
 refine .nil ?_
 refine aZ.aB rfl (fun yJ => ?_) (fun yJ => ?_)
 refine aZ.exit ?_
 refine ⟨rfl, ?_⟩
 show eD _ ([(108, .cells [.aY 133 1 0 n.aa.length]), (133, .rows 1 ((mi n (Aa n) (i ++ [x])).map ah))] : List (Nat × Go.AW.Obj))
 rw [jY]; (first | rw [pC cj] | rw [pD cj] | rw [pE uB om (show bY = _ by omega), ← hT]); exact .c (.c .nil)
 refine aZ.skip (aZ.seq (aZ.region ?_))
 refine .fa bF ?_
 refine .ld bh ?_
 refine .vl (Y.len (n := ((n.cells.getD ((x.2).toNat) default).args).length) a7 rfl dG) ?_
 refine .mv ?_
 refine .nil (aZ.block ?_)
 refine aZ.dT (fun (bY : Nat) (bZ : List Int) => ⟨[(2, .fp (ab.row n) 0), (8, .ptr 108 0 0 0), (16, .ptr 116 0 0 0), (83, .fz 1 (((n.cells.getD ((x.2).toNat) default).args).map ah)), (84, .v (.int .i64 ((((n.cells.getD ((x.2).toNat) default).args).length : Nat) : Int))), (85, .v (.int .i64 (bY : Int)))], [(108, .cells [.aY 133 1 0 n.aa.length]), (116, .cells [.v (.int .i64 ((n.cells.getD ((x.2).toNat) default).kind)), .v (.int .i64 ((n.cells.getD ((x.2).toNat) default).op)), .v (.int .i64 ((n.cells.getD ((x.2).toNat) default).out)), .fz 1 (((n.cells.getD ((x.2).toNat) default).args).map ah), .v (.int .u64 (((n.cells.getD ((x.2).toNat) default).num : Nat) : Int)), .v (.int .i64 ((n.cells.getD ((x.2).toNat) default).mem))]), (133, .rows 1 (bZ.map ah))]⟩) (fun bY bZ => (bZ.length = n.aa.length) ∧ ((bY : Int) ≤ ((((n.cells.getD ((x.2).toNat) default).args).length : Nat) : Int)) ∧ (bZ = iX n (n.cells.getD x.2.toNat default) (mi n (Aa n) i) ((n.cells.getD x.2.toNat default).args.take bY))) (fun bY bZ => (((((n.cells.getD ((x.2).toNat) default).args).length : Nat) : Int) - (bY : Int)).toNat) 0 (mi n (Aa n) i) (⟨om, om, rfl⟩) (Le.mk (.c4 (.c (.cons (ak rfl b5) (.nil)))) (.c2 (.c (.nil)))) (fun bY bZ Ak => ?_)
 obtain ⟨J6, Jd, hT⟩ := Ak
 refine aZ.seq (aZ.region (.vl (Y.lss rfl rfl) ?_))
 refine .nil (aZ.seq ?_)
 refine aZ.aB rfl (fun J4 => ?_) (fun J4 => ?_)
 have JS := Gt.1 ((n.cells.getD x.2.toNat default).args.getD bY 0) (bm om); have Nz := JS; unfold In at Nz; have rL := hb.iX hM Bk (i := x.2.toNat) om uB om ((n.cells.getD x.2.toNat default).args.take bY) (fun a h => List.mem_of_mem_take h); rw [← hT] at rL; have y9 := rL.1.lo _ wo; have O7 := rL.1.lo _ JS; have Mf := Bk.le hM hO wo; have RY := Bk.le hM hO JS; have uY := hM.e6 (i := x.2.toNat) om; have QR := rL.1.len
 refine aZ.skip (aZ.seq (aZ.block ?_))
 refine aZ.seq (aZ.region ?_)
 refine .vl (Y.aK (m := bY) a7 rfl rfl b5 (ax (d := 0) om)) ?_
 refine .ld br ?_
 refine .an ?_
 refine .nil ?_
 refine aZ.fN [108, 116] [108, 116, 133] (⟨[(2, .fp (ab.row n) 0), (8, .ptr 108 0 0 0), (16, .ptr 116 0 0 0), (83, .fz 1 (((n.cells.getD ((x.2).toNat) default).args).map ah)), (84, .v (.int .i64 ((((n.cells.getD ((x.2).toNat) default).args).length : Nat) : Int))), (85, .v (.int .i64 (bY : Int)))], [(108, .cells [.aY 133 1 0 n.aa.length]), (116, .cells [.v (.int .i64 ((n.cells.getD ((x.2).toNat) default).kind)), .v (.int .i64 ((n.cells.getD ((x.2).toNat) default).op)), .v (.int .i64 ((n.cells.getD ((x.2).toNat) default).out)), .fz 1 (((n.cells.getD ((x.2).toNat) default).args).map ah), .v (.int .u64 (((n.cells.getD ((x.2).toNat) default).num : Nat) : Int)), .v (.int .i64 ((n.cells.getD ((x.2).toNat) default).mem))]), (133, .rows 1 ((bZ.set ((((n.cells.getD ((x.2).toNat) default).args).getD bY 0).toNat) (if ((bZ.getD (((n.cells.getD ((x.2).toNat) default).out).toNat) 0) + (e6 n (n.cells.getD ((x.2).toNat) default))) > (bZ.getD ((((n.cells.getD ((x.2).toNat) default).args).getD bY 0).toNat) 0) then ((bZ.getD (((n.cells.getD ((x.2).toNat) default).out).toNat) 0) + (e6 n (n.cells.getD ((x.2).toNat) default))) else (bZ.getD ((((n.cells.getD ((x.2).toNat) default).args).getD bY 0).toNat) 0))).map ah))]⟩) rfl ?_ ?_
 refine .load 0 rfl aq bh rfl rfl rfl rfl rfl ae (.blind 1 rfl aq (ao.move rfl rfl) ae (.load 2 rfl aq bh rfl rfl rfl rfl rfl ae ?_))
 refine .blind 3 rfl aq (ao.move rfl rfl) ae (.blind 4 rfl aq (ao.bc (m := (((n.cells.getD ((x.2).toNat) default).args).getD bY 0).toNat) a7 rfl rfl om om) ae ?_)
 refine .load 6 rfl aq bh rfl rfl rfl rfl rfl ae (.blind 7 rfl aq (ao.fieldAddr dx rfl rfl) ae (.load 8 rfl aq br rfl rfl rfl rfl rfl ae ?_))
 refine .blind 9 rfl aq (ao.bc (m := ((n.cells.getD ((x.2).toNat) default).out).toNat) a7 rfl rfl om om) ae ?_
 refine .aM 11 rfl aq eh rfl rfl rfl (aH rfl) rfl rfl ae (.aM 12 rfl aq eb rfl rfl rfl (aH rfl) rfl rfl ae (.yn rfl rfl (bV.cells rfl rfl rfl (bV.cells rfl rfl rfl bV.nil)) ?_))
 refine .three 5 10 13 rfl rfl rfl aq ?_ ?_ ?_
 refine .vl (Y.load br rfl (a8 (d := 0) om) rfl rfl) ?_
 refine .nil ⟨rfl, ?_⟩
 refine .two 10 13 rfl rfl aq ?_ ?_
 refine .vl (Y.load br rfl (a8 (d := 0) om) rfl rfl) ?_
 refine .nil ⟨rfl, ?_⟩
 refine .one 13 rfl aq (.aP xJ (iG (n := n) (c := (n.cells.getD ((x.2).toNat) default)) hf.mY (hf.cells _ om) (o9 _ (getD_in om)) om) rfl (.ai rfl rfl (.ai rfl rfl .nil)) ae rfl ?_)
 refine .nil ⟨rfl, ?_⟩
 refine .one 14 rfl aq (.vl (Y.aT rfl rfl bw) ?_)
 refine .nil ⟨rfl, ?_⟩
 refine .one 15 rfl aq (.vl (Y.max rfl rfl rfl) ?_)
 refine .nil ⟨rfl, ?_⟩
 refine .one 16 rfl aq (.vl (Y.bc (m := (((n.cells.getD ((x.2).toNat) default).args).getD bY 0).toNat) a7 rfl rfl om om) ?_)
 refine .nil ⟨rfl, ?_⟩
 refine .one 17 rfl aq (.dB ((bZ.set ((((n.cells.getD ((x.2).toNat) default).args).getD bY 0).toNat) (if ((bZ.getD (((n.cells.getD ((x.2).toNat) default).out).toNat) 0) + (e6 n (n.cells.getD ((x.2).toNat) default))) > (bZ.getD ((((n.cells.getD ((x.2).toNat) default).args).getD bY 0).toNat) 0) then ((bZ.getD (((n.cells.getD ((x.2).toNat) default).out).toNat) 0) + (e6 n (n.cells.getD ((x.2).toNat) default))) else (bZ.getD ((((n.cells.getD ((x.2).toNat) default).args).getD bY 0).toNat) 0))).map ah) e8 rfl rfl rfl rfl rfl rfl rfl (a8 (d := 0) om) (aH rfl) (cp rfl) ?_)
 refine .nil ⟨rfl, ?_⟩
 refine .done aq ?_
 exact Le.mk (.c4 (.c2 (.nil))) (.c2 (.c (.nil)))
 refine .aP xJ (iG (n := n) (c := (n.cells.getD ((x.2).toNat) default)) hf.mY (hf.cells _ om) (o9 _ (getD_in om)) om) rfl (.ai rfl rfl (.ai rfl rfl .nil)) ae rfl ?_
 refine .nil ⟨rfl, ?_⟩
 refine .one 10 rfl aq (.vl (Y.load br rfl (a8 (d := 0) om) rfl rfl) ?_)
 refine .nil ⟨rfl, ?_⟩
 refine .one 14 rfl aq (.vl (Y.aT rfl rfl bw) ?_)
 refine .nil ⟨rfl, ?_⟩
 refine .one 15 rfl aq (.vl (Y.max rfl rfl rfl) ?_)
 refine .nil ⟨rfl, ?_⟩
 refine .one 16 rfl aq (.vl (Y.bc (m := (((n.cells.getD ((x.2).toNat) default).args).getD bY 0).toNat) a7 rfl rfl om om) ?_)
 refine .nil ⟨rfl, ?_⟩
 refine .one 17 rfl aq (.dB ((bZ.set ((((n.cells.getD ((x.2).toNat) default).args).getD bY 0).toNat) (if ((bZ.getD (((n.cells.getD ((x.2).toNat) default).out).toNat) 0) + (e6 n (n.cells.getD ((x.2).toNat) default))) > (bZ.getD ((((n.cells.getD ((x.2).toNat) default).args).getD bY 0).toNat) 0) then ((bZ.getD (((n.cells.getD ((x.2).toNat) default).out).toNat) 0) + (e6 n (n.cells.getD ((x.2).toNat) default))) else (bZ.getD ((((n.cells.getD ((x.2).toNat) default).args).getD bY 0).toNat) 0))).map ah) e8 rfl rfl rfl rfl rfl rfl rfl (a8 (d := 0) om) (aH rfl) (cp rfl) ?_)
 refine .nil ⟨rfl, ?_⟩
 refine .done aq ?_
 exact Le.mk (.c4 (.c2 (.nil))) (.c2 (.c (.nil)))
 refine .vl (Y.load br rfl (a8 (d := 0) om) rfl rfl) ?_
 refine .nil ⟨rfl, ?_⟩
 refine .two 5 13 rfl rfl aq ?_ ?_
 refine .vl (Y.load br rfl (a8 (d := 0) om) rfl rfl) ?_
 refine .nil ⟨rfl, ?_⟩
 refine .one 13 rfl aq (.aP xJ (iG (n := n) (c := (n.cells.getD ((x.2).toNat) default)) hf.mY (hf.cells _ om) (o9 _ (getD_in om)) om) rfl (.ai rfl rfl (.ai rfl rfl .nil)) ae rfl ?_)
 refine .nil ⟨rfl, ?_⟩
 refine .one 14 rfl aq (.vl (Y.aT rfl rfl bw) ?_)
 refine .nil ⟨rfl, ?_⟩
 refine .one 15 rfl aq (.vl (Y.max rfl rfl rfl) ?_)
 refine .nil ⟨rfl, ?_⟩
 refine .one 16 rfl aq (.vl (Y.bc (m := (((n.cells.getD ((x.2).toNat) default).args).getD bY 0).toNat) a7 rfl rfl om om) ?_)
 refine .nil ⟨rfl, ?_⟩
 refine .one 17 rfl aq (.dB ((bZ.set ((((n.cells.getD ((x.2).toNat) default).args).getD bY 0).toNat) (if ((bZ.getD (((n.cells.getD ((x.2).toNat) default).out).toNat) 0) + (e6 n (n.cells.getD ((x.2).toNat) default))) > (bZ.getD ((((n.cells.getD ((x.2).toNat) default).args).getD bY 0).toNat) 0) then ((bZ.getD (((n.cells.getD ((x.2).toNat) default).out).toNat) 0) + (e6 n (n.cells.getD ((x.2).toNat) default))) else (bZ.getD ((((n.cells.getD ((x.2).toNat) default).args).getD bY 0).toNat) 0))).map ah) e8 rfl rfl rfl rfl rfl rfl rfl (a8 (d := 0) om) (aH rfl) (cp rfl) ?_)
 refine .nil ⟨rfl, ?_⟩
 refine .done aq ?_
 exact Le.mk (.c4 (.c2 (.nil))) (.c2 (.c (.nil)))
 refine .aP xJ (iG (n := n) (c := (n.cells.getD ((x.2).toNat) default)) hf.mY (hf.cells _ om) (o9 _ (getD_in om)) om) rfl (.ai rfl rfl (.ai rfl rfl .nil)) ae rfl ?_
 refine .nil ⟨rfl, ?_⟩
 refine .blind 14 rfl aq (ao.aT rfl rfl om) ae (.one 5 rfl aq (.vl (Y.load br rfl (a8 (d := 0) om) rfl rfl) ?_))
 refine .nil ⟨rfl, ?_⟩
 refine .one 15 rfl aq (.vl (Y.max rfl rfl rfl) ?_)
 refine .nil ⟨rfl, ?_⟩
 refine .one 16 rfl aq (.vl (Y.bc (m := (((n.cells.getD ((x.2).toNat) default).args).getD bY 0).toNat) a7 rfl rfl om om) ?_)
 refine .nil ⟨rfl, ?_⟩
 refine .one 17 rfl aq (.dB ((bZ.set ((((n.cells.getD ((x.2).toNat) default).args).getD bY 0).toNat) (if ((bZ.getD (((n.cells.getD ((x.2).toNat) default).out).toNat) 0) + (e6 n (n.cells.getD ((x.2).toNat) default))) > (bZ.getD ((((n.cells.getD ((x.2).toNat) default).args).getD bY 0).toNat) 0) then ((bZ.getD (((n.cells.getD ((x.2).toNat) default).out).toNat) 0) + (e6 n (n.cells.getD ((x.2).toNat) default))) else (bZ.getD ((((n.cells.getD ((x.2).toNat) default).args).getD bY 0).toNat) 0))).map ah) e8 rfl rfl rfl rfl rfl rfl rfl (a8 (d := 0) om) (aH rfl) (cp rfl) ?_)
 refine .nil ⟨rfl, ?_⟩
 refine .done aq ?_
 exact Le.mk (.c4 (.c2 (.nil))) (.c2 (.c (.nil)))
 refine .aP xJ (iG (n := n) (c := (n.cells.getD ((x.2).toNat) default)) hf.mY (hf.cells _ om) (o9 _ (getD_in om)) om) rfl (.ai rfl rfl (.ai rfl rfl .nil)) ae rfl ?_
 refine .nil ⟨rfl, ?_⟩
 refine .two 5 10 rfl rfl aq ?_ ?_
 refine .vl (Y.load br rfl (a8 (d := 0) om) rfl rfl) ?_
 refine .nil ⟨rfl, ?_⟩
 refine .one 10 rfl aq (.vl (Y.load br rfl (a8 (d := 0) om) rfl rfl) ?_)
 refine .nil ⟨rfl, ?_⟩
 refine .one 14 rfl aq (.vl (Y.aT rfl rfl bw) ?_)
 refine .nil ⟨rfl, ?_⟩
 refine .one 15 rfl aq (.vl (Y.max rfl rfl rfl) ?_)
 refine .nil ⟨rfl, ?_⟩
 refine .one 16 rfl aq (.vl (Y.bc (m := (((n.cells.getD ((x.2).toNat) default).args).getD bY 0).toNat) a7 rfl rfl om om) ?_)
 refine .nil ⟨rfl, ?_⟩
 refine .one 17 rfl aq (.dB ((bZ.set ((((n.cells.getD ((x.2).toNat) default).args).getD bY 0).toNat) (if ((bZ.getD (((n.cells.getD ((x.2).toNat) default).out).toNat) 0) + (e6 n (n.cells.getD ((x.2).toNat) default))) > (bZ.getD ((((n.cells.getD ((x.2).toNat) default).args).getD bY 0).toNat) 0) then ((bZ.getD (((n.cells.getD ((x.2).toNat) default).out).toNat) 0) + (e6 n (n.cells.getD ((x.2).toNat) default))) else (bZ.getD ((((n.cells.getD ((x.2).toNat) default).args).getD bY 0).toNat) 0))).map ah) e8 rfl rfl rfl rfl rfl rfl rfl (a8 (d := 0) om) (aH rfl) (cp rfl) ?_)
 refine .nil ⟨rfl, ?_⟩
 refine .done aq ?_
 exact Le.mk (.c4 (.c2 (.nil))) (.c2 (.c (.nil)))
 refine .vl (Y.load br rfl (a8 (d := 0) om) rfl rfl) ?_
 refine .nil ⟨rfl, ?_⟩
 refine .blind 14 rfl aq (ao.aT rfl rfl om) ae (.one 5 rfl aq (.vl (Y.load br rfl (a8 (d := 0) om) rfl rfl) ?_))
 refine .nil ⟨rfl, ?_⟩
 refine .one 15 rfl aq (.vl (Y.max rfl rfl rfl) ?_)
 refine .nil ⟨rfl, ?_⟩
 refine .one 16 rfl aq (.vl (Y.bc (m := (((n.cells.getD ((x.2).toNat) default).args).getD bY 0).toNat) a7 rfl rfl om om) ?_)
 refine .nil ⟨rfl, ?_⟩
 refine .one 17 rfl aq (.dB ((bZ.set ((((n.cells.getD ((x.2).toNat) default).args).getD bY 0).toNat) (if ((bZ.getD (((n.cells.getD ((x.2).toNat) default).out).toNat) 0) + (e6 n (n.cells.getD ((x.2).toNat) default))) > (bZ.getD ((((n.cells.getD ((x.2).toNat) default).args).getD bY 0).toNat) 0) then ((bZ.getD (((n.cells.getD ((x.2).toNat) default).out).toNat) 0) + (e6 n (n.cells.getD ((x.2).toNat) default))) else (bZ.getD ((((n.cells.getD ((x.2).toNat) default).args).getD bY 0).toNat) 0))).map ah) e8 rfl rfl rfl rfl rfl rfl rfl (a8 (d := 0) om) (aH rfl) (cp rfl) ?_)
 refine .nil ⟨rfl, ?_⟩
 refine .done aq ?_
 exact Le.mk (.c4 (.c2 (.nil))) (.c2 (.c (.nil)))
 refine aZ.region (.vl (Y.aT rfl rfl bw) ?_)
 refine .mv ?_
 refine .nil ?_
 exact ⟨bY + 1, bZ.set ((((n.cells.getD ((x.2).toNat) default).args).getD bY 0).toNat) (if ((bZ.getD (((n.cells.getD ((x.2).toNat) default).out).toNat) 0) + (e6 n (n.cells.getD ((x.2).toNat) default))) > (bZ.getD ((((n.cells.getD ((x.2).toNat) default).args).getD bY 0).toNat) 0) then ((bZ.getD (((n.cells.getD ((x.2).toNat) default).out).toNat) 0) + (e6 n (n.cells.getD ((x.2).toNat) default))) else (bZ.getD ((((n.cells.getD ((x.2).toNat) default).args).getD bY 0).toNat) 0)), ⟨ou, ou, by rw [yf om, ← hT]; rfl⟩, om, Le.mk (.c4 (.c (.cons (ak rfl b5) (.nil)))) (.c2 (.c (.nil)))⟩
 refine aZ.exit ?_
 refine ⟨rfl, ?_⟩
 show eD _ ([(108, .cells [.aY 133 1 0 n.aa.length]), (133, .rows 1 ((mi n (Aa n) (i ++ [x])).map ah))] : List (Nat × Go.AW.Obj))
 rw [jY]; (first | rw [pC cj] | rw [pD cj] | rw [pE uB om (show bY = _ by omega), ← hT]); exact .c (.c .nil)
 refine ev.of (.seq ?_)
 have Mh := Bk.cl.len; have Db := FP.len
 refine .region ?_
 refine .fa bN ?_
 refine .ld bh ?_
 refine .vl (Y.len (n := n.aa.length) a7 rfl dG) (.makeSlice (n := n.aa.length) a7 e0 rfl rfl rfl rfl om om ae ?_)
 refine .dU rfl ae (.sh (Sh.ed (d := 19) (n := n.aa.length) 119 ((List.replicate n.aa.length 0).map ah) rfl kq (bu (by simp)) ae) (.nil ?_))
 refine .seq (.sr ?_)
 refine .ld bh ?_
 refine .vl (Y.len (n := n.aa.length) a7 rfl rfl) ?_
 refine .mv ?_
 refine .nil (.block ?_)
 refine .dT (fun (de : Nat) (fS : List Int) => ⟨[(1, vi p), (6, .fz 1 (oW.map ah)), (19, .aY 119 1 0 n.aa.length), (111, .aY 133 1 0 n.aa.length), (112, vi n.aa.length), (113, vi de)], [(119, .rows 1 (fS.map ah)), (133, .rows 1 ((jX n Bj).map ah))]⟩) (fun de fS => (fS.length = n.aa.length) ∧ ((de : Int) ≤ (n.aa.length : Int)) ∧ (SL n p oW (jX n Bj) de fS)) (fun de fS => ((n.aa.length : Int) - (de : Int)).toNat) 0 (List.replicate n.aa.length 0) (⟨ou, ou, SL.init⟩) (Le.mk (.c4 (.c (.cons (ak rfl b5) (.nil)))) (.c2 (.nil))) (fun de fS FF => ?_)
 obtain ⟨OT, MT, hS⟩ := FF
 refine .sr (.vl (Y.lss rfl rfl) (.nil ?_))
 refine .seq ?_
 refine .aB rfl (fun AI => ?_) (fun AI => ?_)
 refine .skip ?_
 refine .eP (fun (jD : List Int) => ⟨[(1, vi p), (6, .fz 1 (oW.map ah)), (19, .aY 119 1 0 n.aa.length), (111, .aY 133 1 0 n.aa.length), (112, vi n.aa.length), (113, vi de)], [(119, .rows 1 (jD.map ah)), (133, .rows 1 ((jX n Bj).map ah))]⟩) (fun jD => (jD.length = n.aa.length) ∧ (SL n p oW (jX n Bj) (de + 1) jD)) ?_ (fun jD J7 => ?_)
 refine .block (.sr ?_)
 refine .mv ?_
 refine .vl (Y.bc (m := de) a7 rfl rfl b5 om) (.vl (Y.load br rfl (a8 (d := 0) om) rfl rfl) ?_)
 refine .an ?_
 refine .an ?_
 refine .nil (.seq ?_)
 have wj : In (de : Int) n.aa.length := (by unfold In; omega); have NA := FP.nz hM Nw wj; have y9 := Bk.cl.lo _ wj; have NB := Bk.le hM hO wj; rw [Int.toNat_natCast] at NA y9 NB
 refine .region ?_
 refine .mv ?_
 refine .mv ?_
 refine .mv ?_
 refine .vl (Y.bc (m := de) a7 rfl rfl b5 om) (.dB ((fS.set de p).map ah) e8 rfl rfl rfl rfl rfl rfl rfl (a8 (d := 0) om) (aH rfl) (cp rfl) ?_)
 refine .nil (.sr ?_)
 refine .mv ?_
 refine .vl (Y.geq rfl rfl) (.nil ?_)
 refine .aB rfl (fun FQ => ?_) (fun FQ => ?_)
 refine .region ?_
 refine .mv ?_
 refine .mv ?_
 refine .mv ?_
 refine .mv ?_
 refine .mv ?_
 refine .vl (Y.aK (m := de) a7 rfl rfl b5 (ax (d := 0) om)) ?_
 refine .ld br ?_
 refine .vl (Y.iy rfl rfl bw) ?_
 refine .mv ?_
 refine .vl (Y.iy rfl rfl bw) (.vl (Y.bc (m := de) a7 rfl rfl b5 om) (.dB (((fS.set de p).set de ((p - (oW.getD de 0)) - ((jX n Bj).getD de 0))).map ah) e8 rfl rfl rfl rfl rfl rfl rfl (a8 (d := 0) bw) (aH rfl) (cp rfl) (.nil ?_)))
 exact ⟨(fS.set de p).set de ((p - (oW.getD de 0)) - ((jX n Bj).getD de 0)), ⟨ou, hS.step om (by rw [if_pos FQ])⟩, Le.mk (.c4 (.c2 (.nil))) (.c2 (.nil))⟩
 refine .skip ?_
 exact ⟨fS.set de p, ⟨ou, hS.IJ om FQ⟩, Le.mk (.c4 (.c2 (.nil))) (.c2 (.nil))⟩
 obtain ⟨GM, Jv⟩ := J7
 refine .region (.vl (Y.aT rfl rfl bw) ?_)
 refine .mv ?_
 refine .nil ?_
 exact ⟨de + 1, jD, ⟨om, om, Jv⟩, om, Le.mk (.c4 (.c (.cons (ak rfl b5) (.nil)))) (.c2 (.nil))⟩
 refine .exit (.sr ?_)
 refine .mv ?_
 refine .an ?_
 refine .sh (Sh.ji (d := 4) (o := 119) rfl rfl (bu om) ae) ?_
 refine .an ?_
 refine .nil (.ret ?_)
 exact ⟨_, _, rfl, rfl, Bj, oW, fS, hO, FP, (show de = n.aa.length by omega) ▸ hS, rfl, rfl⟩
end Go.Proofs.Ytligpghohcfpnaa
/- Walks of drivers and Reverse. -/
namespace Go.Proofs.Ytligpghohcfpnaa
open Go Go.AW Go.Proofs
theorem rU {n : ab} (hM : VT n) : az Try.prog 81 [.agg (ab.row n)] [] [] (fun r o => ∃ cs : List Cell, xV n cs ∧ r = .ep 6 (cs.map Cell.row) ∧ o = []) := by
 refine az.of Try.func81 rfl rfl rfl (n := 27) ae (aH rfl) ?_
 have hs := hM.small; have hf := hM.formed; have xW := hM.cK; have Cz := hM.cv; have o9 := hM.ir; have rE := hM.iW; have C5 := hM.bO; have Bh := hf.cP; have Du := hf.eY
 refine .sr (.box 101 rfl rfl rfl rfl rfl ae ?_)
 refine .an ?_
 refine .nil (.seq (.sh (Sh.dc 101 rfl rfl) ?_))
 refine .region ?_
 refine .fa bN ?_
 refine .ld bh ?_
 refine .vl (Y.len (n := n.aa.length) a7 rfl dG) (.makeSlice (n := n.aa.length) dD dN rfl rfl rfl rfl om om ae ?_)
 refine .sh (Sh.QS (d := 9) (z' := Cell.row (⟨0, 0, 0, [], 0, 0⟩ : Cell)) rfl rfl rfl (.same (.same (.same (.J8 (.same (.same .nil))))))) (.dU rfl ae (.sh (Sh.ed (d := 3) (n := (List.replicate n.aa.length (⟨0, 0, 0, [], 0, 0⟩ : Cell)).length) 103 ((List.replicate n.aa.length (⟨0, 0, 0, [], 0, 0⟩ : Cell)).map Cell.row) rfl kq (bu rfl) ae) ?_))
 refine .nil (.seq (.sr ?_))
 refine .fa cb ?_
 refine .ld fD ?_
 refine .vl (Y.len (n := n.cells.length) dD rfl dG) ?_
 refine .mv ?_
 refine .nil (.block ?_)
 refine .dT (fun (jb : Nat) (cM : List Cell) => ⟨[(3, .aY 103 6 0 ((List.replicate n.aa.length (⟨0, 0, 0, [], 0, 0⟩ : Cell)).length)), (11, .fz 6 (n.cells.map Cell.row)), (12, vi n.cells.length), (13, vi jb)], [(103, .rows 6 (cM.map Cell.row))]⟩) (fun jb cM => (cM.length = (List.replicate n.aa.length (⟨0, 0, 0, [], 0, 0⟩ : Cell)).length) ∧ ((jb : Int) ≤ (n.cells.length : Int)) ∧ (lb n jb cM)) (fun jb cM => ((n.cells.length : Int) - (jb : Int)).toNat) 0 (List.replicate n.aa.length (⟨0, 0, 0, [], 0, 0⟩ : Cell)) (⟨om, om, lb.init⟩) (Le.mk (.c2 (.c (.cons (ak rfl b5) (.nil)))) (.c (.nil))) (fun jb cM tq => ?_)
 obtain ⟨nc, Gs, hD⟩ := tq
 refine .sr (.vl (Y.lss rfl rfl) (.nil ?_))
 refine .seq ?_
 refine .aB rfl (fun Jm => ?_) (fun Jm => ?_)
 refine .skip ?_
 refine .eP (fun (fY : List Cell) => ⟨[(3, .aY 103 6 0 ((List.replicate n.aa.length (⟨0, 0, 0, [], 0, 0⟩ : Cell)).length)), (11, .fz 6 (n.cells.map Cell.row)), (12, vi n.cells.length), (13, vi jb)], [(103, .rows 6 (fY.map Cell.row))]⟩) (fun fY => (fY.length = (List.replicate n.aa.length (⟨0, 0, 0, [], 0, 0⟩ : Cell)).length) ∧ (lb n (jb + 1) fY)) ?_ (fun fY Fv => ?_)
 refine .block (.sr ?_)
 refine .vl (Y.aK (m := jb) dD rfl rfl b5 (ax (d := default) om)) ?_
 refine .vl (Y.aM eb rfl rfl (aH rfl) rfl rfl) (.alloc 105 dN rfl rfl ae (.aj eI rfl rfl rfl rfl rfl rfl (aH rfl) rfl ?_))
 refine .nil (.seq ?_)
 have h5 := vP hf (j := jb) om; have RZ := hD.len
 refine .region ?_
 refine .fa dx ?_
 refine .ld br ?_
 refine .vl (Y.geq rfl rfl) (.nil ?_)
 refine .aB rfl (fun s0 => ?_) (fun s0 => ?_)
 refine .region ?_
 refine .mv ?_
 refine .fa dx ?_
 refine .ld br ?_
 refine .vl (Y.aM eb rfl rfl (aH rfl) rfl rfl) (.vl (Y.bc (m := ((n.cells.getD jb default).out).toNat) dD rfl rfl bw bw) (.dB ((cM.set (((n.cells.getD jb default).out).toNat) (n.cells.getD jb default)).map Cell.row) eI rfl rfl rfl rfl rfl rfl rfl (a8 (d := default) bw) (aH rfl) (cp rfl) (.nil ?_)))
 exact ⟨cM.set (((n.cells.getD jb default).out).toNat) (n.cells.getD jb default), ⟨ou, by first | exact hD.set hf om cj | exact hD.skip hf om cj⟩, Le.mk (.c4 (.nil)) (.c (.nil))⟩
 refine .skip ?_
 exact ⟨cM, ⟨om, by first | exact hD.set hf om cj | exact hD.skip hf om cj⟩, Le.mk (.c4 (.nil)) (.c (.nil))⟩
 obtain ⟨Av, EP⟩ := Fv
 refine .region (.vl (Y.aT rfl rfl bw) ?_)
 refine .mv ?_
 refine .nil ?_
 exact ⟨jb + 1, fY, ⟨om, om, EP⟩, om, Le.mk (.c2 (.c (.cons (ak rfl b5) (.nil)))) (.c (.nil))⟩
 refine .exit (.sr ?_)
 refine .mv ?_
 refine .an ?_
 refine .sh (Sh.ji (d := 2) (o := 103) rfl rfl (bu om) ae) ?_
 refine .nil (.ret ?_)
 exact ⟨_, _, rfl, rfl, cM, hD.done om, rfl, rfl⟩
theorem tE {l : List Int} (hl : l.length ≤ 17592186043904) : az Try.prog 82 [.aY 0 1 0 l.length] [.rows 1 (l.map ah)] [0] (fun r o => r = .tup [] ∧ o = [.rows 1 (l.reverse.map ah)]) := by
 refine az.of Try.func82 rfl rfl rfl (n := 28) ae (aH rfl) (.sr ?_)
 refine .mv ?_
 refine .vl (Y.len (n := l.length) a7 rfl rfl) (.vl (Y.iy rfl rfl bw) ?_)
 refine .an ?_
 refine .an ?_
 refine .nil (.block ?_)
 refine .iT (fun (oX : Int) (oY : Int) (xq : List Int) => ⟨[(0, .aY 0 1 0 l.length), (2, vi oX), (3, vi oY)], [(0, .rows 1 (xq.map ah))]⟩) (fun oX oY xq => (xq.length = l.length) ∧ (Cq l xq oX oY)) (fun oX oY xq => (oY - oX).toNat) 0 ((l.length : Int) - 1) l (⟨om, Cq.init l⟩) (Le.mk (.c (.cons (ak rfl b5) (.cons (ak rfl b5) (.nil)))) (.c (.nil))) (fun oX oY xq Ht => ?_)
 obtain ⟨Ou, hR⟩ := Ht
 refine .seq (.sr ?_)
 refine .mv ?_
 refine .mv ?_
 refine .vl (Y.lss rfl rfl) (.nil ?_)
 refine .aB rfl (fun c9 => ?_) (fun c9 => ?_)
 refine .skip (.seq (.block ?_))
 have h3 := hR.sum; have Sa := hR.i0; have Sb := hR.len
 refine .j8 rfl (.blind 0 rfl aq (ao.move rfl rfl) ae (.blind 1 rfl aq (ao.move rfl rfl) ae ?_))
 refine .blind 2 rfl aq (ao.move rfl rfl) ae (.blind 3 rfl aq (ao.move rfl rfl) ae (.dC (n := 3) [4, 5, 6, 7, 8, 9, 10, 11, 12] [13, 14, 15] 13 rfl aq ?_))
 refine .cn 4 rfl (Y.move rfl rfl) (.cn 5 rfl (Y.move rfl rfl) ?_)
 refine .cn 6 rfl (Y.bc (m := (oY).toNat) a7 rfl rfl om om) (.cn 7 rfl (Y.load br rfl (a8 (d := 0) om) rfl rfl) ?_)
 refine .cn 8 rfl (Y.move rfl rfl) (.cn 9 rfl (Y.move rfl rfl) ?_)
 refine .cn 10 rfl (Y.bc (m := (oX).toNat) a7 rfl rfl om om) (.cn 11 rfl (Y.load br rfl (a8 (d := 0) om) rfl rfl) (.cn 12 rfl (Y.bc (m := (oX).toNat) a7 rfl rfl om om) ?_))
 refine .nil (.one 13 rfl aq ?_)
 refine .dB ((xq.set ((oX).toNat) (xq.getD ((oY).toNat) 0)).map ah) e8 rfl rfl rfl rfl rfl rfl rfl (a8 (d := 0) om) (aH rfl) (cp rfl) ?_
 refine .nil ⟨rfl, ?_⟩
 refine .dC (n := 1) [14] [15] 15 rfl aq (.cn 14 rfl (Y.bc (m := (oY).toNat) a7 rfl rfl om om) ?_)
 refine .nil (.one 15 rfl aq ?_)
 refine .dB (((xq.set ((oX).toNat) (xq.getD ((oY).toNat) 0)).set ((oY).toNat) (xq.getD ((oX).toNat) 0)).map ah) e8 rfl rfl rfl rfl rfl rfl rfl (a8 (d := 0) bw) (aH rfl) (cp rfl) ?_
 refine .nil ⟨rfl, ?_⟩
 refine .done aq (.region ?_)
 refine .mv ?_
 refine .vl (Y.aT rfl rfl bw) ?_
 refine .mv ?_
 refine .vl (Y.iy rfl rfl bw) ?_
 refine .an ?_
 refine .an ?_
 refine .nil ?_
 exact ⟨oX + 1, oY - 1, (xq.set ((oX).toNat) (xq.getD ((oY).toNat) 0)).set ((oY).toNat) (xq.getD ((oX).toNat) 0), ⟨ou, hR.step cj⟩, om, Le.mk (.c (.cons (ak rfl b5) (.cons (ak rfl b5) (.nil)))) (.c (.nil))⟩
 refine .exit ?_
 exact ⟨_, _, rfl, rfl, rfl, by rw [hR.done om]⟩
end Go.Proofs.Ytligpghohcfpnaa
/- The walk of Words. -/
namespace Go.Proofs.Ytligpghohcfpnaa
open Go Go.AW Go.Proofs
theorem w9 {n : ab} (hM : VT n) : az Try.prog 43 [.agg (ab.row n)] [] [] (fun r o => ∃ (at_ l st : List Int) (d : Int), Ord n l ∧ tI n at_ ∧ sx n at_ st d ∧ r = .tup [.agg [vi d, .fz 1 (st.map ah)], vi 0] ∧ o = []) := by
 refine az.ofM Try.func43 rfl rfl rfl (n := 93) ae (aH rfl) ?_
 have hs := hM.small; have hf := hM.formed; have xW := hM.cK; have Cz := hM.cv; have o9 := hM.ir; have rE := hM.iW; have C5 := hM.bO; have Bh := hf.cP; have Du := hf.eY
 refine ev.pH (.region (.box 101 rfl rfl rfl rfl rfl ae ?_))
 refine .alloc 102 Cf rfl rfl ae ?_
 refine .an ?_
 refine .nil (ev.pH (.sh (Sh.dc 101 rfl rfl) ?_))
 refine .region (.vl (Y.aM eh rfl rfl (aH rfl) rfl rfl) (.kz Iu (nL (n := n) hM) rfl (.ai rfl rfl .nil) ae ?_))
 rintro _ ⟨JB, ez, AJ, uN, rfl, _⟩
 refine ⟨rfl, ?_⟩
 refine .mR rfl ae (.gp rfl rfl ae (.vl (Y.extract rfl rfl rfl) ?_))
 refine .alloc 104 zM rfl rfl ae (.sh (Sh.dF (d := 17) (ez.map ah) rfl kq (da.map aD)) (.aj fg rfl rfl rfl rfl rfl rfl (aH rfl) rfl ?_))
 refine .an ?_
 refine .nil (ev.pH (.seq ?_))
 refine .sh (Sh.dc 104 rfl rfl) (.region ?_)
 refine .mv ?_
 refine .vl (Y.neq rfl rfl) (.nil (.cX rfl ?_))
 refine .skip (ev.pH (.region ?_))
 refine .vl (Y.build L6 Cf rfl rfl rfl) (.alloc 106 Cf rfl rfl ae (.alloc 107 e0 rfl rfl ae ?_))
 refine .aj EC rfl rfl rfl rfl rfl rfl (aH rfl) rfl (.aj e8 rfl rfl rfl rfl rfl rfl (aH rfl) rfl (.nil ?_))
 refine ev.seq (ev.pH (.region ?_))
 refine .vl (Y.aM eh rfl rfl (aH rfl) rfl rfl) (.aP Iz (sC (n := n)) rfl (.ai rfl rfl .nil) ae rfl (.nil ?_))
 refine ev.block ?_
 refine ev.rangeFunc (p1 := 26) (p2 := 27) [106, 107] (fun i => [(106, .cells [.v (.int .i64 ((fM ez i).1)), vn]), (107, .cells [.v (.int .i64 ((fM ez i).2))])]) (fun x => x ∈ fq n) [(4, .fp [.fz 1 (ez.map ah)] 0), (6, .ptr 106 0 0 0), (7, .ptr 107 0 0 0)] rfl Dg (Au (n := n) hM) rfl ae ae ae (.c2 (.c (.nil))) rfl (.c2 (.nil)) (fun _ => rfl) (fun i o ob h => by exact pI (p := ql [106, 107]) (by exact ql.cells (by exact ⟨trivial, trivial, trivial⟩) rfl) (by exact ql.cells (by exact ⟨trivial, trivial⟩) rfl) h) (fun l i x Nx Dw => ?_) (fun y h => h) ?_
 have pQ := hX hf Dw; have Sc := uN.nz hM AJ pQ.1; have HP := pQ.1; have Db := uN.len; unfold In at HP
 refine aZ.seq (aZ.region ?_)
 refine .an ?_
 refine .nil (aZ.region ?_)
 refine .an ?_
 refine .nil (aZ.block (aZ.seq ?_))
 refine aZ.eK [106, 107] [106, 107] rfl (.load 0 rfl aq br rfl rfl rfl rfl rfl ae (.blind 1 rfl aq (ao.lss rfl rfl) ae ?_))
 refine .blind 2 rfl aq (ao.move rfl rfl) ae ?_
 refine .aE (d := 30) rfl (fun rQ => ?_) (fun rQ => ?_)
 refine .bU 3 rfl aq rfl ae ae rfl rfl (.bU 4 rfl aq rfl ae ae rfl rfl (.bU 5 rfl aq rfl ae ae rfl rfl ?_))
 refine .bU 6 rfl aq rfl ae ae rfl rfl (.bU 7 rfl aq rfl ae ae rfl rfl (.bU 8 rfl aq rfl ae ae rfl rfl ?_))
 refine .bU 9 rfl aq rfl ae ae rfl rfl (.bU 10 rfl aq rfl ae ae rfl rfl (.bU 11 rfl aq rfl ae ae rfl rfl ?_))
 refine .blind 12 rfl aq (ao.pick rfl rfl rfl) ae (.yn rfl rfl (bV.cells rfl rfl rfl (bV.cells rfl rfl rfl bV.nil)) (.done aq ?_))
 refine aZ.aV rfl (aZ.region ?_)
 refine .ld bh ?_
 refine .mv ?_
 refine .vl (Y.aK (m := (x.1).toNat) a7 rfl rfl om (ax (d := 0) om)) ?_
 refine .ld br ?_
 refine .mv ?_
 refine .vl (Y.aT rfl rfl bw) ?_
 refine .mv ?_
 refine .fa sV ?_
 refine .aj e8 rfl rfl rfl rfl rfl rfl (aH rfl) rfl (.aj e8 rfl rfl rfl rfl rfl rfl (aH rfl) rfl (.nil ?_))
 have hs : fM ez (i ++ [x]) = ((ez.getD ((x.1).toNat) 0) + x.2, x.1) := by (rw [oa]; unfold Cm; rw [if_pos om])
 refine ⟨rfl, ?_⟩
 show eD _ ([(106, .cells [.v (.int .i64 ((fM ez (i ++ [x])).1)), vn]), (107, .cells [.v (.int .i64 ((fM ez (i ++ [x])).2))])] : List (Nat × Go.AW.Obj))
 rw [hs]; exact .c (.c .nil)
 refine .tu 3 rfl aq rfl ae rfl bh rfl rfl rfl rfl rfl ae (.eX 4 rfl aq rfl ae rfl (ao.move rfl rfl) ae ?_)
 refine .eX 5 rfl aq rfl ae rfl (ao.aK (m := (x.1).toNat) a7 rfl rfl om (ax (d := 0) om)) ae ?_
 refine .tu 6 rfl aq rfl ae rfl br rfl rfl rfl rfl rfl ae (.eX 7 rfl aq rfl ae rfl (ao.move rfl rfl) ae ?_)
 refine .eX 8 rfl aq rfl ae rfl (ao.aT rfl rfl om) ae ?_
 refine .eX 9 rfl aq rfl ae rfl (ao.fieldAddr sV rfl rfl) ae (.tu 10 rfl aq rfl ae rfl br rfl rfl rfl rfl rfl ae (.eX 11 rfl aq rfl ae rfl (ao.gtr rfl rfl) ae ?_))
 refine .blind 12 rfl aq (ao.pick rfl rfl rfl) ae (.yn rfl rfl (bV.cells rfl rfl rfl (bV.cells rfl rfl rfl bV.nil)) (.done aq ?_))
 refine aZ.aB rfl (fun Fw => ?_) (fun Fw => ?_)
 refine aZ.region ?_
 refine .ld bh ?_
 refine .mv ?_
 refine .vl (Y.aK (m := (x.1).toNat) a7 rfl rfl om (ax (d := 0) om)) ?_
 refine .ld br ?_
 refine .mv ?_
 refine .vl (Y.aT rfl rfl bw) ?_
 refine .mv ?_
 refine .fa sV ?_
 refine .aj e8 rfl rfl rfl rfl rfl rfl (aH rfl) rfl (.aj e8 rfl rfl rfl rfl rfl rfl (aH rfl) rfl (.nil ?_))
 have hs : fM ez (i ++ [x]) = ((ez.getD ((x.1).toNat) 0) + x.2, x.1) := by (rw [oa]; unfold Cm; rw [if_pos om])
 refine ⟨rfl, ?_⟩
 show eD _ ([(106, .cells [.v (.int .i64 ((fM ez (i ++ [x])).1)), vn]), (107, .cells [.v (.int .i64 ((fM ez (i ++ [x])).2))])] : List (Nat × Go.AW.Obj))
 rw [hs]; exact .c (.c .nil)
 refine aZ.skip ?_
 have hs : fM ez (i ++ [x]) = fM ez i := by (rw [oa]; unfold Cm; rw [if_neg om])
 refine ⟨rfl, ?_⟩
 show eD _ ([(106, .cells [.v (.int .i64 ((fM ez (i ++ [x])).1)), vn]), (107, .cells [.v (.int .i64 ((fM ez (i ++ [x])).2))])] : List (Nat × Go.AW.Obj))
 rw [hs]; exact .c (.c .nil)
 refine ev.of (.seq ?_)
 have hW := tf (at_ := ez) (L := fq n) (fun e h => (hX hf h).1.1)
 obtain ⟨e9, OV, MN⟩ := hW.some (List.ne_nil_of_mem (uv hf))
 have h9 := hX hf OV; have QU : (fM ez (fq n)).2 = e9.1 := by rw [MN]
 have Db := uN.len
 refine .region (.vl (Y.aM eh rfl rfl (aH rfl) rfl rfl) (.kz Ly (rU (n := n) hM) rfl (.ai rfl rfl .nil) ae ?_))
 rintro _ ⟨lz, sE, rfl, _⟩
 refine ⟨rfl, ?_⟩
 refine .dU rfl ae (.sh (Sh.dF (d := 10) (lz.map Cell.row) rfl kq (da.map Cell.cy)) (.nil ?_))
 refine .eP (fun (l1 : List Int) => ⟨[(2, .ptr 102 0 0 0), (6, .ptr 106 0 0 0)], [(102, .cells [vi 0, vn]), (106, .cells [vi ((fM ez (fq n)).1), .aY 301 1 0 l1.length]), (301, .rows 1 (l1.map ah))]⟩) (fun l1 => PD n ez e9.1 l1) ?_ (fun l1 JC => ?_)
 refine .block (.sh (Sh.eF 106 301 1 1 rfl rfl rfl rfl ae) ?_)
 refine .dT (fun (bt : Int) (eT : List Int) => ⟨[(2, .ptr 102 0 0 0), (4, .fp [.fz 1 (ez.map ah)] 0), (6, .ptr 106 0 0 0), (7, .ptr 107 0 0 0), (10, .fz 6 (lz.map Cell.row))], [(102, .cells [vi 0, vn]), (106, .cells [vi ((fM ez (fq n)).1), .aY 301 1 0 eT.length]), (107, .cells [vi bt]), (301, .rows 1 (eT.map ah))]⟩) (fun bt eT => (PP n JB ez e9.1 eT bt)) (fun bt eT => n.cells.length + 1 - eT.length) ((fM ez (fq n)).2) ([] : List Int) (by (rw [QU]; exact PP.init hf AJ h9.1)) (Le.mk (.c4 (.c (.nil))) (.c (.cons (aS rfl kP) (.cons (aS rfl kP) (.c (.nil)))))) (fun bt eT wa => ?_)
 have hP := wa
 refine .seq (.sr ?_)
 refine .ld br ?_
 refine .vl (Y.geq rfl rfl) (.nil ?_)
 refine .aB rfl (fun xp => ?_) (fun xp => ?_)
 refine .skip (.block (.seq ?_))
 have Sd := hP.lt hf cj; have NF := hP.zT cj; unfold In at NF; have QV := sE.len; have AK := hP.args hf sE cj; have Bm := hP.LV hM sE cj
 refine .region ?_
 refine .fa sW ?_
 refine .ld bh ?_
 refine .ld br ?_
 refine .buildSlice (([bt] : List Int).map ah) a7 e0 rfl rfl rfl rfl rfl (ay (s := 1) (f := ah) (fun _ => rfl)) rfl rfl rfl ae ?_
 refine .bs ((eT ++ ([bt] : List Int)).map ah) (eT ++ ([bt] : List Int)).length a7 e0 rfl rfl rfl rfl (bL bw) (bq bw) (cE bw) bw bw ae ae ?_
 refine .fa sW ?_
 refine .aj fg rfl rfl rfl rfl rfl rfl (aH rfl) rfl (.nil (.sr ?_))
 refine .mv ?_
 refine .ld br ?_
 refine .vl (Y.aK (m := (bt).toNat) dD rfl rfl om (ax (d := default) om)) ?_
 refine .vl (Y.aM eb rfl rfl (aH rfl) rfl rfl) (.alloc 111 dN rfl rfl ae (.aj eI rfl rfl rfl rfl rfl rfl (aH rfl) rfl ?_))
 refine .nil (.sr (.aj e8 rfl rfl rfl rfl rfl rfl (aH rfl) rfl ?_))
 refine .nil (.seq (.sr ?_))
 refine .fa cL ?_
 refine .ld br ?_
 refine .aP xI (jA (w := ((lz.getD ((bt).toNat) default).kind))) rfl (.ai rfl rfl .nil) ae rfl (.vl (Y.not rfl) (.nil ?_))
 refine .cond rfl (fun C8 => ?_) (fun C8 => ?_)
 replace C8 : ¬ (b7 ((lz.getD ((bt).toNat) default).kind)) := by simpa using C8
 refine .exit ?_
 exact ⟨eT ++ ([bt] : List Int), by first | exact hP.done om | exact hP.stop hf uN sE cj cj, Le.mk (.c2 (.nil)) (.c (.cons (aS rfl kP) (.c (.nil))))⟩
 replace C8 : b7 ((lz.getD ((bt).toNat) default).kind) := by simpa using C8
 refine .skip (.sr ?_)
 refine .fa bF ?_
 refine .ld bh ?_
 refine .vl (Y.len (n := ((lz.getD ((bt).toNat) default).args).length) a7 rfl dG) ?_
 refine .mv ?_
 refine .nil (.block ?_)
 refine .dT (fun (gj : Nat) (dY : Int) => ⟨[(2, .ptr 102 0 0 0), (4, .fp [.fz 1 (ez.map ah)] 0), (6, .ptr 106 0 0 0), (7, .ptr 107 0 0 0), (10, .fz 6 (lz.map Cell.row)), (68, .fz 1 (((lz.getD ((bt).toNat) default).args).map ah)), (69, vi ((((lz.getD ((bt).toNat) default).args).length : Nat) : Int)), (70, vi gj)], [(102, .cells [vi 0, vn]), (106, .cells [vi ((fM ez (fq n)).1), .aY 301 1 0 ((eT ++ ([bt] : List Int)).length)]), (107, .cells [vi dY]), (301, .rows 1 ((eT ++ ([bt] : List Int)).map ah))]⟩) (fun gj dY => ((gj : Int) ≤ ((((lz.getD ((bt).toNat) default).args).length : Nat) : Int)) ∧ (oO ez ((lz.getD bt.toNat default).args.take gj) dY)) (fun gj dY => (((((lz.getD ((bt).toNat) default).args).length : Nat) : Int) - (gj : Int)).toNat) 0 (-1) (⟨om, oO.nil⟩) (Le.mk (.c4 (.c2 (.c (.cons (ak rfl b5) (.nil))))) (.c2 (.cons (aS rfl kP) (.c (.nil))))) (fun gj dY Am => ?_)
 obtain ⟨Jf, hB⟩ := Am
 refine .sr (.vl (Y.lss rfl rfl) (.nil ?_))
 refine .seq ?_
 refine .aB rfl (fun Ks => ?_) (fun Ks => ?_)
 refine .skip ?_
 refine .eP (fun (jc : Int) => ⟨[(2, .ptr 102 0 0 0), (4, .fp [.fz 1 (ez.map ah)] 0), (6, .ptr 106 0 0 0), (7, .ptr 107 0 0 0), (10, .fz 6 (lz.map Cell.row)), (68, .fz 1 (((lz.getD ((bt).toNat) default).args).map ah)), (69, vi ((((lz.getD ((bt).toNat) default).args).length : Nat) : Int)), (70, vi gj)], [(102, .cells [vi 0, vn]), (106, .cells [vi ((fM ez (fq n)).1), .aY 301 1 0 ((eT ++ ([bt] : List Int)).length)]), (107, .cells [vi jc]), (301, .rows 1 ((eT ++ ([bt] : List Int)).map ah))]⟩) (fun jc => oO ez ((lz.getD bt.toNat default).args.take (gj + 1)) jc) ?_ (fun jc wz => ?_)
 refine .block (.seq ?_)
 have QW := AK ((lz.getD bt.toNat default).args.getD gj 0) (bm om); unfold In at QW; have Se : dY < 0 ∨ (0 ≤ dY ∧ dY < (n.aa.length : Int)) := by (rcases Int.lt_or_le dY 0 with h | h; exact .inl h; exact .inr (AK _ (hB.zT h)))
 refine .region (.vl (Y.aK (m := gj) a7 rfl rfl b5 (ax (d := 0) om)) ?_)
 refine .ld br ?_
 refine .an ?_
 refine .nil (.seq (.gX rfl aq ?_))
 refine .val (Y.load br rfl rfl rfl rfl) ae (.val (Y.lss rfl rfl) ae (.val (Y.move rfl rfl) ae ?_))
 refine .aE (d := 76) rfl (fun yq => ?_) (fun yq => ?_)
 refine .aG (d := 76) rfl ae ae rfl rfl (.aG (d := 76) rfl ae ae rfl rfl (.aG (d := 76) rfl ae ae rfl rfl ?_))
 refine .aG (d := 76) rfl ae ae rfl rfl (.aG (d := 76) rfl ae ae rfl rfl (.aG (d := 76) rfl ae ae rfl rfl ?_))
 refine .aG (d := 76) rfl ae ae rfl rfl (.aG (d := 76) rfl ae ae rfl rfl (.aG (d := 76) rfl ae ae rfl rfl ?_))
 refine .val (Y.pick rfl rfl rfl) ae (.nil (.aV rfl ?_))
 refine .region ?_
 refine .mv ?_
 refine .aj e8 rfl rfl rfl rfl rfl rfl (aH rfl) rfl (.nil ?_)
 exact ⟨((lz.getD ((bt).toNat) default).args).getD gj 0, by first | exact hB.step om (fun x hx => (AK x hx).1) om | exact hB.ai om om, Le.mk (.c8 (.nil)) (.c2 (.cons (aS rfl kP) (.c (.nil))))⟩
 refine .aO (d := 76) rfl ae rfl (.val (Y.load bh rfl rfl rfl rfl) ae (.aO (d := 76) rfl ae rfl ?_))
 refine .val (Y.move rfl rfl) ae (.aO (d := 76) rfl ae rfl ?_)
 refine .val (Y.aK (m := (((lz.getD ((bt).toNat) default).args).getD gj 0).toNat) a7 rfl rfl om (ax (d := 0) om)) ae ?_
 refine .aO (d := 76) rfl ae rfl (.val (Y.load br rfl rfl rfl rfl) ae (.aO (d := 76) rfl ae rfl ?_))
 refine .val (Y.load bh rfl rfl rfl rfl) ae (.aO (d := 76) rfl ae rfl (.val (Y.load br rfl rfl rfl rfl) ae ?_))
 refine .aO (d := 76) rfl ae rfl (.val (Y.aK (m := (dY).toNat) a7 rfl rfl om (ax (d := 0) om)) ae ?_)
 refine .aO (d := 76) rfl ae rfl (.val (Y.load br rfl rfl rfl rfl) ae (.aO (d := 76) rfl ae rfl ?_))
 refine .val (Y.gtr rfl rfl) ae (.val (Y.pick rfl rfl rfl) ae (.nil ?_))
 refine .aB rfl (fun J4 => ?_) (fun J4 => ?_)
 refine .region ?_
 refine .mv ?_
 refine .aj e8 rfl rfl rfl rfl rfl rfl (aH rfl) rfl (.nil ?_)
 exact ⟨((lz.getD ((bt).toNat) default).args).getD gj 0, by first | exact hB.step om (fun x hx => (AK x hx).1) om | exact hB.ai om om, Le.mk (.c8 (.nil)) (.c2 (.cons (aS rfl kP) (.c (.nil))))⟩
 refine .skip ?_
 exact ⟨dY, by first | exact hB.step om (fun x hx => (AK x hx).1) om | exact hB.ai om om, Le.mk (.c8 (.nil)) (.c2 (.cons (aS rfl kP) (.c (.nil))))⟩
 refine .region (.vl (Y.aT rfl rfl bw) ?_)
 refine .mv ?_
 refine .nil ?_
 exact ⟨gj + 1, jc, ⟨om, wz⟩, om, Le.mk (.c4 (.c2 (.c (.cons (ak rfl b5) (.nil))))) (.c2 (.cons (aS rfl kP) (.c (.nil))))⟩
 refine .exit ?_
 exact ⟨dY, eT ++ ([bt] : List Int), hP.go hf AJ uN (fun w hw => (uN.nz hM AJ hw).1) sE cj cj (k := gj) om hB, by (simp only [List.length_append, List.length_cons, List.length_nil]; omega), Le.mk (.c4 (.c (.nil))) (.c (.cons (aS rfl kP) (.cons (aS rfl kP) (.c (.nil)))))⟩
 refine .exit ?_
 exact ⟨eT, by first | exact hP.done om | exact hP.stop hf uN sE cj cj, Le.mk (.c2 (.nil)) (.c (.cons (aS rfl kP) (.c (.nil))))⟩
 refine .seq ?_
 have Mp := JC.len
 refine .region ?_
 refine .fa sW ?_
 refine .ld bh ?_
 refine .mL [301] [] Lz (tE (l := l1) om) rfl (.named rfl rfl .nil) ⟨rfl, trivial⟩ rfl ae (fun _ h => by cases h) (fun _ h => by cases h) ae ae ?_
 rintro r bg ⟨rfl, rfl⟩ _
 refine ⟨⟨rfl, (by intro ob cA; simp only [List.mem_cons, List.not_mem_nil, or_false] at cA; rcases cA with rfl; rfl), .inl rfl⟩, ?_⟩
 refine .nil (.seq ?_)
 refine .sh (Sh.oZ 106 301 1 rfl rfl rfl (bu bw) (da.map aD) ae rfl rfl rfl) ?_
 refine .region (.vl (Y.aM L8 rfl rfl (aH rfl) rfl rfl) (.aj EC rfl rfl rfl rfl rfl rfl (aH rfl) rfl ?_))
 refine .an ?_
 refine .nil (.ret ?_)
 exact ⟨_, _, rfl, rfl, ez, JB, _, _, AJ, uN, JC.rev (a := e9.2) OV (by rw [MN]) hW.max, rfl, rfl⟩
end Go.Proofs.Ytligpghohcfpnaa
/- The walk of the example. -/
namespace Go.Proofs.Ytligpghohcfpnaa
open Go Go.AW Go.Proofs
theorem pa  : az Try.prog 40 [] [] [] (fun r o => r = .v (.bool true) ∧ o = []) := by
 refine az.of Try.func40 rfl rfl rfl (n := 28) ae (Nat.zero_le _) (.sr ?_)
 refine .an ?_
 refine .nil (.sr ?_)
 refine .buildSlice (([1, 1] : List Int).map ah) a7 e0 rfl rfl rfl rfl rfl (ay (s := 1) (f := ah) (fun _ => rfl)) rfl rfl rfl ae ?_
 refine .buildSlice (([1, 0] : List Int).map ah) a7 e0 rfl rfl rfl rfl rfl (ay (s := 1) (f := ah) (fun _ => rfl)) rfl rfl rfl ae ?_
 refine .sh (Sh.dF (d := 5) (([1, 0] : List Int).map ah) rfl kq (da.map aD)) (.vl (Y.build sZ dN rfl rfl rfl) (.vl (Y.build sZ dN rfl rfl rfl) ?_))
 refine .sh (Sh.CZ (d := 7) 1 3 rfl rfl) ?_
 refine .buildSlice (([(⟨4, 0, 0, ([1, 0] : List Int), 0, 0⟩ : Cell), (⟨1, 0, 1, ([] : List Int), 0, 0⟩ : Cell)] : List Cell).map Cell.row) dD dN rfl rfl rfl rfl rfl (ay (s := 6) (f := Cell.row) (fun _ => rfl)) rfl rfl rfl ae ?_
 refine .sh (Sh.dF (d := 8) (([(⟨4, 0, 0, ([1, 0] : List Int), 0, 0⟩ : Cell), (⟨1, 0, 1, ([] : List Int), 0, 0⟩ : Cell)] : List Cell).map Cell.row) rfl kq (da.map Cell.cy)) (.sh (Sh.dF (d := 4) (([1, 1] : List Int).map ah) rfl kq (da.map aD)) (.vl (Y.build I1 xN rfl rfl rfl) ?_))
 refine .sh (Sh.CZ (d := 9) 1 3 rfl rfl) (.sh (Sh.CZ (d := 9) 5 4 rfl rfl) (.sh (Sh.CZ (d := 9) 3 5 rfl rfl) ?_))
 refine .sh (Sh.CZ (d := 9) 1 6 rfl rfl) (.sh (Sh.CZ (d := 9) 1 7 rfl rfl) (.sh (Sh.CZ (d := 9) 1 10 rfl rfl) ?_))
 refine .alloc 101 xN rfl rfl ae (.aj Cd rfl rfl rfl rfl rfl rfl (aH rfl) rfl (.nil ?_))
 refine .sr (.vl (Y.aM eh rfl rfl (aH rfl) rfl rfl) ?_)
 refine .kz Lq (w9 (n := (⟨ByteArray.empty, ([1, 1] : List Int), ([(⟨4, 0, 0, ([1, 0] : List Int), 0, 0⟩ : Cell), (⟨1, 0, 1, ([] : List Int), 0, 0⟩ : Cell)] : List Cell), ([] : List Int), ([] : List dV), ([] : List bE), ([] : List Int), ([] : List Int), 1, 0, ([] : List Int)⟩ : ab)) IF) rfl (.ai rfl rfl .nil) ae ?_
 rintro _ ⟨OW, QX, NG, QY, QZ, NH, JD, rfl, _⟩
 refine ⟨rfl, ?_⟩
 refine .mv ?_
 refine .vl (Y.extract rfl rfl rfl) (.vl (Y.extract rfl rfl rfl) (.alloc 102 Cf rfl rfl ae ?_))
 refine .aj EC rfl rfl rfl rfl rfl rfl (aH rfl) rfl ?_
 refine .an ?_
 refine .nil (.seq ?_)
 have hp := Cr NH JD
 refine .region ?_
 refine .mv ?_
 refine .vl (Y.eql rfl rfl) ?_
 refine .mv ?_
 refine .gw 17 (Y.fieldAddr sV rfl rfl) (.gw 17 (Y.load br rfl rfl rfl rfl) (.gw 17 (Y.eql rfl rfl) ?_))
 refine .pk ?_
 refine .mv ?_
 refine .aE (d := 22) rfl (fun my => ?_) (fun my => ?_)
 refine .gw 22 (Y.fieldAddr sW rfl rfl) (.gw 22 (Y.load bh rfl rfl rfl rfl) (.gw 22 (Y.len (n := NG.length) a7 rfl dG) ?_))
 refine .gw 22 (Y.eql rfl rfl) ?_
 refine .pk ?_
 refine .an ?_
 refine .nil (.ret ?_)
 exact .rb rfl (decide_eq_true om)
 refine .gz 22 (.gz 22 (.gz 22 ?_))
 refine .gz 22 ?_
 refine .pk ?_
 refine .an ?_
 refine .nil (.ret ?_)
 exact .rb rfl (absurd hp.1 my)
end Go.Proofs.Ytligpghohcfpnaa
/- Walks through equality. -/
namespace Go.Proofs.Ytligpghohcfpnaa
open Go Go.AW Go.Proofs
end Go.Proofs.Ytligpghohcfpnaa
/- Walks through what plans are made with. -/
namespace Go.Proofs.Ytligpghohcfpnaa
open Go Go.AW Go.Proofs
theorem eN {k : Nat} : az Try.prog 53 [.v (.int .u8 (k : Int))] [] [] (fun r o => r = (vi (al k)) ∧ o = []) := by
 refine az.of Try.func53 rfl rfl rfl (n := 8) ae (aH rfl) (.sr ?_)
 refine .an ?_
 refine .nil (.sr ?_)
 refine .buildSlice (([1, 2, 4, 7, 8, 13, 33, 64] : List Int).map ah) a7 e0 rfl rfl rfl rfl rfl (ay (s := 1) (f := ah) (fun _ => rfl)) rfl rfl rfl ae ?_
 refine .mv ?_
 refine .vl (Y.jH rfl rfl bw) (.sh (Sh.dF (d := 3) (([1, 2, 4, 7, 8, 13, 33, 64] : List Int).map ah) rfl kq (da.map aD)) (.vl (Y.aK (m := k % 8) a7 rfl rfl b5 (ax (d := 0) bw)) ?_))
 refine .ld br ?_
 refine .an ?_
 refine .nil (.ret ?_)
 exact .ri rfl (rfl)
theorem cd {n : ab} {w : Int} {k : Nat} (hn : n.aa.length ≤ 1048576) (hk : k < 256) : az Try.prog 56 [.agg (ab.oE n), vi w, .v (.int .u8 (k : Int))] [] [] (fun r o => r = (vi (au n.aa w k)) ∧ o = []) := by
 refine az.of Try.func56 rfl rfl rfl (n := 38) ae (aH rfl) ?_
 have AL := so n.aa w
 refine .sr (.box 103 rfl rfl rfl rfl rfl ae ?_)
 refine .an ?_
 refine .nil (.sr ?_)
 refine .an ?_
 refine .sh (Sh.nil (d := 7) 107 1 rfl ae) (.nil (.seq ?_))
 refine .sr ?_
 refine .an ?_
 refine .nil (.block ?_)
 refine .dT (fun (m8 : Nat) (nF : List Int) => ⟨[(1, vi w), (2, .v (.int .u8 (k : Int))), (3, .ptr 103 0 0 0), (7, .aY 107 1 0 nF.length), (8, vi m8)], [(103, .cells (ab.oE n)), (107, .rows 1 (nF.map ah))]⟩) (fun m8 nF => ((m8 : Int) ≤ (n.aa.length : Int)) ∧ (nF = gH n.aa w m8)) (fun m8 nF => ((n.aa.length : Int) - (m8 : Int)).toNat) 0 ([] : List Int) (⟨ou, rfl⟩) (Le.mk (.c2 (.c (.cons (cf rfl bw) (.cons (ak rfl b5) (.nil))))) (.c2 (.nil))) (fun m8 nF tq => ?_)
 obtain ⟨Gs, hl⟩ := tq
 refine .seq (.sr ?_)
 refine .mv ?_
 refine .fa bN ?_
 refine .ld bh ?_
 refine .vl (Y.len (n := n.aa.length) a7 rfl dG) (.vl (Y.lss rfl rfl) (.nil ?_))
 refine .aB rfl (fun xk => ?_) (fun xk => ?_)
 refine .skip ?_
 refine .eP (fun (pJ : List Int) => ⟨[(1, vi w), (2, .v (.int .u8 (k : Int))), (3, .ptr 103 0 0 0), (7, .aY 107 1 0 pJ.length), (8, vi m8)], [(103, .cells (ab.oE n)), (107, .rows 1 (pJ.map ah))]⟩) (fun pJ => pJ = gH n.aa w (m8 + 1)) ?_ (fun pJ w4 => ?_)
 refine .block (.seq ?_)
 have FU := AL m8; rw [← hl] at FU
 refine .region ?_
 refine .fa bN ?_
 refine .ld bh ?_
 refine .mv ?_
 refine .vl (Y.aK (m := m8) a7 rfl rfl b5 (ax (d := 0) om)) ?_
 refine .ld br ?_
 refine .mv ?_
 refine .vl (Y.eql rfl rfl) (.nil ?_)
 refine .aB rfl (fun my => ?_) (fun my => ?_)
 refine .region ?_
 refine .mv ?_
 refine .mv ?_
 refine .buildSlice (([(m8 : Int)] : List Int).map ah) a7 e0 rfl rfl rfl rfl rfl (ay (s := 1) (f := ah) (fun _ => rfl)) rfl rfl rfl ae ?_
 refine .bs ((nF ++ ([(m8 : Int)] : List Int)).map ah) (nF ++ ([(m8 : Int)] : List Int)).length a7 e0 rfl rfl rfl rfl (bL bw) (bq bw) (cE bw) bw bw ae ae ?_
 refine .an ?_
 refine .nil ?_
 exact ⟨nF ++ ([(m8 : Int)] : List Int), by first | (rw [hl]; exact (n4 cj).symm) | exact hl.trans (oF cj).symm, Le.mk (.c2 (.c (.cons (cf rfl om) (.c (.nil))))) (.c2 (.nil))⟩
 refine .skip ?_
 exact ⟨nF, by first | (rw [hl]; exact (n4 cj).symm) | exact hl.trans (oF cj).symm, Le.mk (.c2 (.c (.cons (cf rfl om) (.c (.nil))))) (.c2 (.nil))⟩
 refine .region ?_
 refine .mv ?_
 refine .vl (Y.aT rfl rfl bw) ?_
 refine .an ?_
 refine .nil ?_
 exact ⟨m8 + 1, pJ, ⟨om, w4⟩, om, Le.mk (.c2 (.c (.cons (cf rfl om) (.cons (ak rfl b5) (.nil))))) (.c2 (.nil))⟩
 refine .exit (.seq (.seq ?_))
 have he : nF = gH n.aa w n.aa.length := by rw [hl, show m8 = n.aa.length by omega]
 have FU := AL m8; rw [← hl] at FU
 refine .region ?_
 refine .mv ?_
 refine .vl (Y.len (n := nF.length) a7 rfl rfl) (.vl (Y.eql rfl rfl) (.nil ?_))
 refine .aB rfl (fun FB => ?_) (fun FB => ?_)
 refine .sr ?_
 refine .an ?_
 refine .nil (.ret ?_)
 exact .ri rfl (by unfold au; rw [← he, if_pos om])
 refine .skip (.seq ?_)
 have NI : k % nF.length < nF.length := Nat.mod_lt _ om
 refine .region ?_
 refine .mv ?_
 refine .mv ?_
 refine .vl (Y.fo sY py rfl v3) ?_
 refine .mv ?_
 refine .vl (Y.len (n := nF.length) a7 rfl rfl) (.vl (Y.jH rfl rfl bw) (.vl (Y.bc (m := k % nF.length) a7 rfl rfl b5 om) (.vl (Y.load br rfl (a8 (d := 0) om) rfl rfl) ?_)))
 refine .an ?_
 refine .nil (.ret ?_)
 exact .ri rfl (by unfold au; rw [← he, if_neg om])
theorem iJ {n : ab} {w : Int} {k : Nat} (hn : n.aa.length ≤ 1048576) (hk : k < 256) : az Try.prog 56 [.agg (ab.row n), vi w, .v (.int .u8 (k : Int))] [] [] (fun r o => r = (vi (au n.aa w k)) ∧ o = []) := by
 refine az.of Try.func56 rfl rfl rfl (n := 38) ae (aH rfl) ?_
 have AL := so n.aa w
 refine .sr (.box 103 rfl rfl rfl rfl rfl ae ?_)
 refine .an ?_
 refine .nil (.sr ?_)
 refine .an ?_
 refine .sh (Sh.nil (d := 7) 107 1 rfl ae) (.nil (.seq ?_))
 refine .sr ?_
 refine .an ?_
 refine .nil (.block ?_)
 refine .dT (fun (m8 : Nat) (nF : List Int) => ⟨[(1, vi w), (2, .v (.int .u8 (k : Int))), (3, .ptr 103 0 0 0), (7, .aY 107 1 0 nF.length), (8, vi m8)], [(103, .cells (ab.row n)), (107, .rows 1 (nF.map ah))]⟩) (fun m8 nF => ((m8 : Int) ≤ (n.aa.length : Int)) ∧ (nF = gH n.aa w m8)) (fun m8 nF => ((n.aa.length : Int) - (m8 : Int)).toNat) 0 ([] : List Int) (⟨ou, rfl⟩) (Le.mk (.c2 (.c (.cons (cf rfl bw) (.cons (ak rfl b5) (.nil))))) (.c2 (.nil))) (fun m8 nF tq => ?_)
 obtain ⟨Gs, hl⟩ := tq
 refine .seq (.sr ?_)
 refine .mv ?_
 refine .fa bN ?_
 refine .ld bh ?_
 refine .vl (Y.len (n := n.aa.length) a7 rfl dG) (.vl (Y.lss rfl rfl) (.nil ?_))
 refine .aB rfl (fun xk => ?_) (fun xk => ?_)
 refine .skip ?_
 refine .eP (fun (pJ : List Int) => ⟨[(1, vi w), (2, .v (.int .u8 (k : Int))), (3, .ptr 103 0 0 0), (7, .aY 107 1 0 pJ.length), (8, vi m8)], [(103, .cells (ab.row n)), (107, .rows 1 (pJ.map ah))]⟩) (fun pJ => pJ = gH n.aa w (m8 + 1)) ?_ (fun pJ w4 => ?_)
 refine .block (.seq ?_)
 have FU := AL m8; rw [← hl] at FU
 refine .region ?_
 refine .fa bN ?_
 refine .ld bh ?_
 refine .mv ?_
 refine .vl (Y.aK (m := m8) a7 rfl rfl b5 (ax (d := 0) om)) ?_
 refine .ld br ?_
 refine .mv ?_
 refine .vl (Y.eql rfl rfl) (.nil ?_)
 refine .aB rfl (fun my => ?_) (fun my => ?_)
 refine .region ?_
 refine .mv ?_
 refine .mv ?_
 refine .buildSlice (([(m8 : Int)] : List Int).map ah) a7 e0 rfl rfl rfl rfl rfl (ay (s := 1) (f := ah) (fun _ => rfl)) rfl rfl rfl ae ?_
 refine .bs ((nF ++ ([(m8 : Int)] : List Int)).map ah) (nF ++ ([(m8 : Int)] : List Int)).length a7 e0 rfl rfl rfl rfl (bL bw) (bq bw) (cE bw) bw bw ae ae ?_
 refine .an ?_
 refine .nil ?_
 exact ⟨nF ++ ([(m8 : Int)] : List Int), by first | (rw [hl]; exact (n4 cj).symm) | exact hl.trans (oF cj).symm, Le.mk (.c2 (.c (.cons (cf rfl om) (.c (.nil))))) (.c2 (.nil))⟩
 refine .skip ?_
 exact ⟨nF, by first | (rw [hl]; exact (n4 cj).symm) | exact hl.trans (oF cj).symm, Le.mk (.c2 (.c (.cons (cf rfl om) (.c (.nil))))) (.c2 (.nil))⟩
 refine .region ?_
 refine .mv ?_
 refine .vl (Y.aT rfl rfl bw) ?_
 refine .an ?_
 refine .nil ?_
 exact ⟨m8 + 1, pJ, ⟨om, w4⟩, om, Le.mk (.c2 (.c (.cons (cf rfl om) (.cons (ak rfl b5) (.nil))))) (.c2 (.nil))⟩
 refine .exit (.seq (.seq ?_))
 have he : nF = gH n.aa w n.aa.length := by rw [hl, show m8 = n.aa.length by omega]
 have FU := AL m8; rw [← hl] at FU
 refine .region ?_
 refine .mv ?_
 refine .vl (Y.len (n := nF.length) a7 rfl rfl) (.vl (Y.eql rfl rfl) (.nil ?_))
 refine .aB rfl (fun FB => ?_) (fun FB => ?_)
 refine .sr ?_
 refine .an ?_
 refine .nil (.ret ?_)
 exact .ri rfl (by unfold au; rw [← he, if_pos om])
 refine .skip (.seq ?_)
 have NI : k % nF.length < nF.length := Nat.mod_lt _ om
 refine .region ?_
 refine .mv ?_
 refine .mv ?_
 refine .vl (Y.fo sY py rfl v3) ?_
 refine .mv ?_
 refine .vl (Y.len (n := nF.length) a7 rfl rfl) (.vl (Y.jH rfl rfl bw) (.vl (Y.bc (m := k % nF.length) a7 rfl rfl b5 om) (.vl (Y.load br rfl (a8 (d := 0) om) rfl rfl) ?_)))
 refine .an ?_
 refine .nil (.ret ?_)
 exact .ri rfl (by unfold au; rw [← he, if_neg om])
end Go.Proofs.Ytligpghohcfpnaa
/- Small facts for the aa of the specification. -/
namespace Go.Proofs.Ytligpghohcfpnaa
open Go Go.AW

end Go.Proofs.Ytligpghohcfpnaa
/- Walks through the specification of words. -/
namespace Go.Proofs.Ytligpghohcfpnaa
open Go Go.AW Go.Proofs
theorem y0 {w : Int} {x : Nat} (hx : x < 18446744073709551616) : az Try.prog 67 [vi w, .v (.int .u64 (x : Int))] [] [] (fun r o => r = .ep 1 ((im (gO w) x).map ah) ∧ o = []) := by
 refine az.of Try.func67 rfl rfl rfl (n := 22) ae (aH rfl) ?_
 have hl := lH w
 refine .sr ?_
 refine .an ?_
 refine .nil (.sr ?_)
 refine .an ?_
 refine .sh (Sh.nil (d := 5) 105 1 rfl ae) (.nil (.seq ?_))
 refine .sr ?_
 refine .an ?_
 refine .nil (.block ?_)
 refine .iT (fun (pK : Nat) (rD : Nat) (jn : List Int) => ⟨[(0, vi w), (1, .v (.int .u64 (pK : Int))), (5, .aY 105 1 0 jn.length), (6, vi rD)], [(105, .rows 1 (jn.map ah))]⟩) (fun pK rD jn => ((rD : Int) ≤ ((gO w : Nat) : Int)) ∧ (jn.length = rD) ∧ (jn = im rD x) ∧ (pK = x / 2 ^ rD) ∧ (pK < 18446744073709551616)) (fun pK rD jn => (((gO w : Nat) : Int) - (rD : Int)).toNat) x 0 ([] : List Int) (⟨ou, rfl, rfl, by simp, hx⟩) (Le.mk (.c (.cons (ak rfl b5) (.cons (cf rfl bw) (.cons (ak rfl b5) (.nil))))) (.c (.nil))) (fun pK rD jn tq => ?_)
 obtain ⟨Gs, hlen, hb, hv, hm⟩ := tq
 refine .seq (.sr ?_)
 refine .mv ?_
 refine .mv ?_
 refine .aP Ic (u4 (w := w)) rfl (.ai rfl rfl .nil) ae rfl (.vl (Y.lss rfl rfl) (.nil ?_))
 refine .aB rfl (fun ET => ?_) (fun ET => ?_)
 refine .skip (.seq (.block ?_))
 refine .sr ?_
 refine .mv ?_
 refine .mv ?_
 refine .vl (Y.Ef (a := pK) (b := 2) rfl rfl om) (.vl (Y.fo xH py rfl v3) ?_)
 refine .buildSlice (([((pK % 2 : Nat) : Int)] : List Int).map ah) a7 e0 rfl rfl rfl rfl rfl (ay (s := 1) (f := ah) (fun _ => rfl)) rfl rfl rfl ae ?_
 refine .bs ((jn ++ ([((pK % 2 : Nat) : Int)] : List Int)).map ah) (jn ++ ([((pK % 2 : Nat) : Int)] : List Int)).length a7 e0 rfl rfl rfl rfl (bL bw) (bq bw) (cE bw) bw bw ae ae ?_
 refine .an ?_
 refine .nil (.region ?_)
 refine .mv ?_
 refine .vl (Y.Lf (a := pK) (b := 2) rfl rfl om) ?_
 refine .an ?_
 refine .nil (.region ?_)
 refine .mv ?_
 refine .vl (Y.aT rfl rfl bw) ?_
 refine .an ?_
 refine .nil ?_
 exact ⟨pK / 2, rD + 1, jn ++ ([((pK % 2 : Nat) : Int)] : List Int), ⟨om, by simp; omega, by rw [hb, v8, hv], by rw [hv, Nat.div_div_eq_div_mul, Nat.pow_succ], om⟩, om, Le.mk (.c (.cons (ak rfl b5) (.cons (cf rfl om) (.cons (ak rfl b5) (.nil))))) (.c (.nil))⟩
 refine .exit (.sr ?_)
 refine .mv ?_
 refine .an ?_
 refine .sh (Sh.ji (d := 4) (o := 105) rfl rfl (bu om) ae) ?_
 refine .nil (.ret ?_)
 exact ⟨_, _, rfl, rfl, (JP (fun (z0 : List Int) => X.ep 1 (z0.map ah)) (by rw [hb, show rD = gO w by omega] : jn = im (gO w) x) : X.ep 1 (jn.map ah) = X.ep 1 ((im (gO w) x).map ah)), rfl⟩
theorem y4 {l : List Int} (h1 : ∀ b ∈ l, 0 ≤ b ∧ b ≤ 1) (h2 : l.length ≤ 64) : az Try.prog 66 [.fz 1 (l.map ah)] [] [] (fun r o => r = .v (.int .u64 ((me l : Nat) : Int)) ∧ o = []) := by
 refine az.of Try.func66 rfl rfl rfl (n := 21) ae (aH rfl) (.sr ?_)
 refine .an ?_
 refine .nil (.sr ?_)
 refine .an ?_
 refine .nil (.seq (.sr ?_))
 refine .mv ?_
 refine .vl (Y.len (n := l.length) a7 rfl dG) (.vl (Y.iy rfl rfl bw) ?_)
 refine .an ?_
 refine .nil (.block ?_)
 refine .dT (fun (uO : Nat) (dQ : Int) => ⟨[(0, .fz 1 (l.map ah)), (3, .v (.int .u64 (uO : Int))), (4, vi dQ)], []⟩) (fun uO dQ => (-1 ≤ dQ ∧ dQ < (l.length : Int)) ∧ (uO = me (l.drop (dQ + 1).toNat))) (fun uO dQ => (dQ + 1).toNat) 0 ((l.length : Int) - 1) (⟨om, by rw [List.drop_eq_nil_of_le om]; rfl⟩) (Le.mk (.c (.cons (ak rfl b5) (.cons (ak rfl b5) (.nil)))) (.nil)) (fun uO dQ tq => ?_)
 obtain ⟨hi, hx⟩ := tq
 refine .seq (.sr ?_)
 refine .mv ?_
 refine .vl (Y.geq rfl rfl) (.nil ?_)
 refine .aB rfl (fun c9 => ?_) (fun c9 => ?_)
 refine .skip (.seq (.block ?_))
 refine .region ?_
 refine .mv ?_
 refine .vl (Y.Ld (a := 2) (b := uO) rfl rfl) ?_
 refine .mv ?_
 refine .mv ?_
 refine .vl (Y.aK (m := (dQ).toNat) a7 rfl rfl om (ax (d := 0) om)) ?_
 have hb := h1 _ (bm (l := l) (i := dQ.toNat) om)
 refine .ld br ?_
 refine .vl (Y.conv py xH rfl (si _ om)) (.vl (Y.HD (a := ((2 * uO) % 18446744073709551616)) (b := ((l.getD ((dQ).toNat) 0).toNat)) rfl rfl) ?_)
 refine .an ?_
 refine .nil (.region ?_)
 refine .mv ?_
 refine .vl (Y.iy rfl rfl bw) ?_
 refine .an ?_
 refine .nil ?_
 exact ⟨(((2 * uO) % 18446744073709551616) + ((l.getD ((dQ).toNat) 0).toNat)) % 18446744073709551616, dQ - 1, ⟨om, xC h1 h2 om hx⟩, om, Le.mk (.c (.cons (ak rfl b5) (.cons (ak rfl b5) (.nil)))) (.nil)⟩
 refine .exit (.sr ?_)
 refine .mv ?_
 refine .an ?_
 refine .nil (.ret ?_)
 exact .ri rfl (by rw [hx, show (dQ + 1).toNat = 0 by omega, List.drop_zero])
theorem sF {w : Int} {x : Nat} (hx : x < 18446744073709551616) : az Try.prog 26 [vi w, .v (.int .u64 (x : Int))] [] [] (fun r o => r = .v (.int .u64 ((kE w x : Nat) : Int)) ∧ o = []) := by
 refine az.of Try.func26 rfl rfl rfl (n := 9) ae (aH rfl) (.sr ?_)
 refine .an ?_
 refine .nil (.sr ?_)
 refine .mv ?_
 refine .mv ?_
 refine .aP Lv (y0 (w := w) (x := x) (om)) rfl (.ai rfl rfl (.ai rfl rfl .nil)) ae rfl ?_
 refine .sh (Sh.dF (d := 7) ((im (gO w) x).map ah) rfl kq (da.map aD)) (.aP Lu (y4 (l := (im (gO w) x)) (z4 _ _) (by rw [xB]; exact lH _)) rfl (.ai rfl rfl .nil) ae rfl ?_)
 refine .an ?_
 refine .nil (.ret ?_)
 exact .ri rfl (by rw [vA]; rfl)
end Go.Proofs.Ytligpghohcfpnaa
/- Walks through the aa of the specification. -/
namespace Go.Proofs.Ytligpghohcfpnaa
open Go Go.AW Go.Proofs
end Go.Proofs.Ytligpghohcfpnaa
/- Combinational cycles, by what is known, in plain Lean. -/
namespace Go.Proofs.Ytligpghohcfpnaa
open Go Go.AW

def xr (n : ab) (k : Nat) (kn : List Bool) : Prop := ∀ w : Int, In w n.aa.length → (kn.getD w.toNat false = true ↔ ∃ j, bA n j w ∧ j < k ∧ ¬ b7 (n.cell j).kind)
theorem xr.init (n : ab) : xr n 0 (List.replicate n.aa.length false) := by
 intro w hw
 unfold In at hw
 rw [List.getD_eq_getElem?_getD, List.getElem?_replicate, if_pos om]
 exact ⟨fun h => (by cases h), fun ⟨j, h1, h2, _⟩ => (by have := h1.1; omega)⟩
theorem xr.skip {n : ab} {k : Nat} {l : List Bool} (h : xr n k l) (hc : b7 (n.cells.getD k default).kind ∨ (n.cells.getD k default).kind = 7) : xr n (k + 1) l := by
 intro w hw
 rw [h w hw]
 constructor
 ·rintro ⟨j, h1, h2, h3⟩; exact ⟨j, h1, om, h3⟩
 ·rintro ⟨j, h1, h2, h3⟩
  refine ⟨j, h1, ?_, h3⟩
  rcases Int.lt_or_eq_of_le (show j ≤ k by omega) with h' | h'
  ·exact h'
  ·subst h'
   rcases hc with hc | hc
   ·exact absurd hc h3
   ·exact absurd hc h1.2.1
theorem xr.step {n : ab} {k : Nat} {l : List Bool} (h : xr n k l) (hk : k < n.cells.length) (hl : l.length = n.aa.length) (hc : ¬ b7 (n.cells.getD k default).kind) (h7 : (n.cells.getD k default).kind ≠ 7) (ho : In (n.cells.getD k default).out n.aa.length) :
  xr n (k + 1) (l.set (n.cells.getD k default).out.toNat true) := by
 intro w hw
 unfold In at ho
 have pP := hw
 unfold In at pP
 rw [bo]
 by_cases e : (n.cells.getD k default).out = w
 ·rw [if_pos ⟨om, om⟩]
  exact ⟨fun _ => ⟨(k : Int), ⟨⟨om, om⟩, h7, e⟩, om, hc⟩, fun _ => rfl⟩
 ·rw [if_neg om, h w hw]
  constructor
  ·rintro ⟨j, h1, h2, h3⟩; exact ⟨j, h1, om, h3⟩
  ·rintro ⟨j, h1, h2, h3⟩
   refine ⟨j, h1, ?_, h3⟩
   rcases Int.lt_or_eq_of_le (show j ≤ k by omega) with h' | h'
   ·exact h'
   ·subst h'; exact absurd h1.2.2 e
structure LD (n : ab) (done : List Int) (kn : List Bool) (left : Int) : Prop where
 nd : done.Nodup
 cm : ∀ x ∈ done, bB n x
 kn : ∀ w, In w n.aa.length → (kn.getD w.toNat false = true ↔ ¬ Open n done w)
 left : left = (n.cells.length : Int) - ((gP n n.cells.length).length : Int) - (done.length : Int)
 mx : ∀ p i s, done = p ++ i :: s → cY n p i = 0
section
variable {n : ab} (hf : aW n)
include hf
theorem LD.init {kn : List Bool} (h : xr n n.cells.length kn) : LD n [] kn ((n.cells.length : Int) - ((gP n n.cells.length).length : Int)) where
 nd := List.nodup_nil
 cm := fun _ h => (by cases h)
 kn := fun w hw => by
  rw [h w hw]
  constructor
  ·rintro ⟨j, h1, h2, h3⟩ ⟨⟨i, hi, e⟩, _⟩
   have := hf.unique h1 (e ▸ hi.jl)
   subst this; exact h3 hi.2
  ·intro ho
   obtain ⟨j, hj⟩ := hf.g9 hw
   refine ⟨j, hj, by have := hj.1; omega, fun hc => ho ⟨⟨j, ⟨hj.1, hc⟩, hj.2.2⟩, fun _ h => (by cases h)⟩⟩
 left := by simp
 mx := fun p i s h => by simp at h
theorem LD.step {done : List Int} {kn : List Bool} {left i : Int} (h : LD n done kn left) (hl : kn.length = n.aa.length) (hi : bB n i) (hk : kn.getD (n.cell i).out.toNat false = false) (hz : cY n done i = 0) :
  LD n (done ++ [i]) (kn.set (n.cell i).out.toNat true) (left - 1) := by
 have FO := hf.eG hi.jl
 have El : Open n done (n.cell i).out := Classical.byContradiction fun hh => by
  have := (h.kn _ FO).2 hh
  rw [hk] at this; cases this
 have Gh : i ∉ done := fun hm => El.2 i hm rfl
 refine ⟨?_, fun x hx => ?_, fun w hw => ?_, ?_, fun p j s e => ?_⟩
 ·rw [List.nodup_append]
  exact ⟨h.nd, by simp, fun a ha b hb e => Gh (by rw [← List.mem_singleton.1 hb, ← e]; exact ha)⟩
 ·rcases List.mem_append.1 hx with hx | hx
  ·exact h.cm x hx
  ·rw [List.mem_singleton.1 hx]; exact hi
 ·unfold In at FO
  have pP := hw
  unfold In at pP
  have ho : Open n (done ++ [i]) w ↔ Open n done w ∧ (n.cell i).out ≠ w := by
   constructor
   ·rintro ⟨a, b⟩
    exact ⟨⟨a, fun j hj => b j (by simp [hj])⟩, b i (by simp)⟩
   ·rintro ⟨⟨a, b⟩, c⟩
    refine ⟨a, fun j hj => ?_⟩
    rcases List.mem_append.1 hj with hj | hj
    ·exact b j hj
    ·rw [List.mem_singleton.1 hj]; exact c
  rw [bo, ho]
  by_cases e : (n.cell i).out = w
  ·rw [if_pos ⟨om, om⟩]
   exact ⟨fun _ h => h.2 e, fun _ => rfl⟩
  ·rw [if_neg om, h.kn w hw]
   exact ⟨fun h1 h2 => h1 h2.1, fun h1 h2 => h1 ⟨h2, e⟩⟩
 ·rw [h.left, List.length_append]; simp; omega
 ·rcases List.eq_nil_or_concat s with rfl | ⟨s', x, rfl⟩
  ·obtain ⟨rfl, e3⟩ := List.append_inj' (t₁ := [i]) (t₂ := [j]) e rfl
   cases e3
   exact hz
  ·have e2 := List.append_inj' (s₁ := done) (s₂ := p ++ j :: s') (t₁ := [i]) (t₂ := [x]) (by rw [e]; simp) rfl
   exact h.mx p j s' e2.1
theorem LD.known {done : List Int} {kn : List Bool} {left : Int} (h : LD n done kn left) {i : Int} (hi : 0 ≤ i ∧ i < n.cells.length) : (∀ x ∈ (n.cell i).args, kn.getD x.toNat false = true) ↔ cY n done i = 0 := by
 unfold cY
 rw [List.countP_eq_zero]
 constructor
 ·intro hh x hx ho
  exact (h.kn x (hf.gY hi hx)).1 (hh x hx) (of_decide_eq_true ho)
 ·intro hh x hx
  exact (h.kn x (hf.gY hi hx)).2 (fun ho => hh x hx (decide_eq_true ho))
def DD (n : ab) (k : Int) (done : List Int) : Prop := ∀ i, bB n i → i < k → Open n done (n.cell i).out → cY n done i ≠ 0
theorem LD.ki {done : List Int} {kn : List Bool} {left : Int} (h : LD n done kn left) (hs : DD n n.cells.length done) : KI n done [] ((List.range n.cells.length).map (fun (i : Nat) => (cY n done (i : Int) : Int))) where
 nd := by simpa using h.nd
 cm := fun x hx => h.cm x (by simpa using hx)
 kZ := fun i hi => by
  have hb := hi.1
  rw [List.getD_eq_getElem?_getD, List.getElem?_map, List.getElem?_range om]
  simp only [Option.map_some, Option.getD_some]
  rw [show (i.toNat : Int) = i by omega]
 full := fun i hi => by
  rw [List.append_nil]
  constructor
  ·intro hm
   obtain ⟨p, s, e⟩ := List.append_of_mem hm
   have := h.mx p i s e
   rw [ny] at this ⊢
   intro x hx hc
   obtain ⟨j, hj, e2⟩ := this x hx hc
   exact ⟨j, by rw [e]; simp [hj], e2⟩
  ·intro hz
   refine Classical.byContradiction fun hn => hs i hi hi.1.2 ⟨⟨i, hi, rfl⟩, fun j hj e => hn ?_⟩ hz
   have := hf.unique (h.cm j hj).jl (e ▸ hi.jl)
   exact this ▸ hj
 mx := h.mx
end
theorem LD.pos {n : ab} {done : List Int} {kn : List Bool} {left : Int} (h : LD n done kn left) : 0 ≤ left ∧ left ≤ n.cells.length := by
 have iw : (gP n n.cells.length ++ done).Nodup := by
  rw [List.nodup_append]
  refine ⟨qP _ _, h.nd, fun a ha b hb e => ?_⟩
  subst e
  exact (iV.1 ha).2 (h.cm a hb).2
 have := length_le_of_subset (m := (List.range n.cells.length).map (fun (i : Nat) => (i : Int))) iw (fun x hx => by
  have gR : 0 ≤ x ∧ x < n.cells.length := by
   rcases List.mem_append.1 hx with hx | hx
   ·exact (iV.1 hx).1
   ·exact (h.cm x hx).1
  exact List.mem_map.2 ⟨x.toNat, List.mem_range.2 om, om⟩)
 rw [List.length_append, List.length_map, List.length_range] at this
 have hl := h.left
 omega
def AM (n : ab) (k mo : Int) (kn : List Bool) (left : Int) (more : Bool) : Prop := ∃ done, LD n done kn left ∧ left ≤ mo ∧ (more = true → left < mo) ∧ (more = false → DD n k done)
theorem AM.seq {n : ab} {k : Nat} {mo left : Int} {kn : List Bool} {more : Bool} (h : AM n k mo kn left more) (hc : ¬ b7 (n.cells.getD k default).kind) : AM n ((k + 1 : Nat) : Int) mo kn left more := by
 obtain ⟨done, h1, h2, h3, h4⟩ := h
 refine ⟨done, h1, h2, h3, fun hm i hi h0 => h4 hm i hi (lI hc hi h0)⟩
section
variable {n : ab} (hf : aW n) {k : Nat} {mo left : Int} {kn : List Bool} {more : Bool}
include hf
theorem AM.skip (h : AM n k mo kn left more) (hk : k < n.cells.length) (hc : kn.getD (n.cells.getD k default).out.toNat false = true ∨ ¬ ∀ x ∈ (n.cells.getD k default).args, kn.getD x.toNat false = true) (yG : b7 (n.cells.getD k default).kind) : AM n ((k + 1 : Nat) : Int) mo kn left more := by
 obtain ⟨done, h1, h2, h3, h4⟩ := h
 have hi : bB n (k : Int) := ⟨⟨om, om⟩, yG⟩
 refine ⟨done, h1, h2, h3, fun hm i Rf h0 => ?_⟩
 by_cases e : i = k
 ·subst e
  intro ho hz
  rcases hc with hc | hc
  ·exact (h1.kn _ (hf.eG hi.jl)).1 hc ho
  ·exact hc ((h1.known hf hi.1).2 hz)
 ·exact h4 hm i Rf om
theorem AM.step (h : AM n k mo kn left more) (hk : k < n.cells.length) (hl : kn.length = n.aa.length) (h1 : kn.getD (n.cells.getD k default).out.toNat false = false) (h2 : ∀ x ∈ (n.cells.getD k default).args, kn.getD x.toNat false = true) (yG : b7 (n.cells.getD k default).kind) :
  AM n ((k + 1 : Nat) : Int) mo (kn.set (n.cells.getD k default).out.toNat true) (left - 1) true := by
 obtain ⟨done, a1, a2, a3, a4⟩ := h
 have hi : bB n (k : Int) := ⟨⟨om, om⟩, yG⟩
 refine ⟨done ++ [(k : Int)], a1.step hf hl hi h1 ((a1.known hf hi.1).1 h2), om, fun _ => by omega, fun h => (by cases h)⟩
end
theorem xr.next {n : ab} (hf : aW n) {k : Nat} {kn : List Bool} (h : xr n k kn) (hk : k < n.cells.length) (hl : kn.length = n.aa.length) :
  (¬ b7 (n.cells.getD k default).kind → 0 ≤ (n.cells.getD k default).out → xr n (k + 1) (kn.set (n.cells.getD k default).out.toNat true)) ∧ (b7 (n.cells.getD k default).kind → xr n (k + 1) kn ∧ 0 ≤ (n.cells.getD k default).out) ∧
  (¬ 0 ≤ (n.cells.getD k default).out → xr n (k + 1) kn) ∧ (0 ≤ (n.cells.getD k default).out → (n.cells.getD k default).out < n.aa.length) := by
 obtain ⟨_, _, a3, a4⟩ := hf.cells k hk
 refine ⟨fun hc ho => ?_, fun hc => ⟨h.skip (.inl hc), ?_⟩, fun ho => ?_, fun ho => ?_⟩
 ·have h7 : (n.cells.getD k default).kind ≠ 7 := fun h7 => by have := a3 h7; omega
  exact h.step hk hl hc h7 (a4 h7)
 ·have h7 : (n.cells.getD k default).kind ≠ 7 := fun h7 => by rw [h7] at hc; revert hc; unfold b7; omega
  exact (a4 h7).1
 ·have h7 : (n.cells.getD k default).kind = 7 := Classical.byContradiction fun h7 => ho (a4 h7).1
  exact h.skip (.inr h7)
 ·have h7 : (n.cells.getD k default).kind ≠ 7 := fun h7 => by have := a3 h7; omega
  exact (a4 h7).2
theorem AM.bd {n : ab} (hf : aW n) {k mo left : Int} {kn : List Bool} {more : Bool} (h : AM n k mo kn left more) : 0 ≤ left ∧ left ≤ n.cells.length := by
 obtain ⟨done, b1, b2, b3, b4⟩ := h
 exact b1.pos
end Go.Proofs.Ytligpghohcfpnaa
/- The empty netlist. -/
namespace Go.Proofs.Ytligpghohcfpnaa
open Go Go.AW
end Go.Proofs.Ytligpghohcfpnaa
/- The aa of the specification, whatever the kind. -/
namespace Go.Proofs.Ytligpghohcfpnaa
open Go Go.AW Go.Proofs
end Go.Proofs.Ytligpghohcfpnaa
/- Walks through Check, and through the specification of a cell. -/
namespace Go.Proofs.Ytligpghohcfpnaa
open Go Go.AW Go.Proofs
end Go.Proofs.Ytligpghohcfpnaa
/- The specification of a cell, whatever its kind. -/
namespace Go.Proofs.Ytligpghohcfpnaa
open Go Go.AW Go.Proofs
end Go.Proofs.Ytligpghohcfpnaa
/- Walks through the specification of well-formed netlists. -/
namespace Go.Proofs.Ytligpghohcfpnaa
open Go Go.AW Go.Proofs
end Go.Proofs.Ytligpghohcfpnaa
/- Walks through the specification of netlists. -/
namespace Go.Proofs.Ytligpghohcfpnaa
open Go Go.AW Go.Proofs
end Go.Proofs.Ytligpghohcfpnaa
/- Walks through the builder. -/
namespace Go.Proofs.Ytligpghohcfpnaa
open Go Go.AW Go.Proofs
end Go.Proofs.Ytligpghohcfpnaa
/- Walks through the parts of plans. -/
namespace Go.Proofs.Ytligpghohcfpnaa
open Go Go.AW Go.Proofs
theorem rV {n : ab} {p : pb} (hn : n.aa.length ≤ 1048576) (h0 : 0 < n.aa.length) (hp : p.Ok) (hg : Ground n) (hi : n.ins.length ≤ 1048576) : az Try.prog 91 [.agg (ab.oE n), .agg (pb.row p)] [] [] (fun r o => ∃ c w, jP n c w ∧ r = .tup [.agg (Cell.mw c), vi w] ∧ o = []) := by
 refine az.Mg Try.func91 rfl rfl rfl (n := 96) ae (aH rfl) ?_
 have Mz := hp.kind; have ER := hp.op; have Rh := hp.width; have OX := hp.a; have Ri := hp.b; have OY := hp.d; have Rj := hp.num; have LZ := Nat.mod_lt p.a h0; have Ma := Nat.mod_lt p.b h0
 refine .sr (.box 102 rfl rfl rfl rfl rfl ae (.box 103 rfl rfl rfl rfl rfl ae ?_))
 refine .alloc 104 dN rfl rfl ae ?_
 refine .an ?_
 refine .nil (.seq (.sh (Sh.dc 102 rfl rfl) ?_))
 refine .sh (Sh.dc 103 rfl rfl) (.region ?_)
 refine .buildSlice (([2, 3, 9, 10, 11, 12, 13, 14, 15, 16, 17, 18, 19, 20, 21, 22, 23, 24] : List Int).map ah) a7 e0 rfl rfl rfl rfl rfl (ay (s := 1) (f := ah) (fun _ => rfl)) rfl rfl rfl ae ?_
 refine .dU rfl ae (.sh (Sh.dF (d := 6) (([2, 3, 9, 10, 11, 12, 13, 14, 15, 16, 17, 18, 19, 20, 21, 22, 23, 24] : List Int).map ah) rfl kq (da.map aD)) (.nil ?_))
 refine .le (aR := ⟨[(2, .fp (ab.oE n) 0), (3, .fp (pb.row p) 0), (4, .ptr 104 0 0 0), (6, .fz 1 (([2, 3, 9, 10, 11, 12, 13, 14, 15, 16, 17, 18, 19, 20, 21, 22, 23, 24] : List Int).map ah))], [(104, .cells [vi 0, vi 0, vi 0, vn, .v (.int .u64 0), vi 0])]⟩) (Le.mk (.c4 (.nil)) (.c (.nil))) (.sr ?_)
 refine .mv ?_
 refine .fa px ?_
 refine .ld pW ?_
 refine .vl (Y.fo sY py rfl v3) ?_
 refine .mv ?_
 refine .vl (Y.len (n := ([2, 3, 9, 10, 11, 12, 13, 14, 15, 16, 17, 18, 19, 20, 21, 22, 23, 24] : List Int).length) a7 rfl dG) (.vl (Y.jH rfl rfl bw) (.vl (Y.aK (m := p.op % (([2, 3, 9, 10, 11, 12, 13, 14, 15, 16, 17, 18, 19, 20, 21, 22, 23, 24] : List Int).length)) a7 rfl rfl b5 (ax (d := 0) bw)) ?_))
 refine .ld br ?_
 refine .an ?_
 refine .nil (.sr ?_)
 refine .fa zK ?_
 refine .ld pW ?_
 refine .aP rN (eN (k := p.width)) rfl (.ai rfl rfl .nil) ae rfl ?_
 refine .an ?_
 refine .nil (.sr ?_)
 refine .mv ?_
 refine .vl (Y.build sZ dN rfl rfl rfl) (.alloc 109 dN rfl rfl ae (.aj eI rfl rfl rfl rfl rfl rfl (aH rfl) rfl ?_))
 refine .nil (.seq (.block ?_))
 refine .sr ?_
 refine .mv ?_
 refine .vl (Y.eql rfl rfl) ?_
 refine .an ?_
 refine .nil ?_
 refine .aB rfl (fun DC => ?_) (fun DC => ?_)
 refine .eJ rfl (.aM 0 rfl aq eh rfl rfl rfl (aH rfl) rfl rfl ae (.blind 1 rfl aq (ao.fieldAddr jR rfl rfl) ae ?_))
 refine .blind 2 rfl aq (ao.gg qT rfl rfl (m := 0) rfl om rfl) ae (.load 3 rfl aq pW rfl rfl rfl rfl rfl ae (.aM 5 rfl aq eh rfl rfl rfl (aH rfl) rfl rfl ae ?_))
 refine .blind 6 rfl aq (ao.move rfl rfl) ae (.blind 7 rfl aq (ao.fieldAddr jR rfl rfl) ae (.blind 8 rfl aq (ao.gg qT rfl rfl (m := 1) rfl om rfl) ae ?_))
 refine .load 9 rfl aq pW rfl rfl rfl rfl rfl ae (.aM 11 rfl aq eh rfl rfl rfl (aH rfl) rfl rfl ae (.blind 12 rfl aq (ao.move rfl rfl) ae ?_))
 refine .blind 13 rfl aq (ao.fieldAddr jR rfl rfl) ae (.blind 14 rfl aq (ao.gg qT rfl rfl (m := 2) rfl om rfl) ae (.load 15 rfl aq pW rfl rfl rfl rfl rfl ae ?_))
 refine .uZ (.one 4 rfl aq (.aP gA (cd (n := (⟨n.name, n.aa, n.cells, n.ins, n.aw, n.streams, [], [], n.freeze, n.done, []⟩ : ab)) (w := 1) (k := p.a) (by show (n.aa).length ≤ 1048576; omega) om) rfl (.ai rfl rfl (.ai rfl rfl (.ai rfl rfl .nil))) ae rfl ?_))
 refine .nil ⟨rfl, ?_⟩
 refine .one 10 rfl aq (.aP gA (cd (n := (⟨n.name, n.aa, n.cells, n.ins, n.aw, n.streams, [], [], n.freeze, n.done, []⟩ : ab)) (w := (al p.width)) (k := p.b) (by show (n.aa).length ≤ 1048576; omega) om) rfl (.ai rfl rfl (.ai rfl rfl (.ai rfl rfl .nil))) ae rfl ?_)
 refine .nil ⟨rfl, ?_⟩
 refine .one 16 rfl aq (.aP gA (cd (n := (⟨n.name, n.aa, n.cells, n.ins, n.aw, n.streams, [], [], n.freeze, n.done, []⟩ : ab)) (w := (al p.width)) (k := p.d) (by show (n.aa).length ≤ 1048576; omega) om) rfl (.ai rfl rfl (.ai rfl rfl (.ai rfl rfl .nil))) ae rfl ?_)
 refine .nil ⟨rfl, ?_⟩
 refine .one 17 rfl aq ?_
 refine .buildSlice (([au n.aa 1 p.a, au n.aa (al p.width) p.b, au n.aa (al p.width) p.d] : List Int).map ah) a7 e0 rfl rfl rfl rfl rfl (ay (s := 1) (f := ah) (fun _ => rfl)) rfl rfl rfl ae ?_
 refine .nil ⟨rfl, ?_⟩
 refine .one 18 rfl aq ?_
 refine .fa bF ?_
 refine .nil ⟨rfl, ?_⟩
 refine .one 19 rfl aq (.sh (Sh.ed (d := 62) (n := ([au n.aa 1 p.a, au n.aa (al p.width) p.b, au n.aa (al p.width) p.d] : List Int).length) 162 (([au n.aa 1 p.a, au n.aa (al p.width) p.b, au n.aa (al p.width) p.d] : List Int).map ah) rfl kq (bu rfl) ae) (.aj fg rfl rfl rfl rfl rfl rfl (aH rfl) rfl ?_))
 refine .nil ⟨rfl, ?_⟩
 refine .done aq (.le (aR := ⟨[(4, .ptr 104 0 0 0), (8, vi (al p.width)), (9, .ptr 109 0 0 0)], [(104, .cells [vi 0, vi 0, vi 0, vn, .v (.int .u64 0), vi 0]), (109, .cells [vi 2, vi (([2, 3, 9, 10, 11, 12, 13, 14, 15, 16, 17, 18, 19, 20, 21, 22, 23, 24] : List Int).getD (p.op % (([2, 3, 9, 10, 11, 12, 13, 14, 15, 16, 17, 18, 19, 20, 21, 22, 23, 24] : List Int).length)) 0), vi 0, .aY 162 1 0 (([au n.aa 1 p.a, au n.aa (al p.width) p.b, au n.aa (al p.width) p.d] : List Int).length), .v (.int .u64 0), vi 0]), (162, .rows 1 (([au n.aa 1 p.a, au n.aa (al p.width) p.b, au n.aa (al p.width) p.d] : List Int).map ah))]⟩) (Le.mk (.c2 (.c (.nil))) (.c2 (.c (.nil)))) ?_)
 refine .sr (.vl (Y.aM eb rfl rfl (aH rfl) rfl rfl) ?_)
 refine .mv ?_
 refine .aj eI rfl rfl rfl rfl rfl rfl (aH rfl) rfl ?_
 refine .an ?_
 refine .nil (.ret ?_)
 exact ⟨_, rfl, _, _, _, Sh.lk (d := 0) 3 162 rfl rfl rfl rfl rF rfl ae, rfl, rfl, (⟨2, ([2, 3, 9, 10, 11, 12, 13, 14, 15, 16, 17, 18, 19, 20, 21, 22, 23, 24] : List Int).getD (p.op % (([2, 3, 9, 10, 11, 12, 13, 14, 15, 16, 17, 18, 19, 20, 21, 22, 23, 24] : List Int).length)) 0, 0, ([au n.aa 1 p.a, au n.aa (al p.width) p.b, au n.aa (al p.width) p.d] : List Int), 0, 0⟩ : Cell), _, Ek hg DC, rfl, rfl⟩
 refine .sr ?_
 refine .mv ?_
 refine .aP Ii (vU (w := (([2, 3, 9, 10, 11, 12, 13, 14, 15, 16, 17, 18, 19, 20, 21, 22, 23, 24] : List Int).getD (p.op % (([2, 3, 9, 10, 11, 12, 13, 14, 15, 16, 17, 18, 19, 20, 21, 22, 23, 24] : List Int).length)) 0))) rfl (.ai rfl rfl .nil) ae rfl ?_
 refine .an ?_
 refine .nil ?_
 refine .aB rfl (fun yI => ?_) (fun yI => ?_)
 refine .sr ?_
 refine .fa jR ?_
 refine .vl (Y.gg qT rfl rfl (m := 0) rfl om rfl) ?_
 refine .ld pW ?_
 refine .vl (Y.fo sY py rfl v3) ?_
 refine .fa bN ?_
 refine .ld bh ?_
 refine .vl (Y.len (n := n.aa.length) a7 rfl dG) (.vl (Y.jH rfl rfl bw) ?_)
 refine .an ?_
 refine .nil ?_
 refine .eP (fun (pL : Int) => ⟨[(4, .ptr 104 0 0 0), (8, vi pL), (9, .ptr 109 0 0 0), (10, vi ((p.a : Int) % (n.aa.length : Int)))], [(104, .cells [vi 0, vi 0, vi 0, vn, .v (.int .u64 0), vi 0]), (109, .cells [vi 2, vi (([2, 3, 9, 10, 11, 12, 13, 14, 15, 16, 17, 18, 19, 20, 21, 22, 23, 24] : List Int).getD (p.op % (([2, 3, 9, 10, 11, 12, 13, 14, 15, 16, 17, 18, 19, 20, 21, 22, 23, 24] : List Int).length)) 0), vi 0, vn, .v (.int .u64 0), vi 0])]⟩) (fun pL => (((([2, 3, 9, 10, 11, 12, 13, 14, 15, 16, 17, 18, 19, 20, 21, 22, 23, 24] : List Int).getD (p.op % (([2, 3, 9, 10, 11, 12, 13, 14, 15, 16, 17, 18, 19, 20, 21, 22, 23, 24] : List Int).length)) 0) = 24) ∧ (pL = (if (n.aa.getD (p.a % n.aa.length) 0) < (al p.width) then (n.aa.getD (p.a % n.aa.length) 0) else (al p.width)))) ∨ ((¬ ((([2, 3, 9, 10, 11, 12, 13, 14, 15, 16, 17, 18, 19, 20, 21, 22, 23, 24] : List Int).getD (p.op % (([2, 3, 9, 10, 11, 12, 13, 14, 15, 16, 17, 18, 19, 20, 21, 22, 23, 24] : List Int).length)) 0) = 24)) ∧ (pL = (if (n.aa.getD (p.a % n.aa.length) 0) > (al p.width) then (n.aa.getD (p.a % n.aa.length) 0) else (al p.width))))) ?_ (fun pL C7 => ?_)
 refine .sr ?_
 refine .mv ?_
 refine .vl (Y.eql rfl rfl) (.nil ?_)
 refine .aB rfl (fun yq => ?_) (fun yq => ?_)
 refine .region ?_
 refine .mv ?_
 refine .fa bN ?_
 refine .ld bh ?_
 refine .mv ?_
 refine .vl (Y.aK (m := p.a % n.aa.length) a7 rfl rfl b5 (ax (d := 0) om)) ?_
 refine .ld br ?_
 refine .vl (Y.min rfl rfl rfl) ?_
 refine .an ?_
 refine .nil ?_
 exact ⟨if (n.aa.getD (p.a % n.aa.length) 0) < (al p.width) then (n.aa.getD (p.a % n.aa.length) 0) else (al p.width), .inl ⟨yq, rfl⟩, Le.mk (.c (.cons (ak rfl b5) (.c2 (.nil)))) (.c2 (.nil))⟩
 refine .region ?_
 refine .mv ?_
 refine .fa bN ?_
 refine .ld bh ?_
 refine .mv ?_
 refine .vl (Y.aK (m := p.a % n.aa.length) a7 rfl rfl b5 (ax (d := 0) om)) ?_
 refine .ld br ?_
 refine .vl (Y.max rfl rfl rfl) ?_
 refine .an ?_
 refine .nil ?_
 exact ⟨if (n.aa.getD (p.a % n.aa.length) 0) > (al p.width) then (n.aa.getD (p.a % n.aa.length) 0) else (al p.width), .inr (⟨yq, rfl⟩), Le.mk (.c (.cons (ak rfl b5) (.c2 (.nil)))) (.c2 (.nil))⟩
 refine .region ?_
 refine .mv ?_
 refine .buildSlice (([(p.a : Int) % (n.aa.length : Int)] : List Int).map ah) a7 e0 rfl rfl rfl rfl rfl (ay (s := 1) (f := ah) (fun _ => rfl)) rfl rfl rfl ae ?_
 refine .fa bF ?_
 refine .sh (Sh.ed (d := 92) (n := ([(p.a : Int) % (n.aa.length : Int)] : List Int).length) 192 (([(p.a : Int) % (n.aa.length : Int)] : List Int).map ah) rfl kq (bu rfl) ae) (.aj fg rfl rfl rfl rfl rfl rfl (aH rfl) rfl (.nil ?_))
 refine .le (aR := ⟨[(4, .ptr 104 0 0 0), (8, vi pL), (9, .ptr 109 0 0 0)], [(104, .cells [vi 0, vi 0, vi 0, vn, .v (.int .u64 0), vi 0]), (109, .cells [vi 2, vi (([2, 3, 9, 10, 11, 12, 13, 14, 15, 16, 17, 18, 19, 20, 21, 22, 23, 24] : List Int).getD (p.op % (([2, 3, 9, 10, 11, 12, 13, 14, 15, 16, 17, 18, 19, 20, 21, 22, 23, 24] : List Int).length)) 0), vi 0, .aY 192 1 0 (([(p.a : Int) % (n.aa.length : Int)] : List Int).length), .v (.int .u64 0), vi 0]), (192, .rows 1 (([(p.a : Int) % (n.aa.length : Int)] : List Int).map ah))]⟩) (Le.mk (.c2 (.c (.nil))) (.c2 (.c (.nil)))) ?_
 refine .sr (.vl (Y.aM eb rfl rfl (aH rfl) rfl rfl) ?_)
 refine .mv ?_
 refine .aj eI rfl rfl rfl rfl rfl rfl (aH rfl) rfl ?_
 refine .an ?_
 refine .nil (.ret ?_)
 exact ⟨_, rfl, _, _, _, Sh.lk (d := 0) 3 192 rfl rfl rfl rfl rF rfl ae, rfl, rfl, (⟨2, ([2, 3, 9, 10, 11, 12, 13, 14, 15, 16, 17, 18, 19, 20, 21, 22, 23, 24] : List Int).getD (p.op % (([2, 3, 9, 10, 11, 12, 13, 14, 15, 16, 17, 18, 19, 20, 21, 22, 23, 24] : List Int).length)) 0, 0, ([(p.a : Int) % (n.aa.length : Int)] : List Int), 0, 0⟩ : Cell), _, HQ hg h0 yI C7, rfl, rfl⟩
 refine .seq (.eJ rfl (.aM 0 rfl aq eh rfl rfl rfl (aH rfl) rfl rfl ae ?_))
 refine .blind 1 rfl aq (ao.move rfl rfl) ae (.blind 2 rfl aq (ao.fieldAddr jR rfl rfl) ae (.blind 3 rfl aq (ao.gg qT rfl rfl (m := 0) rfl om rfl) ae ?_))
 refine .load 4 rfl aq pW rfl rfl rfl rfl rfl ae (.aM 6 rfl aq eh rfl rfl rfl (aH rfl) rfl rfl ae (.blind 7 rfl aq (ao.move rfl rfl) ae ?_))
 refine .blind 8 rfl aq (ao.fieldAddr jR rfl rfl) ae (.blind 9 rfl aq (ao.gg qT rfl rfl (m := 1) rfl om rfl) ae (.load 10 rfl aq pW rfl rfl rfl rfl rfl ae ?_))
 refine .uZ (.one 5 rfl aq ?_)
 refine .aP gA (cd (n := (⟨n.name, n.aa, n.cells, n.ins, n.aw, n.streams, [], [], n.freeze, n.done, []⟩ : ab)) (w := (al p.width)) (k := p.a) (by show (n.aa).length ≤ 1048576; omega) om) rfl (.ai rfl rfl (.ai rfl rfl (.ai rfl rfl .nil))) ae rfl ?_
 refine .nil ⟨rfl, ?_⟩
 refine .one 11 rfl aq (.aP gA (cd (n := (⟨n.name, n.aa, n.cells, n.ins, n.aw, n.streams, [], [], n.freeze, n.done, []⟩ : ab)) (w := (al p.width)) (k := p.b) (by show (n.aa).length ≤ 1048576; omega) om) rfl (.ai rfl rfl (.ai rfl rfl (.ai rfl rfl .nil))) ae rfl ?_)
 refine .nil ⟨rfl, ?_⟩
 refine .one 12 rfl aq ?_
 refine .buildSlice (([au n.aa (al p.width) p.a, au n.aa (al p.width) p.b] : List Int).map ah) a7 e0 rfl rfl rfl rfl rfl (ay (s := 1) (f := ah) (fun _ => rfl)) rfl rfl rfl ae ?_
 refine .nil ⟨rfl, ?_⟩
 refine .one 13 rfl aq ?_
 refine .fa bF ?_
 refine .nil ⟨rfl, ?_⟩
 refine .one 14 rfl aq (.sh (Sh.ed (d := 38) (n := ([au n.aa (al p.width) p.a, au n.aa (al p.width) p.b] : List Int).length) 138 (([au n.aa (al p.width) p.a, au n.aa (al p.width) p.b] : List Int).map ah) rfl kq (bu rfl) ae) (.aj fg rfl rfl rfl rfl rfl rfl (aH rfl) rfl ?_))
 refine .nil ⟨rfl, ?_⟩
 refine .done aq (.le (aR := ⟨[(4, .ptr 104 0 0 0), (7, vi (([2, 3, 9, 10, 11, 12, 13, 14, 15, 16, 17, 18, 19, 20, 21, 22, 23, 24] : List Int).getD (p.op % (([2, 3, 9, 10, 11, 12, 13, 14, 15, 16, 17, 18, 19, 20, 21, 22, 23, 24] : List Int).length)) 0)), (8, vi (al p.width)), (9, .ptr 109 0 0 0)], [(104, .cells [vi 0, vi 0, vi 0, vn, .v (.int .u64 0), vi 0]), (109, .cells [vi 2, vi (([2, 3, 9, 10, 11, 12, 13, 14, 15, 16, 17, 18, 19, 20, 21, 22, 23, 24] : List Int).getD (p.op % (([2, 3, 9, 10, 11, 12, 13, 14, 15, 16, 17, 18, 19, 20, 21, 22, 23, 24] : List Int).length)) 0), vi 0, .aY 138 1 0 (([au n.aa (al p.width) p.a, au n.aa (al p.width) p.b] : List Int).length), .v (.int .u64 0), vi 0]), (138, .rows 1 (([au n.aa (al p.width) p.a, au n.aa (al p.width) p.b] : List Int).map ah))]⟩) (Le.mk (.c4 (.nil)) (.c2 (.c (.nil)))) (.sr ?_))
 refine .mv ?_
 refine .aP Iy (kA (w := (([2, 3, 9, 10, 11, 12, 13, 14, 15, 16, 17, 18, 19, 20, 21, 22, 23, 24] : List Int).getD (p.op % (([2, 3, 9, 10, 11, 12, 13, 14, 15, 16, 17, 18, 19, 20, 21, 22, 23, 24] : List Int).length)) 0))) rfl (.ai rfl rfl .nil) ae rfl (.nil ?_)
 refine .aB rfl (fun vX => ?_) (fun vX => ?_)
 refine .region ?_
 refine .an ?_
 refine .nil (.le (aR := ⟨[(4, .ptr 104 0 0 0), (8, vi 1), (9, .ptr 109 0 0 0)], [(104, .cells [vi 0, vi 0, vi 0, vn, .v (.int .u64 0), vi 0]), (109, .cells [vi 2, vi (([2, 3, 9, 10, 11, 12, 13, 14, 15, 16, 17, 18, 19, 20, 21, 22, 23, 24] : List Int).getD (p.op % (([2, 3, 9, 10, 11, 12, 13, 14, 15, 16, 17, 18, 19, 20, 21, 22, 23, 24] : List Int).length)) 0), vi 0, .aY 138 1 0 (([au n.aa (al p.width) p.a, au n.aa (al p.width) p.b] : List Int).length), .v (.int .u64 0), vi 0]), (138, .rows 1 (([au n.aa (al p.width) p.a, au n.aa (al p.width) p.b] : List Int).map ah))]⟩) (Le.mk (.c2 (.c (.nil))) (.c2 (.c (.nil)))) ?_)
 refine .sr (.vl (Y.aM eb rfl rfl (aH rfl) rfl rfl) ?_)
 refine .mv ?_
 refine .aj eI rfl rfl rfl rfl rfl rfl (aH rfl) rfl ?_
 refine .an ?_
 refine .nil (.ret ?_)
 exact ⟨_, rfl, _, _, _, Sh.lk (d := 0) 3 138 rfl rfl rfl rfl rF rfl ae, rfl, rfl, (⟨2, ([2, 3, 9, 10, 11, 12, 13, 14, 15, 16, 17, 18, 19, 20, 21, 22, 23, 24] : List Int).getD (p.op % (([2, 3, 9, 10, 11, 12, 13, 14, 15, 16, 17, 18, 19, 20, 21, 22, 23, 24] : List Int).length)) 0, 0, ([au n.aa (al p.width) p.a, au n.aa (al p.width) p.b] : List Int), 0, 0⟩ : Cell), _, zD hg (zC _) DC yI (.inl ⟨vX, rfl⟩), rfl, rfl⟩
 refine .skip (.le (aR := ⟨[(4, .ptr 104 0 0 0), (8, vi (al p.width)), (9, .ptr 109 0 0 0)], [(104, .cells [vi 0, vi 0, vi 0, vn, .v (.int .u64 0), vi 0]), (109, .cells [vi 2, vi (([2, 3, 9, 10, 11, 12, 13, 14, 15, 16, 17, 18, 19, 20, 21, 22, 23, 24] : List Int).getD (p.op % (([2, 3, 9, 10, 11, 12, 13, 14, 15, 16, 17, 18, 19, 20, 21, 22, 23, 24] : List Int).length)) 0), vi 0, .aY 138 1 0 (([au n.aa (al p.width) p.a, au n.aa (al p.width) p.b] : List Int).length), .v (.int .u64 0), vi 0]), (138, .rows 1 (([au n.aa (al p.width) p.a, au n.aa (al p.width) p.b] : List Int).map ah))]⟩) (Le.mk (.c2 (.c (.nil))) (.c2 (.c (.nil)))) ?_)
 refine .sr (.vl (Y.aM eb rfl rfl (aH rfl) rfl rfl) ?_)
 refine .mv ?_
 refine .aj eI rfl rfl rfl rfl rfl rfl (aH rfl) rfl ?_
 refine .an ?_
 refine .nil (.ret ?_)
 exact ⟨_, rfl, _, _, _, Sh.lk (d := 0) 3 138 rfl rfl rfl rfl rF rfl ae, rfl, rfl, (⟨2, ([2, 3, 9, 10, 11, 12, 13, 14, 15, 16, 17, 18, 19, 20, 21, 22, 23, 24] : List Int).getD (p.op % (([2, 3, 9, 10, 11, 12, 13, 14, 15, 16, 17, 18, 19, 20, 21, 22, 23, 24] : List Int).length)) 0, 0, ([au n.aa (al p.width) p.a, au n.aa (al p.width) p.b] : List Int), 0, 0⟩ : Cell), _, zD hg (zC _) DC yI (.inr ⟨vX, rfl⟩), rfl, rfl⟩
theorem sG {n : ab} {p : pb} (hn : n.aa.length ≤ 1048576) (h0 : 0 < n.aa.length) (hp : p.Ok) (hg : Ground n) (hi : n.ins.length ≤ 1048576) : az Try.prog 54 [.agg (ab.oE n), .agg (pb.row p)] [] [] (fun r o => ∃ c w, jP n c w ∧ r = .tup [.agg (Cell.mw c), vi w] ∧ o = []) := by
 refine az.Mg Try.func54 rfl rfl rfl (n := 208) ae (aH rfl) ?_
 have Mz := hp.kind; have ER := hp.op; have Rh := hp.width; have OX := hp.a; have Ri := hp.b; have OY := hp.d; have Rj := hp.num; have LZ := Nat.mod_lt p.a h0; have Ma := Nat.mod_lt p.b h0
 refine .sr (.box 102 rfl rfl rfl rfl rfl ae (.box 103 rfl rfl rfl rfl rfl ae ?_))
 refine .alloc 104 dN rfl rfl ae ?_
 refine .an ?_
 refine .nil (.seq (.sh (Sh.dc 102 rfl rfl) ?_))
 refine .sh (Sh.dc 103 rfl rfl) (.region ?_)
 refine .fa zK ?_
 refine .ld pW ?_
 refine .aP rN (eN (k := p.width)) rfl (.ai rfl rfl .nil) ae rfl ?_
 refine .an ?_
 refine .nil (.sr ?_)
 refine .fa Ey ?_
 refine .ld pW ?_
 refine .vl (Y.jH rfl rfl bw) (.vl (Y.fo sY py rfl v3) (.vl (Y.aT rfl rfl bw) ?_))
 refine .vl (Y.build sZ dN rfl rfl rfl) (.alloc 107 dN rfl rfl ae (.aj eI rfl rfl rfl rfl rfl rfl (aH rfl) rfl ?_))
 refine .nil (.seq (.gX rfl aq ?_))
 refine .val (Y.fieldAddr jR rfl rfl) ae (.val (Y.gg qT rfl rfl (m := 0) rfl om rfl) ae (.val (Y.load pW rfl rfl rfl rfl) ae ?_))
 refine .val (Y.fieldAddr jR rfl rfl) ae (.val (Y.gg qT rfl rfl (m := 1) rfl om rfl) ae (.val (Y.load pW rfl rfl rfl rfl) ae ?_))
 refine .val (Y.fieldAddr jR rfl rfl) ae (.val (Y.gg qT rfl rfl (m := 2) rfl om rfl) ae (.val (Y.load pW rfl rfl rfl rfl) ae ?_))
 refine .val (Y.assign rfl rfl) ae (.val (Y.assign rfl rfl) ae (.val (Y.assign rfl rfl) ae ?_))
 refine .nil (.le (aR := ⟨[(2, .fp (ab.oE n) 0), (3, .fp (pb.row p) 0), (4, .ptr 104 0 0 0), (6, vi (al p.width)), (7, .ptr 107 0 0 0), (8, .v (.int .u8 (p.a : Int))), (9, .v (.int .u8 (p.b : Int))), (10, .v (.int .u8 (p.d : Int)))], [(104, .cells [vi 0, vi 0, vi 0, vn, .v (.int .u64 0), vi 0]), (107, .cells [vi (1 + ((p.kind : Int) % 10)), vi 0, vi (-1), vn, .v (.int .u64 0), vi 0])]⟩) (Le.mk (.c8 (.nil)) (.c2 (.nil))) ?_)
 refine .seq (.sr ?_)
 refine .fa cL ?_
 refine .ld br ?_
 refine .nil (.block (.sr ?_))
 refine .vl (Y.eql rfl rfl) ?_
 refine .an ?_
 refine .nil ?_
 refine .aB rfl (fun MO => ?_) (fun MO => ?_)
 refine .region ?_
 refine .mv ?_
 refine .fa sX ?_
 refine .ld gB ?_
 refine .aP Is (sF (w := (al p.width)) (x := p.num) (om)) rfl (.ai rfl rfl (.ai rfl rfl .nil)) ae rfl ?_
 refine .fa dX ?_
 refine .aj Ce rfl rfl rfl rfl rfl rfl (aH rfl) rfl (.nil ?_)
 refine .le (aR := ⟨[(4, .ptr 104 0 0 0), (6, vi (al p.width)), (7, .ptr 107 0 0 0)], [(104, .cells [vi 0, vi 0, vi 0, vn, .v (.int .u64 0), vi 0]), (107, .cells [vi (1 + ((p.kind : Int) % 10)), vi 0, vi (-1), vn, .v (.int .u64 ((kE (al p.width) p.num : Nat) : Int)), vi 0])]⟩) (Le.mk (.c2 (.c (.nil))) (.c2 (.nil))) ?_
 refine .sr (.vl (Y.aM eb rfl rfl (aH rfl) rfl rfl) ?_)
 refine .mv ?_
 refine .aj eI rfl rfl rfl rfl rfl rfl (aH rfl) rfl ?_
 refine .an ?_
 refine .nil (.sh (Sh.eF 104 399 1 3 rfl rfl rfl rfl ae) (.ret ?_))
 exact ⟨_, rfl, _, _, _, Sh.lk (d := 0) 3 399 rfl rfl rfl rfl rF rfl ae, rfl, rfl, (⟨1 + ((p.kind : Int) % 10), 0, -1, ([] : List Int), kE (al p.width) p.num, 0⟩ : Cell), _, zE hg om, rfl, rfl⟩
 refine .sr (.vl (Y.eql rfl rfl) ?_)
 refine .an ?_
 refine .nil ?_
 refine .aB rfl (fun uB => ?_) (fun uB => ?_)
 refine .sr (.vl (Y.aM eh rfl rfl (aH rfl) rfl rfl) (.vl (Y.aM EB rfl rfl (aH rfl) rfl rfl) ?_))
 refine .kz L1 (rV (n := n) (p := p) hn h0 hp hg hi) rfl (.ai rfl rfl (.ai rfl rfl .nil)) ae ?_
 rintro _ ⟨JE, Rl, NJ, rfl, _⟩
 refine ⟨rfl, ?_⟩
 refine .gp rfl rfl ae (.vl (Y.extract rfl rfl rfl) (.sh (Sh.Ai (d := 79) 3 2083 JE.args.length rfl rfl rfl ae (bu rfl)) ?_))
 refine .aj eI rfl rfl rfl rfl rfl rfl (aH rfl) rfl ?_
 refine .an ?_
 refine .nil (.ret ?_)
 exact ⟨_, rfl, _, _, _, Sh.lk (d := 0) 3 2083 rfl rfl rfl rfl rF rfl ae, rfl, rfl, JE, _, NJ, rfl, rfl⟩
 refine .sr (.vl (Y.eql rfl rfl) ?_)
 refine .an ?_
 refine .nil ?_
 refine .aB rfl (fun yJ => ?_) (fun yJ => ?_)
 refine .eJ rfl (.aM 0 rfl aq eh rfl rfl rfl (aH rfl) rfl rfl ae (.blind 1 rfl aq (ao.move rfl rfl) ae ?_))
 refine .aM 3 rfl aq eh rfl rfl rfl (aH rfl) rfl rfl ae (.blind 4 rfl aq (ao.move rfl rfl) ae (.blind 5 rfl aq (ao.move rfl rfl) ae ?_))
 refine .aM 7 rfl aq eh rfl rfl rfl (aH rfl) rfl rfl ae (.blind 8 rfl aq (ao.move rfl rfl) ae (.aM 10 rfl aq eh rfl rfl rfl (aH rfl) rfl rfl ae ?_))
 refine .blind 11 rfl aq (ao.move rfl rfl) ae (.blind 12 rfl aq (ao.fieldAddr px rfl rfl) ae (.load 13 rfl aq pW rfl rfl rfl rfl rfl ae ?_))
 refine .uZ (.one 2 rfl aq (.aP gA (cd (n := (⟨n.name, n.aa, n.cells, n.ins, n.aw, n.streams, [], [], n.freeze, n.done, []⟩ : ab)) (w := 1) (k := p.a) (by show (n.aa).length ≤ 1048576; omega) om) rfl (.ai rfl rfl (.ai rfl rfl (.ai rfl rfl .nil))) ae rfl ?_))
 refine .nil ⟨rfl, ?_⟩
 refine .one 6 rfl aq (.aP gA (cd (n := (⟨n.name, n.aa, n.cells, n.ins, n.aw, n.streams, [], [], n.freeze, n.done, []⟩ : ab)) (w := (al p.width)) (k := p.b) (by show (n.aa).length ≤ 1048576; omega) om) rfl (.ai rfl rfl (.ai rfl rfl (.ai rfl rfl .nil))) ae rfl ?_)
 refine .nil ⟨rfl, ?_⟩
 refine .one 9 rfl aq (.aP gA (cd (n := (⟨n.name, n.aa, n.cells, n.ins, n.aw, n.streams, [], [], n.freeze, n.done, []⟩ : ab)) (w := 1) (k := p.d) (by show (n.aa).length ≤ 1048576; omega) om) rfl (.ai rfl rfl (.ai rfl rfl (.ai rfl rfl .nil))) ae rfl ?_)
 refine .nil ⟨rfl, ?_⟩
 refine .one 14 rfl aq (.aP gA (cd (n := (⟨n.name, n.aa, n.cells, n.ins, n.aw, n.streams, [], [], n.freeze, n.done, []⟩ : ab)) (w := (al p.width)) (k := p.op) (by show (n.aa).length ≤ 1048576; omega) om) rfl (.ai rfl rfl (.ai rfl rfl (.ai rfl rfl .nil))) ae rfl ?_)
 refine .nil ⟨rfl, ?_⟩
 refine .one 15 rfl aq ?_
 refine .buildSlice (([au n.aa 1 p.a, au n.aa (al p.width) p.b, au n.aa 1 p.d, au n.aa (al p.width) p.op] : List Int).map ah) a7 e0 rfl rfl rfl rfl rfl (ay (s := 1) (f := ah) (fun _ => rfl)) rfl rfl rfl ae ?_
 refine .nil ⟨rfl, ?_⟩
 refine .one 16 rfl aq ?_
 refine .fa bF ?_
 refine .nil ⟨rfl, ?_⟩
 refine .one 17 rfl aq (.sh (Sh.ed (d := 98) (n := ([au n.aa 1 p.a, au n.aa (al p.width) p.b, au n.aa 1 p.d, au n.aa (al p.width) p.op] : List Int).length) 198 (([au n.aa 1 p.a, au n.aa (al p.width) p.b, au n.aa 1 p.d, au n.aa (al p.width) p.op] : List Int).map ah) rfl kq (bu rfl) ae) (.aj fg rfl rfl rfl rfl rfl rfl (aH rfl) rfl ?_))
 refine .nil ⟨rfl, ?_⟩
 refine .done aq (.le (aR := ⟨[(4, .ptr 104 0 0 0), (6, vi (al p.width)), (7, .ptr 107 0 0 0)], [(104, .cells [vi 0, vi 0, vi 0, vn, .v (.int .u64 0), vi 0]), (107, .cells [vi (1 + ((p.kind : Int) % 10)), vi 0, vi (-1), .aY 198 1 0 (([au n.aa 1 p.a, au n.aa (al p.width) p.b, au n.aa 1 p.d, au n.aa (al p.width) p.op] : List Int).length), .v (.int .u64 0), vi 0]), (198, .rows 1 (([au n.aa 1 p.a, au n.aa (al p.width) p.b, au n.aa 1 p.d, au n.aa (al p.width) p.op] : List Int).map ah))]⟩) (Le.mk (.c2 (.c (.nil))) (.c2 (.c (.nil)))) ?_)
 refine .sr (.vl (Y.aM eb rfl rfl (aH rfl) rfl rfl) ?_)
 refine .mv ?_
 refine .aj eI rfl rfl rfl rfl rfl rfl (aH rfl) rfl ?_
 refine .an ?_
 refine .nil (.ret ?_)
 exact ⟨_, rfl, _, _, _, Sh.lk (d := 0) 3 198 rfl rfl rfl rfl rF rfl ae, rfl, rfl, (⟨1 + ((p.kind : Int) % 10), 0, -1, ([au n.aa 1 p.a, au n.aa (al p.width) p.b, au n.aa 1 p.d, au n.aa (al p.width) p.op] : List Int), 0, 0⟩ : Cell), _, Em hg om, rfl, rfl⟩
 refine .sr (.vl (Y.eql rfl rfl) ?_)
 refine .an ?_
 refine .nil ?_
 refine .aB rfl (fun NK => ?_) (fun NK => ?_)
 refine .sr ?_
 refine .mv ?_
 refine .fa sX ?_
 refine .ld gB ?_
 refine .aP Is (sF (w := (al p.width)) (x := p.num) (om)) rfl (.ai rfl rfl (.ai rfl rfl .nil)) ae rfl ?_
 refine .fa dX ?_
 refine .aj Ce rfl rfl rfl rfl rfl rfl (aH rfl) rfl (.nil ?_)
 refine .le (aR := ⟨[(2, .fp (ab.oE n) 0), (4, .ptr 104 0 0 0), (6, vi (al p.width)), (7, .ptr 107 0 0 0), (8, .v (.int .u8 (p.a : Int))), (9, .v (.int .u8 (p.b : Int)))], [(104, .cells [vi 0, vi 0, vi 0, vn, .v (.int .u64 0), vi 0]), (107, .cells [vi (1 + ((p.kind : Int) % 10)), vi 0, vi (-1), vn, .v (.int .u64 ((kE (al p.width) p.num : Nat) : Int)), vi 0])]⟩) (Le.mk (.c4 (.c2 (.nil))) (.c2 (.nil))) ?_
 refine .eJ rfl (.aM 0 rfl aq eh rfl rfl rfl (aH rfl) rfl rfl ae (.blind 1 rfl aq (ao.move rfl rfl) ae ?_))
 refine .aM 3 rfl aq eh rfl rfl rfl (aH rfl) rfl rfl ae (.blind 4 rfl aq (ao.move rfl rfl) ae (.blind 5 rfl aq (ao.move rfl rfl) ae ?_))
 refine .uZ (.one 2 rfl aq (.aP gA (cd (n := (⟨n.name, n.aa, n.cells, n.ins, n.aw, n.streams, [], [], n.freeze, n.done, []⟩ : ab)) (w := 1) (k := p.a) (by show (n.aa).length ≤ 1048576; omega) om) rfl (.ai rfl rfl (.ai rfl rfl (.ai rfl rfl .nil))) ae rfl ?_))
 refine .nil ⟨rfl, ?_⟩
 refine .one 6 rfl aq (.aP gA (cd (n := (⟨n.name, n.aa, n.cells, n.ins, n.aw, n.streams, [], [], n.freeze, n.done, []⟩ : ab)) (w := (al p.width)) (k := p.b) (by show (n.aa).length ≤ 1048576; omega) om) rfl (.ai rfl rfl (.ai rfl rfl (.ai rfl rfl .nil))) ae rfl ?_)
 refine .nil ⟨rfl, ?_⟩
 refine .one 7 rfl aq ?_
 refine .buildSlice (([au n.aa 1 p.a, au n.aa (al p.width) p.b] : List Int).map ah) a7 e0 rfl rfl rfl rfl rfl (ay (s := 1) (f := ah) (fun _ => rfl)) rfl rfl rfl ae ?_
 refine .nil ⟨rfl, ?_⟩
 refine .one 8 rfl aq ?_
 refine .fa bF ?_
 refine .nil ⟨rfl, ?_⟩
 refine .one 9 rfl aq (.sh (Sh.ed (d := 114) (n := ([au n.aa 1 p.a, au n.aa (al p.width) p.b] : List Int).length) 214 (([au n.aa 1 p.a, au n.aa (al p.width) p.b] : List Int).map ah) rfl kq (bu rfl) ae) (.aj fg rfl rfl rfl rfl rfl rfl (aH rfl) rfl ?_))
 refine .nil ⟨rfl, ?_⟩
 refine .done aq (.le (aR := ⟨[(4, .ptr 104 0 0 0), (6, vi (al p.width)), (7, .ptr 107 0 0 0)], [(104, .cells [vi 0, vi 0, vi 0, vn, .v (.int .u64 0), vi 0]), (107, .cells [vi (1 + ((p.kind : Int) % 10)), vi 0, vi (-1), .aY 214 1 0 (([au n.aa 1 p.a, au n.aa (al p.width) p.b] : List Int).length), .v (.int .u64 ((kE (al p.width) p.num : Nat) : Int)), vi 0]), (214, .rows 1 (([au n.aa 1 p.a, au n.aa (al p.width) p.b] : List Int).map ah))]⟩) (Le.mk (.c2 (.c (.nil))) (.c2 (.c (.nil)))) ?_)
 refine .sr (.vl (Y.aM eb rfl rfl (aH rfl) rfl rfl) ?_)
 refine .mv ?_
 refine .aj eI rfl rfl rfl rfl rfl rfl (aH rfl) rfl ?_
 refine .an ?_
 refine .nil (.ret ?_)
 exact ⟨_, rfl, _, _, _, Sh.lk (d := 0) 3 214 rfl rfl rfl rfl rF rfl ae, rfl, rfl, (⟨1 + ((p.kind : Int) % 10), 0, -1, ([au n.aa 1 p.a, au n.aa (al p.width) p.b] : List Int), kE (al p.width) p.num, 0⟩ : Cell), _, En hg om, rfl, rfl⟩
 refine .sr (.vl (Y.eql rfl rfl) ?_)
 refine .an ?_
 refine .nil ?_
 refine .aB rfl (fun wu => ?_) (fun wu => ?_)
 refine .sr ?_
 refine .fa px ?_
 refine .ld pW ?_
 refine .vl (Y.jH rfl rfl bw) (.vl (Y.fo sY py rfl v3) (.vl (Y.aT rfl rfl bw) ?_))
 refine .fa eg ?_
 refine .aj e8 rfl rfl rfl rfl rfl rfl (aH rfl) rfl (.nil (.sr ?_))
 refine .fa sX ?_
 refine .ld gB ?_
 refine .vl (Y.Ef (a := p.num) (b := 4) rfl rfl om) (.vl (Y.HD (a := 1) (b := (p.num % 4)) rfl rfl) ?_)
 refine .fa dX ?_
 refine .aj Ce rfl rfl rfl rfl rfl rfl (aH rfl) rfl (.nil ?_)
 refine .le (aR := ⟨[(2, .fp (ab.oE n) 0), (4, .ptr 104 0 0 0), (6, vi (al p.width)), (7, .ptr 107 0 0 0), (8, .v (.int .u8 (p.a : Int))), (9, .v (.int .u8 (p.b : Int)))], [(104, .cells [vi 0, vi 0, vi 0, vn, .v (.int .u64 0), vi 0]), (107, .cells [vi (1 + ((p.kind : Int) % 10)), vi (4 + ((p.op : Int) % 5)), vi (-1), vn, .v (.int .u64 (((1 + (p.num % 4)) % 18446744073709551616 : Nat) : Int)), vi 0])]⟩) (Le.mk (.c4 (.c2 (.nil))) (.c2 (.nil))) ?_
 refine .eJ rfl (.aM 0 rfl aq eh rfl rfl rfl (aH rfl) rfl rfl ae (.blind 1 rfl aq (ao.move rfl rfl) ae ?_))
 refine .blind 2 rfl aq (ao.move rfl rfl) ae (.aM 4 rfl aq eh rfl rfl rfl (aH rfl) rfl rfl ae (.blind 5 rfl aq (ao.move rfl rfl) ae ?_))
 refine .blind 6 rfl aq (ao.move rfl rfl) ae (.uZ (.one 3 rfl aq ?_))
 refine .aP gA (cd (n := (⟨n.name, n.aa, n.cells, n.ins, n.aw, n.streams, [], [], n.freeze, n.done, []⟩ : ab)) (w := (al p.width)) (k := p.a) (by show (n.aa).length ≤ 1048576; omega) om) rfl (.ai rfl rfl (.ai rfl rfl (.ai rfl rfl .nil))) ae rfl ?_
 refine .nil ⟨rfl, ?_⟩
 refine .one 7 rfl aq (.aP gA (cd (n := (⟨n.name, n.aa, n.cells, n.ins, n.aw, n.streams, [], [], n.freeze, n.done, []⟩ : ab)) (w := (al p.width)) (k := p.b) (by show (n.aa).length ≤ 1048576; omega) om) rfl (.ai rfl rfl (.ai rfl rfl (.ai rfl rfl .nil))) ae rfl ?_)
 refine .nil ⟨rfl, ?_⟩
 refine .one 8 rfl aq ?_
 refine .buildSlice (([au n.aa (al p.width) p.a, au n.aa (al p.width) p.b] : List Int).map ah) a7 e0 rfl rfl rfl rfl rfl (ay (s := 1) (f := ah) (fun _ => rfl)) rfl rfl rfl ae ?_
 refine .nil ⟨rfl, ?_⟩
 refine .one 9 rfl aq ?_
 refine .fa bF ?_
 refine .nil ⟨rfl, ?_⟩
 refine .one 10 rfl aq (.sh (Sh.ed (d := 137) (n := ([au n.aa (al p.width) p.a, au n.aa (al p.width) p.b] : List Int).length) 237 (([au n.aa (al p.width) p.a, au n.aa (al p.width) p.b] : List Int).map ah) rfl kq (bu rfl) ae) (.aj fg rfl rfl rfl rfl rfl rfl (aH rfl) rfl ?_))
 refine .nil ⟨rfl, ?_⟩
 refine .done aq (.le (aR := ⟨[(4, .ptr 104 0 0 0), (6, vi (al p.width)), (7, .ptr 107 0 0 0)], [(104, .cells [vi 0, vi 0, vi 0, vn, .v (.int .u64 0), vi 0]), (107, .cells [vi (1 + ((p.kind : Int) % 10)), vi (4 + ((p.op : Int) % 5)), vi (-1), .aY 237 1 0 (([au n.aa (al p.width) p.a, au n.aa (al p.width) p.b] : List Int).length), .v (.int .u64 (((1 + (p.num % 4)) % 18446744073709551616 : Nat) : Int)), vi 0]), (237, .rows 1 (([au n.aa (al p.width) p.a, au n.aa (al p.width) p.b] : List Int).map ah))]⟩) (Le.mk (.c2 (.c (.nil))) (.c2 (.c (.nil)))) ?_)
 refine .sr (.vl (Y.aM eb rfl rfl (aH rfl) rfl rfl) ?_)
 refine .mv ?_
 refine .aj eI rfl rfl rfl rfl rfl rfl (aH rfl) rfl ?_
 refine .an ?_
 refine .nil (.ret ?_)
 exact ⟨_, rfl, _, _, _, Sh.lk (d := 0) 3 237 rfl rfl rfl rfl rF rfl ae, rfl, rfl, (⟨1 + ((p.kind : Int) % 10), 4 + ((p.op : Int) % 5), -1, ([au n.aa (al p.width) p.a, au n.aa (al p.width) p.b] : List Int), (1 + (p.num % 4)) % 18446744073709551616, 0⟩ : Cell), _, BV hg om om om, rfl, rfl⟩
 refine .seq (.sr (.vl (Y.eql rfl rfl) ?_))
 refine .an ?_
 refine .nil ?_
 refine .bD rfl (fun FV => ?_) (fun FV => ?_)
 refine .skip (.aV rfl (.seq ?_))
 refine .sr ?_
 refine .fa fK ?_
 refine .ld nD ?_
 refine .vl (Y.len (n := n.aw.length) kJ rfl dG) (.vl (Y.eql rfl rfl) (.nil ?_))
 refine .aB rfl (fun Ax => ?_) (fun Ax => ?_)
 refine .sr (.vl (Y.build sZ dN rfl rfl rfl) (.aj eI rfl rfl rfl rfl rfl rfl (aH rfl) rfl ?_))
 refine .an ?_
 refine .nil (.sh (Sh.eF 104 399 1 3 rfl rfl rfl rfl ae) (.ret ?_))
 exact ⟨_, rfl, _, _, _, Sh.lk (d := 0) 3 399 rfl rfl rfl rfl rF rfl ae, rfl, rfl, (⟨0, 0, 0, ([] : List Int), 0, 0⟩ : Cell), _, qu hg, rfl, rfl⟩
 refine .skip (.sr ?_)
 refine .fa px ?_
 refine .ld pW ?_
 refine .vl (Y.fo sY py rfl v3) ?_
 refine .fa fK ?_
 refine .ld nD ?_
 refine .vl (Y.len (n := n.aw.length) kJ rfl dG) (.vl (Y.jH rfl rfl bw) ?_)
 refine .fa cV ?_
 refine .aj e8 rfl rfl rfl rfl rfl rfl (aH rfl) rfl (.nil (.seq ?_))
 have NL : p.op % n.aw.length < n.aw.length := Nat.mod_lt _ om
 refine .region ?_
 refine .fa fK ?_
 refine .ld nD ?_
 refine .fa cV ?_
 refine .ld br ?_
 refine .vl (Y.aK (m := p.op % n.aw.length) kJ rfl rfl b5 (ax (d := default) om)) ?_
 refine .fa qV ?_
 refine .ld br ?_
 refine .an ?_
 refine .nil (.le (aR := ⟨[(2, .fp (ab.oE n) 0), (4, .ptr 104 0 0 0), (6, vi ((n.aw.getD (p.op % n.aw.length) default).width)), (7, .ptr 107 0 0 0), (8, .v (.int .u8 (p.a : Int))), (9, .v (.int .u8 (p.b : Int))), (10, .v (.int .u8 (p.d : Int)))], [(104, .cells [vi 0, vi 0, vi 0, vn, .v (.int .u64 0), vi 0]), (107, .cells [vi (1 + ((p.kind : Int) % 10)), vi 0, vi (-1), vn, .v (.int .u64 0), vi ((p.op : Int) % (n.aw.length : Int))])]⟩) (Le.mk (.c4 (.c2 (.c (.nil)))) (.c2 (.nil))) ?_)
 refine .seq (.eJ rfl (.aM 0 rfl aq eh rfl rfl rfl (aH rfl) rfl rfl ae ?_))
 refine .blind 1 rfl aq (ao.move rfl rfl) ae (.blind 3 rfl aq (ao.move rfl rfl) ae ?_)
 refine .blind 4 rfl aq (ao.fo sY py rfl v3) ae ?_
 refine .blind 5 rfl aq (ao.fieldAddr bN rfl rfl) ae (.load 6 rfl aq bh rfl rfl rfl rfl rfl ae (.blind 7 rfl aq (ao.len (n := n.aa.length) a7 rfl dG) ae ?_))
 refine .blind 8 rfl aq (ao.jH rfl rfl om) ae ?_
 refine .uZ (.one 2 rfl aq (.aP gA (cd (n := (⟨n.name, n.aa, n.cells, n.ins, n.aw, n.streams, [], [], n.freeze, n.done, []⟩ : ab)) (w := 1) (k := p.a) (by show (n.aa).length ≤ 1048576; omega) om) rfl (.ai rfl rfl (.ai rfl rfl (.ai rfl rfl .nil))) ae rfl ?_))
 refine .nil ⟨rfl, ?_⟩
 refine .one 9 rfl aq ?_
 refine .buildSlice (([au n.aa 1 p.a, (p.b : Int) % (n.aa.length : Int)] : List Int).map ah) a7 e0 rfl rfl rfl rfl rfl (ay (s := 1) (f := ah) (fun _ => rfl)) rfl rfl rfl ae ?_
 refine .nil ⟨rfl, ?_⟩
 refine .one 10 rfl aq ?_
 refine .fa bF ?_
 refine .nil ⟨rfl, ?_⟩
 refine .one 11 rfl aq (.sh (Sh.ed (d := 171) (n := ([au n.aa 1 p.a, (p.b : Int) % (n.aa.length : Int)] : List Int).length) 271 (([au n.aa 1 p.a, (p.b : Int) % (n.aa.length : Int)] : List Int).map ah) rfl kq (bu rfl) ae) (.aj fg rfl rfl rfl rfl rfl rfl (aH rfl) rfl ?_))
 refine .nil ⟨rfl, ?_⟩
 refine .done aq (.le (aR := ⟨[(2, .fp (ab.oE n) 0), (4, .ptr 104 0 0 0), (6, vi ((n.aw.getD (p.op % n.aw.length) default).width)), (7, .ptr 107 0 0 0), (10, .v (.int .u8 (p.d : Int)))], [(104, .cells [vi 0, vi 0, vi 0, vn, .v (.int .u64 0), vi 0]), (107, .cells [vi (1 + ((p.kind : Int) % 10)), vi 0, vi (-1), .aY 271 1 0 (([au n.aa 1 p.a, (p.b : Int) % (n.aa.length : Int)] : List Int).length), .v (.int .u64 0), vi ((p.op : Int) % (n.aw.length : Int))]), (271, .rows 1 (([au n.aa 1 p.a, (p.b : Int) % (n.aa.length : Int)] : List Int).map ah))]⟩) (Le.mk (.c4 (.c (.nil))) (.c2 (.c (.nil)))) (.sr ?_))
 refine .fa cL ?_
 refine .ld br ?_
 refine .vl (Y.eql rfl rfl) (.nil ?_)
 refine .aB rfl (fun FW => ?_) (fun FW => ?_)
 refine .ei (⟨[(4, .ptr 104 0 0 0), (6, .v (.int .i64 ((n.aw.getD (p.op % n.aw.length) default).width))), (7, .ptr 107 0 0 0)], [(104, .cells [.v (.int .i64 0), .v (.int .i64 0), .v (.int .i64 0), vn, .v (.int .u64 0), .v (.int .i64 0)]), (107, .cells [.v (.int .i64 (1 + ((p.kind : Int) % 10))), .v (.int .i64 0), .v (.int .i64 (-1)), .aY 271 1 0 ((([au n.aa 1 p.a, (p.b : Int) % (n.aa.length : Int)] : List Int) ++ ([au n.aa ((n.aw.getD (p.op % n.aw.length) default).width) p.d] : List Int)).length), .v (.int .u64 0), .v (.int .i64 ((p.op : Int) % (n.aw.length : Int)))]), (271, .rows 1 ((([au n.aa 1 p.a, (p.b : Int) % (n.aa.length : Int)] : List Int) ++ ([au n.aa ((n.aw.getD (p.op % n.aw.length) default).width) p.d] : List Int)).map ah))]⟩) rfl ?_ ?_
 refine .blind 0 rfl aq (ao.fieldAddr bF rfl rfl) ae (.aM 2 rfl aq eh rfl rfl rfl (aH rfl) rfl rfl ae (.blind 3 rfl aq (ao.move rfl rfl) ae ?_))
 refine .blind 4 rfl aq (ao.move rfl rfl) ae (.uZ ?_)
 refine .two 1 5 rfl rfl aq ?_ ?_
 refine .ld bh ?_
 refine .nil ⟨rfl, ?_⟩
 refine .one 5 rfl aq (.aP gA (cd (n := (⟨n.name, n.aa, n.cells, n.ins, n.aw, n.streams, [], [], n.freeze, n.done, []⟩ : ab)) (w := ((n.aw.getD (p.op % n.aw.length) default).width)) (k := p.d) (by show (n.aa).length ≤ 1048576; omega) om) rfl (.ai rfl rfl (.ai rfl rfl (.ai rfl rfl .nil))) ae rfl ?_)
 refine .nil ⟨rfl, ?_⟩
 refine .one 6 rfl aq ?_
 refine .buildSlice (([au n.aa ((n.aw.getD (p.op % n.aw.length) default).width) p.d] : List Int).map ah) a7 e0 rfl rfl rfl rfl rfl (ay (s := 1) (f := ah) (fun _ => rfl)) rfl rfl rfl ae ?_
 refine .nil ⟨rfl, ?_⟩
 refine .one 7 rfl aq (.bs ((([au n.aa 1 p.a, (p.b : Int) % (n.aa.length : Int)] : List Int) ++ ([au n.aa ((n.aw.getD (p.op % n.aw.length) default).width) p.d] : List Int)).map ah) (([au n.aa 1 p.a, (p.b : Int) % (n.aa.length : Int)] : List Int) ++ ([au n.aa ((n.aw.getD (p.op % n.aw.length) default).width) p.d] : List Int)).length a7 e0 rfl rfl rfl rfl (bL bw) (bq bw) (cE bw) bw bw ae ae ?_)
 refine .nil ⟨rfl, ?_⟩
 refine .one 8 rfl aq ?_
 refine .fa bF ?_
 refine .nil ⟨rfl, ?_⟩
 refine .one 9 rfl aq (.aj fg rfl rfl rfl rfl rfl rfl (aH rfl) rfl ?_)
 refine .nil ⟨rfl, ?_⟩
 refine .done aq ?_
 exact Le.mk (.c2 (.c (.nil))) (.c2 (.c (.nil)))
 refine .aP gA (cd (n := (⟨n.name, n.aa, n.cells, n.ins, n.aw, n.streams, [], [], n.freeze, n.done, []⟩ : ab)) (w := ((n.aw.getD (p.op % n.aw.length) default).width)) (k := p.d) (by show (n.aa).length ≤ 1048576; omega) om) rfl (.ai rfl rfl (.ai rfl rfl (.ai rfl rfl .nil))) ae rfl ?_
 refine .nil ⟨rfl, ?_⟩
 refine .two 1 6 rfl rfl aq ?_ ?_
 refine .ld bh ?_
 refine .nil ⟨rfl, ?_⟩
 refine .one 6 rfl aq ?_
 refine .buildSlice (([au n.aa ((n.aw.getD (p.op % n.aw.length) default).width) p.d] : List Int).map ah) a7 e0 rfl rfl rfl rfl rfl (ay (s := 1) (f := ah) (fun _ => rfl)) rfl rfl rfl ae ?_
 refine .nil ⟨rfl, ?_⟩
 refine .one 7 rfl aq (.bs ((([au n.aa 1 p.a, (p.b : Int) % (n.aa.length : Int)] : List Int) ++ ([au n.aa ((n.aw.getD (p.op % n.aw.length) default).width) p.d] : List Int)).map ah) (([au n.aa 1 p.a, (p.b : Int) % (n.aa.length : Int)] : List Int) ++ ([au n.aa ((n.aw.getD (p.op % n.aw.length) default).width) p.d] : List Int)).length a7 e0 rfl rfl rfl rfl (bL bw) (bq bw) (cE bw) bw bw ae ae ?_)
 refine .nil ⟨rfl, ?_⟩
 refine .one 8 rfl aq ?_
 refine .fa bF ?_
 refine .nil ⟨rfl, ?_⟩
 refine .one 9 rfl aq (.aj fg rfl rfl rfl rfl rfl rfl (aH rfl) rfl ?_)
 refine .nil ⟨rfl, ?_⟩
 refine .done aq ?_
 exact Le.mk (.c2 (.c (.nil))) (.c2 (.c (.nil)))
 refine .buildSlice (([au n.aa ((n.aw.getD (p.op % n.aw.length) default).width) p.d] : List Int).map ah) a7 e0 rfl rfl rfl rfl rfl (ay (s := 1) (f := ah) (fun _ => rfl)) rfl rfl rfl ae ?_
 refine .nil ⟨rfl, ?_⟩
 refine .one 1 rfl aq ?_
 refine .ld bh ?_
 refine .nil ⟨rfl, ?_⟩
 refine .one 7 rfl aq (.bs ((([au n.aa 1 p.a, (p.b : Int) % (n.aa.length : Int)] : List Int) ++ ([au n.aa ((n.aw.getD (p.op % n.aw.length) default).width) p.d] : List Int)).map ah) (([au n.aa 1 p.a, (p.b : Int) % (n.aa.length : Int)] : List Int) ++ ([au n.aa ((n.aw.getD (p.op % n.aw.length) default).width) p.d] : List Int)).length a7 e0 rfl rfl rfl rfl (bL bw) (bq bw) (cE bw) bw bw ae ae ?_)
 refine .nil ⟨rfl, ?_⟩
 refine .one 8 rfl aq ?_
 refine .fa bF ?_
 refine .nil ⟨rfl, ?_⟩
 refine .one 9 rfl aq (.aj fg rfl rfl rfl rfl rfl rfl (aH rfl) rfl ?_)
 refine .nil ⟨rfl, ?_⟩
 refine .done aq ?_
 exact Le.mk (.c2 (.c (.nil))) (.c2 (.c (.nil)))
 refine .le (aR := ⟨[(4, .ptr 104 0 0 0), (6, vi ((n.aw.getD (p.op % n.aw.length) default).width)), (7, .ptr 107 0 0 0)], [(104, .cells [vi 0, vi 0, vi 0, vn, .v (.int .u64 0), vi 0]), (107, .cells [vi (1 + ((p.kind : Int) % 10)), vi 0, vi (-1), .aY 271 1 0 ((([au n.aa 1 p.a, (p.b : Int) % (n.aa.length : Int)] : List Int) ++ ([au n.aa ((n.aw.getD (p.op % n.aw.length) default).width) p.d] : List Int)).length), .v (.int .u64 0), vi ((p.op : Int) % (n.aw.length : Int))]), (271, .rows 1 ((([au n.aa 1 p.a, (p.b : Int) % (n.aa.length : Int)] : List Int) ++ ([au n.aa ((n.aw.getD (p.op % n.aw.length) default).width) p.d] : List Int)).map ah))]⟩) (Le.mk (.c2 (.c (.nil))) (.c2 (.c (.nil)))) ?_
 refine .sr (.vl (Y.aM eb rfl rfl (aH rfl) rfl rfl) ?_)
 refine .mv ?_
 refine .aj eI rfl rfl rfl rfl rfl rfl (aH rfl) rfl ?_
 refine .an ?_
 refine .nil (.ret ?_)
 exact ⟨_, rfl, _, _, _, Sh.lk (d := 0) 3 271 rfl rfl rfl rfl rF rfl ae, rfl, rfl, (⟨1 + ((p.kind : Int) % 10), 0, -1, ([au n.aa 1 p.a, (p.b : Int) % (n.aa.length : Int)] : List Int) ++ ([au n.aa ((n.aw.getD (p.op % n.aw.length) default).width) p.d] : List Int), 0, (p.op : Int) % (n.aw.length : Int)⟩ : Cell), _, uk hg h0 om om, rfl, rfl⟩
 refine .skip (.le (aR := ⟨[(4, .ptr 104 0 0 0), (6, vi ((n.aw.getD (p.op % n.aw.length) default).width)), (7, .ptr 107 0 0 0)], [(104, .cells [vi 0, vi 0, vi 0, vn, .v (.int .u64 0), vi 0]), (107, .cells [vi (1 + ((p.kind : Int) % 10)), vi 0, vi (-1), .aY 271 1 0 (([au n.aa 1 p.a, (p.b : Int) % (n.aa.length : Int)] : List Int).length), .v (.int .u64 0), vi ((p.op : Int) % (n.aw.length : Int))]), (271, .rows 1 (([au n.aa 1 p.a, (p.b : Int) % (n.aa.length : Int)] : List Int).map ah))]⟩) (Le.mk (.c2 (.c (.nil))) (.c2 (.c (.nil)))) ?_)
 refine .sr (.vl (Y.aM eb rfl rfl (aH rfl) rfl rfl) ?_)
 refine .mv ?_
 refine .aj eI rfl rfl rfl rfl rfl rfl (aH rfl) rfl ?_
 refine .an ?_
 refine .nil (.ret ?_)
 exact ⟨_, rfl, _, _, _, Sh.lk (d := 0) 3 271 rfl rfl rfl rfl rF rfl ae, rfl, rfl, (⟨1 + ((p.kind : Int) % 10), 0, -1, ([au n.aa 1 p.a, (p.b : Int) % (n.aa.length : Int)] : List Int), 0, (p.op : Int) % (n.aw.length : Int)⟩ : Cell), _, wU hg h0 om om, rfl, rfl⟩
 refine .region (.vl (Y.eql rfl rfl) ?_)
 refine .an ?_
 refine .nil ?_
 refine .bD rfl (fun FV => ?_) (fun FV => ?_)
 refine .seq (.sr ?_)
 refine .fa fK ?_
 refine .ld nD ?_
 refine .vl (Y.len (n := n.aw.length) kJ rfl dG) (.vl (Y.eql rfl rfl) (.nil ?_))
 refine .aB rfl (fun Ax => ?_) (fun Ax => ?_)
 refine .sr (.vl (Y.build sZ dN rfl rfl rfl) (.aj eI rfl rfl rfl rfl rfl rfl (aH rfl) rfl ?_))
 refine .an ?_
 refine .nil (.sh (Sh.eF 104 399 1 3 rfl rfl rfl rfl ae) (.ret ?_))
 exact ⟨_, rfl, _, _, _, Sh.lk (d := 0) 3 399 rfl rfl rfl rfl rF rfl ae, rfl, rfl, (⟨0, 0, 0, ([] : List Int), 0, 0⟩ : Cell), _, qu hg, rfl, rfl⟩
 refine .skip (.sr ?_)
 refine .fa px ?_
 refine .ld pW ?_
 refine .vl (Y.fo sY py rfl v3) ?_
 refine .fa fK ?_
 refine .ld nD ?_
 refine .vl (Y.len (n := n.aw.length) kJ rfl dG) (.vl (Y.jH rfl rfl bw) ?_)
 refine .fa cV ?_
 refine .aj e8 rfl rfl rfl rfl rfl rfl (aH rfl) rfl (.nil (.seq ?_))
 have NL : p.op % n.aw.length < n.aw.length := Nat.mod_lt _ om
 refine .region ?_
 refine .fa fK ?_
 refine .ld nD ?_
 refine .fa cV ?_
 refine .ld br ?_
 refine .vl (Y.aK (m := p.op % n.aw.length) kJ rfl rfl b5 (ax (d := default) om)) ?_
 refine .fa qV ?_
 refine .ld br ?_
 refine .an ?_
 refine .nil (.le (aR := ⟨[(2, .fp (ab.oE n) 0), (4, .ptr 104 0 0 0), (6, vi ((n.aw.getD (p.op % n.aw.length) default).width)), (7, .ptr 107 0 0 0), (8, .v (.int .u8 (p.a : Int))), (9, .v (.int .u8 (p.b : Int))), (10, .v (.int .u8 (p.d : Int)))], [(104, .cells [vi 0, vi 0, vi 0, vn, .v (.int .u64 0), vi 0]), (107, .cells [vi (1 + ((p.kind : Int) % 10)), vi 0, vi (-1), vn, .v (.int .u64 0), vi ((p.op : Int) % (n.aw.length : Int))])]⟩) (Le.mk (.c4 (.c2 (.c (.nil)))) (.c2 (.nil))) ?_)
 refine .seq (.eJ rfl (.aM 0 rfl aq eh rfl rfl rfl (aH rfl) rfl rfl ae ?_))
 refine .blind 1 rfl aq (ao.move rfl rfl) ae (.blind 3 rfl aq (ao.move rfl rfl) ae ?_)
 refine .blind 4 rfl aq (ao.fo sY py rfl v3) ae ?_
 refine .blind 5 rfl aq (ao.fieldAddr bN rfl rfl) ae (.load 6 rfl aq bh rfl rfl rfl rfl rfl ae (.blind 7 rfl aq (ao.len (n := n.aa.length) a7 rfl dG) ae ?_))
 refine .blind 8 rfl aq (ao.jH rfl rfl om) ae ?_
 refine .uZ (.one 2 rfl aq (.aP gA (cd (n := (⟨n.name, n.aa, n.cells, n.ins, n.aw, n.streams, [], [], n.freeze, n.done, []⟩ : ab)) (w := 1) (k := p.a) (by show (n.aa).length ≤ 1048576; omega) om) rfl (.ai rfl rfl (.ai rfl rfl (.ai rfl rfl .nil))) ae rfl ?_))
 refine .nil ⟨rfl, ?_⟩
 refine .one 9 rfl aq ?_
 refine .buildSlice (([au n.aa 1 p.a, (p.b : Int) % (n.aa.length : Int)] : List Int).map ah) a7 e0 rfl rfl rfl rfl rfl (ay (s := 1) (f := ah) (fun _ => rfl)) rfl rfl rfl ae ?_
 refine .nil ⟨rfl, ?_⟩
 refine .one 10 rfl aq ?_
 refine .fa bF ?_
 refine .nil ⟨rfl, ?_⟩
 refine .one 11 rfl aq (.sh (Sh.ed (d := 171) (n := ([au n.aa 1 p.a, (p.b : Int) % (n.aa.length : Int)] : List Int).length) 271 (([au n.aa 1 p.a, (p.b : Int) % (n.aa.length : Int)] : List Int).map ah) rfl kq (bu rfl) ae) (.aj fg rfl rfl rfl rfl rfl rfl (aH rfl) rfl ?_))
 refine .nil ⟨rfl, ?_⟩
 refine .done aq (.le (aR := ⟨[(2, .fp (ab.oE n) 0), (4, .ptr 104 0 0 0), (6, vi ((n.aw.getD (p.op % n.aw.length) default).width)), (7, .ptr 107 0 0 0), (10, .v (.int .u8 (p.d : Int)))], [(104, .cells [vi 0, vi 0, vi 0, vn, .v (.int .u64 0), vi 0]), (107, .cells [vi (1 + ((p.kind : Int) % 10)), vi 0, vi (-1), .aY 271 1 0 (([au n.aa 1 p.a, (p.b : Int) % (n.aa.length : Int)] : List Int).length), .v (.int .u64 0), vi ((p.op : Int) % (n.aw.length : Int))]), (271, .rows 1 (([au n.aa 1 p.a, (p.b : Int) % (n.aa.length : Int)] : List Int).map ah))]⟩) (Le.mk (.c4 (.c (.nil))) (.c2 (.c (.nil)))) (.sr ?_))
 refine .fa cL ?_
 refine .ld br ?_
 refine .vl (Y.eql rfl rfl) (.nil ?_)
 refine .aB rfl (fun FW => ?_) (fun FW => ?_)
 refine .ei (⟨[(4, .ptr 104 0 0 0), (6, .v (.int .i64 ((n.aw.getD (p.op % n.aw.length) default).width))), (7, .ptr 107 0 0 0)], [(104, .cells [.v (.int .i64 0), .v (.int .i64 0), .v (.int .i64 0), vn, .v (.int .u64 0), .v (.int .i64 0)]), (107, .cells [.v (.int .i64 (1 + ((p.kind : Int) % 10))), .v (.int .i64 0), .v (.int .i64 (-1)), .aY 271 1 0 ((([au n.aa 1 p.a, (p.b : Int) % (n.aa.length : Int)] : List Int) ++ ([au n.aa ((n.aw.getD (p.op % n.aw.length) default).width) p.d] : List Int)).length), .v (.int .u64 0), .v (.int .i64 ((p.op : Int) % (n.aw.length : Int)))]), (271, .rows 1 ((([au n.aa 1 p.a, (p.b : Int) % (n.aa.length : Int)] : List Int) ++ ([au n.aa ((n.aw.getD (p.op % n.aw.length) default).width) p.d] : List Int)).map ah))]⟩) rfl ?_ ?_
 refine .blind 0 rfl aq (ao.fieldAddr bF rfl rfl) ae (.aM 2 rfl aq eh rfl rfl rfl (aH rfl) rfl rfl ae (.blind 3 rfl aq (ao.move rfl rfl) ae ?_))
 refine .blind 4 rfl aq (ao.move rfl rfl) ae (.uZ ?_)
 refine .two 1 5 rfl rfl aq ?_ ?_
 refine .ld bh ?_
 refine .nil ⟨rfl, ?_⟩
 refine .one 5 rfl aq (.aP gA (cd (n := (⟨n.name, n.aa, n.cells, n.ins, n.aw, n.streams, [], [], n.freeze, n.done, []⟩ : ab)) (w := ((n.aw.getD (p.op % n.aw.length) default).width)) (k := p.d) (by show (n.aa).length ≤ 1048576; omega) om) rfl (.ai rfl rfl (.ai rfl rfl (.ai rfl rfl .nil))) ae rfl ?_)
 refine .nil ⟨rfl, ?_⟩
 refine .one 6 rfl aq ?_
 refine .buildSlice (([au n.aa ((n.aw.getD (p.op % n.aw.length) default).width) p.d] : List Int).map ah) a7 e0 rfl rfl rfl rfl rfl (ay (s := 1) (f := ah) (fun _ => rfl)) rfl rfl rfl ae ?_
 refine .nil ⟨rfl, ?_⟩
 refine .one 7 rfl aq (.bs ((([au n.aa 1 p.a, (p.b : Int) % (n.aa.length : Int)] : List Int) ++ ([au n.aa ((n.aw.getD (p.op % n.aw.length) default).width) p.d] : List Int)).map ah) (([au n.aa 1 p.a, (p.b : Int) % (n.aa.length : Int)] : List Int) ++ ([au n.aa ((n.aw.getD (p.op % n.aw.length) default).width) p.d] : List Int)).length a7 e0 rfl rfl rfl rfl (bL bw) (bq bw) (cE bw) bw bw ae ae ?_)
 refine .nil ⟨rfl, ?_⟩
 refine .one 8 rfl aq ?_
 refine .fa bF ?_
 refine .nil ⟨rfl, ?_⟩
 refine .one 9 rfl aq (.aj fg rfl rfl rfl rfl rfl rfl (aH rfl) rfl ?_)
 refine .nil ⟨rfl, ?_⟩
 refine .done aq ?_
 exact Le.mk (.c2 (.c (.nil))) (.c2 (.c (.nil)))
 refine .aP gA (cd (n := (⟨n.name, n.aa, n.cells, n.ins, n.aw, n.streams, [], [], n.freeze, n.done, []⟩ : ab)) (w := ((n.aw.getD (p.op % n.aw.length) default).width)) (k := p.d) (by show (n.aa).length ≤ 1048576; omega) om) rfl (.ai rfl rfl (.ai rfl rfl (.ai rfl rfl .nil))) ae rfl ?_
 refine .nil ⟨rfl, ?_⟩
 refine .two 1 6 rfl rfl aq ?_ ?_
 refine .ld bh ?_
 refine .nil ⟨rfl, ?_⟩
 refine .one 6 rfl aq ?_
 refine .buildSlice (([au n.aa ((n.aw.getD (p.op % n.aw.length) default).width) p.d] : List Int).map ah) a7 e0 rfl rfl rfl rfl rfl (ay (s := 1) (f := ah) (fun _ => rfl)) rfl rfl rfl ae ?_
 refine .nil ⟨rfl, ?_⟩
 refine .one 7 rfl aq (.bs ((([au n.aa 1 p.a, (p.b : Int) % (n.aa.length : Int)] : List Int) ++ ([au n.aa ((n.aw.getD (p.op % n.aw.length) default).width) p.d] : List Int)).map ah) (([au n.aa 1 p.a, (p.b : Int) % (n.aa.length : Int)] : List Int) ++ ([au n.aa ((n.aw.getD (p.op % n.aw.length) default).width) p.d] : List Int)).length a7 e0 rfl rfl rfl rfl (bL bw) (bq bw) (cE bw) bw bw ae ae ?_)
 refine .nil ⟨rfl, ?_⟩
 refine .one 8 rfl aq ?_
 refine .fa bF ?_
 refine .nil ⟨rfl, ?_⟩
 refine .one 9 rfl aq (.aj fg rfl rfl rfl rfl rfl rfl (aH rfl) rfl ?_)
 refine .nil ⟨rfl, ?_⟩
 refine .done aq ?_
 exact Le.mk (.c2 (.c (.nil))) (.c2 (.c (.nil)))
 refine .buildSlice (([au n.aa ((n.aw.getD (p.op % n.aw.length) default).width) p.d] : List Int).map ah) a7 e0 rfl rfl rfl rfl rfl (ay (s := 1) (f := ah) (fun _ => rfl)) rfl rfl rfl ae ?_
 refine .nil ⟨rfl, ?_⟩
 refine .one 1 rfl aq ?_
 refine .ld bh ?_
 refine .nil ⟨rfl, ?_⟩
 refine .one 7 rfl aq (.bs ((([au n.aa 1 p.a, (p.b : Int) % (n.aa.length : Int)] : List Int) ++ ([au n.aa ((n.aw.getD (p.op % n.aw.length) default).width) p.d] : List Int)).map ah) (([au n.aa 1 p.a, (p.b : Int) % (n.aa.length : Int)] : List Int) ++ ([au n.aa ((n.aw.getD (p.op % n.aw.length) default).width) p.d] : List Int)).length a7 e0 rfl rfl rfl rfl (bL bw) (bq bw) (cE bw) bw bw ae ae ?_)
 refine .nil ⟨rfl, ?_⟩
 refine .one 8 rfl aq ?_
 refine .fa bF ?_
 refine .nil ⟨rfl, ?_⟩
 refine .one 9 rfl aq (.aj fg rfl rfl rfl rfl rfl rfl (aH rfl) rfl ?_)
 refine .nil ⟨rfl, ?_⟩
 refine .done aq ?_
 exact Le.mk (.c2 (.c (.nil))) (.c2 (.c (.nil)))
 refine .le (aR := ⟨[(4, .ptr 104 0 0 0), (6, vi ((n.aw.getD (p.op % n.aw.length) default).width)), (7, .ptr 107 0 0 0)], [(104, .cells [vi 0, vi 0, vi 0, vn, .v (.int .u64 0), vi 0]), (107, .cells [vi (1 + ((p.kind : Int) % 10)), vi 0, vi (-1), .aY 271 1 0 ((([au n.aa 1 p.a, (p.b : Int) % (n.aa.length : Int)] : List Int) ++ ([au n.aa ((n.aw.getD (p.op % n.aw.length) default).width) p.d] : List Int)).length), .v (.int .u64 0), vi ((p.op : Int) % (n.aw.length : Int))]), (271, .rows 1 ((([au n.aa 1 p.a, (p.b : Int) % (n.aa.length : Int)] : List Int) ++ ([au n.aa ((n.aw.getD (p.op % n.aw.length) default).width) p.d] : List Int)).map ah))]⟩) (Le.mk (.c2 (.c (.nil))) (.c2 (.c (.nil)))) ?_
 refine .sr (.vl (Y.aM eb rfl rfl (aH rfl) rfl rfl) ?_)
 refine .mv ?_
 refine .aj eI rfl rfl rfl rfl rfl rfl (aH rfl) rfl ?_
 refine .an ?_
 refine .nil (.ret ?_)
 exact ⟨_, rfl, _, _, _, Sh.lk (d := 0) 3 271 rfl rfl rfl rfl rF rfl ae, rfl, rfl, (⟨1 + ((p.kind : Int) % 10), 0, -1, ([au n.aa 1 p.a, (p.b : Int) % (n.aa.length : Int)] : List Int) ++ ([au n.aa ((n.aw.getD (p.op % n.aw.length) default).width) p.d] : List Int), 0, (p.op : Int) % (n.aw.length : Int)⟩ : Cell), _, uk hg h0 om om, rfl, rfl⟩
 refine .skip (.le (aR := ⟨[(4, .ptr 104 0 0 0), (6, vi ((n.aw.getD (p.op % n.aw.length) default).width)), (7, .ptr 107 0 0 0)], [(104, .cells [vi 0, vi 0, vi 0, vn, .v (.int .u64 0), vi 0]), (107, .cells [vi (1 + ((p.kind : Int) % 10)), vi 0, vi (-1), .aY 271 1 0 (([au n.aa 1 p.a, (p.b : Int) % (n.aa.length : Int)] : List Int).length), .v (.int .u64 0), vi ((p.op : Int) % (n.aw.length : Int))]), (271, .rows 1 (([au n.aa 1 p.a, (p.b : Int) % (n.aa.length : Int)] : List Int).map ah))]⟩) (Le.mk (.c2 (.c (.nil))) (.c2 (.c (.nil)))) ?_)
 refine .sr (.vl (Y.aM eb rfl rfl (aH rfl) rfl rfl) ?_)
 refine .mv ?_
 refine .aj eI rfl rfl rfl rfl rfl rfl (aH rfl) rfl ?_
 refine .an ?_
 refine .nil (.ret ?_)
 exact ⟨_, rfl, _, _, _, Sh.lk (d := 0) 3 271 rfl rfl rfl rfl rF rfl ae, rfl, rfl, (⟨1 + ((p.kind : Int) % 10), 0, -1, ([au n.aa 1 p.a, (p.b : Int) % (n.aa.length : Int)] : List Int), 0, (p.op : Int) % (n.aw.length : Int)⟩ : Cell), _, wU hg h0 om om, rfl, rfl⟩
 refine .sr (.vl (Y.eql rfl rfl) ?_)
 refine .an ?_
 refine .nil ?_
 refine .aB rfl (fun NM => ?_) (fun NM => ?_)
 refine .seq (.sr ?_)
 refine .fa kG ?_
 refine .ld bh ?_
 refine .vl (Y.len (n := n.ins.length) a7 rfl dG) (.vl (Y.eql rfl rfl) (.nil ?_))
 refine .aB rfl (fun NN => ?_) (fun NN => ?_)
 refine .sr (.vl (Y.build sZ dN rfl rfl rfl) (.aj eI rfl rfl rfl rfl rfl rfl (aH rfl) rfl ?_))
 refine .an ?_
 refine .nil (.sh (Sh.eF 104 399 1 3 rfl rfl rfl rfl ae) (.ret ?_))
 exact ⟨_, rfl, _, _, _, Sh.lk (d := 0) 3 399 rfl rfl rfl rfl rF rfl ae, rfl, rfl, (⟨0, 0, 0, ([] : List Int), 0, 0⟩ : Cell), _, qu hg, rfl, rfl⟩
 refine .skip (.sr ?_)
 refine .fa sX ?_
 refine .ld gB ?_
 refine .fa kG ?_
 refine .ld bh ?_
 refine .vl (Y.len (n := n.ins.length) a7 rfl dG) (.vl (Y.fo py xH rfl (by first | rfl | exact IntWalk.u64_in _ om)) (.vl (Y.Ef (a := p.num) (b := n.ins.length) rfl rfl om) ?_))
 refine .fa dX ?_
 refine .aj Ce rfl rfl rfl rfl rfl rfl (aH rfl) rfl (.nil ?_)
 have NL : p.num % n.ins.length < n.ins.length := Nat.mod_lt _ om
 refine .region ?_
 refine .fa kG ?_
 refine .ld bh ?_
 refine .fa dX ?_
 refine .ld gB ?_
 refine .vl (Y.aK (m := p.num % n.ins.length) a7 rfl rfl b5 (ax (d := 0) om)) ?_
 refine .ld br ?_
 refine .an ?_
 refine .nil (.le (aR := ⟨[(4, .ptr 104 0 0 0), (6, vi (n.ins.getD (p.num % n.ins.length) 0)), (7, .ptr 107 0 0 0)], [(104, .cells [vi 0, vi 0, vi 0, vn, .v (.int .u64 0), vi 0]), (107, .cells [vi (1 + ((p.kind : Int) % 10)), vi 0, vi (-1), vn, .v (.int .u64 ((p.num % n.ins.length : Nat) : Int)), vi 0])]⟩) (Le.mk (.c2 (.c (.nil))) (.c2 (.nil))) ?_)
 refine .sr (.vl (Y.aM eb rfl rfl (aH rfl) rfl rfl) ?_)
 refine .mv ?_
 refine .aj eI rfl rfl rfl rfl rfl rfl (aH rfl) rfl ?_
 refine .an ?_
 refine .nil (.sh (Sh.eF 104 399 1 3 rfl rfl rfl rfl ae) (.ret ?_))
 exact ⟨_, rfl, _, _, _, Sh.lk (d := 0) 3 399 rfl rfl rfl rfl rF rfl ae, rfl, rfl, (⟨1 + ((p.kind : Int) % 10), 0, -1, ([] : List Int), p.num % n.ins.length, 0⟩ : Cell), _, zF hg om om hi, rfl, rfl⟩
 refine .seq (.sr ?_)
 refine .fa ef ?_
 refine .ld jS ?_
 refine .vl (Y.len (n := n.streams.length) gZ rfl dG) (.vl (Y.eql rfl rfl) (.nil ?_))
 refine .aB rfl (fun ym => ?_) (fun ym => ?_)
 refine .sr (.vl (Y.build sZ dN rfl rfl rfl) (.aj eI rfl rfl rfl rfl rfl rfl (aH rfl) rfl ?_))
 refine .an ?_
 refine .nil (.sh (Sh.eF 104 399 1 3 rfl rfl rfl rfl ae) (.ret ?_))
 exact ⟨_, rfl, _, _, _, Sh.lk (d := 0) 3 399 rfl rfl rfl rfl rF rfl ae, rfl, rfl, (⟨0, 0, 0, ([] : List Int), 0, 0⟩ : Cell), _, qu hg, rfl, rfl⟩
 refine .skip (.sr ?_)
 refine .fa px ?_
 refine .ld pW ?_
 refine .vl (Y.fo sY py rfl v3) ?_
 refine .fa ef ?_
 refine .ld jS ?_
 refine .vl (Y.len (n := n.streams.length) gZ rfl dG) (.vl (Y.jH rfl rfl bw) ?_)
 refine .fa cV ?_
 refine .aj e8 rfl rfl rfl rfl rfl rfl (aH rfl) rfl (.nil (.seq ?_))
 have NL : p.op % n.streams.length < n.streams.length := Nat.mod_lt _ om
 refine .region ?_
 refine .fa ef ?_
 refine .ld jS ?_
 refine .fa cV ?_
 refine .ld br ?_
 refine .vl (Y.aK (m := p.op % n.streams.length) gZ rfl rfl b5 (ax (d := default) om)) ?_
 refine .fa qW ?_
 refine .ld br ?_
 refine .an ?_
 refine .nil (.le (aR := ⟨[(2, .fp (ab.oE n) 0), (4, .ptr 104 0 0 0), (6, vi ((n.streams.getD (p.op % n.streams.length) default).width)), (7, .ptr 107 0 0 0)], [(104, .cells [vi 0, vi 0, vi 0, vn, .v (.int .u64 0), vi 0]), (107, .cells [vi (1 + ((p.kind : Int) % 10)), vi 0, vi (-1), vn, .v (.int .u64 0), vi ((p.op : Int) % (n.streams.length : Int))])]⟩) (Le.mk (.c4 (.nil)) (.c2 (.nil))) ?_)
 refine .eP (fun (gv : Nat) => ⟨[(4, .ptr 104 0 0 0), (6, vi ((n.streams.getD (p.op % n.streams.length) default).width)), (7, .ptr 107 0 0 0)], [(104, .cells [vi 0, vi 0, vi 0, vn, .v (.int .u64 0), vi 0]), (107, .cells [vi gv, vi 0, vi (-1), vn, .v (.int .u64 0), vi ((p.op : Int) % (n.streams.length : Int))])]⟩) (fun gv => (((1 + ((p.kind : Int) % 10)) = 10) ∧ (((n.streams.getD (p.op % n.streams.length) default).out) = true) ∧ (gv = 9)) ∨ (((1 + ((p.kind : Int) % 10)) = 10) ∧ (((n.streams.getD (p.op % n.streams.length) default).out) = false) ∧ (gv = (1 + (p.kind % 10)))) ∨ ((¬ ((1 + ((p.kind : Int) % 10)) = 10)) ∧ (gv = (1 + (p.kind % 10))))) ?_ (fun gv Ft => ?_)
 refine .sr ?_
 refine .fa cL ?_
 refine .ld br ?_
 refine .vl (Y.eql rfl rfl) ?_
 refine .mv ?_
 refine .aE (d := 54) rfl (fun DA => ?_) (fun DA => ?_)
 refine .gw 54 (Y.fieldAddr ef rfl rfl) (.gw 54 (Y.load jS rfl rfl rfl rfl) (.gw 54 (Y.fieldAddr cV rfl rfl) ?_))
 refine .gw 54 (Y.load br rfl rfl rfl rfl) (.gw 54 (Y.aK (m := p.op % n.streams.length) gZ rfl rfl b5 (ax (d := default) om)) ?_)
 refine .gw 54 (Y.fieldAddr kI rfl rfl) (.gw 54 (Y.load vL rfl rfl rfl rfl) ?_)
 refine .pk ?_
 refine .nil ?_
 refine .cond rfl (fun Ju => ?_) (fun Ju => ?_)
 refine .region ?_
 refine .fa cL ?_
 refine .aj e8 rfl rfl rfl rfl rfl rfl (aH rfl) rfl (.nil ?_)
 exact ⟨9, .inl ⟨DA, Ju, rfl⟩, Le.mk (.c2 (.c (.nil))) (.c (.cons (aS rfl kP) (.nil)))⟩
 refine .skip ?_
 exact ⟨1 + (p.kind % 10), .inr (.inl ⟨DA, Ju, rfl⟩), Le.mk (.c2 (.c (.nil))) (.c (.cons (aS rfl kP) (.nil)))⟩
 refine .gz 54 (.gz 54 (.gz 54 ?_))
 refine .gz 54 (.gz 54 (.gz 54 ?_))
 refine .gz 54 ?_
 refine .pk ?_
 refine .nil (.cX rfl (.skip ?_))
 exact ⟨1 + (p.kind % 10), .inr (.inr (⟨DA, rfl⟩)), Le.mk (.c2 (.c (.nil))) (.c (.cons (aS rfl kP) (.nil)))⟩
 refine .sr ?_
 refine .fa cL ?_
 refine .ld br ?_
 refine .vl (Y.eql rfl rfl) (.nil ?_)
 refine .aB rfl (fun C8 => ?_) (fun C8 => ?_)
 refine .region ?_
 refine .an ?_
 refine .nil (.le (aR := ⟨[(4, .ptr 104 0 0 0), (6, vi 1), (7, .ptr 107 0 0 0)], [(104, .cells [vi 0, vi 0, vi 0, vn, .v (.int .u64 0), vi 0]), (107, .cells [vi gv, vi 0, vi (-1), vn, .v (.int .u64 0), vi ((p.op : Int) % (n.streams.length : Int))])]⟩) (Le.mk (.c2 (.c (.nil))) (.c2 (.nil))) ?_)
 refine .sr (.vl (Y.aM eb rfl rfl (aH rfl) rfl rfl) ?_)
 refine .mv ?_
 refine .aj eI rfl rfl rfl rfl rfl rfl (aH rfl) rfl ?_
 refine .an ?_
 refine .nil (.sh (Sh.eF 104 399 1 3 rfl rfl rfl rfl ae) (.ret ?_))
 exact ⟨_, rfl, _, _, _, Sh.lk (d := 0) 3 399 rfl rfl rfl rfl rF rfl ae, rfl, rfl, (⟨(gv : Int), 0, -1, ([] : List Int), 0, (p.op : Int) % (n.streams.length : Int)⟩ : Cell), _, BW hg om om, rfl, rfl⟩
 refine .skip (.le (aR := ⟨[(4, .ptr 104 0 0 0), (6, vi ((n.streams.getD (p.op % n.streams.length) default).width)), (7, .ptr 107 0 0 0)], [(104, .cells [vi 0, vi 0, vi 0, vn, .v (.int .u64 0), vi 0]), (107, .cells [vi gv, vi 0, vi (-1), vn, .v (.int .u64 0), vi ((p.op : Int) % (n.streams.length : Int))])]⟩) (Le.mk (.c2 (.c (.nil))) (.c2 (.nil))) ?_)
 refine .sr (.vl (Y.aM eb rfl rfl (aH rfl) rfl rfl) ?_)
 refine .mv ?_
 refine .aj eI rfl rfl rfl rfl rfl rfl (aH rfl) rfl ?_
 refine .an ?_
 refine .nil (.sh (Sh.eF 104 399 1 3 rfl rfl rfl rfl ae) (.ret ?_))
 exact ⟨_, rfl, _, _, _, Sh.lk (d := 0) 3 399 rfl rfl rfl rfl rF rfl ae, rfl, rfl, (⟨(gv : Int), 0, -1, ([] : List Int), 0, (p.op : Int) % (n.streams.length : Int)⟩ : Cell), _, BX hg om om (by grind), rfl, rfl⟩
end Go.Proofs.Ytligpghohcfpnaa
/- The walk of late. -/
namespace Go.Proofs.Ytligpghohcfpnaa
open Go Go.AW Go.Proofs
theorem y5 {nm : ByteArray} {ws ins : List Int} {cs : List Cell} {aw : List dV} {streams : List bE} {f0 d0 : Int} {p : pb} {i cl : Nat} (Bm : cl = cs.length) (hn : ws.length ≤ 1048576) (hc : cs.length ≤ 1048576) (hp : p.Ok) (hi : i < cs.length) (ho : In (cs.getD ((((cs.length : Int) - 1) - (i : Int)).toNat) default).out ws.length ∨ (cs.getD ((((cs.length : Int) - 1) - (i : Int)).toNat) default).kind ≠ 4) : az Try.prog 55 [.ptr 0 0 0 0, .agg (pb.row p), vi i] [.cells [.v (.string nm), .aY 1 1 0 ws.length, .aY 2 6 0 cl, .fz 1 (ins.map ah), .fz 5 (aw.map dV.row), .fz 3 (streams.map bE.row), vn, vn, vi f0, vi d0, vn], .rows 1 (ws.map ah), .rows 6 (cs.map Cell.row)] [0, 1, 2] (fun r o => r = .tup [] ∧ o = [.cells [.v (.string nm), .aY 1 1 0 ws.length, .aY 2 6 0 cl, .fz 1 (ins.map ah), .fz 5 (aw.map dV.row), .fz 3 (streams.map bE.row), vn, vn, vi f0, vi d0, vn], .rows 1 (ws.map ah), .rows 6 ((pV ws cs p i).map Cell.row)]) := by
 refine az.of Try.func55 rfl rfl rfl (n := 62) ae (aH rfl) ?_
 subst Bm
 have OX := hp.a; have OY := hp.d
 refine .sr (.box 104 rfl rfl rfl rfl rfl ae (.nil ?_))
 refine .seq (.sh (Sh.dc 104 rfl rfl) ?_)
 refine .fN [0] [0, 1, 2, 104] (⟨[(0, .ptr 0 0 0 0), (2, .v (.int .i64 (i : Int))), (4, .fp (pb.row p) 0), (6, .ptr 106 0 0 0)], [(0, .cells [.v (.string nm), .aY 1 1 0 ws.length, .aY 2 6 0 cs.length, .fz 1 (ins.map ah), .fz 5 (aw.map dV.row), .fz 3 (streams.map bE.row), vn, vn, .v (.int .i64 f0), .v (.int .i64 d0), vn]), (1, .rows 1 (ws.map ah)), (2, .rows 6 (cs.map Cell.row)), (106, .cells [.v (.int .i64 ((cs.getD ((((cs.length : Int) - 1) - (i : Int)).toNat) default).kind)), .v (.int .i64 ((cs.getD ((((cs.length : Int) - 1) - (i : Int)).toNat) default).op)), .v (.int .i64 ((cs.getD ((((cs.length : Int) - 1) - (i : Int)).toNat) default).out)), .fz 1 (((cs.getD ((((cs.length : Int) - 1) - (i : Int)).toNat) default).args).map ah), .v (.int .u64 (((cs.getD ((((cs.length : Int) - 1) - (i : Int)).toNat) default).num : Nat) : Int)), .v (.int .i64 ((cs.getD ((((cs.length : Int) - 1) - (i : Int)).toNat) default).mem))])]⟩) rfl ?_ ?_
 refine .blind 0 rfl aq (ao.move rfl rfl) ae (.blind 1 rfl aq (ao.nilCheck rfl rfl) ae (.blind 2 rfl aq (ao.fieldAddr cb rfl rfl) ae ?_))
 refine .load 3 rfl aq fD rfl rfl rfl rfl rfl ae (.blind 4 rfl aq (ao.move rfl rfl) ae (.blind 5 rfl aq (ao.nilCheck rfl rfl) ae ?_))
 refine .blind 6 rfl aq (ao.fieldAddr cb rfl rfl) ae (.load 7 rfl aq fD rfl rfl rfl rfl rfl ae (.blind 8 rfl aq (ao.len (n := cs.length) dD rfl rfl) ae ?_))
 refine .blind 9 rfl aq (ao.iy rfl rfl om) ae (.blind 10 rfl aq (ao.move rfl rfl) ae (.blind 11 rfl aq (ao.iy rfl rfl om) ae (.blind 12 rfl aq (ao.bc (m := (((cs.length : Int) - 1) - (i : Int)).toNat) dD rfl rfl om om) ae (.yn rfl rfl (bV.cells rfl rfl rfl bV.nil) ?_))))
 refine .two 13 14 rfl rfl aq ?_ ?_
 refine .vl (Y.aM eb rfl (a8 (d := default) bw) (aH rfl) rfl rfl) ?_
 refine .nil ⟨rfl, ?_⟩
 refine .one 14 rfl aq (.alloc 106 dN rfl rfl ae ?_)
 refine .nil ⟨rfl, ?_⟩
 refine .one 15 rfl aq (.aj eI rfl rfl rfl rfl rfl rfl (aH rfl) rfl ?_)
 refine .nil ⟨rfl, ?_⟩
 refine .done aq ?_
 exact Le.mk (.c4 (.nil)) (.c4 (.nil))
 refine .alloc 106 dN rfl rfl ae ?_
 refine .nil ⟨rfl, ?_⟩
 refine .one 13 rfl aq (.vl (Y.aM eb rfl (a8 (d := default) bw) (aH rfl) rfl rfl) ?_)
 refine .nil ⟨rfl, ?_⟩
 refine .one 15 rfl aq (.aj eI rfl rfl rfl rfl rfl rfl (aH rfl) rfl ?_)
 refine .nil ⟨rfl, ?_⟩
 refine .done aq ?_
 exact Le.mk (.c4 (.nil)) (.c4 (.nil))
 refine .le (aR := ⟨[(0, .ptr 0 0 0 0), (2, vi i), (4, .fp (pb.row p) 0), (6, .ptr 106 0 0 0)], [(0, .cells [.v (.string nm), .aY 1 1 0 ws.length, .aY 2 6 0 cs.length, .fz 1 (ins.map ah), .fz 5 (aw.map dV.row), .fz 3 (streams.map bE.row), vn, vn, vi f0, vi d0, vn]), (1, .rows 1 (ws.map ah)), (2, .rows 6 (cs.map Cell.row)), (106, .cells [vi ((cs.getD ((((cs.length : Int) - 1) - (i : Int)).toNat) default).kind), vi ((cs.getD ((((cs.length : Int) - 1) - (i : Int)).toNat) default).op), vi ((cs.getD ((((cs.length : Int) - 1) - (i : Int)).toNat) default).out), .fz 1 (((cs.getD ((((cs.length : Int) - 1) - (i : Int)).toNat) default).args).map ah), .v (.int .u64 (((cs.getD ((((cs.length : Int) - 1) - (i : Int)).toNat) default).num : Nat) : Int)), vi ((cs.getD ((((cs.length : Int) - 1) - (i : Int)).toNat) default).mem)])]⟩) (Le.mk (.c4 (.nil)) (.c4 (.nil))) (.sr ?_)
 refine .fa cL ?_
 refine .ld br ?_
 refine .vl (Y.eql rfl rfl) (.nil ?_)
 refine .le (aR := ⟨[(0, .ptr 0 0 0 0), (2, vi i), (4, .fp (pb.row p) 0), (6, .ptr 106 0 0 0), (23, .v (.bool (decide (((cs.getD ((((cs.length : Int) - 1) - (i : Int)).toNat) default).kind) = 4))))], [(0, .cells [.v (.string nm), .aY 1 1 0 ws.length, .aY 2 6 0 cs.length, .fz 1 (ins.map ah), .fz 5 (aw.map dV.row), .fz 3 (streams.map bE.row), vn, vn, vi f0, vi d0, vn]), (1, .rows 1 (ws.map ah)), (2, .rows 6 (cs.map Cell.row)), (106, .cells [vi ((cs.getD ((((cs.length : Int) - 1) - (i : Int)).toNat) default).kind), vi ((cs.getD ((((cs.length : Int) - 1) - (i : Int)).toNat) default).op), vi ((cs.getD ((((cs.length : Int) - 1) - (i : Int)).toNat) default).out), .fz 1 (((cs.getD ((((cs.length : Int) - 1) - (i : Int)).toNat) default).args).map ah), .v (.int .u64 (((cs.getD ((((cs.length : Int) - 1) - (i : Int)).toNat) default).num : Nat) : Int)), vi ((cs.getD ((((cs.length : Int) - 1) - (i : Int)).toNat) default).mem)])]⟩) (Le.mk (.c4 (.c (.nil))) (.c4 (.nil))) ?_
 refine .aB rfl (fun GB => ?_) (fun GB => ?_)
 have Fj := ho.resolve_right (fun h => h GB)
 unfold In at Fj
 refine .seq ?_
 refine .fN [0] [0, 1, 2, 106] (⟨[(0, .ptr 0 0 0 0), (2, .v (.int .i64 (i : Int))), (6, .ptr 106 0 0 0)], [(0, .cells [.v (.string nm), .aY 1 1 0 ws.length, .aY 2 6 0 cs.length, .fz 1 (ins.map ah), .fz 5 (aw.map dV.row), .fz 3 (streams.map bE.row), vn, vn, .v (.int .i64 f0), .v (.int .i64 d0), vn]), (1, .rows 1 (ws.map ah)), (2, .rows 6 (cs.map Cell.row)), (106, .cells [.v (.int .i64 ((cs.getD ((((cs.length : Int) - 1) - (i : Int)).toNat) default).kind)), .v (.int .i64 ((cs.getD ((((cs.length : Int) - 1) - (i : Int)).toNat) default).op)), .v (.int .i64 ((cs.getD ((((cs.length : Int) - 1) - (i : Int)).toNat) default).out)), .fz 1 (([au ws 1 p.a, au ws (ws.getD (((cs.getD ((((cs.length : Int) - 1) - (i : Int)).toNat) default).out).toNat) 0) p.d] : List Int).map ah), .v (.int .u64 (((cs.getD ((((cs.length : Int) - 1) - (i : Int)).toNat) default).num : Nat) : Int)), .v (.int .i64 ((cs.getD ((((cs.length : Int) - 1) - (i : Int)).toNat) default).mem))])]⟩) rfl ?_ ?_
 refine .blind 0 rfl aq (ao.move rfl rfl) ae (.blind 1 rfl aq (ao.nilCheck rfl rfl) ae (.aM 2 rfl aq eh rfl rfl rfl (aH rfl) rfl rfl ae ?_))
 refine .blind 3 rfl aq (ao.fieldAddr jR rfl rfl) ae (.blind 4 rfl aq (ao.gg qT rfl rfl (m := 0) rfl om rfl) ae (.load 5 rfl aq pW rfl rfl rfl rfl rfl ae ?_))
 refine .blind 7 rfl aq (ao.move rfl rfl) ae (.blind 8 rfl aq (ao.nilCheck rfl rfl) ae (.aM 9 rfl aq eh rfl rfl rfl (aH rfl) rfl rfl ae ?_))
 refine .blind 10 rfl aq (ao.move rfl rfl) ae (.blind 11 rfl aq (ao.nilCheck rfl rfl) ae (.blind 12 rfl aq (ao.fieldAddr bN rfl rfl) ae ?_))
 refine .load 13 rfl aq bh rfl rfl rfl rfl rfl ae (.blind 14 rfl aq (ao.fieldAddr dx rfl rfl) ae (.blind 18 rfl aq (ao.fieldAddr jR rfl rfl) ae ?_))
 refine .blind 19 rfl aq (ao.gg qT rfl rfl (m := 2) rfl om rfl) ae (.load 20 rfl aq pW rfl rfl rfl rfl rfl ae (.yn rfl rfl (bV.cells rfl rfl rfl bV.nil) ?_))
 refine .two 6 15 rfl rfl aq ?_ ?_
 refine .iz [1, 2] gA (cd (n := (⟨nm, ws, cs, ins, aw, streams, [], [], f0, d0, []⟩ : ab)) (w := 1) (k := p.a) (by show (ws).length ≤ 1048576; omega) om) rfl (.agg (.ai rfl rfl (.cB rfl rfl (b8 om) (b9 om) (.cB rfl rfl (b8 om) (b9 om) (.ai rfl rfl (.ai rfl rfl (.ai rfl rfl (.ai rfl rfl (.ai rfl rfl (.ai rfl rfl (.ai rfl rfl (.ai rfl rfl .nil))))))))))) rfl (.ai rfl rfl (.ai rfl rfl .nil))) (er rfl (bl aD) (jL rfl (bl Cell.cy))) ae rfl trivial ?_
 refine .nil ⟨rfl, ?_⟩
 refine .one 15 rfl aq ?_
 refine .ld br ?_
 refine .nil ⟨rfl, ?_⟩
 refine .one 16 rfl aq (.vl (Y.bc (m := ((cs.getD ((((cs.length : Int) - 1) - (i : Int)).toNat) default).out).toNat) a7 rfl rfl om om) ?_)
 refine .nil ⟨rfl, ?_⟩
 refine .one 17 rfl aq (.vl (Y.load br rfl (a8 (d := 0) om) rfl rfl) ?_)
 refine .nil ⟨rfl, ?_⟩
 refine .one 21 rfl aq (.iz [1, 2] gA (cd (n := (⟨nm, ws, cs, ins, aw, streams, [], [], f0, d0, []⟩ : ab)) (w := (ws.getD (((cs.getD ((((cs.length : Int) - 1) - (i : Int)).toNat) default).out).toNat) 0)) (k := p.d) (by show (ws).length ≤ 1048576; omega) om) rfl (.agg (.ai rfl rfl (.cB rfl rfl (b8 om) (b9 om) (.cB rfl rfl (b8 om) (b9 om) (.ai rfl rfl (.ai rfl rfl (.ai rfl rfl (.ai rfl rfl (.ai rfl rfl (.ai rfl rfl (.ai rfl rfl (.ai rfl rfl .nil))))))))))) rfl (.ai rfl rfl (.ai rfl rfl .nil))) (er rfl (bl aD) (jL rfl (bl Cell.cy))) ae rfl trivial ?_)
 refine .nil ⟨rfl, ?_⟩
 refine .one 22 rfl aq ?_
 refine .buildSlice (([au ws 1 p.a, au ws (ws.getD (((cs.getD ((((cs.length : Int) - 1) - (i : Int)).toNat) default).out).toNat) 0) p.d] : List Int).map ah) a7 e0 rfl rfl rfl rfl rfl (ay (s := 1) (f := ah) (fun _ => rfl)) rfl rfl rfl ae ?_
 refine .nil ⟨rfl, ?_⟩
 refine .one 23 rfl aq ?_
 refine .fa bF ?_
 refine .nil ⟨rfl, ?_⟩
 refine .one 24 rfl aq (.sh (Sh.dF (d := 46) (([au ws 1 p.a, au ws (ws.getD (((cs.getD ((((cs.length : Int) - 1) - (i : Int)).toNat) default).out).toNat) 0) p.d] : List Int).map ah) rfl kq (da.map aD)) (.aj fg rfl rfl rfl rfl rfl rfl (aH rfl) rfl ?_))
 refine .nil ⟨rfl, ?_⟩
 refine .done aq ?_
 exact Le.mk (.c2 (.c (.nil))) (.c4 (.nil))
 refine .ld br ?_
 refine .nil ⟨rfl, ?_⟩
 refine .blind 16 rfl aq (ao.bc (m := ((cs.getD ((((cs.length : Int) - 1) - (i : Int)).toNat) default).out).toNat) a7 rfl rfl om om) ae ?_
 refine .two 6 17 rfl rfl aq ?_ ?_
 refine .iz [1, 2] gA (cd (n := (⟨nm, ws, cs, ins, aw, streams, [], [], f0, d0, []⟩ : ab)) (w := 1) (k := p.a) (by show (ws).length ≤ 1048576; omega) om) rfl (.agg (.ai rfl rfl (.cB rfl rfl (b8 om) (b9 om) (.cB rfl rfl (b8 om) (b9 om) (.ai rfl rfl (.ai rfl rfl (.ai rfl rfl (.ai rfl rfl (.ai rfl rfl (.ai rfl rfl (.ai rfl rfl (.ai rfl rfl .nil))))))))))) rfl (.ai rfl rfl (.ai rfl rfl .nil))) (er rfl (bl aD) (jL rfl (bl Cell.cy))) ae rfl trivial ?_
 refine .nil ⟨rfl, ?_⟩
 refine .one 17 rfl aq (.vl (Y.load br rfl (a8 (d := 0) om) rfl rfl) ?_)
 refine .nil ⟨rfl, ?_⟩
 refine .one 21 rfl aq (.iz [1, 2] gA (cd (n := (⟨nm, ws, cs, ins, aw, streams, [], [], f0, d0, []⟩ : ab)) (w := (ws.getD (((cs.getD ((((cs.length : Int) - 1) - (i : Int)).toNat) default).out).toNat) 0)) (k := p.d) (by show (ws).length ≤ 1048576; omega) om) rfl (.agg (.ai rfl rfl (.cB rfl rfl (b8 om) (b9 om) (.cB rfl rfl (b8 om) (b9 om) (.ai rfl rfl (.ai rfl rfl (.ai rfl rfl (.ai rfl rfl (.ai rfl rfl (.ai rfl rfl (.ai rfl rfl (.ai rfl rfl .nil))))))))))) rfl (.ai rfl rfl (.ai rfl rfl .nil))) (er rfl (bl aD) (jL rfl (bl Cell.cy))) ae rfl trivial ?_)
 refine .nil ⟨rfl, ?_⟩
 refine .one 22 rfl aq ?_
 refine .buildSlice (([au ws 1 p.a, au ws (ws.getD (((cs.getD ((((cs.length : Int) - 1) - (i : Int)).toNat) default).out).toNat) 0) p.d] : List Int).map ah) a7 e0 rfl rfl rfl rfl rfl (ay (s := 1) (f := ah) (fun _ => rfl)) rfl rfl rfl ae ?_
 refine .nil ⟨rfl, ?_⟩
 refine .one 23 rfl aq ?_
 refine .fa bF ?_
 refine .nil ⟨rfl, ?_⟩
 refine .one 24 rfl aq (.sh (Sh.dF (d := 46) (([au ws 1 p.a, au ws (ws.getD (((cs.getD ((((cs.length : Int) - 1) - (i : Int)).toNat) default).out).toNat) 0) p.d] : List Int).map ah) rfl kq (da.map aD)) (.aj fg rfl rfl rfl rfl rfl rfl (aH rfl) rfl ?_))
 refine .nil ⟨rfl, ?_⟩
 refine .done aq ?_
 exact Le.mk (.c2 (.c (.nil))) (.c4 (.nil))
 refine .vl (Y.load br rfl (a8 (d := 0) om) rfl rfl) ?_
 refine .nil ⟨rfl, ?_⟩
 refine .one 6 rfl aq (.iz [1, 2] gA (cd (n := (⟨nm, ws, cs, ins, aw, streams, [], [], f0, d0, []⟩ : ab)) (w := 1) (k := p.a) (by show (ws).length ≤ 1048576; omega) om) rfl (.agg (.ai rfl rfl (.cB rfl rfl (b8 om) (b9 om) (.cB rfl rfl (b8 om) (b9 om) (.ai rfl rfl (.ai rfl rfl (.ai rfl rfl (.ai rfl rfl (.ai rfl rfl (.ai rfl rfl (.ai rfl rfl (.ai rfl rfl .nil))))))))))) rfl (.ai rfl rfl (.ai rfl rfl .nil))) (er rfl (bl aD) (jL rfl (bl Cell.cy))) ae rfl trivial ?_)
 refine .nil ⟨rfl, ?_⟩
 refine .one 21 rfl aq (.iz [1, 2] gA (cd (n := (⟨nm, ws, cs, ins, aw, streams, [], [], f0, d0, []⟩ : ab)) (w := (ws.getD (((cs.getD ((((cs.length : Int) - 1) - (i : Int)).toNat) default).out).toNat) 0)) (k := p.d) (by show (ws).length ≤ 1048576; omega) om) rfl (.agg (.ai rfl rfl (.cB rfl rfl (b8 om) (b9 om) (.cB rfl rfl (b8 om) (b9 om) (.ai rfl rfl (.ai rfl rfl (.ai rfl rfl (.ai rfl rfl (.ai rfl rfl (.ai rfl rfl (.ai rfl rfl (.ai rfl rfl .nil))))))))))) rfl (.ai rfl rfl (.ai rfl rfl .nil))) (er rfl (bl aD) (jL rfl (bl Cell.cy))) ae rfl trivial ?_)
 refine .nil ⟨rfl, ?_⟩
 refine .one 22 rfl aq ?_
 refine .buildSlice (([au ws 1 p.a, au ws (ws.getD (((cs.getD ((((cs.length : Int) - 1) - (i : Int)).toNat) default).out).toNat) 0) p.d] : List Int).map ah) a7 e0 rfl rfl rfl rfl rfl (ay (s := 1) (f := ah) (fun _ => rfl)) rfl rfl rfl ae ?_
 refine .nil ⟨rfl, ?_⟩
 refine .one 23 rfl aq ?_
 refine .fa bF ?_
 refine .nil ⟨rfl, ?_⟩
 refine .one 24 rfl aq (.sh (Sh.dF (d := 46) (([au ws 1 p.a, au ws (ws.getD (((cs.getD ((((cs.length : Int) - 1) - (i : Int)).toNat) default).out).toNat) 0) p.d] : List Int).map ah) rfl kq (da.map aD)) (.aj fg rfl rfl rfl rfl rfl rfl (aH rfl) rfl ?_))
 refine .nil ⟨rfl, ?_⟩
 refine .done aq ?_
 exact Le.mk (.c2 (.c (.nil))) (.c4 (.nil))
 refine .le (aR := ⟨[(0, .ptr 0 0 0 0), (2, vi i), (6, .ptr 106 0 0 0)], [(0, .cells [.v (.string nm), .aY 1 1 0 ws.length, .aY 2 6 0 cs.length, .fz 1 (ins.map ah), .fz 5 (aw.map dV.row), .fz 3 (streams.map bE.row), vn, vn, vi f0, vi d0, vn]), (1, .rows 1 (ws.map ah)), (2, .rows 6 (cs.map Cell.row)), (106, .cells [vi ((cs.getD ((((cs.length : Int) - 1) - (i : Int)).toNat) default).kind), vi ((cs.getD ((((cs.length : Int) - 1) - (i : Int)).toNat) default).op), vi ((cs.getD ((((cs.length : Int) - 1) - (i : Int)).toNat) default).out), .fz 1 (([au ws 1 p.a, au ws (ws.getD (((cs.getD ((((cs.length : Int) - 1) - (i : Int)).toNat) default).out).toNat) 0) p.d] : List Int).map ah), .v (.int .u64 (((cs.getD ((((cs.length : Int) - 1) - (i : Int)).toNat) default).num : Nat) : Int)), vi ((cs.getD ((((cs.length : Int) - 1) - (i : Int)).toNat) default).mem)])]⟩) (Le.mk (.c2 (.c (.nil))) (.c4 (.nil))) ?_
 refine .BE 14 rfl aq (.val (Y.move rfl rfl) ae (.val (Y.nilCheck rfl rfl) ae ?_))
 refine .val (Y.fieldAddr cb rfl rfl) ae (.val (Y.load fD rfl rfl rfl rfl) ae (.val (Y.move rfl rfl) ae ?_))
 refine .val (Y.nilCheck rfl rfl) ae (.val (Y.fieldAddr cb rfl rfl) ae (.val (Y.load fD rfl rfl rfl rfl) ae ?_))
 refine .val (Y.len (n := cs.length) dD rfl rfl) ae (.val (Y.iy rfl rfl om) ae (.val (Y.move rfl rfl) ae (.val (Y.iy rfl rfl om) ae (.val (Y.aM eb rfl rfl (aH rfl) rfl rfl) ae (.val (Y.bc (m := (((cs.length : Int) - 1) - (i : Int)).toNat) dD rfl rfl om om) ae (.nil (.dB ((cs.set ((((cs.length : Int) - 1) - (i : Int)).toNat) (⟨(cs.getD ((((cs.length : Int) - 1) - (i : Int)).toNat) default).kind, (cs.getD ((((cs.length : Int) - 1) - (i : Int)).toNat) default).op, (cs.getD ((((cs.length : Int) - 1) - (i : Int)).toNat) default).out, ([au ws 1 p.a, au ws (ws.getD (((cs.getD ((((cs.length : Int) - 1) - (i : Int)).toNat) default).out).toNat) 0) p.d] : List Int), (cs.getD ((((cs.length : Int) - 1) - (i : Int)).toNat) default).num, (cs.getD ((((cs.length : Int) - 1) - (i : Int)).toNat) default).mem⟩ : Cell)).map Cell.row) eI rfl rfl rfl rfl rfl rfl rfl (a8 (d := default) om) (aH rfl) (cp rfl) (.nil ?_))))))))
 exact ⟨_, _, rfl, rfl, rfl, (by unfold pV; rw [if_pos GB])⟩
 refine .skip ?_
 exact ⟨_, _, rfl, rfl, rfl, (by unfold pV; rw [if_neg GB])⟩
end Go.Proofs.Ytligpghohcfpnaa
