/- The walk through Order. -/
import Derived.Test.YtlimckldnjmabaaSynx0
import Derived.Test.YtlimckldnjmabaaSynx1
import Derived.Test.YtlimckldnjmabaaAWx2
set_option linter.unusedSimpArgs false
set_option linter.unusedVariables false
set_option linter.unusedSectionVars false
set_option maxRecDepth 4000
set_option maxHeartbeats 8000000
namespace Go.Proofs.Ytlimckldnjmabaa
open Go Go.AW Go.Proofs
theorem tl {n : ab} (hs : n.Small) (GJ : n.ai.length + n.ins.length ≤ 17592186044416) : ak Try.prog 52 [.agg (ab.row n)] [] [] (fun r o => ∃ (l : List Int) (e : Int), kd n l e ∧ r = .tup [.cX 1 (l.map al), vi e] ∧ o = []) := by
 refine ak.of Try.func52 rfl rfl rfl (n := 169) ag (bE rfl) (.sr (.box 101 rfl rfl rfl rfl rfl ag ?_))
 refine .an ?_
 refine .an ?_
 refine .nil (.seq (.sr ?_))
 refine .vl (Y.qy uJ rfl rfl (bE rfl) rfl rfl) (.br Ek (rQ (n := n) hs (om)) rfl (.au rfl rfl .nil) ag rfl ?_)
 refine .vl (Y.zi rfl) (.nil ?_)
 refine .gT rfl (fun ni => ?_) (fun ni => ?_)
 refine .sr ?_
 refine .an ?_
 refine .an ?_
 refine .nil (.sh (Sh.pb (d := 2) 1 rfl) (.ret ?_))
 exact ⟨_, _, rfl, rfl, ([] : List Int), 3, .inl ⟨ik, rfl, rfl⟩, rfl, rfl⟩
 have hf : bn n := by assumption
 refine .skip (.seq (.sr ?_))
 refine .vl (Y.qy uJ rfl rfl (bE rfl) rfl rfl) (.br El (rR (n := n) hs ik) rfl (.au rfl rfl .nil) ag rfl (.vl (Y.zi rfl) ?_))
 refine .nil ?_
 refine .gT rfl (fun Ja => ?_) (fun Ja => ?_)
 refine .sr ?_
 refine .an ?_
 refine .an ?_
 refine .nil (.sh (Sh.pb (d := 2) 1 rfl) (.ret ?_))
 exact ⟨_, _, rfl, rfl, ([] : List Int), 13, .inr (.inl ⟨ik, ik, rfl, rfl⟩), rfl, rfl⟩
 have Cr : Fit n := by assumption
 have Hg := hf.ea; have Ku := hf.dC
 refine .skip (.sr ?_)
 refine .an ?_
 refine .sh (Sh.nil (d := 4) 104 1 rfl ag) (.nil (.sr ?_))
 refine .fa fM ?_
 refine .ld nq ?_
 refine .vl (Y.qu (n := n.cells.length) iZ rfl gx) (.makeSlice (n := n.cells.length) az fX rfl rfl rfl rfl om om ag ?_)
 refine .bx rfl ag (.sh (Sh.fL (d := 5) (n := n.cells.length) 105 ((List.replicate n.cells.length 0).map al) rfl jV (bf (by simp)) ag) (.nil ?_))
 refine .sr ?_
 refine .fa eY ?_
 refine .ld cQ ?_
 refine .vl (Y.qu (n := n.ai.length) az rfl gx) (.makeSlice (n := n.ai.length) gX yJ rfl rfl rfl rfl om om ag ?_)
 refine .sh (Sh.y7 (d := 33) 1 rfl) (.bx rfl ag (.sh (Sh.fL (d := 6) (n := n.ai.length) 106 ((List.replicate n.ai.length []).map ll) rfl jV (bf (by simp)) ag) ?_))
 refine .nil (.sr ?_)
 refine .fa eY ?_
 refine .ld cQ ?_
 refine .vl (Y.qu (n := n.ai.length) az rfl gx) (.makeSlice (n := n.ai.length) r4 KH rfl rfl rfl rfl om om ag ?_)
 refine .bx rfl ag (.sh (Sh.fL (d := 7) (n := n.ai.length) 107 ((List.replicate n.ai.length false).map jE) rfl jV (bf (by simp)) ag) (.nil ?_))
 refine .seq (.sr ?_)
 refine .fa fM ?_
 refine .ld nq ?_
 refine .vl (Y.qu (n := n.cells.length) iZ rfl gx) ?_
 refine .mv ?_
 refine .nil (.block ?_)
 refine .kJ (fun (ez : Nat) (de : List Bool) => ⟨[(1, .ptr 101 0 0 0), (4, .aR 104 1 0 0), (5, .aR 105 1 0 n.cells.length), (6, .aR 106 1 0 n.ai.length), (7, .aR 107 1 0 n.ai.length), (39, .fz 6 (n.cells.map Cell.row)), (40, vi n.cells.length), (41, vi ez)], [(101, .cells (ab.row n)), (104, .rows 1 (([] : List Int).map al)), (105, .rows 1 ((List.replicate n.cells.length 0).map al)), (106, .rows 1 ((List.replicate n.ai.length []).map ll)), (107, .rows 1 (de.map jE))]⟩) (fun ez de => (de.length = n.ai.length) ∧ ((ez : Int) ≤ (n.cells.length : Int)) ∧ (dN n ez de)) (fun ez de => ((n.cells.length : Int) - (ez : Int)).toNat) 0 (List.replicate n.ai.length false) (⟨fF, fF, dN.init n⟩) (Le.mk (.c4 (.c2 (.c (.cons (aq rfl bj) .nil)))) (.c4 (.c .nil))) (fun ez de Cl => ?_)
 obtain ⟨AM, IA, Jb⟩ := Cl
 refine .sr (.vl (Y.qz rfl rfl) (.nil ?_))
 refine .seq ?_
 refine .a9 rfl (fun FD => ?_) (fun FD => ?_)
 refine .skip ?_
 refine .iA (fun (gN : List Bool) => ⟨[(1, .ptr 101 0 0 0), (4, .aR 104 1 0 0), (5, .aR 105 1 0 n.cells.length), (6, .aR 106 1 0 n.ai.length), (7, .aR 107 1 0 n.ai.length), (39, .fz 6 (n.cells.map Cell.row)), (40, vi n.cells.length), (41, vi ez)], [(101, .cells (ab.row n)), (104, .rows 1 (([] : List Int).map al)), (105, .rows 1 ((List.replicate n.cells.length 0).map al)), (106, .rows 1 ((List.replicate n.ai.length []).map ll)), (107, .rows 1 (gN.map jE))]⟩) (fun gN => (gN.length = n.ai.length) ∧ (dN n (ez + 1) gN)) ?_ (fun gN FE => ?_)
 refine .block (.sr ?_)
 refine .vl (Y.qq (m := ez) iZ rfl rfl bj (ao (d := default) om)) ?_
 refine .vl (Y.qy pZ rfl rfl (bE rfl) rfl rfl) (.alloc 109 m6 rfl rfl ag (.aj yI rfl rfl rfl rfl rfl rfl (bE rfl) rfl ?_))
 refine .nil (.sr ?_)
 refine .fa iM ?_
 refine .ld bw ?_
 refine .br BA (mG (w := ((n.cells.getD ez default).kind))) rfl (.au rfl rfl .nil) ag rfl (.nil ?_)
 refine .a9 rfl (fun GL => ?_) (fun GL => ?_)
 have GM := hf.iG (aX.g6 (n := n) (i := (ez : Int)) ⟨⟨om, om⟩, GL⟩)
 rw [kb] at GM
 have Eh := GM; unfold In at Eh
 refine .region ?_
 refine .mv ?_
 refine .fa jX ?_
 refine .ld bw ?_
 refine .vl (Y.qr (m := ((n.cells.getD ez default).out).toNat) r4 rfl rfl om om) (.jT ((de.set (((n.cells.getD ez default).out).toNat) true).map jE) KG rfl rfl rfl rfl rfl rfl rfl (aT (d := false) om) (bE rfl) (ga rfl) (.nil (⟨de.set (((n.cells.getD ez default).out).toNat) true, ⟨fF, Jb.step om AM GL GM⟩, Le.mk (.c4 (.c2 (.c (.c .nil)))) (.c4 (.c .nil))⟩)))
 refine .skip (⟨de, ⟨om, Jb.skip GL⟩, Le.mk (.c4 (.c2 (.c (.c .nil)))) (.c4 (.c .nil))⟩)
 obtain ⟨Df, Jc⟩ := FE
 refine .region (.vl (Y.qb rfl rfl om) ?_)
 refine .mv ?_
 refine .nil (⟨ez + 1, gN, ⟨om, om, Jc⟩, om, Le.mk (.c4 (.c2 (.c (.cons (aq rfl bj) .nil)))) (.c4 (.c .nil))⟩)
 refine .exit (.seq (.seq ?_))
 have FF : dN n n.cells.length de := by rw [show n.cells.length = ez by omega]; exact Jb
 refine .region ?_
 refine .fa fM ?_
 refine .ld nq ?_
 refine .vl (Y.qu (n := n.cells.length) iZ rfl gx) ?_
 refine .mv ?_
 refine .nil (.block ?_)
 refine .kJ (fun (e8 : Nat) (dw : List Int) => ⟨[(1, .ptr 101 0 0 0), (4, .aR 104 1 0 dw.length), (5, .aR 105 1 0 n.cells.length), (6, .aR 106 1 0 n.ai.length), (7, .aR 107 1 0 n.ai.length), (54, .fz 6 (n.cells.map Cell.row)), (55, vi n.cells.length), (56, vi e8)], [(101, .cells (ab.row n)), (104, .rows 1 (dw.map al)), (105, .rows 1 ((List.replicate n.cells.length 0).map al)), (106, .rows 1 ((List.replicate n.ai.length []).map ll)), (107, .rows 1 (de.map jE))]⟩) (fun e8 dw => ((e8 : Int) ≤ (n.cells.length : Int)) ∧ (dw = fm n e8)) (fun e8 dw => ((n.cells.length : Int) - (e8 : Int)).toNat) 0 ([] : List Int) (⟨fF, rfl⟩) (Le.mk (.c (.cons (aI rfl fF) (.c4 (.c (.cons (aq rfl bj) .nil))))) (.c4 (.c .nil))) (fun e8 dw Jd => ?_)
 obtain ⟨Nr, GN⟩ := Jd
 refine .sr (.vl (Y.qz rfl rfl) (.nil ?_))
 refine .seq ?_
 refine .a9 rfl (fun uj => ?_) (fun uj => ?_)
 refine .skip ?_
 refine .iA (fun (jc : List Int) => ⟨[(1, .ptr 101 0 0 0), (4, .aR 104 1 0 jc.length), (5, .aR 105 1 0 n.cells.length), (6, .aR 106 1 0 n.ai.length), (7, .aR 107 1 0 n.ai.length), (54, .fz 6 (n.cells.map Cell.row)), (55, vi n.cells.length), (56, vi e8)], [(101, .cells (ab.row n)), (104, .rows 1 (jc.map al)), (105, .rows 1 ((List.replicate n.cells.length 0).map al)), (106, .rows 1 ((List.replicate n.ai.length []).map ll)), (107, .rows 1 (de.map jE))]⟩) (fun jc => jc = fm n (e8 + 1)) ?_ (fun jc Cs => ?_)
 refine .block (.sr ?_)
 refine .mv ?_
 refine .vl (Y.qq (m := e8) iZ rfl rfl bj (ao (d := default) om)) ?_
 refine .vl (Y.qy pZ rfl rfl (bE rfl) rfl rfl) (.alloc 111 m6 rfl rfl ag ?_)
 refine .an ?_
 refine .aj yI rfl rfl rfl rfl rfl rfl (bE rfl) rfl (.nil (.sr ?_))
 have Ns := wJ n e8; rw [← GN] at Ns
 refine .fa iM ?_
 refine .ld bw ?_
 refine .br BA (mG (w := ((n.cells.getD e8 default).kind))) rfl (.au rfl rfl .nil) ag rfl (.vl (Y.zi rfl) (.nil ?_))
 refine .gT rfl (fun Je => ?_) (fun Je => ?_)
 refine .region ?_
 refine .mv ?_
 refine .mv ?_
 refine .buildSlice (([(e8 : Int)] : List Int).map al) az fX rfl rfl rfl rfl rfl (aD (s := 1) (f := al) (fun _ => rfl)) rfl rfl rfl ag ?_
 refine .vX al (dw ++ ([(e8 : Int)] : List Int)) az fX rfl rfl rfl rfl (bU fF) (bB fF) (da fF) fF fF ag ag ?_
 refine .an ?_
 refine .nil ⟨dw ++ ([(e8 : Int)] : List Int), by rw [pE, if_neg Je, GN], Le.mk (.c (.cons (aI rfl om) (.c4 (.c (.c .nil))))) (.c4 (.c .nil))⟩
 refine .skip ⟨dw, by rw [pE, if_pos Je, GN, List.append_nil], Le.mk (.c (.cons (aI rfl om) (.c4 (.c (.c .nil))))) (.c4 (.c .nil))⟩
 refine .region (.vl (Y.qb rfl rfl om) ?_)
 refine .mv ?_
 refine .nil (⟨e8 + 1, jc, ⟨om, Cs⟩, om, Le.mk (.c (.cons (aI rfl om) (.c4 (.c (.cons (aq rfl bj) .nil))))) (.c4 (.c .nil))⟩)
 refine .exit (.sr ?_)
 refine .an ?_
 refine .sh (Sh.nil (d := 12) 112 1 rfl ag) (.nil (.seq ?_))
 refine .sr ?_
 refine .fa fM ?_
 refine .ld nq ?_
 refine .vl (Y.qu (n := n.cells.length) iZ rfl gx) ?_
 refine .mv ?_
 refine .nil (.block ?_)
 refine .Ai (fun (ba : Nat) (bS : List Int) (aN : List (List Int)) (bW : List Int) => ⟨[(1, .ptr 101 0 0 0), (4, .aR 104 1 0 dw.length), (5, .aR 105 1 0 n.cells.length), (6, .aR 106 1 0 n.ai.length), (7, .aR 107 1 0 n.ai.length), (12, .aR 112 1 0 bW.length), (71, .fz 6 (n.cells.map Cell.row)), (72, vi n.cells.length), (73, vi ba)], [(101, .cells (ab.row n)), (104, .rows 1 (dw.map al)), (105, .rows 1 (bS.map al)), (106, .rows 1 (aN.map ll)), (107, .rows 1 (de.map jE)), (112, .rows 1 (bW.map al))]⟩) (fun ba bS aN bW => (bS.length = n.cells.length) ∧ (aN.length = n.ai.length) ∧ ((ba : Int) ≤ (n.cells.length : Int)) ∧ (BI n ba bS aN bW)) (fun ba bS aN bW => ((n.cells.length : Int) - (ba : Int)).toNat) 0 (List.replicate n.cells.length 0) (List.replicate n.ai.length []) ([] : List Int) (⟨fF, fF, fF, BI.init n⟩) (Le.mk (.c4 (.c (.cons (aI rfl fF) (.c2 (.cons (aq rfl bj) .nil))))) (.c4 (.c (.c .nil)))) (fun ba bS aN bW Jf => ?_)
 obtain ⟨pJ, xm, Nt, Ct⟩ := Jf
 refine .sr (.vl (Y.qz rfl rfl) (.nil ?_))
 refine .seq ?_
 refine .a9 rfl (fun Nu => ?_) (fun Nu => ?_)
 refine .skip ?_
 refine .Ah (fun (dR : List Int) (fS : List (List Int)) (fg : List Int) => ⟨[(1, .ptr 101 0 0 0), (4, .aR 104 1 0 dw.length), (5, .aR 105 1 0 n.cells.length), (6, .aR 106 1 0 n.ai.length), (7, .aR 107 1 0 n.ai.length), (12, .aR 112 1 0 fg.length), (71, .fz 6 (n.cells.map Cell.row)), (72, vi n.cells.length), (73, vi ba)], [(101, .cells (ab.row n)), (104, .rows 1 (dw.map al)), (105, .rows 1 (dR.map al)), (106, .rows 1 (fS.map ll)), (107, .rows 1 (de.map jE)), (112, .rows 1 (fg.map al))]⟩) (fun dR fS fg => (dR.length = n.cells.length) ∧ ((fS.length = n.ai.length) ∧ (BI n (ba + 1) dR fS fg))) ?_ (fun dR fS fg FG => ?_)
 refine .block (.sr ?_)
 refine .mv ?_
 refine .vl (Y.qq (m := ba) iZ rfl rfl bj (ao (d := default) om)) ?_
 refine .vl (Y.qy pZ rfl rfl (bE rfl) rfl rfl) (.alloc 114 m6 rfl rfl ag ?_)
 refine .an ?_
 refine .aj yI rfl rfl rfl rfl rfl rfl (bE rfl) rfl (.nil (.seq ?_))
 refine .sr ?_
 have Nm := hs.args (n.cells.getD ba default) (eD om)
 have Gw := Ct.rl
 refine .fa iM ?_
 refine .ld bw ?_
 refine .br BA (mG (w := ((n.cells.getD ba default).kind))) rfl (.au rfl rfl .nil) ag rfl (.vl (Y.zi rfl) (.nil ?_))
 refine .gT rfl (fun Dg => ?_) (fun Dg => ?_)
 refine .exit (⟨bS, aN, bW, ⟨om, ⟨om, Ct.skip om Dg⟩⟩, Le.mk (.c4 (.c (.cons (aI rfl om) (.c2 (.c .nil))))) (.c4 (.c (.c .nil)))⟩)
 refine .skip (.seq (.sr ?_))
 refine .fa dZ ?_
 refine .ld cQ ?_
 refine .vl (Y.qu (n := ((n.cells.getD ba default).args).length) az rfl gx) ?_
 refine .mv ?_
 refine .nil (.block ?_)
 refine .eS (fun (cW : Nat) (bL : List Int) (ck : List (List Int)) => ⟨[(1, .ptr 101 0 0 0), (4, .aR 104 1 0 dw.length), (5, .aR 105 1 0 n.cells.length), (6, .aR 106 1 0 n.ai.length), (7, .aR 107 1 0 n.ai.length), (12, .aR 112 1 0 bW.length), (13, vi ba), (71, .fz 6 (n.cells.map Cell.row)), (72, vi n.cells.length), (73, vi ba), (83, .fz 1 (((n.cells.getD ba default).args).map al)), (84, vi ((((n.cells.getD ba default).args).length : Nat) : Int)), (85, vi cW)], [(101, .cells (ab.row n)), (104, .rows 1 (dw.map al)), (105, .rows 1 (bL.map al)), (106, .rows 1 (ck.map ll)), (107, .rows 1 (de.map jE)), (112, .rows 1 (bW.map al))]⟩) (fun cW bL ck => (bL.length = n.cells.length) ∧ (ck.length = n.ai.length) ∧ ((cW : Int) ≤ ((((n.cells.getD ba default).args).length : Nat) : Int)) ∧ (BJ n ba cW bS aN bL ck)) (fun cW bL ck => (((((n.cells.getD ba default).args).length : Nat) : Int) - (cW : Int)).toNat) 0 bS aN (⟨om, om, om, BJ.init Ct om⟩) (Le.mk (.c8 (.c4 (.cons (aq rfl bj) .nil))) (.c4 (.c (.c .nil)))) (fun cW bL ck Co => ?_)
 obtain ⟨pJ, xm, IU, Dh⟩ := Co
 refine .sr (.vl (Y.qz rfl rfl) (.nil ?_))
 refine .seq ?_
 refine .a9 rfl (fun Jg => ?_) (fun Jg => ?_)
 refine .skip ?_
 refine .lI (fun (dS : List Int) (fT : List (List Int)) => ⟨[(1, .ptr 101 0 0 0), (4, .aR 104 1 0 dw.length), (5, .aR 105 1 0 n.cells.length), (6, .aR 106 1 0 n.ai.length), (7, .aR 107 1 0 n.ai.length), (12, .aR 112 1 0 bW.length), (13, vi ba), (71, .fz 6 (n.cells.map Cell.row)), (72, vi n.cells.length), (73, vi ba), (83, .fz 1 (((n.cells.getD ba default).args).map al)), (84, vi ((((n.cells.getD ba default).args).length : Nat) : Int)), (85, vi cW)], [(101, .cells (ab.row n)), (104, .rows 1 (dw.map al)), (105, .rows 1 (dS.map al)), (106, .rows 1 (fT.map ll)), (107, .rows 1 (de.map jE)), (112, .rows 1 (bW.map al))]⟩) (fun dS fT => (dS.length = n.cells.length) ∧ ((fT.length = n.ai.length) ∧ (BJ n ba (cW + 1) bS aN dS fT))) ?_ (fun dS fT FH => ?_)
 refine .block (.sr ?_)
 refine .vl (Y.qq (m := cW) az rfl rfl bj (ao (d := 0) om)) ?_
 refine .ld bw ?_
 refine .an ?_
 refine .nil (.sr ?_)
 have Di := hf.pD (i := (ba : Int)) ⟨om, om⟩ (dc (i := cW) (by rw [kb]; omega))
 rw [kb] at Di
 have Jh := Di; unfold In at Jh
 have CY := Dh.BL
 have Dj := BJ.len Ct Dh Di
 have KY := wM hs (ba + 1); rw [o4 om] at KY
 refine .mv ?_
 refine .mv ?_
 refine .vl (Y.qr (m := (((n.cells.getD ba default).args).getD cW 0).toNat) r4 rfl rfl om om) (.vl (Y.qx wy rfl (aT (d := false) om) rfl rfl) (.nil ?_))
 refine .cond rfl (fun GO => ?_) (fun GO => ?_)
 refine .sr ?_
 refine .mv ?_
 refine .mv ?_
 refine .vl (Y.qr (m := ba) az rfl rfl bj om) (.vl (Y.qx bw rfl (aT (d := 0) fF) rfl rfl) (.vl (Y.qb rfl rfl om) (.vl (Y.qr (m := ba) az rfl rfl bj om) (.jT ((bL.set ba ((bL.getD ba 0) + 1)).map al) cJ rfl rfl rfl rfl rfl rfl rfl (aT (d := 0) om) (bE rfl) (ga rfl) ?_))))
 refine .nil (.region ?_)
 refine .mv ?_
 refine .mv ?_
 refine .mv ?_
 refine .mv ?_
 refine .vl (Y.qr (m := (((n.cells.getD ba default).args).getD cW 0).toNat) gX rfl rfl om om) (.Ee ((ck.map ll).set (0 + ((((n.cells.getD ba default).args).getD cW 0).toNat)) [.no]) cQ rfl rfl (aT (d := []) om) rfl rfl ag ?_)
 refine .mv ?_
 refine .buildSlice (([(ba : Int)] : List Int).map al) az fX rfl rfl rfl rfl rfl (aD (s := 1) (f := al) (fun _ => rfl)) rfl rfl rfl ag ?_
 refine .sh (Sh.fL (d := 104) (n := (ck.getD ((((n.cells.getD ba default).args).getD cW 0).toNat) []).length) 204 ((ck.getD ((((n.cells.getD ba default).args).getD cW 0).toNat) []).map al) rfl jV (bf rfl) ag) (.vX al ((ck.getD ((((n.cells.getD ba default).args).getD cW 0).toNat) []) ++ ([(ba : Int)] : List Int)) az fX rfl rfl rfl rfl (bU fF) (bB fF) (da fF) fF fF ag ag (.vl (Y.qr (m := (((n.cells.getD ba default).args).getD cW 0).toNat) gX rfl rfl om om) (.sh (Sh.cV (d := 107) (o := 204) rfl rfl (bf om) ag) (.y5 ((ck.set ((((n.cells.getD ba default).args).getD cW 0).toNat) ((ck.getD ((((n.cells.getD ba default).args).getD cW 0).toNat) []) ++ ([(ba : Int)] : List Int))).map ll) yH rfl rfl rfl (y8 om) ag (wh rfl) (.nil (⟨bL.set ba ((bL.getD ba 0) + 1), ck.set ((((n.cells.getD ba default).args).getD cW 0).toNat) ((ck.getD ((((n.cells.getD ba default).args).getD cW 0).toNat) []) ++ ([(ba : Int)] : List Int)), ⟨fF, ⟨fF, Dh.step om pJ xm om Di ((dN.all FF Di).1 GO)⟩⟩, Le.mk (.c8 (.c4 (.c .nil))) (.c4 (.c (.c .nil)))⟩))))))
 refine .skip (⟨bL, ck, ⟨om, ⟨om, Dh.skip om (fun h => by rw [(dN.all FF Di).2 h] at GO; cases GO)⟩⟩, Le.mk (.c8 (.c4 (.c .nil))) (.c4 (.c (.c .nil)))⟩)
 obtain ⟨Dk, Dl, Ji⟩ := FH
 refine .region (.vl (Y.qb rfl rfl om) ?_)
 refine .mv ?_
 refine .nil (⟨cW + 1, dS, fT, ⟨om, om, om, Ji⟩, om, Le.mk (.c8 (.c4 (.cons (aq rfl bj) .nil))) (.c4 (.c (.c .nil)))⟩)
 refine .exit (.sr ?_)
 refine .mv ?_
 refine .mv ?_
 refine .vl (Y.qr (m := ba) az rfl rfl bj om) (.vl (Y.qx bw rfl (aT (d := 0) fF) rfl rfl) ?_)
 refine .vl (Y.qk rfl rfl) (.nil ?_)
 refine .a9 rfl (fun Cu => ?_) (fun Cu => ?_)
 refine .region ?_
 refine .mv ?_
 refine .mv ?_
 refine .buildSlice (([(ba : Int)] : List Int).map al) az fX rfl rfl rfl rfl rfl (aD (s := 1) (f := al) (fun _ => rfl)) rfl rfl rfl ag ?_
 refine .vX al (bW ++ ([(ba : Int)] : List Int)) az fX rfl rfl rfl rfl (bU fF) (bB fF) (da fF) fF fF ag ag ?_
 refine .an ?_
 refine .nil (⟨bL, ck, bW ++ ([(ba : Int)] : List Int), ⟨om, ⟨om, (BJ.fin Ct om Dg (by rw [show (n.cells.getD ba default).args.length = cW by omega]; exact Dh)).1 Cu⟩⟩, Le.mk (.c4 (.c (.cons (aI rfl om) (.c2 (.c .nil))))) (.c4 (.c (.c .nil)))⟩)
 refine .skip (⟨bL, ck, bW, ⟨om, ⟨om, (BJ.fin Ct om Dg (by rw [show (n.cells.getD ba default).args.length = cW by omega]; exact Dh)).2 Cu⟩⟩, Le.mk (.c4 (.c (.cons (aI rfl om) (.c2 (.c .nil))))) (.c4 (.c (.c .nil)))⟩)
 obtain ⟨Dm, Dn, Jj⟩ := FG
 refine .region (.vl (Y.qb rfl rfl om) ?_)
 refine .mv ?_
 refine .nil (⟨ba + 1, dR, fS, fg, ⟨om, om, om, Jj⟩, om, Le.mk (.c4 (.c (.cons (aI rfl om) (.c2 (.cons (aq rfl bj) .nil))))) (.c4 (.c (.c .nil)))⟩)
 refine .exit (.seq (.block ?_))
 have Cv : BI n n.cells.length bS aN bW := by rw [show n.cells.length = ba by omega]; exact Ct
 have KZ := Cv.us
 refine .sh (Sh.cV (d := 6) (o := 106) rfl rfl (bf om) ag) (.sh (Sh.sO (d := 6) (l := aN) (f := ll) (g := gy) wi rfl) ?_)
 refine .eS (fun (ed : List Int) (dF : List Int) (a7 : List Int) => ⟨[(1, .ptr 101 0 0 0), (4, .aR 104 1 0 ed.length), (5, .aR 105 1 0 n.cells.length), (6, .fz 1 (aN.map gy)), (12, .aR 112 1 0 a7.length)], [(101, .cells (ab.row n)), (104, .rows 1 (ed.map al)), (105, .rows 1 (dF.map al)), (112, .rows 1 (a7.map al))]⟩) (fun ed dF a7 => (dF.length = n.cells.length) ∧ (∃ done, ed = fm n n.cells.length ++ done ∧ KI n done a7 dF)) (fun ed dF a7 => n.cells.length - ed.length) dw bS bW (⟨om, ⟨[], by rw [GN, show e8 = n.cells.length by omega, List.append_nil], Cv.ki⟩⟩) (Le.mk (.c (.cons (aI rfl om) (.c2 (.cons (aI rfl om) .nil)))) (.c2 (.c (.c .nil)))) (fun ed dF a7 Cw => ?_)
 obtain ⟨pJ, hK⟩ := Cw
 refine .seq (.sr ?_)
 refine .mv ?_
 refine .vl (Y.qu (n := a7.length) az rfl rfl) (.vl (Y.qp rfl rfl) (.nil ?_))
 refine .a9 rfl (fun Cp => ?_) (fun Cp => ?_)
 obtain ⟨done, lE, oV⟩ := hK
 have kX := oV.len
 rw [← lE] at kX
 have l4 := oV.cm (a7.getD 0 0) (List.mem_append.2 (.inr (dc om)))
 have MJ := l4.1
 have Cg := hf.iG l4.g6
 have Jk := Cg; unfold In ab.cell at Jk
 have Am : ∀ x, aX n x → (aN.getD (((n.cells.getD ((a7.getD 0 0).toNat) default).out).toNat) []).count x = (n.cell x).args.count (n.cell (a7.getD 0 0)).out := fun x hx => KZ.MH _ x Cg ⟨_, l4, rfl⟩ hx
 have GP : ∀ x ∈ (aN.getD (((n.cells.getD ((a7.getD 0 0).toNat) default).out).toNat) []), aX n x := fun x hx => KZ.mem _ x Cg hx
 have Nv := Cv.ul _ Cg; unfold ab.cell at Nv
 have KY := wM hs n.cells.length
 refine .skip (.block (.sr ?_))
 refine .mv ?_
 refine .vl (Y.qr (m := 0) az rfl rfl bj om) (.vl (Y.qx bw rfl (aT (d := 0) fF) rfl rfl) ?_)
 refine .an ?_
 refine .nil (.sr ?_)
 refine .mv ?_
 refine .vl (Y.zt (l := 1) (h := a7.length) az rfl (.some rfl) (.none _) om om) ?_
 refine .an ?_
 refine .sh (Sh.Al (d := 12) (o := 112) ((a7.drop 1).map al) rfl rfl fF (uH fF) ag) ?_
 refine .nil (.sr ?_)
 refine .mv ?_
 refine .mv ?_
 refine .buildSlice (([a7.getD 0 0] : List Int).map al) az fX rfl rfl rfl rfl rfl (aD (s := 1) (f := al) (fun _ => rfl)) rfl rfl rfl ag ?_
 refine .vX al (ed ++ ([a7.getD 0 0] : List Int)) az fX rfl rfl rfl rfl (bU fF) (bB fF) (da fF) fF fF ag ag ?_
 refine .an ?_
 refine .nil (.sr ?_)
 refine .mv ?_
 refine .fa fM ?_
 refine .ld nq ?_
 refine .mv ?_
 refine .vl (Y.qq (m := (a7.getD 0 0).toNat) iZ rfl rfl om (ao (d := default) om)) ?_
 refine .fa jX ?_
 refine .ld bw ?_
 refine .vl (Y.qq (m := ((n.cells.getD ((a7.getD 0 0).toNat) default).out).toNat) gX rfl rfl om (ao (d := []) om)) ?_
 refine .ld cQ ?_
 refine .vl (Y.qu (n := (aN.getD (((n.cells.getD ((a7.getD 0 0).toNat) default).out).toNat) []).length) az rfl gx) ?_
 refine .mv ?_
 refine .nil (.block ?_)
 refine .eS (fun (bT : Nat) (b8 : List Int) (dG : List Int) => ⟨[(1, .ptr 101 0 0 0), (4, .aR 104 1 0 ((ed ++ ([a7.getD 0 0] : List Int)).length)), (5, .aR 105 1 0 n.cells.length), (6, .fz 1 (aN.map gy)), (12, .aR 112 1 0 dG.length), (140, .fz 1 ((aN.getD (((n.cells.getD ((a7.getD 0 0).toNat) default).out).toNat) []).map al)), (141, vi (((aN.getD (((n.cells.getD ((a7.getD 0 0).toNat) default).out).toNat) []).length : Nat) : Int)), (142, vi bT)], [(101, .cells (ab.row n)), (104, .rows 1 ((ed ++ ([a7.getD 0 0] : List Int)).map al)), (105, .rows 1 (b8.map al)), (112, .rows 1 (dG.map al))]⟩) (fun bT b8 dG => (b8.length = n.cells.length) ∧ ((bT : Int) ≤ (((aN.getD (((n.cells.getD ((a7.getD 0 0).toNat) default).out).toNat) []).length : Nat) : Int)) ∧ (KJ n done (a7.getD 0 0) (aN.getD (((n.cells.getD ((a7.getD 0 0).toNat) default).out).toNat) []) bT dG b8)) (fun bT b8 dG => ((((aN.getD (((n.cells.getD ((a7.getD 0 0).toNat) default).out).toNat) []).length : Nat) : Int) - (bT : Int)).toNat) 0 dF (a7.drop 1) (⟨fF, fF, KJ.init oV om⟩) (Le.mk (.c4 (.cons (aI rfl fF) (.c2 (.cons (aq rfl bj) .nil)))) (.c2 (.c (.c .nil)))) (fun bT b8 dG Jl => ?_)
 obtain ⟨pJ, Nw, GQ⟩ := Jl
 refine .sr (.vl (Y.qz rfl rfl) (.nil ?_))
 refine .seq ?_
 refine .a9 rfl (fun Jm => ?_) (fun Jm => ?_)
 refine .skip ?_
 refine .iA (fun (fh : List Int) => ⟨[(1, .ptr 101 0 0 0), (4, .aR 104 1 0 ((ed ++ ([a7.getD 0 0] : List Int)).length)), (5, .aR 105 1 0 n.cells.length), (6, .fz 1 (aN.map gy)), (12, .aR 112 1 0 fh.length), (140, .fz 1 ((aN.getD (((n.cells.getD ((a7.getD 0 0).toNat) default).out).toNat) []).map al)), (141, vi (((aN.getD (((n.cells.getD ((a7.getD 0 0).toNat) default).out).toNat) []).length : Nat) : Int)), (142, vi bT)], [(101, .cells (ab.row n)), (104, .rows 1 ((ed ++ ([a7.getD 0 0] : List Int)).map al)), (105, .rows 1 ((b8.set (((aN.getD (((n.cells.getD ((a7.getD 0 0).toNat) default).out).toNat) []).getD bT 0).toNat) ((b8.getD (((aN.getD (((n.cells.getD ((a7.getD 0 0).toNat) default).out).toNat) []).getD bT 0).toNat) 0) - 1)).map al)), (112, .rows 1 (fh.map al))]⟩) (fun fh => KJ n done (a7.getD 0 0) (aN.getD (((n.cells.getD ((a7.getD 0 0).toNat) default).out).toNat) []) (bT + 1) fh (b8.set ((aN.getD (((n.cells.getD ((a7.getD 0 0).toNat) default).out).toNat) []).getD bT 0).toNat (b8.getD ((aN.getD (((n.cells.getD ((a7.getD 0 0).toNat) default).out).toNat) []).getD bT 0).toNat 0 - 1))) ?_ (fun fh Jn => ?_)
 refine .block (.sr ?_)
 refine .vl (Y.qq (m := bT) az rfl rfl bj (ao (d := 0) om)) ?_
 refine .ld bw ?_
 refine .an ?_
 refine .nil (.sr ?_)
 have HK := GQ.bound hf hs om Am GP
 have OQ := (GP _ (dc (l := (aN.getD (((n.cells.getD ((a7.getD 0 0).toNat) default).out).toNat) [])) (i := bT) om)).1
 refine .mv ?_
 refine .mv ?_
 refine .vl (Y.qr (m := ((aN.getD (((n.cells.getD ((a7.getD 0 0).toNat) default).out).toNat) []).getD bT 0).toNat) az rfl rfl om om) (.vl (Y.qx bw rfl (aT (d := 0) fF) rfl rfl) (.vl (Y.zv rfl rfl om) (.vl (Y.qr (m := ((aN.getD (((n.cells.getD ((a7.getD 0 0).toNat) default).out).toNat) []).getD bT 0).toNat) az rfl rfl om om) (.jT ((b8.set (((aN.getD (((n.cells.getD ((a7.getD 0 0).toNat) default).out).toNat) []).getD bT 0).toNat) ((b8.getD (((aN.getD (((n.cells.getD ((a7.getD 0 0).toNat) default).out).toNat) []).getD bT 0).toNat) 0) - 1)).map al) cJ rfl rfl rfl rfl rfl rfl rfl (aT (d := 0) om) (bE rfl) (ga rfl) ?_))))
 refine .nil (.sr ?_)
 refine .mv ?_
 refine .mv ?_
 refine .vl (Y.qr (m := ((aN.getD (((n.cells.getD ((a7.getD 0 0).toNat) default).out).toNat) []).getD bT 0).toNat) az rfl rfl om om) (.vl (Y.qx bw rfl (aT (d := 0) fF) rfl rfl) ?_)
 refine .vl (Y.qk rfl rfl) (.nil ?_)
 refine .a9 rfl (fun xq => ?_) (fun xq => ?_)
 rw [bD, if_pos ⟨rfl, om⟩] at xq
 refine .region ?_
 refine .mv ?_
 refine .mv ?_
 refine .buildSlice (([(aN.getD (((n.cells.getD ((a7.getD 0 0).toNat) default).out).toNat) []).getD bT 0] : List Int).map al) az fX rfl rfl rfl rfl rfl (aD (s := 1) (f := al) (fun _ => rfl)) rfl rfl rfl ag ?_
 refine .vX al (dG ++ ([(aN.getD (((n.cells.getD ((a7.getD 0 0).toNat) default).out).toNat) []).getD bT 0] : List Int)) az fX rfl rfl rfl rfl (bU fF) (bB fF) (da fF) fF fF ag ag ?_
 refine .an ?_
 refine .nil ⟨dG ++ ([(aN.getD (((n.cells.getD ((a7.getD 0 0).toNat) default).out).toNat) []).getD bT 0] : List Int), (GQ.step hf pJ om Am GP).1 xq, Le.mk (.c4 (.cons (aI rfl om) (.c2 (.c .nil)))) (.c2 (.c (.c .nil)))⟩
 rw [bD, if_pos ⟨rfl, om⟩] at xq
 refine .skip ⟨dG, (GQ.step hf pJ om Am GP).2 xq, Le.mk (.c4 (.cons (aI rfl om) (.c2 (.c .nil)))) (.c2 (.c (.c .nil)))⟩
 refine .region (.vl (Y.qb rfl rfl om) ?_)
 refine .mv ?_
 refine .nil (⟨bT + 1, b8.set (((aN.getD (((n.cells.getD ((a7.getD 0 0).toNat) default).out).toNat) []).getD bT 0).toNat) ((b8.getD (((aN.getD (((n.cells.getD ((a7.getD 0 0).toNat) default).out).toNat) []).getD bT 0).toNat) 0) - 1), fh, ⟨fF, fF, Jn⟩, om, Le.mk (.c4 (.cons (aI rfl fF) (.c2 (.cons (aq rfl bj) .nil)))) (.c2 (.c (.c .nil)))⟩)
 refine .exit (⟨ed ++ ([a7.getD 0 0] : List Int), b8, dG, ⟨om, ⟨done ++ [(a7.getD 0 0)], by rw [lE, List.append_assoc], KJ.fin hf oV (dc om) (by rw [show (aN.getD (((n.cells.getD ((a7.getD 0 0).toNat) default).out).toNat) []).length = bT by omega]; exact GQ) Am⟩⟩, by rw [List.length_append]; simp only [List.length_cons, List.length_nil]; omega, Le.mk (.c (.cons (aI rfl om) (.c2 (.cons (aI rfl om) .nil)))) (.c2 (.c (.c .nil)))⟩)
 obtain ⟨done, lE, oV⟩ := hK
 have Nx : a7 = [] := List.eq_nil_of_length_eq_zero om
 subst Nx
 refine .exit (.seq (.sr ?_))
 refine .mv ?_
 refine .vl (Y.qu (n := ed.length) az rfl rfl) ?_
 refine .fa fM ?_
 refine .ld nq ?_
 refine .vl (Y.qu (n := n.cells.length) iZ rfl gx) (.vl (Y.qz rfl rfl) (.nil ?_))
 refine .a9 rfl (fun xk => ?_) (fun xk => ?_)
 refine .sr ?_
 refine .an ?_
 refine .an ?_
 refine .nil (.sh (Sh.pb (d := 2) 1 rfl) (.ret ?_))
 exact ⟨_, _, rfl, rfl, ([] : List Int), 12, .inr (.inr (.inl ⟨hf, Cr, oV.EX (by rw [← lE]; omega), rfl, rfl⟩)), rfl, rfl⟩
 refine .skip (.sr ?_)
 refine .mv ?_
 refine .an ?_
 refine .sh (Sh.cV (d := 2) (o := 104) rfl rfl (bf om) ag) ?_
 refine .an ?_
 refine .nil (.ret ?_)
 exact ⟨_, _, rfl, rfl, ed, 0, .inr (.inr (.inr ⟨hf, Cr, (oV.ok hf (by rw [← lE]; omega)).1, by rw [lE]; exact (oV.ok hf (by rw [← lE]; omega)).2, rfl⟩)), rfl, rfl⟩
open Go Go.AW Go.Proofs
theorem tm {n : ab} (hs : n.Small) (GJ : n.ai.length + n.ins.length ≤ 17592186044416) : ak Try.prog 77 [.agg (ab.row n)] [] [] (fun r o => r = (vi (lO n)) ∧ o = []) := by
 refine ak.of Try.func77 rfl rfl rfl (n := 11) ag (bE rfl) (.sr (.box 101 rfl rfl rfl rfl rfl ag ?_))
 refine .an ?_
 refine .nil (.sr (.vl (Y.qy uJ rfl rfl (bE rfl) rfl rfl) ?_))
 refine .p5 HS (tl (n := n) hs (om)) rfl (.au rfl rfl .nil) ag ?_
 rintro _ ⟨l7, e7, Ny, rfl, _⟩
 refine ⟨rfl, ?_⟩
 refine .nX rfl ag (.jW rfl rfl ag (.vl (Y.qm rfl rfl rfl) ?_))
 refine .bx rfl ag (.sh (Sh.c1 (d := 3) (l7.map al) rfl jV (du.map cv)) ?_)
 refine .an ?_
 refine .nil (.sr ?_)
 refine .mv ?_
 refine .an ?_
 refine .nil (.ret ?_)
 exact .ri rfl (Ny.err)
open Go Go.AW Go.Proofs
end Go.Proofs.Ytlimckldnjmabaa
namespace Go.Proofs.Ytlimckldnjmabaa
open Go Go.AW Go.Proofs
theorem oJ {l : List Int} (hl : l.length ≤ 17592186043904) : ak Try.prog 89 [.fz 1 (l.map al)] [] [] (fun r o => r = .v (.bool (decide (∀ j, j < l.length → dL (l.getD j 0)))) ∧ o = []) := by
 refine ak.of Try.func89 rfl rfl rfl (n := 16) ag (bE rfl) (.sr ?_)
 refine .an ?_
 refine .nil (.seq (.sr ?_))
 refine .an ?_
 refine .nil (.block ?_)
 refine .j7 (fun (oK : Nat) => ⟨[(0, .fz 1 (l.map al)), (3, vi oK)], []⟩) (fun oK => ((oK : Int) ≤ (l.length : Int)) ∧ (∀ j, j < oK → dL (l.getD j 0))) (fun oK => ((l.length : Int) - (oK : Int)).toNat) 0 (⟨om, fun j hj => by omega⟩) (Le.mk (.c (.cons (aq rfl bj) .nil)) .nil) (fun oK vQ => ?_)
 obtain ⟨xS, hw⟩ := vQ
 refine .seq (.sr ?_)
 refine .mv ?_
 refine .mv ?_
 refine .vl (Y.qu (n := l.length) az rfl gx) (.vl (Y.qz rfl rfl) (.nil ?_))
 refine .a9 rfl (fun c7 => ?_) (fun c7 => ?_)
 refine .skip (.seq (.block ?_))
 refine .sr ?_
 refine .mv ?_
 refine .mv ?_
 refine .vl (Y.qq (m := oK) az rfl rfl bj (ao (d := 0) om)) ?_
 refine .ld bw ?_
 refine .br EA (oB (w := (l.getD oK 0))) rfl (.au rfl rfl .nil) ag rfl (.vl (Y.zi rfl) (.nil ?_))
 refine .gT rfl (fun nG => ?_) (fun nG => ?_)
 refine .sr ?_
 refine .an ?_
 refine .nil (.ret ?_)
 exact .rb rfl (df (fun h => by have := h oK om; contradiction))
 refine .skip (.region ?_)
 refine .mv ?_
 refine .vl (Y.qb rfl rfl aF) ?_
 refine .an ?_
 refine .nil (⟨oK + 1, ⟨om, fe hw ik⟩, om, Le.mk (.c (.cons (aq rfl bj) .nil)) .nil⟩)
 refine .exit (.sr ?_)
 refine .an ?_
 refine .nil (.ret ?_)
 exact .rb rfl (dt (fun j hj => hw j om))
open Go Go.AW Go.Proofs
end Go.Proofs.Ytlimckldnjmabaa
namespace Go.Proofs.Ytlimckldnjmabaa
open Go Go.AW Go.Proofs
theorem iR {l : List Int} (hl : l.length ≤ 17592186043904) : ak Try.prog 123 [.fz 1 (l.map al)] [] [] (fun r o => r = .cX 1 (l.map al) ∧ o = []) := by
 refine ak.of Try.func123 rfl rfl rfl (n := 8) ag (bE rfl) (.sr ?_)
 refine .an ?_
 refine .nil (.seq (.sr ?_))
 refine .mv ?_
 refine .Ao az rfl rfl ag (fun b4 AK => ?_)
 refine .nil ?_
 refine .cond rfl (fun c4 => ?_) (fun c4 => ?_)
 refine .sr ?_
 refine .an ?_
 refine .nil (.sh (Sh.pb (d := 2) 1 rfl) (.ret ?_))
 exact ⟨_, _, rfl, rfl, (xW (fun (z0 : List Int) => X.cX 1 (z0.map al)) (by have := AK ik; simpa using this : ([] : List Int) = l) : X.cX 1 (([] : List Int).map al) = X.cX 1 (l.map al)), rfl⟩
 refine .skip (.sr ?_)
 refine .buildSlice (([] : List Int).map al) az fX rfl rfl rfl rfl rfl (aD (s := 1) (f := al) (fun _ => rfl)) rfl rfl rfl ag ?_
 refine .mv ?_
 refine .sh (Sh.fL (d := 5) (n := ([] : List Int).length) 105 (([] : List Int).map al) rfl jV (bf rfl) ag) (.nT ((([] : List Int) ++ l).map al) (([] : List Int) ++ l).length az fX rfl rfl rfl rfl (bU aF) (bB aF) (da aF) aF aF ag ag ?_)
 refine .an ?_
 refine .sh (Sh.cV (d := 2) (o := 105) rfl rfl (bf om) ag) ?_
 refine .nil (.ret ?_)
 exact ⟨_, _, rfl, rfl, (xW (fun (z0 : List Int) => X.cX 1 (z0.map al)) (rfl : (([] : List Int) ++ l) = l) : X.cX 1 ((([] : List Int) ++ l).map al) = X.cX 1 (l.map al)), rfl⟩
open Go Go.AW Go.Proofs
set_option maxRecDepth 4000 in
set_option maxHeartbeats 1000000 in
theorem fU {gl : List Gate} (oL : gl.length ≤ 100000000) {k a b : Int} : ak Try.prog 125 [.ptr 0 0 0 0, .v (.int .i64 k), .v (.int .i64 a), .v (.int .i64 b)] [.cells [.aR 1 3 0 gl.length], .rows 3 (gl.map Gate.row)] [0] (fun r o => r = (.v (.int .i64 (gl.length : Int))) ∧ o = [.cells [.aR 1 3 0 ((gl ++ [(⟨k, a, b⟩ : Gate)]).length)], .rows 3 ((gl ++ [(⟨k, a, b⟩ : Gate)]).map Gate.row)]) := by
 refine ak.of Try.func125 rfl rfl rfl (n := 28) ag (Nat.le_of_ble_eq_true rfl) (ah.sr ?_)
 refine .an ?_
 refine aa.nil (ah.sr ?_)
 refine .mv ?_
 refine .mv ?_
 refine .vl (Y.zh rfl rfl) ?_
 refine .fa nC ?_
 refine .ld BE ?_
 refine .mv ?_
 refine .mv ?_
 refine .mv ?_
 refine .vl (Y.qg EL w7 rfl rfl rfl) ?_
 refine aa.buildSlice (([(⟨k, a, b⟩ : Gate)] : List Gate).map Gate.row) uK w7 rfl rfl rfl rfl rfl (aD (s := 3) (f := Gate.row) (fun _ => rfl)) rfl rfl rfl ag ?_
 refine aa.bY ((gl ++ ([(⟨k, a, b⟩ : Gate)] : List Gate)).map Gate.row) (gl ++ ([(⟨k, a, b⟩ : Gate)] : List Gate)).length uK w7 rfl rfl rfl rfl (bU aF) (bB aF) (da aF) aF aF ag ag ?_
 refine .vl (Y.zh rfl rfl) ?_
 refine .fa nC ?_
 refine aa.aj Ik rfl rfl rfl rfl rfl rfl (Nat.le_of_ble_eq_true rfl) rfl (aa.nil (ah.sr ?_))
 refine .mv ?_
 refine .vl (Y.zh rfl rfl) ?_
 refine .fa nC ?_
 refine .ld BE ?_
 refine .vl (Y.qu (n := (gl ++ ([(⟨k, a, b⟩ : Gate)] : List Gate)).length) uK rfl rfl) ?_
 refine .vl (Y.zv rfl rfl aF) ?_
 refine .an ?_
 refine aa.nil (ah.ret ?_)
 exact ⟨_, _, rfl, rfl, xW (fun (z0 : Int) => X.v (.int .i64 z0)) (by simp : (((gl ++ [(⟨k, a, b⟩ : Gate)]).length : Nat) : Int) - 1 = (gl.length : Int)), rfl⟩
set_option maxRecDepth 4000 in
set_option maxHeartbeats 1000000 in
theorem fC {gl : List Gate} (oL : gl.length ≤ 100000000) {a : Int} : ak Try.prog 95 [.ptr 0 0 0 0, .v (.int .i64 a)] [.cells [.aR 1 3 0 gl.length], .rows 3 (gl.map Gate.row)] [0] (fun r o => r = (.v (.int .i64 (gl.length : Int))) ∧ o = [.cells [.aR 1 3 0 ((gl ++ [(⟨4, a, 0⟩ : Gate)]).length)], .rows 3 ((gl ++ [(⟨4, a, 0⟩ : Gate)]).map Gate.row)]) := by
 refine ak.of Try.func95 rfl rfl rfl (n := 8) ag (Nat.le_of_ble_eq_true rfl) (ah.sr ?_)
 refine .an ?_
 refine aa.nil (ah.sr ?_)
 refine .mv ?_
 refine .mv ?_
 refine aa.bc [0, 1] [] ou (fU (gl := gl) (k := 4) (a := a) (b := 0) om) rfl (.named rfl rfl (.au rfl rfl (.au rfl rfl (.au rfl rfl .nil)))) ⟨rfl, rfl, trivial⟩ rfl ag (fun _ h => by cases h) (fun _ h => by cases h) ag ag ?_
 rintro r a8 ⟨rfl, rfl⟩ _
 refine ⟨⟨rfl, (by intro ob aL; simp only [List.mem_cons, List.not_mem_nil, or_false] at aL; rcases aL with rfl | rfl <;> rfl), .inl rfl⟩, ?_⟩
 refine .an ?_
 refine aa.nil (ah.ret ?_)
 exact ⟨_, _, rfl, rfl, rfl, rfl⟩
set_option maxRecDepth 4000 in
set_option maxHeartbeats 1000000 in
theorem eT {gl : List Gate} (oL : gl.length ≤ 100000000) {a : Int} {b : Int} : ak Try.prog 96 [.ptr 0 0 0 0, .v (.int .i64 a), .v (.int .i64 b)] [.cells [.aR 1 3 0 gl.length], .rows 3 (gl.map Gate.row)] [0] (fun r o => r = (.v (.int .i64 (gl.length : Int))) ∧ o = [.cells [.aR 1 3 0 ((gl ++ [(⟨5, a, b⟩ : Gate)]).length)], .rows 3 ((gl ++ [(⟨5, a, b⟩ : Gate)]).map Gate.row)]) := by
 refine ak.of Try.func96 rfl rfl rfl (n := 11) ag (Nat.le_of_ble_eq_true rfl) (ah.sr ?_)
 refine .an ?_
 refine aa.nil (ah.sr ?_)
 refine .mv ?_
 refine .mv ?_
 refine .mv ?_
 refine aa.bc [0, 1] [] ou (fU (gl := gl) (k := 5) (a := a) (b := b) om) rfl (.named rfl rfl (.au rfl rfl (.au rfl rfl (.au rfl rfl .nil)))) ⟨rfl, rfl, trivial⟩ rfl ag (fun _ h => by cases h) (fun _ h => by cases h) ag ag ?_
 rintro r a8 ⟨rfl, rfl⟩ _
 refine ⟨⟨rfl, (by intro ob aL; simp only [List.mem_cons, List.not_mem_nil, or_false] at aL; rcases aL with rfl | rfl <;> rfl), .inl rfl⟩, ?_⟩
 refine .an ?_
 refine aa.nil (ah.ret ?_)
 exact ⟨_, _, rfl, rfl, rfl, rfl⟩
set_option maxRecDepth 4000 in
set_option maxHeartbeats 1000000 in
theorem lX {gl : List Gate} (oL : gl.length ≤ 100000000) {a : Int} {b : Int} : ak Try.prog 143 [.ptr 0 0 0 0, .v (.int .i64 a), .v (.int .i64 b)] [.cells [.aR 1 3 0 gl.length], .rows 3 (gl.map Gate.row)] [0] (fun r o => r = (.v (.int .i64 (gl.length : Int))) ∧ o = [.cells [.aR 1 3 0 ((gl ++ [(⟨6, a, b⟩ : Gate)]).length)], .rows 3 ((gl ++ [(⟨6, a, b⟩ : Gate)]).map Gate.row)]) := by
 refine ak.of Try.func143 rfl rfl rfl (n := 11) ag (Nat.le_of_ble_eq_true rfl) (ah.sr ?_)
 refine .an ?_
 refine aa.nil (ah.sr ?_)
 refine .mv ?_
 refine .mv ?_
 refine .mv ?_
 refine aa.bc [0, 1] [] ou (fU (gl := gl) (k := 6) (a := a) (b := b) om) rfl (.named rfl rfl (.au rfl rfl (.au rfl rfl (.au rfl rfl .nil)))) ⟨rfl, rfl, trivial⟩ rfl ag (fun _ h => by cases h) (fun _ h => by cases h) ag ag ?_
 rintro r a8 ⟨rfl, rfl⟩ _
 refine ⟨⟨rfl, (by intro ob aL; simp only [List.mem_cons, List.not_mem_nil, or_false] at aL; rcases aL with rfl | rfl <;> rfl), .inl rfl⟩, ?_⟩
 refine .an ?_
 refine aa.nil (ah.ret ?_)
 exact ⟨_, _, rfl, rfl, rfl, rfl⟩
set_option maxRecDepth 4000 in
set_option maxHeartbeats 1000000 in
theorem jd {gl : List Gate} (oL : gl.length ≤ 100000000) {a : Int} {b : Int} : ak Try.prog 175 [.ptr 0 0 0 0, .v (.int .i64 a), .v (.int .i64 b)] [.cells [.aR 1 3 0 gl.length], .rows 3 (gl.map Gate.row)] [0] (fun r o => r = (.v (.int .i64 (gl.length : Int))) ∧ o = [.cells [.aR 1 3 0 ((gl ++ [(⟨7, a, b⟩ : Gate)]).length)], .rows 3 ((gl ++ [(⟨7, a, b⟩ : Gate)]).map Gate.row)]) := by
 refine ak.of Try.func175 rfl rfl rfl (n := 11) ag (Nat.le_of_ble_eq_true rfl) (ah.sr ?_)
 refine .an ?_
 refine aa.nil (ah.sr ?_)
 refine .mv ?_
 refine .mv ?_
 refine .mv ?_
 refine aa.bc [0, 1] [] ou (fU (gl := gl) (k := 7) (a := a) (b := b) om) rfl (.named rfl rfl (.au rfl rfl (.au rfl rfl (.au rfl rfl .nil)))) ⟨rfl, rfl, trivial⟩ rfl ag (fun _ h => by cases h) (fun _ h => by cases h) ag ag ?_
 rintro r a8 ⟨rfl, rfl⟩ _
 refine ⟨⟨rfl, (by intro ob aL; simp only [List.mem_cons, List.not_mem_nil, or_false] at aL; rcases aL with rfl | rfl <;> rfl), .inl rfl⟩, ?_⟩
 refine .an ?_
 refine aa.nil (ah.ret ?_)
 exact ⟨_, _, rfl, rfl, rfl, rfl⟩
set_option maxRecDepth 4000 in
set_option maxHeartbeats 1000000 in
theorem eh {gl : List Gate} (oL : gl.length ≤ 100000000) : ak Try.prog 178 [.ptr 0 0 0 0] [.cells [.aR 1 3 0 gl.length], .rows 3 (gl.map Gate.row)] [0] (fun r o => r = (.v (.int .i64 (gl.length : Int))) ∧ o = [.cells [.aR 1 3 0 ((gl ++ [(⟨1, 0, 0⟩ : Gate)]).length)], .rows 3 ((gl ++ [(⟨1, 0, 0⟩ : Gate)]).map Gate.row)]) := by
 refine ak.of Try.func178 rfl rfl rfl (n := 5) ag (Nat.le_of_ble_eq_true rfl) (ah.sr ?_)
 refine .an ?_
 refine aa.nil (ah.sr ?_)
 refine .mv ?_
 refine aa.bc [0, 1] [] ou (fU (gl := gl) (k := 1) (a := 0) (b := 0) om) rfl (.named rfl rfl (.au rfl rfl (.au rfl rfl (.au rfl rfl .nil)))) ⟨rfl, rfl, trivial⟩ rfl ag (fun _ h => by cases h) (fun _ h => by cases h) ag ag ?_
 rintro r a8 ⟨rfl, rfl⟩ _
 refine ⟨⟨rfl, (by intro ob aL; simp only [List.mem_cons, List.not_mem_nil, or_false] at aL; rcases aL with rfl | rfl <;> rfl), .inl rfl⟩, ?_⟩
 refine .an ?_
 refine aa.nil (ah.ret ?_)
 exact ⟨_, _, rfl, rfl, rfl, rfl⟩
open Go Go.AW Go.Proofs
set_option maxRecDepth 4000 in
set_option maxHeartbeats 1000000 in
theorem choose_spec {gl : List Gate} (oL : gl.length ≤ 90000000) {s v y n : Int} : ak Try.prog 97 [.ptr 0 0 0 0, .v (.int .i64 s), .v (.int .i64 v), .v (.int .i64 y), .v (.int .i64 n)] [.cells [.aR 1 3 0 gl.length], .rows 3 (gl.map Gate.row)] [0] (fun r o => r = (.v (.int .i64 ((gl.length : Int) + 2))) ∧ o = [.cells [.aR 1 3 0 ((ta gl s v y n).length)], .rows 3 ((ta gl s v y n).map Gate.row)]) := by
 refine ak.of Try.func97 rfl rfl rfl (n := 25) ag (Nat.le_of_ble_eq_true rfl) (ah.sr ?_)
 refine .an ?_
 refine aa.nil (ah.sr ?_)
 refine .mv ?_
 refine .mv ?_
 refine .mv ?_
 refine aa.bc [0, 1] [] pf (eT (gl := gl) (a := s) (b := y) om) rfl (.named rfl rfl (.au rfl rfl (.au rfl rfl .nil))) ⟨rfl, rfl, trivial⟩ rfl ag (fun _ h => by cases h) (fun _ h => by cases h) ag ag ?_
 rintro r a8 ⟨rfl, rfl⟩ _
 refine ⟨⟨rfl, (by intro ob aL; simp only [List.mem_cons, List.not_mem_nil, or_false] at aL; rcases aL with rfl | rfl <;> rfl), .inl rfl⟩, ?_⟩
 refine .an ?_
 refine aa.nil (ah.sr ?_)
 refine .mv ?_
 refine .mv ?_
 refine .mv ?_
 refine aa.bc [0, 1] [] pf (eT (gl := gl ++ [(⟨5, s, y⟩ : Gate)]) (a := v) (b := n) aF) rfl (.named rfl rfl (.au rfl rfl (.au rfl rfl .nil))) ⟨rfl, rfl, trivial⟩ rfl ag (fun _ h => by cases h) (fun _ h => by cases h) ag ag ?_
 rintro r a8 ⟨rfl, rfl⟩ _
 refine ⟨⟨rfl, (by intro ob aL; simp only [List.mem_cons, List.not_mem_nil, or_false] at aL; rcases aL with rfl | rfl <;> rfl), .inl rfl⟩, ?_⟩
 refine .an ?_
 refine aa.nil (ah.sr ?_)
 refine .mv ?_
 refine .mv ?_
 refine .mv ?_
 refine aa.bc [0, 1] [] r5 (lX (gl := (gl ++ [(⟨5, s, y⟩ : Gate)]) ++ [(⟨5, v, n⟩ : Gate)]) (a := (gl.length : Int)) (b := (((gl ++ [(⟨5, s, y⟩ : Gate)]).length : Nat) : Int)) aF) rfl (.named rfl rfl (.au rfl rfl (.au rfl rfl .nil))) ⟨rfl, rfl, trivial⟩ rfl ag (fun _ h => by cases h) (fun _ h => by cases h) ag ag ?_
 rintro r a8 ⟨rfl, rfl⟩ _
 refine ⟨⟨rfl, (by intro ob aL; simp only [List.mem_cons, List.not_mem_nil, or_false] at aL; rcases aL with rfl | rfl <;> rfl), .inl rfl⟩, ?_⟩
 refine .an ?_
 refine aa.nil (ah.ret ?_)
 exact ⟨_, _, rfl, rfl, xW (fun (z0 : Int) => X.v (.int .i64 z0)) (by simp [Int.add_assoc]), by rw [← zx]; rfl⟩
set_option maxRecDepth 4000 in
set_option maxHeartbeats 1000000 in
theorem mI {c : Int} {gl : List Gate} (hg : Good gl) (oL : gl.length ≤ 50000000) {k t u : Int} {a b : List Int} {f h e : Nat → List Bool → Bool} (hk : 5 ≤ k ∧ k ≤ 7) (ha : Ws c gl a f t) (hb : Ws c gl b h t) (hl : a.length = b.length) (um : a.length ≤ 1000) (hu : t + 20 ≤ u) (he : ∀ i ins, e i ins = if k = 5 then (f i ins && h i ins) else if k = 6 then (f i ins || h i ins) else (f i ins ^^ h i ins)) : ak Try.prog 128 [.ptr 0 0 0 0, .v (.int .i64 k), .fz 1 (a.map al), .fz 1 (b.map al)] [.cells [.aR 1 3 0 gl.length], .rows 3 (gl.map Gate.row)] [0] (fun r o => ∃ (l : List Gate) (out : List Int), Ext gl l ∧ l.length ≤ gl.length + a.length ∧ out.length = a.length ∧ Ws c l out e u ∧ r = .cX 1 (out.map al) ∧ o = [.cells [.aR 1 3 0 l.length], .rows 3 (l.map Gate.row)]) := by
 refine ak.of Try.func128 rfl rfl rfl (n := 32) ag (Nat.le_of_ble_eq_true rfl) (ah.sr ?_)
 refine .an ?_
 refine aa.nil (ah.sr ?_)
 refine .an ?_
 refine aa.sh (Sh.nil (d := 9) 109 1 rfl ag) (aa.nil (ah.seq ?_))
 refine ah.sr ?_
 refine .mv ?_
 refine .vl (Y.qu (n := a.length) az rfl (congrArg some (List.length_map ..))) ?_
 refine .mv ?_
 refine aa.nil (ah.block ?_)
 refine ah.eS (fun (gi : Nat) (aC : List Gate) (jz : List Int) => ⟨[(0, .ptr 0 0 0 0), (1, .v (.int .i64 k)), (2, .fz 1 (a.map al)), (3, .fz 1 (b.map al)), (9, .aR 109 1 0 jz.length), (12, .v (.int .i64 (a.length : Int))), (13, .v (.int .i64 (gi : Int)))], [(0, .cells [.aR 1 3 0 aC.length]), (1, .rows 3 (aC.map Gate.row)), (109, .rows 1 (jz.map al))]⟩) (fun (gi : Nat) (aC : List Gate) (jz : List Int) => ((gi : Int) ≤ (a.length : Int)) ∧ (rH c gl aC jz e u gi)) (fun (gi : Nat) (aC : List Gate) (jz : List Int) => ((a.length : Int) - (gi : Int)).toNat) 0 gl ([] : List Int) (⟨pt, rH.init hg⟩) (Le.mk (.c (.c (.c (.c (.cons (aI rfl aF) (.c (.cons (aq rfl bj) (.nil)))))))) (.cons (aB rfl gL) (.c (.c (.nil))))) (fun gi aC jz qH => ?_)
 obtain ⟨Cj, hM⟩ := qH
 refine ah.sr (.vl (Y.qz rfl rfl) (aa.nil ?_))
 refine ah.seq ?_
 refine ah.a9 rfl (fun qF => ?_) (fun qF => ?_)
 refine ah.skip (ah.seq (ah.block ?_))
 refine ah.sr ?_
 refine .mv ?_
 refine .an ?_
 refine aa.nil ?_
 have Jo := hM.len; have pa := hM.ol
 refine ah.cC rfl (aS.blind 0 rfl aU (aE.move rfl rfl) ag (aS.bl (n := 4) [1, 2, 3, 4, 5, 6, 7, 8, 9, 10] [11, 12, 13, 14] 11 rfl aU ?_))
 refine .cn 1 rfl (Y.zd rfl rfl) (.cn 2 rfl (Y.zd rfl rfl) (.cn 3 rfl (Y.zd rfl rfl) ?_))
 refine .cn 4 rfl (Y.zd rfl rfl) ?_
 refine .cn 5 rfl (Y.qq (m := gi) az rfl rfl bj (ao (d := 0) om)) ?_
 refine .cn 6 rfl (Y.qx bw rfl rfl rfl rfl) (.cn 7 rfl (Y.zd rfl rfl) (.cn 8 rfl (Y.zd rfl rfl) ?_))
 refine .cn 9 rfl (Y.qq (m := gi) az rfl rfl bj (ao (d := 0) om)) ?_
 refine .cn 10 rfl (Y.qx bw rfl rfl rfl rfl) (AQ.nil (aS.one 11 rfl aU ?_))
 refine aa.bc [0, 1] [] ou (fU (gl := aC) (k := k) (a := a.getD gi 0) (b := b.getD gi 0) om) rfl (.named rfl rfl (.au rfl rfl (.au rfl rfl (.au rfl rfl .nil)))) ⟨rfl, rfl, trivial⟩ rfl ag (fun _ h => by cases h) (fun _ h => by cases h) ag ag ?_
 rintro r a8 ⟨rfl, rfl⟩ _
 refine ⟨⟨rfl, (by intro ob aL; simp only [List.mem_cons, List.not_mem_nil, or_false] at aL; rcases aL with rfl | rfl <;> rfl), .inl rfl⟩, ?_⟩
 refine aa.nil ⟨rfl, ?_⟩
 refine aS.one 12 rfl aU ?_
 refine aa.buildSlice (([(aC.length : Int)] : List Int).map al) az fX rfl rfl rfl rfl rfl (aD (s := 1) (f := al) (fun _ => rfl)) rfl rfl rfl ag ?_
 refine aa.nil ⟨rfl, ?_⟩
 refine aS.one 13 rfl aU ?_
 refine aa.bY ((jz ++ ([(aC.length : Int)] : List Int)).map al) (jz ++ ([(aC.length : Int)] : List Int)).length az fX rfl rfl rfl rfl (bU aF) (bB aF) (da aF) aF aF ag ag ?_
 refine aa.nil ⟨rfl, ?_⟩
 refine aS.bl (n := 0) [14] [] 0 rfl aU (.cn 14 rfl (Y.qe rfl rfl) (AQ.nil ?_))
 refine aS.done aU (ah.region ?_)
 refine .vl (Y.qb rfl rfl aF) ?_
 refine .mv ?_
 refine aa.nil ?_
 exact ⟨gi + 1, aC ++ [(⟨k, a.getD gi 0, b.getD gi 0⟩ : Gate)], jz ++ ([(aC.length : Int)] : List Int), ⟨om, hM.two hk (ha.bit gi om) (hb.bit gi om) hu (he gi)⟩, om, Le.mk (.c (.c (.c (.c (.cons (aI rfl om) (.c (.cons (aq rfl bj) (.nil)))))))) (.cons (aB rfl gL) (.c (.c (.nil))))⟩
 refine ah.exit (ah.sr ?_)
 refine .mv ?_
 refine .an ?_
 refine aa.sh (Sh.cV (d := 8) (o := 109) rfl rfl (bf om) ag) ?_
 refine aa.nil (ah.ret ?_)
 exact ⟨_, _, rfl, rfl, _, _, hM.ext, by have := hM.len; omega, by have := hM.ol; omega, hM.ws, rfl, rfl⟩
set_option maxRecDepth 4000 in
set_option maxHeartbeats 1000000 in
theorem uY {c : Int} {gl : List Gate} (hg : Good gl) (oL : gl.length ≤ 50000000) {t : Int} {a : List Int} {f : Nat → List Bool → Bool} (ha : Ws c gl a f t) (um : a.length ≤ 1000) : ak Try.prog 177 [.ptr 0 0 0 0, .fz 1 (a.map al)] [.cells [.aR 1 3 0 gl.length], .rows 3 (gl.map Gate.row)] [0] (fun r o => ∃ (l : List Gate) (out : List Int), Ext gl l ∧ l.length ≤ gl.length + a.length ∧ out.length = a.length ∧ Ws c l out (fun k ins => !f k ins) (t + 10) ∧ r = .cX 1 (out.map al) ∧ o = [.cells [.aR 1 3 0 l.length], .rows 3 (l.map Gate.row)]) := by
 refine ak.of Try.func177 rfl rfl rfl (n := 22) ag (Nat.le_of_ble_eq_true rfl) (ah.sr ?_)
 refine .an ?_
 refine aa.nil (ah.sr ?_)
 refine .an ?_
 refine aa.sh (Sh.nil (d := 5) 105 1 rfl ag) (aa.nil (ah.seq ?_))
 refine ah.sr ?_
 refine .mv ?_
 refine .vl (Y.qu (n := a.length) az rfl (congrArg some (List.length_map ..))) ?_
 refine .mv ?_
 refine aa.nil (ah.block ?_)
 refine ah.eS (fun (kl : Nat) (aC : List Gate) (aM : List Int) => ⟨[(0, .ptr 0 0 0 0), (5, .aR 105 1 0 aM.length), (8, .fz 1 (a.map al)), (9, .v (.int .i64 (a.length : Int))), (10, .v (.int .i64 (kl : Int)))], [(0, .cells [.aR 1 3 0 aC.length]), (1, .rows 3 (aC.map Gate.row)), (105, .rows 1 (aM.map al))]⟩) (fun (kl : Nat) (aC : List Gate) (aM : List Int) => ((kl : Int) ≤ (a.length : Int)) ∧ (rH c gl aC aM (fun k ins => !f k ins) (t + 10) kl)) (fun (kl : Nat) (aC : List Gate) (aM : List Int) => ((a.length : Int) - (kl : Int)).toNat) 0 gl ([] : List Int) (⟨pt, rH.init hg⟩) (Le.mk (.c (.cons (aI rfl aF) (.c (.c (.cons (aq rfl bj) (.nil)))))) (.cons (aB rfl gL) (.c (.c (.nil))))) (fun kl aC aM qH => ?_)
 obtain ⟨Cj, hM⟩ := qH
 refine ah.sr (.vl (Y.qz rfl rfl) (aa.nil ?_))
 refine ah.seq ?_
 refine ah.a9 rfl (fun Db => ?_) (fun Db => ?_)
 refine ah.skip (ah.seq (ah.block ?_))
 refine ah.sr ?_
 refine .vl (Y.qq (m := kl) az rfl rfl bj (ao (d := 0) om)) ?_
 refine .ld bw ?_
 refine .an ?_
 refine aa.nil ?_
 have Jo := hM.len; have pa := hM.ol
 refine ah.region ?_
 refine .mv ?_
 refine .mv ?_
 refine .mv ?_
 refine aa.bc [0, 1] [] q3 (fC (gl := aC) (a := a.getD kl 0) om) rfl (.named rfl rfl (.au rfl rfl .nil)) ⟨rfl, rfl, trivial⟩ rfl ag (fun _ h => by cases h) (fun _ h => by cases h) ag ag ?_
 rintro r a8 ⟨rfl, rfl⟩ _
 refine ⟨⟨rfl, (by intro ob aL; simp only [List.mem_cons, List.not_mem_nil, or_false] at aL; rcases aL with rfl | rfl <;> rfl), .inl rfl⟩, ?_⟩
 refine aa.buildSlice (([(aC.length : Int)] : List Int).map al) az fX rfl rfl rfl rfl rfl (aD (s := 1) (f := al) (fun _ => rfl)) rfl rfl rfl ag ?_
 refine aa.bY ((aM ++ ([(aC.length : Int)] : List Int)).map al) (aM ++ ([(aC.length : Int)] : List Int)).length az fX rfl rfl rfl rfl (bU aF) (bB aF) (da aF) aF aF ag ag ?_
 refine .an ?_
 refine aa.nil (ah.region ?_)
 refine .vl (Y.qb rfl rfl aF) ?_
 refine .mv ?_
 refine aa.nil ?_
 exact ⟨kl + 1, aC ++ [(⟨4, a.getD kl 0, 0⟩ : Gate)], aM ++ ([(aC.length : Int)] : List Int), ⟨om, hM.not ha om⟩, om, Le.mk (.c (.cons (aI rfl om) (.c (.c (.cons (aq rfl bj) (.nil)))))) (.cons (aB rfl gL) (.c (.c (.nil))))⟩
 refine ah.exit (ah.sr ?_)
 refine .mv ?_
 refine .an ?_
 refine aa.sh (Sh.cV (d := 4) (o := 105) rfl rfl (bf om) ag) ?_
 refine aa.nil (ah.ret ?_)
 exact ⟨_, _, rfl, rfl, _, _, hM.ext, by have := hM.len; omega, by have := hM.ol; omega, hM.ws, rfl, rfl⟩
open Go Go.AW Go.Proofs
set_option maxRecDepth 4000 in
set_option maxHeartbeats 1000000 in
theorem rS {c : Int} {gl : List Gate} (hg : Good gl) (oL : gl.length ≤ 50000000) {t : Int} {a : List Int} {f : Nat → List Bool → Bool} (ha : Ws c gl a f t) (um : a.length ≤ 5000) (ht : 0 ≤ t) : ak Try.prog 142 [.ptr 0 0 0 0, .fz 1 (a.map al)] [.cells [.aR 1 3 0 gl.length], .rows 3 (gl.map Gate.row)] [0] (fun r o => ∃ (l : List Gate) (x : Int), Ext gl l ∧ l.length ≤ gl.length + a.length + 1 ∧ Wr c l x (fun ins => g7 (fun k => f k ins) a.length) (t + 20 * (cg a.length : Int)) ∧ r = .v (.int .i64 x) ∧ o = [.cells [.aR 1 3 0 l.length], .rows 3 (l.map Gate.row)]) := by
 refine ak.of Try.func142 rfl rfl rfl (n := 53) ag (Nat.le_of_ble_eq_true rfl) (ah.sr ?_)
 refine .an ?_
 refine aa.nil (ah.seq (ah.sr ?_))
 refine .mv ?_
 refine .vl (Y.qu (n := a.length) az rfl (congrArg some (List.length_map ..))) (.vl (Y.qk rfl rfl) (aa.nil ?_))
 refine ah.a9 rfl (fun c9 => ?_) (fun c9 => ?_)
 refine ah.sr ?_
 refine .mv ?_
 refine aa.bc [0, 1] [] w5 (eh (gl := gl) aF) rfl (.named rfl rfl .nil) ⟨rfl, rfl, trivial⟩ rfl ag (fun _ h => by cases h) (fun _ h => by cases h) ag ag ?_
 rintro r a8 ⟨rfl, rfl⟩ _
 refine ⟨⟨rfl, (by intro ob aL; simp only [List.mem_cons, List.not_mem_nil, or_false] at aL; rcases aL with rfl | rfl <;> rfl), .inl rfl⟩, ?_⟩
 refine .an ?_
 refine aa.nil (ah.ret ?_)
 exact ⟨_, _, rfl, rfl, _, _, Ext.Il hg ag, by simp, (Wr.zero om).as fun ins => by rw [show a.length = 0 by omega]; rfl, rfl, rfl⟩
 refine ah.skip (ah.seq (ah.block ?_))
 refine ah.kJ (fun (fo : List Int) (aC : List Gate) => ⟨[(0, .ptr 0 0 0 0), (1, .fz 1 (fo.map al))], [(0, .cells [.aR 1 3 0 aC.length]), (1, .rows 3 (aC.map Gate.row))]⟩) (fun (fo : List Int) (aC : List Gate) => (mD c gl f a.length t aC fo)) (fun (fo : List Int) (aC : List Gate) => fo.length) a gl (mD.init hg ha om) (Le.mk (.c (.c (.nil))) (.cons (aB rfl gL) (.c (.nil)))) (fun fo aC qH => ?_)
 have hI := qH
 refine ah.seq (ah.sr ?_)
 refine .mv ?_
 refine .vl (Y.qu (n := fo.length) az rfl (congrArg some (List.length_map ..))) (.vl (Y.qp rfl rfl) (aa.nil ?_))
 refine ah.a9 rfl (fun qF => ?_) (fun qF => ?_)
 refine ah.skip (ah.block (ah.seq ?_))
 have u4 := hI.lo; have kX := hI.len; have OR := hI.ext.len; have hex : ∃ f t, Ws c aC fo f t := (by obtain ⟨f1, t1, h1, _⟩ := hI.ex; exact ⟨f1, t1, h1⟩)
 refine ah.region ?_
 refine .an ?_
 refine aa.sh (Sh.nil (d := 5) 105 1 rfl ag) (aa.nil (ah.seq ?_))
 refine ah.sr ?_
 refine .an ?_
 refine aa.nil (ah.block ?_)
 refine ah.eS (fun (mJ : Nat) (gC : List Gate) (eG : List Int) => ⟨[(0, .ptr 0 0 0 0), (1, .fz 1 (fo.map al)), (5, .aR 105 1 0 eG.length), (6, .v (.int .i64 (mJ : Int)))], [(0, .cells [.aR 1 3 0 gC.length]), (1, .rows 3 (gC.map Gate.row)), (105, .rows 1 (eG.map al))]⟩) (fun (mJ : Nat) (gC : List Gate) (eG : List Int) => (oA c aC fo gC eG mJ)) (fun (mJ : Nat) (gC : List Gate) (eG : List Int) => fo.length - mJ) 0 aC ([] : List Int) (oA.init hI.ext.dz) (Le.mk (.c (.c (.cons (aI rfl aF) (.cons (aq rfl bj) (.nil))))) (.cons (aB rfl gL) (.c (.c (.nil))))) (fun mJ gC eG IS => ?_)
 have hJ := IS
 refine ah.seq (ah.seq ?_)
 have Jp := hJ.hi
 refine ah.region ?_
 refine .mv ?_
 refine .vl (Y.qb rfl rfl aF) ?_
 refine .mv ?_
 refine .vl (Y.qu (n := fo.length) az rfl (congrArg some (List.length_map ..))) (.vl (Y.qz rfl rfl) (aa.nil ?_))
 refine ah.a9 rfl (fun rL => ?_) (fun rL => ?_)
 refine ah.skip (ah.seq (ah.block ?_))
 have kt := hJ.len; have Jq := hJ.nl; have Jr := hJ.even
 refine ah.cC rfl (aS.blind 0 rfl aU (aE.move rfl rfl) ag (aS.bl (n := 4) [1, 2, 3, 4, 5, 6, 7, 8, 9, 10] [11, 12, 13, 14] 11 rfl aU ?_))
 refine .cn 1 rfl (Y.zd rfl rfl) (.cn 2 rfl (Y.zd rfl rfl) (.cn 3 rfl (Y.zd rfl rfl) ?_))
 refine .cn 4 rfl (Y.qq (m := mJ) az rfl rfl bj (ao (d := 0) om)) ?_
 refine .cn 5 rfl (Y.qx bw rfl rfl rfl rfl) (.cn 6 rfl (Y.zd rfl rfl) (.cn 7 rfl (Y.zd rfl rfl) ?_))
 refine .cn 8 rfl (Y.qb rfl rfl om) ?_
 refine .cn 9 rfl (Y.qq (m := mJ + 1) az rfl rfl bj (ao (d := 0) om)) ?_
 refine .cn 10 rfl (Y.qx bw rfl rfl rfl rfl) (AQ.nil (aS.one 11 rfl aU ?_))
 refine aa.bc [0, 1] [] r5 (lX (gl := gC) (a := fo.getD mJ 0) (b := fo.getD (mJ + 1) 0) om) rfl (.named rfl rfl (.au rfl rfl (.au rfl rfl .nil))) ⟨rfl, rfl, trivial⟩ rfl ag (fun _ h => by cases h) (fun _ h => by cases h) ag ag ?_
 rintro r a8 ⟨rfl, rfl⟩ _
 refine ⟨⟨rfl, (by intro ob aL; simp only [List.mem_cons, List.not_mem_nil, or_false] at aL; rcases aL with rfl | rfl <;> rfl), .inl rfl⟩, ?_⟩
 refine aa.nil ⟨rfl, ?_⟩
 refine aS.one 12 rfl aU ?_
 refine aa.buildSlice (([(gC.length : Int)] : List Int).map al) az fX rfl rfl rfl rfl rfl (aD (s := 1) (f := al) (fun _ => rfl)) rfl rfl rfl ag ?_
 refine aa.nil ⟨rfl, ?_⟩
 refine aS.one 13 rfl aU ?_
 refine aa.bY ((eG ++ ([(gC.length : Int)] : List Int)).map al) (eG ++ ([(gC.length : Int)] : List Int)).length az fX rfl rfl rfl rfl (bU aF) (bB aF) (da aF) aF aF ag ag ?_
 refine aa.nil ⟨rfl, ?_⟩
 refine aS.bl (n := 0) [14] [] 0 rfl aU (.cn 14 rfl (Y.qe rfl rfl) (AQ.nil ?_))
 refine aS.done aU (ah.region ?_)
 refine .mv ?_
 refine .vl (Y.qb rfl rfl aF) ?_
 refine .an ?_
 refine aa.nil ?_
 exact ⟨mJ + 2, gC ++ [(⟨6, fo.getD mJ 0, fo.getD (mJ + 1) 0⟩ : Gate)], eG ++ ([(gC.length : Int)] : List Int), hJ.step om hex, om, Le.mk (.c (.c (.cons (aI rfl aF) (.cons (aq rfl bj) (.nil))))) (.cons (aB rfl gL) (.c (.c (.nil))))⟩
 refine ah.exit ?_
 refine ah.iA (fun (fi : List Int) => ⟨[(0, .ptr 0 0 0 0), (5, .aR 105 1 0 fi.length)], [(0, .cells [.aR 1 3 0 gC.length]), (1, .rows 3 (gC.map Gate.row)), (105, .rows 1 (fi.map al))]⟩) (fun (fi : List Int) => mD c gl f a.length t gC fi ∧ fi.length < fo.length) ?_ (fun fi FI => ?_)
 refine ah.seq ?_
 have kt := hJ.len; have Jq := hJ.nl; have Jr := hJ.even; have Jp := hJ.hi
 refine ah.region ?_
 refine .mv ?_
 refine .vl (Y.qu (n := fo.length) az rfl (congrArg some (List.length_map ..))) ?_
 refine .vl (Y.zn rfl rfl om) ?_
 refine .vl (Y.qk rfl rfl) (aa.nil ?_)
 refine ah.a9 rfl (fun mF => ?_) (fun mF => ?_)
 refine ah.region ?_
 refine .mv ?_
 refine .mv ?_
 refine .mv ?_
 refine .vl (Y.qu (n := fo.length) az rfl (congrArg some (List.length_map ..))) ?_
 refine .vl (Y.zv rfl rfl aF) ?_
 refine .vl (Y.qq (m := ((fo.length : Int) - 1).toNat) az rfl rfl om (ao (d := 0) om)) ?_
 refine .ld bw ?_
 refine aa.buildSlice (([fo.getD (((fo.length : Int) - 1).toNat) 0] : List Int).map al) az fX rfl rfl rfl rfl rfl (aD (s := 1) (f := al) (fun _ => rfl)) rfl rfl rfl ag ?_
 refine aa.bY ((eG ++ ([fo.getD (((fo.length : Int) - 1).toNat) 0] : List Int)).map al) (eG ++ ([fo.getD (((fo.length : Int) - 1).toNat) 0] : List Int)).length az fX rfl rfl rfl rfl (bU aF) (bB aF) (da aF) aF aF ag ag ?_
 refine .an ?_
 refine aa.nil ?_
 exact ⟨eG ++ ([fo.getD (((fo.length : Int) - 1).toNat) 0] : List Int), by have hx := hI.Fj hJ om om om; rw [show fo.length - 1 = ((fo.length : Int) - 1).toNat by omega] at hx; exact ⟨hx, by rw [List.length_append, List.length_singleton]; omega⟩, Le.mk (.c (.cons (aI rfl om) (.nil))) (.c (.c (.c (.nil))))⟩
 refine ah.skip ?_
 exact ⟨eG, ⟨hI.next hJ om om om, om⟩, Le.mk (.c (.cons (aI rfl om) (.nil))) (.c (.c (.c (.nil))))⟩
 refine ah.sh (Sh.cV (d := 5) (o := 105) rfl rfl (bf om) ag) ?_
 refine ah.sh (Sh.c1 (d := 5) (fi.map al) rfl jV (du.map cv)) (ah.region ?_)
 refine .mv ?_
 refine .an ?_
 refine aa.nil ?_
 exact ⟨fi, gC, FI.1, by have := FI.2; omega, Le.mk (.c (.c (.nil))) (.cons (aB rfl gL) (.c (.nil)))⟩
 refine ah.exit (ah.seq ?_)
 have u4 := hI.lo
 refine ah.region ?_
 refine .mv ?_
 refine .vl (Y.qq (m := 0) az rfl rfl bj (ao (d := 0) om)) ?_
 refine .ld bw ?_
 refine .an ?_
 refine aa.nil (ah.ret ?_)
 exact ⟨_, _, rfl, rfl, _, _, hI.ext, by have := hI.len; omega, hI.done om, rfl, rfl⟩
open Go Go.AW Go.Proofs
set_option maxHeartbeats 1000000 in
theorem km {l : List aG} (hl : l.length ≤ 8796093022208) : ak Try.prog 198 [.fz 2 (l.map aG.row)] [] [] (fun r o => r = .cX 2 (l.map aG.row) ∧ o = []) := by
 refine ak.of Try.func198 rfl rfl rfl (n := 8) ag (Nat.le_of_ble_eq_true rfl) (ah.sr ?_)
 refine .an ?_
 refine aa.nil (ah.seq (ah.sr ?_))
 refine .mv ?_
 refine aa.Ao c3 rfl rfl ag (fun b4 AK => ?_)
 refine aa.nil ?_
 refine ah.cond rfl (fun c4 => ?_) (fun c4 => ?_)
 refine ah.sr ?_
 refine .an ?_
 refine aa.nil (ah.sh (Sh.pb (d := 2) 2 rfl) (ah.ret ?_))
 exact ⟨_, _, rfl, rfl, (xW (fun (z0 : List aG) => X.cX 2 (z0.map aG.row)) (by have := AK ik; simpa using this : ([] : List aG) = l) : X.cX 2 (([] : List aG).map aG.row) = X.cX 2 (l.map aG.row)), rfl⟩
 refine ah.skip (ah.sr ?_)
 refine aa.buildSlice (([] : List aG).map aG.row) c3 fc rfl rfl rfl rfl rfl (aD (s := 2) (f := aG.row) (fun _ => rfl)) rfl rfl rfl ag ?_
 refine .mv ?_
 refine aa.sh (Sh.fL (d := 5) (n := ([] : List aG).length) 105 (([] : List aG).map aG.row) rfl jV (bf rfl) ag) ?_
 refine aa.nT ((([] : List aG) ++ l).map aG.row) (([] : List aG) ++ l).length c3 fc rfl rfl rfl rfl (bU aF) (bB aF) (da aF) aF aF ag ag ?_
 refine .an ?_
 refine aa.sh (Sh.cV (d := 2) (o := 105) rfl rfl (bf om) ag) ?_
 refine aa.nil (ah.ret ?_)
 exact ⟨_, _, rfl, rfl, (xW (fun (z0 : List aG) => X.cX 2 (z0.map aG.row)) (rfl : (([] : List aG) ++ l) = l) : X.cX 2 ((([] : List aG) ++ l).map aG.row) = X.cX 2 (l.map aG.row)), rfl⟩
set_option maxRecDepth 4000 in
set_option maxHeartbeats 1000000 in
theorem nj {c : Int} {gl : List Gate} (hg : Good gl) (oL : gl.length ≤ 40000000) {w : Nat} {t : Int} {a b : List Int} {A B : List Bool → BitVec w} (ha : Wd c gl a w A t) (hb : Wd c gl b w B t) (hw : 1 ≤ w ∧ w ≤ 64) (ht : 0 ≤ t) : ak Try.prog 130 [.ptr 0 0 0 0, .fz 1 (a.map al), .fz 1 (b.map al)] [.cells [.aR 1 3 0 gl.length], .rows 3 (gl.map Gate.row)] [0] (fun r o => ∃ (l : List Gate) (x : Int), Ext gl l ∧ l.length ≤ gl.length + 200 ∧ Wr c l x (fun ins => decide (A ins ≠ B ins)) (t + 20 + 20 * (cg w : Int)) ∧ r = .v (.int .i64 x) ∧ o = [.cells [.aR 1 3 0 l.length], .rows 3 (l.map Gate.row)]) := by
 refine ak.of Try.func130 rfl rfl rfl (n := 31) ag (Nat.le_of_ble_eq_true rfl) ?_
 have um := ha.len; have Dj := hb.len
 refine ah.sr ?_
 refine .an ?_
 refine aa.nil (ah.sr ?_)
 refine .an ?_
 refine aa.sh (Sh.nil (d := 7) 107 1 rfl ag) (aa.nil (ah.seq ?_))
 refine ah.sr ?_
 refine .mv ?_
 refine .vl (Y.qu (n := a.length) az rfl (congrArg some (List.length_map ..))) ?_
 refine .mv ?_
 refine aa.nil (ah.block ?_)
 refine ah.eS (fun (dk : Nat) (aC : List Gate) (gj : List Int) => ⟨[(0, .ptr 0 0 0 0), (1, .fz 1 (a.map al)), (2, .fz 1 (b.map al)), (7, .aR 107 1 0 gj.length), (10, .v (.int .i64 (a.length : Int))), (11, .v (.int .i64 (dk : Int)))], [(0, .cells [.aR 1 3 0 aC.length]), (1, .rows 3 (aC.map Gate.row)), (107, .rows 1 (gj.map al))]⟩) (fun (dk : Nat) (aC : List Gate) (gj : List Int) => ((dk : Int) ≤ (a.length : Int)) ∧ (rH c gl aC gj (fun k ins => (A ins).getLsbD k ^^ (B ins).getLsbD k) (t + 20) dk)) (fun (dk : Nat) (aC : List Gate) (gj : List Int) => ((a.length : Int) - (dk : Int)).toNat) 0 gl ([] : List Int) (⟨pt, rH.init hg⟩) (Le.mk (.c (.c (.c (.cons (aI rfl aF) (.c (.cons (aq rfl bj) (.nil))))))) (.cons (aB rfl gL) (.c (.c (.nil))))) (fun dk aC gj qH => ?_)
 obtain ⟨Cj, hM⟩ := qH
 refine ah.sr (.vl (Y.qz rfl rfl) (aa.nil ?_))
 refine ah.seq ?_
 refine ah.a9 rfl (fun uk => ?_) (fun uk => ?_)
 refine ah.skip (ah.seq (ah.block ?_))
 refine ah.sr ?_
 refine .mv ?_
 refine .an ?_
 refine aa.nil ?_
 have Jo := hM.len; have pa := hM.ol
 refine ah.cC rfl (aS.blind 0 rfl aU (aE.move rfl rfl) ag (aS.bl (n := 4) [1, 2, 3, 4, 5, 6, 7, 8, 9] [10, 11, 12, 13] 10 rfl aU ?_))
 refine .cn 1 rfl (Y.zd rfl rfl) (.cn 2 rfl (Y.zd rfl rfl) (.cn 3 rfl (Y.zd rfl rfl) ?_))
 refine .cn 4 rfl (Y.qq (m := dk) az rfl rfl bj (ao (d := 0) om)) ?_
 refine .cn 5 rfl (Y.qx bw rfl rfl rfl rfl) (.cn 6 rfl (Y.zd rfl rfl) (.cn 7 rfl (Y.zd rfl rfl) ?_))
 refine .cn 8 rfl (Y.qq (m := dk) az rfl rfl bj (ao (d := 0) om)) ?_
 refine .cn 9 rfl (Y.qx bw rfl rfl rfl rfl) (AQ.nil (aS.one 10 rfl aU ?_))
 refine aa.bc [0, 1] [] pA (jd (gl := aC) (a := a.getD dk 0) (b := b.getD dk 0) om) rfl (.named rfl rfl (.au rfl rfl (.au rfl rfl .nil))) ⟨rfl, rfl, trivial⟩ rfl ag (fun _ h => by cases h) (fun _ h => by cases h) ag ag ?_
 rintro r a8 ⟨rfl, rfl⟩ _
 refine ⟨⟨rfl, (by intro ob aL; simp only [List.mem_cons, List.not_mem_nil, or_false] at aL; rcases aL with rfl | rfl <;> rfl), .inl rfl⟩, ?_⟩
 refine aa.nil ⟨rfl, ?_⟩
 refine aS.one 11 rfl aU ?_
 refine aa.buildSlice (([(aC.length : Int)] : List Int).map al) az fX rfl rfl rfl rfl rfl (aD (s := 1) (f := al) (fun _ => rfl)) rfl rfl rfl ag ?_
 refine aa.nil ⟨rfl, ?_⟩
 refine aS.one 12 rfl aU ?_
 refine aa.bY ((gj ++ ([(aC.length : Int)] : List Int)).map al) (gj ++ ([(aC.length : Int)] : List Int)).length az fX rfl rfl rfl rfl (bU aF) (bB aF) (da aF) aF aF ag ag ?_
 refine aa.nil ⟨rfl, ?_⟩
 refine aS.bl (n := 0) [13] [] 0 rfl aU (.cn 13 rfl (Y.qe rfl rfl) (AQ.nil ?_))
 refine aS.done aU (ah.region ?_)
 refine .vl (Y.qb rfl rfl aF) ?_
 refine .mv ?_
 refine aa.nil ?_
 exact ⟨dk + 1, aC ++ [(⟨7, a.getD dk 0, b.getD dk 0⟩ : Gate)], gj ++ ([(aC.length : Int)] : List Int), ⟨om, hM.two (k := 7) (f := fun k ins => (A ins).getLsbD k) (h := fun k ins => (B ins).getLsbD k) ag (ha.bit dk om) (hb.bit dk om) (Int.le_refl _) (fun ins => rfl)⟩, om, Le.mk (.c (.c (.c (.cons (aI rfl om) (.c (.cons (aq rfl bj) (.nil))))))) (.cons (aB rfl gL) (.c (.c (.nil))))⟩
 refine ah.exit (ah.seq ?_)
 refine ah.sh (Sh.cV (d := 7) (o := 107) rfl rfl (bf om) ag) ?_
 refine ah.sh (Sh.c1 (d := 7) (gj.map al) rfl jV (du.map cv)) ?_
 have Jo := hM.len; have pa := hM.ol; have Js := hM.ext.dz
 refine ah.region ?_
 refine .mv ?_
 refine .mv ?_
 refine aa.bc [0, 1] [] Aw (rS (gl := aC) Js aF (a := gj) hM.ws aF aF) rfl (.named rfl rfl (.au rfl rfl .nil)) ⟨rfl, rfl, trivial⟩ rfl ag (fun _ h => by cases h) (fun _ h => by cases h) ag ag ?_
 rintro r a8 ⟨OS, OT, Jt, La, FJ, rfl, rfl⟩ _
 refine ⟨⟨rfl, (by intro ob aL; simp only [List.mem_cons, List.not_mem_nil, or_false] at aL; rcases aL with rfl | rfl <;> rfl), .inl rfl⟩, ?_⟩
 refine .an ?_
 refine aa.nil (ah.ret ?_)
 exact ⟨_, _, rfl, rfl, _, _, hM.ext.trans Jt, om, (by rw [show gj.length = w by omega] at FJ; exact FJ.as fun ins => BY), rfl, rfl⟩
open Go Go.AW Go.Proofs
set_option maxRecDepth 4000 in
set_option maxHeartbeats 1000000 in
theorem rT {c : Int} {gl : List Gate} (hg : Good gl) (oL : gl.length ≤ 50000000) {t : Int} {ps : List aG} {G P : Nat → List Bool → Bool} (hp : Wp c gl ps G P t) (hn : ps.length ≤ 64) : ak Try.prog 195 [.ptr 0 0 0 0, .fz 2 (ps.map aG.row)] [.cells [.aR 1 3 0 gl.length], .rows 3 (gl.map Gate.row)] [0] (fun r o => ∃ (l : List Gate) (out : List aG), Ext gl l ∧ l.length ≤ gl.length + 1152 ∧ out.length = ps.length ∧ (∀ i, i < ps.length → Wr c l (out.getD i default).g (fun ins => ca (fun k => G k ins) (fun k => P k ins) 0 (i + 1) false) (t + 40 * (cg ps.length : Int))) ∧ r = .fz 2 (out.map aG.row) ∧ o = [.cells [.aR 1 3 0 l.length], .rows 3 (l.map Gate.row)]) := by
 refine ak.of Try.func195 rfl rfl rfl (n := 78) ag (Nat.le_of_ble_eq_true rfl) (ah.sr ?_)
 refine .an ?_
 refine aa.nil (ah.sr ?_)
 refine .mv ?_
 refine aa.br Ay (km (l := ps) (om)) rfl (.au rfl rfl .nil) ag rfl ?_
 refine aa.bx rfl ag (aa.sh (Sh.c1 (d := 5) (ps.map aG.row) rfl jV (du.map aG.cD)) (aa.nil ?_))
 refine ah.seq (ah.sr ?_)
 refine .an ?_
 refine aa.nil (ah.block ?_)
 refine ah.eS (fun (aM : List aG) (eL : Nat) (aC : List Gate) => ⟨[(0, .ptr 0 0 0 0), (5, .fz 2 (aM.map aG.row)), (6, .v (.int .i64 (eL : Int)))], [(0, .cells [.aR 1 3 0 aC.length]), (1, .rows 3 (aC.map Gate.row))]⟩) (fun (aM : List aG) (eL : Nat) (aC : List Gate) => (∃ j, lS c gl G P t ps.length aC aM eL j)) (fun (aM : List aG) (eL : Nat) (aC : List Gate) => ps.length - eL) ps 1 gl (⟨0, lS.init hg hp⟩) (Le.mk (.c (.c (.cons (aq rfl bj) (.nil)))) (.cons (aB rfl gL) (.c (.nil)))) (fun aM eL aC qH => ?_)
 have hI := qH
 refine ah.seq (ah.sr ?_)
 refine .mv ?_
 refine .mv ?_
 refine .vl (Y.qu (n := aM.length) c3 rfl (congrArg some (List.length_map ..))) (.vl (Y.qz rfl rfl) (aa.nil ?_))
 refine ah.a9 rfl (fun nG => ?_) (fun nG => ?_)
 refine ah.skip (ah.seq (ah.block ?_))
 refine ah.seq ?_
 obtain ⟨j, hI⟩ := hI; have OU := hI.Ca; have pa := hI.ol; have Ju := hI.len; have kt := hI.jl; have GR : cg ps.length ≤ 6 := jw om; have Nz : 3 * ps.length * j ≤ 1152 := Nat.le_trans (Nat.mul_le_mul_left _ kt) (Nat.mul_le_mul (show 3 * ps.length ≤ 192 by omega) GR)
 refine ah.region ?_
 refine .mv ?_
 refine aa.br Ay (km (l := aM) (om)) rfl (.au rfl rfl .nil) ag rfl ?_
 refine aa.bx rfl ag (aa.sh (Sh.fL (d := 7) (n := aM.length) 107 (aM.map aG.row) rfl jV (bf rfl) ag) (aa.nil ?_))
 refine ah.seq (ah.sr ?_)
 refine .mv ?_
 refine .an ?_
 refine aa.nil (ah.block ?_)
 refine ah.eS (fun (bN : Nat) (dW : List Gate) (cU : List aG) => ⟨[(0, .ptr 0 0 0 0), (5, .fz 2 (aM.map aG.row)), (6, .v (.int .i64 (eL : Int))), (7, .aR 107 2 0 aM.length), (8, .v (.int .i64 (bN : Int)))], [(0, .cells [.aR 1 3 0 dW.length]), (1, .rows 3 (dW.map Gate.row)), (107, .rows 2 (cU.map aG.row))]⟩) (fun (bN : Nat) (dW : List Gate) (cU : List aG) => (cU.length = aM.length) ∧ ((bN : Int) ≤ (aM.length : Int)) ∧ (lT c aC G P t ps.length aM eL j dW cU bN)) (fun (bN : Nat) (dW : List Gate) (cU : List aG) => ps.length - bN) eL aC aM (⟨om, om, lT.init hI⟩) (Le.mk (.c (.c (.c (.c (.cons (aq rfl bj) (.nil)))))) (.cons (aB rfl gL) (.c (.c (.nil))))) (fun bN dW cU Jv => ?_)
 obtain ⟨AM, OV, hJ⟩ := Jv
 refine ah.seq (ah.sr ?_)
 refine .mv ?_
 refine .mv ?_
 refine .vl (Y.qu (n := aM.length) c3 rfl (congrArg some (List.length_map ..))) (.vl (Y.qz rfl rfl) (aa.nil ?_))
 refine ah.a9 rfl (fun Cx => ?_) (fun Cx => ?_)
 refine ah.skip ?_
 refine ah.lI (fun (mK : List Gate) (je : List aG) => ⟨[(0, .ptr 0 0 0 0), (5, .fz 2 (aM.map aG.row)), (6, .v (.int .i64 (eL : Int))), (7, .aR 107 2 0 aM.length), (8, .v (.int .i64 (bN : Int)))], [(0, .cells [.aR 1 3 0 mK.length]), (1, .rows 3 (mK.map Gate.row)), (107, .rows 2 (je.map aG.row))]⟩) (fun (mK : List Gate) (je : List aG) => (je.length = aM.length) ∧ (lT c aC G P t ps.length aM eL j mK je (bN + 1))) ?_ (fun mK je Jw => ?_)
 refine ah.block (ah.seq ?_)
 have u4 := hJ.lo; have OW := hJ.len; have OX := hJ.nl
 refine ah.n6 13 rfl aU (aY.val (Y.zd rfl rfl) ag (aY.val (Y.zd rfl rfl) ag ?_))
 refine aY.val (Y.zd rfl rfl) ag ?_
 refine aY.val (Y.qq (m := bN) c3 rfl rfl bj (ao (d := default) om)) ag ?_
 refine aY.val (Y.qn gG rfl rfl) ag (aY.val (Y.qx bw rfl rfl rfl rfl) ag (aY.val (Y.zd rfl rfl) ag ?_))
 refine aY.val (Y.zd rfl rfl) ag (aY.val (Y.zd rfl rfl) ag ?_)
 refine aY.val (Y.zv rfl rfl om) ag ?_
 refine aY.val (Y.qq (m := ((bN : Int) - (eL : Int)).toNat) c3 rfl rfl om (ao (d := default) om)) ag ?_
 refine aY.val (Y.qn iD rfl rfl) ag (aY.val (Y.qx bw rfl rfl rfl rfl) ag (aY.nil ?_))
 refine aa.bc [0, 1] [] pf (eT (gl := dW) (a := (aM.getD bN default).p) (b := (aM.getD (((bN : Int) - (eL : Int)).toNat) default).g) om) rfl (.named rfl rfl (.au rfl rfl (.au rfl rfl .nil))) ⟨rfl, rfl, trivial⟩ rfl ag (fun _ h => by cases h) (fun _ h => by cases h) ag ag ?_
 rintro r a8 ⟨rfl, rfl⟩ _
 refine ⟨⟨rfl, (by intro ob aL; simp only [List.mem_cons, List.not_mem_nil, or_false] at aL; rcases aL with rfl | rfl <;> rfl), .inl rfl⟩, ?_⟩
 refine .an ?_
 refine aa.nil (ah.sr ?_)
 refine .mv ?_
 refine .mv ?_
 refine .mv ?_
 refine .mv ?_
 refine .mv ?_
 refine .vl (Y.qq (m := bN) c3 rfl rfl bj (ao (d := default) om)) ?_
 refine .fa iD ?_
 refine .ld bw ?_
 refine .mv ?_
 refine aa.bc [0, 1] [] r5 (lX (gl := dW ++ [(⟨5, (aM.getD bN default).p, (aM.getD (((bN : Int) - (eL : Int)).toNat) default).g⟩ : Gate)]) (a := (aM.getD bN default).g) (b := (dW.length : Int)) aF) rfl (.named rfl rfl (.au rfl rfl (.au rfl rfl .nil))) ⟨rfl, rfl, trivial⟩ rfl ag (fun _ h => by cases h) (fun _ h => by cases h) ag ag ?_
 rintro r a8 ⟨rfl, rfl⟩ _
 refine ⟨⟨rfl, (by intro ob aL; simp only [List.mem_cons, List.not_mem_nil, or_false] at aL; rcases aL with rfl | rfl <;> rfl), .inl rfl⟩, ?_⟩
 refine .vl (Y.qr (m := bN) c3 rfl rfl bj om) ?_
 refine .fa iD ?_
 refine aa.jT ((cU.set bN (⟨(((dW ++ [(⟨5, (aM.getD bN default).p, (aM.getD (((bN : Int) - (eL : Int)).toNat) default).g⟩ : Gate)]).length : Nat) : Int), (cU.getD bN default).p⟩ : aG)).map aG.row) cJ rfl rfl rfl rfl rfl rfl rfl (aT (d := default) om) (Nat.le_of_ble_eq_true rfl) (ga rfl) ?_
 refine aa.nil (ah.sr ?_)
 refine .mv ?_
 refine .mv ?_
 refine .vl (Y.zv rfl rfl aF) ?_
 refine .mv ?_
 refine .vl (Y.qo rfl rfl) (aa.nil ?_)
 refine ah.a9 rfl (fun uj => ?_) (fun uj => ?_)
 refine ah.cC rfl (aS.blind 0 rfl aU (aE.move rfl rfl) ag (aS.blind 1 rfl aU (aE.move rfl rfl) ag ?_))
 refine aS.bl (n := 4) [2, 3, 4, 5, 6, 7, 8, 9, 10, 11, 12, 13, 14] [15, 16, 17, 18] 15 rfl aU (.cn 2 rfl (Y.zd rfl rfl) (.cn 3 rfl (Y.zd rfl rfl) ?_))
 refine .cn 4 rfl (Y.zd rfl rfl) ?_
 refine .cn 5 rfl (Y.qq (m := bN) c3 rfl rfl bj (ao (d := default) om)) ?_
 refine .cn 6 rfl (Y.qn gG rfl rfl) (.cn 7 rfl (Y.qx bw rfl rfl rfl rfl) (.cn 8 rfl (Y.zd rfl rfl) ?_))
 refine .cn 9 rfl (Y.zd rfl rfl) (.cn 10 rfl (Y.zd rfl rfl) ?_)
 refine .cn 11 rfl (Y.zv rfl rfl om) ?_
 refine .cn 12 rfl (Y.qq (m := ((bN : Int) - (eL : Int)).toNat) c3 rfl rfl om (ao (d := default) om)) ?_
 refine .cn 13 rfl (Y.qn gG rfl rfl) (.cn 14 rfl (Y.qx bw rfl rfl rfl rfl) (AQ.nil ?_))
 refine aS.one 15 rfl aU ?_
 refine aa.bc [0, 1] [] pf (eT (gl := (dW ++ [(⟨5, (aM.getD bN default).p, (aM.getD (((bN : Int) - (eL : Int)).toNat) default).g⟩ : Gate)]) ++ [(⟨6, (aM.getD bN default).g, (dW.length : Int)⟩ : Gate)]) (a := (aM.getD bN default).p) (b := (aM.getD (((bN : Int) - (eL : Int)).toNat) default).p) aF) rfl (.named rfl rfl (.au rfl rfl (.au rfl rfl .nil))) ⟨rfl, rfl, trivial⟩ rfl ag (fun _ h => by cases h) (fun _ h => by cases h) ag ag ?_
 rintro r a8 ⟨rfl, rfl⟩ _
 refine ⟨⟨rfl, (by intro ob aL; simp only [List.mem_cons, List.not_mem_nil, or_false] at aL; rcases aL with rfl | rfl <;> rfl), .inl rfl⟩, ?_⟩
 refine aa.nil ⟨rfl, ?_⟩
 refine aS.bl (n := 1) [16, 17] [18] 18 rfl aU ?_
 refine .cn 16 rfl (Y.qr (m := bN) c3 rfl rfl bj om) ?_
 refine .cn 17 rfl (Y.qn gG rfl rfl) (AQ.nil (aS.one 18 rfl aU ?_))
 refine aa.jT (((cU.set bN (⟨(((dW ++ [(⟨5, (aM.getD bN default).p, (aM.getD (((bN : Int) - (eL : Int)).toNat) default).g⟩ : Gate)]).length : Nat) : Int), (cU.getD bN default).p⟩ : aG)).set bN (⟨((cU.set bN (⟨(((dW ++ [(⟨5, (aM.getD bN default).p, (aM.getD (((bN : Int) - (eL : Int)).toNat) default).g⟩ : Gate)]).length : Nat) : Int), (cU.getD bN default).p⟩ : aG)).getD bN default).g, ((((dW ++ [(⟨5, (aM.getD bN default).p, (aM.getD (((bN : Int) - (eL : Int)).toNat) default).g⟩ : Gate)]) ++ [(⟨6, (aM.getD bN default).g, (dW.length : Int)⟩ : Gate)]).length : Nat) : Int)⟩ : aG)).map aG.row) cJ rfl rfl rfl rfl rfl rfl rfl (aT (d := default) aF) (Nat.le_of_ble_eq_true rfl) (ga rfl) ?_
 refine aa.nil ⟨rfl, ?_⟩
 refine aS.done aU ?_
 exact ⟨((dW ++ [(⟨5, (aM.getD bN default).p, (aM.getD (((bN : Int) - (eL : Int)).toNat) default).g⟩ : Gate)]) ++ [(⟨6, (aM.getD bN default).g, (dW.length : Int)⟩ : Gate)]) ++ [(⟨5, (aM.getD bN default).p, (aM.getD (((bN : Int) - (eL : Int)).toNat) default).p⟩ : Gate)], (cU.set bN (⟨(((dW ++ [(⟨5, (aM.getD bN default).p, (aM.getD (((bN : Int) - (eL : Int)).toNat) default).g⟩ : Gate)]).length : Nat) : Int), (cU.getD bN default).p⟩ : aG)).set bN (⟨((cU.set bN (⟨(((dW ++ [(⟨5, (aM.getD bN default).p, (aM.getD (((bN : Int) - (eL : Int)).toNat) default).g⟩ : Gate)]).length : Nat) : Int), (cU.getD bN default).p⟩ : aG)).getD bN default).g, ((((dW ++ [(⟨5, (aM.getD bN default).p, (aM.getD (((bN : Int) - (eL : Int)).toNat) default).g⟩ : Gate)]) ++ [(⟨6, (aM.getD bN default).g, (dW.length : Int)⟩ : Gate)]).length : Nat) : Int)⟩ : aG), ⟨pt, by rw [List.set_set, show ((bN : Int) - (eL : Int)).toNat = bN - eL by omega]; (try rw [gg om]); exact lT.MR hI hJ om om rfl⟩, Le.mk (.c (.c (.c (.c (.c (.nil)))))) (.cons (aB rfl gL) (.c (.c (.nil))))⟩
 refine ah.skip ?_
 exact ⟨(dW ++ [(⟨5, (aM.getD bN default).p, (aM.getD (((bN : Int) - (eL : Int)).toNat) default).g⟩ : Gate)]) ++ [(⟨6, (aM.getD bN default).g, (dW.length : Int)⟩ : Gate)], cU.set bN (⟨(((dW ++ [(⟨5, (aM.getD bN default).p, (aM.getD (((bN : Int) - (eL : Int)).toNat) default).g⟩ : Gate)]).length : Nat) : Int), (cU.getD bN default).p⟩ : aG), ⟨pt, by rw [show ((bN : Int) - (eL : Int)).toNat = bN - eL by omega]; exact lT.It hI hJ om om⟩, Le.mk (.c (.c (.c (.c (.c (.nil)))))) (.cons (aB rfl gL) (.c (.c (.nil))))⟩
 obtain ⟨FK, De⟩ := Jw
 refine ah.region ?_
 refine .mv ?_
 refine .vl (Y.qb rfl rfl aF) ?_
 refine .an ?_
 refine aa.nil ?_
 exact ⟨bN + 1, mK, je, ⟨om, om, De⟩, om, Le.mk (.c (.c (.c (.c (.cons (aq rfl bj) (.nil)))))) (.cons (aB rfl gL) (.c (.c (.nil))))⟩
 refine ah.exit ?_
 refine ah.sh (Sh.cV (d := 7) (o := 107) rfl rfl (bf om) ag) ?_
 refine ah.sh (Sh.c1 (d := 7) (cU.map aG.row) rfl jV (du.map aG.cD)) (ah.region ?_)
 refine .mv ?_
 refine .an ?_
 refine aa.nil (ah.region ?_)
 refine .mv ?_
 refine .vl (Y.zf rfl rfl om) ?_
 refine .an ?_
 refine aa.nil ?_
 exact ⟨cU, eL * 2, dW, ⟨j + 1, hI.pass om hJ om⟩, om, Le.mk (.c (.c (.cons (aq rfl bj) (.nil)))) (.cons (aB rfl gL) (.c (.nil)))⟩
 refine ah.exit (ah.sr ?_)
 refine .mv ?_
 refine .an ?_
 refine aa.nil (ah.ret ?_)
 obtain ⟨j, hI⟩ := hI; have pa := hI.ol; have Ju := hI.len; have kt := hI.jl; have GR : cg ps.length ≤ 6 := jw om; have Nz : 3 * ps.length * j ≤ 1152 := Nat.le_trans (Nat.mul_le_mul_left _ kt) (Nat.mul_le_mul (show 3 * ps.length ≤ 192 by omega) GR); exact ⟨_, _, rfl, rfl, _, _, hI.ext, om, pa, fun i hi => hI.done om hi, rfl, rfl⟩
open Go Go.AW Go.Proofs
set_option maxRecDepth 4000 in
set_option maxHeartbeats 1000000 in
theorem rU {c : Int} {gl : List Gate} (hg : Good gl) (oL : gl.length ≤ 40000000) {t : Int} {x : Int} {ps : List aG} {G P : Nat → List Bool → Bool} {F0 : List Bool → Bool} (hp : Wp c gl ps G P t) (hx : Wr c gl x F0 t) (hn : 1 ≤ ps.length ∧ ps.length ≤ 64) : ak Try.prog 176 [.ptr 0 0 0 0, .fz 2 (ps.map aG.row), .v (.int .i64 x)] [.cells [.aR 1 3 0 gl.length], .rows 3 (gl.map Gate.row)] [0] (fun r o => ∃ (l : List Gate) (out : List Int), Ext gl l ∧ l.length ≤ gl.length + 1216 ∧ out.length = ps.length ∧ Ws c l out (tc F0 G P) (t + 20 + 40 * (cg ps.length : Int)) ∧ r = .cX 1 (out.map al) ∧ o = [.cells [.aR 1 3 0 l.length], .rows 3 (l.map Gate.row)]) := by
 refine ak.of Try.func176 rfl rfl rfl (n := 42) ag (Nat.le_of_ble_eq_true rfl) (ah.sr ?_)
 refine .an ?_
 refine aa.nil (ah.sr ?_)
 refine .mv ?_
 refine .mv ?_
 refine .mv ?_
 refine .vl (Y.qu (n := ps.length) c3 rfl (congrArg some (List.length_map ..))) (.vl (Y.zu rfl rfl (BS (a := ps.length) (b := 1) (by first | omega | (simp; omega)))) ?_)
 refine .vl (Y.zr (l := 0) (h := ps.length - 1) c3 rfl (.none _) (.some rfl) aF aF (by rw [List.drop_zero, ← List.map_take])) ?_
 refine aa.bc [0, 1] [] EI (rT (gl := gl) (ps := ps.take (ps.length - 1)) hg om hp.take (by rw [List.length_take]; omega)) rfl (.named rfl rfl (.au rfl rfl .nil)) ⟨rfl, rfl, trivial⟩ rfl ag (fun _ h => by cases h) (fun _ h => by cases h) ag ag ?_
 rintro r a8 ⟨Lb, xr, zA, Lc, Ld, Jx, rfl, rfl⟩ _
 refine ⟨⟨rfl, (by intro ob aL; simp only [List.mem_cons, List.not_mem_nil, or_false] at aL; rcases aL with rfl | rfl <;> rfl), .inl rfl⟩, ?_⟩
 refine .an ?_
 refine aa.nil (ah.seq ?_)
 have OY : (ps.take (ps.length - 1)).length = ps.length - 1 := by rw [List.length_take]; omega
 refine ah.region ?_
 refine .mv ?_
 refine aa.buildSlice (([x] : List Int).map al) az fX rfl rfl rfl rfl rfl (aD (s := 1) (f := al) (fun _ => rfl)) rfl rfl rfl ag ?_
 refine aa.bx rfl ag (aa.sh (Sh.fL (d := 8) (n := ([x] : List Int).length) 108 (([x] : List Int).map al) rfl jV (bf rfl) ag) (aa.nil ?_))
 refine ah.seq (ah.sr ?_)
 refine .an ?_
 refine aa.nil (ah.block ?_)
 refine ah.eS (fun (jf : Nat) (cB : List Gate) (j0 : List Int) => ⟨[(0, .ptr 0 0 0 0), (1, .fz 2 (ps.map aG.row)), (7, .fz 2 (xr.map aG.row)), (8, .aR 108 1 0 j0.length), (9, .v (.int .i64 (jf : Int)))], [(0, .cells [.aR 1 3 0 cB.length]), (1, .rows 3 (cB.map Gate.row)), (108, .rows 1 (j0.map al))]⟩) (fun (jf : Nat) (cB : List Gate) (j0 : List Int) => ((jf : Int) ≤ (ps.length : Int)) ∧ (td c Lb cB F0 G P (t + 20 + 40 * (cg ps.length : Int)) j0 jf)) (fun (jf : Nat) (cB : List Gate) (j0 : List Int) => ps.length - jf) 1 Lb ([x] : List Int) (⟨om, td.init zA.dz ((hx.ext zA).late om)⟩) (Le.mk (.c (.c (.c (.cons (aI rfl om) (.cons (aq rfl bj) (.nil)))))) (.cons (aB rfl gL) (.c (.c (.nil))))) (fun jf cB j0 z5 => ?_)
 obtain ⟨AK, hS⟩ := z5
 refine ah.seq (ah.sr ?_)
 refine .mv ?_
 refine .mv ?_
 refine .vl (Y.qu (n := ps.length) c3 rfl (congrArg some (List.length_map ..))) (.vl (Y.qz rfl rfl) (aa.nil ?_))
 refine ah.a9 rfl (fun ni => ?_) (fun ni => ?_)
 refine ah.skip (ah.seq (ah.block ?_))
 have NA := hS.lo; have Lf := hS.len; have OZ := hS.ol; have NB := (hp.bit jf om).2.ext zA; have Lg := Jx (jf - 1) om; rw [show jf - 1 + 1 = jf by omega] at Lg; have Hc := ke (show (ps.take (ps.length - 1)).length ≤ ps.length by omega)
 refine ah.cC rfl (aS.blind 0 rfl aU (aE.move rfl rfl) ag (aS.bl (n := 4) [1, 2, 3, 4, 5, 6, 7, 8, 9, 10, 11, 12] [13, 14, 15, 16] 13 rfl aU ?_))
 refine .cn 1 rfl (Y.zd rfl rfl) (.cn 2 rfl (Y.zd rfl rfl) (.cn 3 rfl (Y.zd rfl rfl) ?_))
 refine .cn 4 rfl (Y.qq (m := jf) c3 rfl rfl bj (ao (d := default) om)) ?_
 refine .cn 5 rfl (Y.qn gG rfl rfl) (.cn 6 rfl (Y.qx bw rfl rfl rfl rfl) (.cn 7 rfl (Y.zd rfl rfl) ?_))
 refine .cn 8 rfl (Y.zd rfl rfl) ?_
 refine .cn 9 rfl (Y.zv rfl rfl om) ?_
 refine .cn 10 rfl (Y.qq (m := ((jf : Int) - 1).toNat) c3 rfl rfl aF (ao (d := default) aF)) ?_
 refine .cn 11 rfl (Y.qn iD rfl rfl) (.cn 12 rfl (Y.qx bw rfl rfl rfl rfl) (AQ.nil ?_))
 refine aS.one 13 rfl aU ?_
 refine aa.bc [0, 1] [] pA (jd (gl := cB) (a := (ps.getD jf default).p) (b := (xr.getD (((jf : Int) - 1).toNat) default).g) om) rfl (.named rfl rfl (.au rfl rfl (.au rfl rfl .nil))) ⟨rfl, rfl, trivial⟩ rfl ag (fun _ h => by cases h) (fun _ h => by cases h) ag ag ?_
 rintro r a8 ⟨rfl, rfl⟩ _
 refine ⟨⟨rfl, (by intro ob aL; simp only [List.mem_cons, List.not_mem_nil, or_false] at aL; rcases aL with rfl | rfl <;> rfl), .inl rfl⟩, ?_⟩
 refine aa.nil ⟨rfl, ?_⟩
 refine aS.one 14 rfl aU ?_
 refine aa.buildSlice (([(cB.length : Int)] : List Int).map al) az fX rfl rfl rfl rfl rfl (aD (s := 1) (f := al) (fun _ => rfl)) rfl rfl rfl ag ?_
 refine aa.nil ⟨rfl, ?_⟩
 refine aS.one 15 rfl aU ?_
 refine aa.bY ((j0 ++ ([(cB.length : Int)] : List Int)).map al) (j0 ++ ([(cB.length : Int)] : List Int)).length az fX rfl rfl rfl rfl (bU aF) (bB aF) (da aF) aF aF ag ag ?_
 refine aa.nil ⟨rfl, ?_⟩
 refine aS.bl (n := 0) [16] [] 0 rfl aU (.cn 16 rfl (Y.qe rfl rfl) (AQ.nil ?_))
 refine aS.done aU (ah.region ?_)
 refine .mv ?_
 refine .vl (Y.qb rfl rfl aF) ?_
 refine .an ?_
 refine aa.nil ?_
 exact ⟨jf + 1, cB ++ [(⟨7, (ps.getD jf default).p, (xr.getD (((jf : Int) - 1).toNat) default).g⟩ : Gate)], j0 ++ ([(cB.length : Int)] : List Int), ⟨om, by rw [show ((jf : Int) - 1).toNat = jf - 1 by omega]; exact hS.step (t := t + 40 * (cg ps.length : Int)) (NB.late om) (Lg.late om) om⟩, om, Le.mk (.c (.c (.c (.cons (aI rfl om) (.cons (aq rfl bj) (.nil)))))) (.cons (aB rfl gL) (.c (.c (.nil))))⟩
 refine ah.exit (ah.sr ?_)
 refine .mv ?_
 refine .an ?_
 refine aa.sh (Sh.cV (d := 6) (o := 108) rfl rfl (bf om) ag) ?_
 refine aa.nil (ah.ret ?_)
 exact ⟨_, _, rfl, rfl, _, _, zA.trans hS.ext, by have := hS.len; omega, by have := hS.ol; omega, hS.ws, rfl, rfl⟩
open Go Go.AW Go.Proofs
set_option maxRecDepth 4000 in
set_option maxHeartbeats 1000000 in
theorem xt {c : Int} {gl : List Gate} (hg : Good gl) (oL : gl.length ≤ 30000000) {w : Nat} {t : Int} {a b : List Int} {A B : List Bool → BitVec w} (ha : Wd c gl a w A t) (hb : Wd c gl b w B t) (hw : 1 ≤ w ∧ w ≤ 64) (ht : 0 ≤ t) : ak Try.prog 126 [.ptr 0 0 0 0, .fz 1 (a.map al), .fz 1 (b.map al)] [.cells [.aR 1 3 0 gl.length], .rows 3 (gl.map Gate.row)] [0] (fun r o => ∃ (l : List Gate) (out : List Int), Ext gl l ∧ l.length ≤ gl.length + 1500 ∧ Wd c l out w (fun ins => A ins + B ins) (t + 40 + 40 * (cg w : Int)) ∧ r = .cX 1 (out.map al) ∧ o = [.cells [.aR 1 3 0 l.length], .rows 3 (l.map Gate.row)]) := by
 refine ak.of Try.func126 rfl rfl rfl (n := 48) ag (Nat.le_of_ble_eq_true rfl) ?_
 have um := ha.len; have Dj := hb.len
 refine ah.sr ?_
 refine .an ?_
 refine aa.nil (ah.sr ?_)
 refine .an ?_
 refine aa.sh (Sh.nil (d := 7) 107 2 rfl ag) (aa.nil (ah.seq ?_))
 refine ah.sr ?_
 refine .mv ?_
 refine .vl (Y.qu (n := a.length) az rfl (congrArg some (List.length_map ..))) ?_
 refine .mv ?_
 refine aa.nil (ah.block ?_)
 refine ah.eS (fun (dm : Nat) (aC : List Gate) (gj : List aG) => ⟨[(0, .ptr 0 0 0 0), (1, .fz 1 (a.map al)), (2, .fz 1 (b.map al)), (7, .aR 107 2 0 gj.length), (11, .v (.int .i64 (a.length : Int))), (12, .v (.int .i64 (dm : Int)))], [(0, .cells [.aR 1 3 0 aC.length]), (1, .rows 3 (aC.map Gate.row)), (107, .rows 2 (gj.map aG.row))]⟩) (fun (dm : Nat) (aC : List Gate) (gj : List aG) => ((dm : Int) ≤ (a.length : Int)) ∧ (qB c gl aC (fun k ins => (A ins).getLsbD k) (fun k ins => (B ins).getLsbD k) (t + 20) gj dm)) (fun (dm : Nat) (aC : List Gate) (gj : List aG) => ((a.length : Int) - (dm : Int)).toNat) 0 gl ([] : List aG) (⟨pt, qB.init hg⟩) (Le.mk (.c (.c (.c (.cons (aI rfl aF) (.c (.cons (aq rfl bj) (.nil))))))) (.cons (aB rfl gL) (.c (.c (.nil))))) (fun dm aC gj qH => ?_)
 obtain ⟨Cj, hT⟩ := qH
 refine ah.sr (.vl (Y.qz rfl rfl) (aa.nil ?_))
 refine ah.seq ?_
 refine ah.a9 rfl (fun AI => ?_) (fun AI => ?_)
 refine ah.skip (ah.seq (ah.block ?_))
 refine ah.sr ?_
 refine .mv ?_
 refine .an ?_
 refine aa.nil (ah.seq ?_)
 have FL := hT.len; have FM := hT.pl
 refine ah.n6 9 rfl aU (aY.val (Y.zd rfl rfl) ag (aY.val (Y.zd rfl rfl) ag ?_))
 refine aY.val (Y.zd rfl rfl) ag ?_
 refine aY.val (Y.qq (m := dm) az rfl rfl bj (ao (d := 0) om)) ag ?_
 refine aY.val (Y.qx bw rfl rfl rfl rfl) ag (aY.val (Y.zd rfl rfl) ag (aY.val (Y.zd rfl rfl) ag ?_))
 refine aY.val (Y.qq (m := dm) az rfl rfl bj (ao (d := 0) om)) ag ?_
 refine aY.val (Y.qx bw rfl rfl rfl rfl) ag (aY.nil ?_)
 refine aa.bc [0, 1] [] pf (eT (gl := aC) (a := a.getD dm 0) (b := b.getD dm 0) om) rfl (.named rfl rfl (.au rfl rfl (.au rfl rfl .nil))) ⟨rfl, rfl, trivial⟩ rfl ag (fun _ h => by cases h) (fun _ h => by cases h) ag ag ?_
 rintro r a8 ⟨rfl, rfl⟩ _
 refine ⟨⟨rfl, (by intro ob aL; simp only [List.mem_cons, List.not_mem_nil, or_false] at aL; rcases aL with rfl | rfl <;> rfl), .inl rfl⟩, ?_⟩
 refine .an ?_
 refine aa.nil ?_
 have FL := hT.len; have FM := hT.pl
 refine ah.cC rfl (aS.blind 0 rfl aU (aE.move rfl rfl) ag (aS.blind 1 rfl aU (aE.move rfl rfl) ag ?_))
 refine aS.bl (n := 5) [2, 3, 4, 5, 6, 7, 8, 9, 10] [11, 12, 13, 14, 15] 11 rfl aU (.cn 2 rfl (Y.zd rfl rfl) (.cn 3 rfl (Y.zd rfl rfl) ?_))
 refine .cn 4 rfl (Y.zd rfl rfl) ?_
 refine .cn 5 rfl (Y.qq (m := dm) az rfl rfl bj (ao (d := 0) om)) ?_
 refine .cn 6 rfl (Y.qx bw rfl rfl rfl rfl) (.cn 7 rfl (Y.zd rfl rfl) (.cn 8 rfl (Y.zd rfl rfl) ?_))
 refine .cn 9 rfl (Y.qq (m := dm) az rfl rfl bj (ao (d := 0) om)) ?_
 refine .cn 10 rfl (Y.qx bw rfl rfl rfl rfl) (AQ.nil (aS.one 11 rfl aU ?_))
 refine aa.bc [0, 1] [] pA (jd (gl := aC ++ [(⟨5, a.getD dm 0, b.getD dm 0⟩ : Gate)]) (a := a.getD dm 0) (b := b.getD dm 0) aF) rfl (.named rfl rfl (.au rfl rfl (.au rfl rfl .nil))) ⟨rfl, rfl, trivial⟩ rfl ag (fun _ h => by cases h) (fun _ h => by cases h) ag ag ?_
 rintro r a8 ⟨rfl, rfl⟩ _
 refine ⟨⟨rfl, (by intro ob aL; simp only [List.mem_cons, List.not_mem_nil, or_false] at aL; rcases aL with rfl | rfl <;> rfl), .inl rfl⟩, ?_⟩
 refine aa.nil ⟨rfl, ?_⟩
 refine aS.bl (n := 3) [12] [13, 14, 15] 13 rfl aU (.cn 12 rfl (Y.qg tT fc rfl rfl rfl) (AQ.nil ?_))
 refine aS.one 13 rfl aU ?_
 refine aa.buildSlice (([(⟨(aC.length : Int), (((aC ++ [(⟨5, a.getD dm 0, b.getD dm 0⟩ : Gate)]).length : Nat) : Int)⟩ : aG)] : List aG).map aG.row) c3 fc rfl rfl rfl rfl rfl (aD (s := 2) (f := aG.row) (fun _ => rfl)) rfl rfl rfl ag ?_
 refine aa.nil ⟨rfl, ?_⟩
 refine aS.one 14 rfl aU ?_
 refine aa.bY ((gj ++ ([(⟨(aC.length : Int), (((aC ++ [(⟨5, a.getD dm 0, b.getD dm 0⟩ : Gate)]).length : Nat) : Int)⟩ : aG)] : List aG)).map aG.row) (gj ++ ([(⟨(aC.length : Int), (((aC ++ [(⟨5, a.getD dm 0, b.getD dm 0⟩ : Gate)]).length : Nat) : Int)⟩ : aG)] : List aG)).length c3 fc rfl rfl rfl rfl (bU aF) (bB aF) (da aF) aF aF ag ag ?_
 refine aa.nil ⟨rfl, ?_⟩
 refine aS.bl (n := 0) [15] [] 0 rfl aU (.cn 15 rfl (Y.qe rfl rfl) (AQ.nil ?_))
 refine aS.done aU (ah.region ?_)
 refine .vl (Y.qb rfl rfl aF) ?_
 refine .mv ?_
 refine aa.nil ?_
 exact ⟨dm + 1, (aC ++ [(⟨5, a.getD dm 0, b.getD dm 0⟩ : Gate)]) ++ [(⟨7, a.getD dm 0, b.getD dm 0⟩ : Gate)], gj ++ ([(⟨(aC.length : Int), (((aC ++ [(⟨5, a.getD dm 0, b.getD dm 0⟩ : Gate)]).length : Nat) : Int)⟩ : aG)] : List aG), ⟨om, hT.step (ha.bit dm om) (hb.bit dm om) (Int.le_refl _) (Int.le_refl _)⟩, om, Le.mk (.c (.c (.c (.cons (aI rfl om) (.c (.cons (aq rfl bj) (.nil))))))) (.cons (aB rfl gL) (.c (.c (.nil))))⟩
 refine ah.exit (ah.seq ?_)
 refine ah.sh (Sh.cV (d := 7) (o := 107) rfl rfl (bf om) ag) ?_
 refine ah.sh (Sh.c1 (d := 7) (gj.map aG.row) rfl jV (du.map aG.cD)) ?_
 have FL := hT.len; have FM := hT.pl; have NC := hT.wp.bit 0 om
 refine ah.region ?_
 refine .mv ?_
 refine .mv ?_
 refine .mv ?_
 refine .vl (Y.qq (m := 0) c3 rfl rfl bj (ao (d := default) om)) ?_
 refine .fa gG ?_
 refine .ld bw ?_
 refine aa.bc [0, 1] [] Ax (rU (gl := aC) (ps := gj) (x := (gj.getD 0 default).p) hT.ext.dz om hT.wp (F0 := fun ins => (A ins).getLsbD 0 ^^ (B ins).getLsbD 0) NC.2 ⟨om, om⟩) rfl (.named rfl rfl (.au rfl rfl (.au rfl rfl .nil))) ⟨rfl, rfl, trivial⟩ rfl ag (fun _ h => by cases h) (fun _ h => by cases h) ag ag ?_
 rintro r a8 ⟨ND, FN, Cy, FO, FP, Cz, rfl, rfl⟩ _
 refine ⟨⟨rfl, (by intro ob aL; simp only [List.mem_cons, List.not_mem_nil, or_false] at aL; rcases aL with rfl | rfl <;> rfl), .inl rfl⟩, ?_⟩
 refine aa.bx rfl ag (aa.nil (ah.ret ?_))
 exact ⟨_, _, rfl, rfl, _, _, hT.ext.trans Cy, om, (sum_add om Cz).late (by have := hT.pl; rw [show gj.length = w by omega]; omega), rfl, rfl⟩
set_option maxRecDepth 4000 in
set_option maxHeartbeats 1000000 in
theorem xu {c : Int} {gl : List Gate} (hg : Good gl) (oL : gl.length ≤ 30000000) {w : Nat} {t : Int} {a b : List Int} {A B : List Bool → BitVec w} (ha : Wd c gl a w A t) (hb : Wd c gl b w B t) (hw : 1 ≤ w ∧ w ≤ 64) (ht : 0 ≤ t) : ak Try.prog 127 [.ptr 0 0 0 0, .fz 1 (a.map al), .fz 1 (b.map al)] [.cells [.aR 1 3 0 gl.length], .rows 3 (gl.map Gate.row)] [0] (fun r o => ∃ (l : List Gate) (out : List Int), Ext gl l ∧ l.length ≤ gl.length + 1500 ∧ Wd c l out w (fun ins => A ins - B ins) (t + 50 + 40 * (cg w : Int)) ∧ r = .cX 1 (out.map al) ∧ o = [.cells [.aR 1 3 0 l.length], .rows 3 (l.map Gate.row)]) := by
 refine ak.of Try.func127 rfl rfl rfl (n := 69) ag (Nat.le_of_ble_eq_true rfl) ?_
 have um := ha.len; have Dj := hb.len
 refine ah.sr ?_
 refine .an ?_
 refine aa.nil (ah.sr ?_)
 refine .mv ?_
 refine .mv ?_
 refine aa.bc [0, 1] [] EH (uY (gl := gl) (a := b) hg om hb.ws om) rfl (.named rfl rfl (.au rfl rfl .nil)) ⟨rfl, rfl, trivial⟩ rfl ag (fun _ h => by cases h) (fun _ h => by cases h) ag ag ?_
 rintro r a8 ⟨Lh, jg, xv, Li, Lj, FQ, rfl, rfl⟩ _
 refine ⟨⟨rfl, (by intro ob aL; simp only [List.mem_cons, List.not_mem_nil, or_false] at aL; rcases aL with rfl | rfl <;> rfl), .inl rfl⟩, ?_⟩
 refine aa.bx rfl ag (aa.sh (Sh.c1 (d := 7) (jg.map al) rfl jV (du.map cv)) (aa.nil ?_))
 refine ah.sr ?_
 refine .an ?_
 refine aa.sh (Sh.nil (d := 8) 108 2 rfl ag) (aa.nil (ah.seq ?_))
 refine ah.sr ?_
 refine .mv ?_
 refine .vl (Y.qu (n := a.length) az rfl (congrArg some (List.length_map ..))) ?_
 refine .mv ?_
 refine aa.nil (ah.block ?_)
 refine ah.eS (fun (dp : Nat) (cB : List Gate) (kH : List aG) => ⟨[(0, .ptr 0 0 0 0), (1, .fz 1 (a.map al)), (2, .fz 1 (b.map al)), (7, .fz 1 (jg.map al)), (8, .aR 108 2 0 kH.length), (16, .v (.int .i64 (a.length : Int))), (17, .v (.int .i64 (dp : Int)))], [(0, .cells [.aR 1 3 0 cB.length]), (1, .rows 3 (cB.map Gate.row)), (108, .rows 2 (kH.map aG.row))]⟩) (fun (dp : Nat) (cB : List Gate) (kH : List aG) => ((dp : Int) ≤ (a.length : Int)) ∧ (qB c Lh cB (fun k ins => (A ins).getLsbD k) (fun k ins => !(B ins).getLsbD k) (t + 30) kH dp)) (fun (dp : Nat) (cB : List Gate) (kH : List aG) => ((a.length : Int) - (dp : Int)).toNat) 0 Lh ([] : List aG) (⟨pt, qB.init xv.dz⟩) (Le.mk (.c (.c (.c (.c (.cons (aI rfl aF) (.c (.cons (aq rfl bj) (.nil)))))))) (.cons (aB rfl gL) (.c (.c (.nil))))) (fun dp cB kH z5 => ?_)
 obtain ⟨AK, hT⟩ := z5
 refine ah.sr (.vl (Y.qz rfl rfl) (aa.nil ?_))
 refine ah.seq ?_
 refine ah.a9 rfl (fun NF => ?_) (fun NF => ?_)
 refine ah.skip (ah.seq (ah.block ?_))
 refine ah.sr ?_
 refine .mv ?_
 refine .an ?_
 refine aa.nil (ah.seq ?_)
 have FL := hT.len; have FM := hT.pl
 refine ah.n6 9 rfl aU (aY.val (Y.zd rfl rfl) ag (aY.val (Y.zd rfl rfl) ag ?_))
 refine aY.val (Y.zd rfl rfl) ag ?_
 refine aY.val (Y.qq (m := dp) az rfl rfl bj (ao (d := 0) om)) ag ?_
 refine aY.val (Y.qx bw rfl rfl rfl rfl) ag (aY.val (Y.zd rfl rfl) ag (aY.val (Y.zd rfl rfl) ag ?_))
 refine aY.val (Y.qq (m := dp) az rfl rfl bj (ao (d := 0) om)) ag ?_
 refine aY.val (Y.qx bw rfl rfl rfl rfl) ag (aY.nil ?_)
 refine aa.bc [0, 1] [] pf (eT (gl := cB) (a := a.getD dp 0) (b := jg.getD dp 0) om) rfl (.named rfl rfl (.au rfl rfl (.au rfl rfl .nil))) ⟨rfl, rfl, trivial⟩ rfl ag (fun _ h => by cases h) (fun _ h => by cases h) ag ag ?_
 rintro r a8 ⟨rfl, rfl⟩ _
 refine ⟨⟨rfl, (by intro ob aL; simp only [List.mem_cons, List.not_mem_nil, or_false] at aL; rcases aL with rfl | rfl <;> rfl), .inl rfl⟩, ?_⟩
 refine .an ?_
 refine aa.nil ?_
 have FL := hT.len; have FM := hT.pl
 refine ah.cC rfl (aS.blind 0 rfl aU (aE.move rfl rfl) ag (aS.blind 1 rfl aU (aE.move rfl rfl) ag ?_))
 refine aS.bl (n := 5) [2, 3, 4, 5, 6, 7, 8, 9, 10] [11, 12, 13, 14, 15] 11 rfl aU (.cn 2 rfl (Y.zd rfl rfl) (.cn 3 rfl (Y.zd rfl rfl) ?_))
 refine .cn 4 rfl (Y.zd rfl rfl) ?_
 refine .cn 5 rfl (Y.qq (m := dp) az rfl rfl bj (ao (d := 0) om)) ?_
 refine .cn 6 rfl (Y.qx bw rfl rfl rfl rfl) (.cn 7 rfl (Y.zd rfl rfl) (.cn 8 rfl (Y.zd rfl rfl) ?_))
 refine .cn 9 rfl (Y.qq (m := dp) az rfl rfl bj (ao (d := 0) om)) ?_
 refine .cn 10 rfl (Y.qx bw rfl rfl rfl rfl) (AQ.nil (aS.one 11 rfl aU ?_))
 refine aa.bc [0, 1] [] pA (jd (gl := cB ++ [(⟨5, a.getD dp 0, jg.getD dp 0⟩ : Gate)]) (a := a.getD dp 0) (b := jg.getD dp 0) aF) rfl (.named rfl rfl (.au rfl rfl (.au rfl rfl .nil))) ⟨rfl, rfl, trivial⟩ rfl ag (fun _ h => by cases h) (fun _ h => by cases h) ag ag ?_
 rintro r a8 ⟨rfl, rfl⟩ _
 refine ⟨⟨rfl, (by intro ob aL; simp only [List.mem_cons, List.not_mem_nil, or_false] at aL; rcases aL with rfl | rfl <;> rfl), .inl rfl⟩, ?_⟩
 refine aa.nil ⟨rfl, ?_⟩
 refine aS.bl (n := 3) [12] [13, 14, 15] 13 rfl aU (.cn 12 rfl (Y.qg tT fc rfl rfl rfl) (AQ.nil ?_))
 refine aS.one 13 rfl aU ?_
 refine aa.buildSlice (([(⟨(cB.length : Int), (((cB ++ [(⟨5, a.getD dp 0, jg.getD dp 0⟩ : Gate)]).length : Nat) : Int)⟩ : aG)] : List aG).map aG.row) c3 fc rfl rfl rfl rfl rfl (aD (s := 2) (f := aG.row) (fun _ => rfl)) rfl rfl rfl ag ?_
 refine aa.nil ⟨rfl, ?_⟩
 refine aS.one 14 rfl aU ?_
 refine aa.bY ((kH ++ ([(⟨(cB.length : Int), (((cB ++ [(⟨5, a.getD dp 0, jg.getD dp 0⟩ : Gate)]).length : Nat) : Int)⟩ : aG)] : List aG)).map aG.row) (kH ++ ([(⟨(cB.length : Int), (((cB ++ [(⟨5, a.getD dp 0, jg.getD dp 0⟩ : Gate)]).length : Nat) : Int)⟩ : aG)] : List aG)).length c3 fc rfl rfl rfl rfl (bU aF) (bB aF) (da aF) aF aF ag ag ?_
 refine aa.nil ⟨rfl, ?_⟩
 refine aS.bl (n := 0) [15] [] 0 rfl aU (.cn 15 rfl (Y.qe rfl rfl) (AQ.nil ?_))
 refine aS.done aU (ah.region ?_)
 refine .vl (Y.qb rfl rfl aF) ?_
 refine .mv ?_
 refine aa.nil ?_
 exact ⟨dp + 1, (cB ++ [(⟨5, a.getD dp 0, jg.getD dp 0⟩ : Gate)]) ++ [(⟨7, a.getD dp 0, jg.getD dp 0⟩ : Gate)], kH ++ ([(⟨(cB.length : Int), (((cB ++ [(⟨5, a.getD dp 0, jg.getD dp 0⟩ : Gate)]).length : Nat) : Int)⟩ : aG)] : List aG), ⟨om, hT.step ((ha.bit dp om).ext xv) (FQ.bit dp om) om om⟩, om, Le.mk (.c (.c (.c (.c (.cons (aI rfl om) (.c (.cons (aq rfl bj) (.nil)))))))) (.cons (aB rfl gL) (.c (.c (.nil))))⟩
 refine ah.exit (ah.seq ?_)
 have FL := hT.len; have FM := hT.pl; have a0 := (ha.bit 0 om).ext (xv.trans hT.ext); have b0 := (hb.bit 0 om).ext (xv.trans hT.ext); have n0 := (FQ.bit 0 om).ext hT.ext; have e1 := Ext.two (k := 7) hT.ext.dz ag a0 b0; have w1 := a0.xor (u := t + 30) b0 om om; have e2 := Ext.two (k := 6) e1.dz ag (a0.ext e1) (n0.ext e1); have w2 := (a0.ext e1).or (u := t + 30) (n0.ext e1) om om; have hq := (hT.wp.ext (e1.trans e2)).Iu om w2
 refine ah.n6 7 rfl aU (aY.val (Y.zd rfl rfl) ag (aY.val (Y.zd rfl rfl) ag ?_))
 refine aY.val (Y.qq (m := 0) az rfl rfl bj (ao (d := 0) om)) ag ?_
 refine aY.val (Y.qx bw rfl rfl rfl rfl) ag (aY.val (Y.zd rfl rfl) ag ?_)
 refine aY.val (Y.qq (m := 0) az rfl rfl bj (ao (d := 0) om)) ag ?_
 refine aY.val (Y.qx bw rfl rfl rfl rfl) ag (aY.nil ?_)
 refine aa.bc [0, 1] [] pA (jd (gl := cB) (a := a.getD 0 0) (b := b.getD 0 0) om) rfl (.named rfl rfl (.au rfl rfl (.au rfl rfl .nil))) ⟨rfl, rfl, trivial⟩ rfl ag (fun _ h => by cases h) (fun _ h => by cases h) ag ag ?_
 rintro r a8 ⟨rfl, rfl⟩ _
 refine ⟨⟨rfl, (by intro ob aL; simp only [List.mem_cons, List.not_mem_nil, or_false] at aL; rcases aL with rfl | rfl <;> rfl), .inl rfl⟩, ?_⟩
 refine .an ?_
 refine aa.nil (ah.seq (ah.cC rfl ?_))
 refine aS.blind 0 rfl aU (aE.move rfl rfl) ag (aS.bl (n := 4) [1, 2, 3, 4, 5, 6, 7] [8, 9, 10, 11] 8 rfl aU (.cn 1 rfl (Y.zd rfl rfl) ?_))
 refine .cn 2 rfl (Y.zd rfl rfl) ?_
 refine .cn 3 rfl (Y.qq (m := 0) az rfl rfl bj (ao (d := 0) om)) ?_
 refine .cn 4 rfl (Y.qx bw rfl rfl rfl rfl) (.cn 5 rfl (Y.zd rfl rfl) ?_)
 refine .cn 6 rfl (Y.qq (m := 0) az rfl rfl bj (ao (d := 0) om)) ?_
 refine .cn 7 rfl (Y.qx bw rfl rfl rfl rfl) (AQ.nil (aS.one 8 rfl aU ?_))
 refine aa.bc [0, 1] [] r5 (lX (gl := cB ++ [(⟨7, a.getD 0 0, b.getD 0 0⟩ : Gate)]) (a := a.getD 0 0) (b := jg.getD 0 0) aF) rfl (.named rfl rfl (.au rfl rfl (.au rfl rfl .nil))) ⟨rfl, rfl, trivial⟩ rfl ag (fun _ h => by cases h) (fun _ h => by cases h) ag ag ?_
 rintro r a8 ⟨rfl, rfl⟩ _
 refine ⟨⟨rfl, (by intro ob aL; simp only [List.mem_cons, List.not_mem_nil, or_false] at aL; rcases aL with rfl | rfl <;> rfl), .inl rfl⟩, ?_⟩
 refine aa.nil ⟨rfl, ?_⟩
 refine aS.bl (n := 1) [9, 10] [11] 11 rfl aU ?_
 refine .cn 9 rfl (Y.qr (m := 0) c3 rfl rfl bj om) ?_
 refine .cn 10 rfl (Y.qn iD rfl rfl) (AQ.nil (aS.one 11 rfl aU ?_))
 refine aa.jT ((kH.set 0 (⟨(((cB ++ [(⟨7, a.getD 0 0, b.getD 0 0⟩ : Gate)]).length : Nat) : Int), (kH.getD 0 default).p⟩ : aG)).map aG.row) cJ rfl rfl rfl rfl rfl rfl rfl (aT (d := default) om) (Nat.le_of_ble_eq_true rfl) (ga rfl) ?_
 refine aa.nil ⟨rfl, ?_⟩
 refine aS.done aU (ah.seq ?_)
 refine ah.sh (Sh.cV (d := 8) (o := 108) rfl rfl (bf aF) ag) ?_
 refine ah.sh (Sh.c1 (d := 8) ((kH.set 0 (⟨(((cB ++ [(⟨7, a.getD 0 0, b.getD 0 0⟩ : Gate)]).length : Nat) : Int), (kH.getD 0 default).p⟩ : aG)).map aG.row) rfl jV (du.map aG.cD)) (ah.region ?_)
 refine .mv ?_
 refine .mv ?_
 refine .mv ?_
 refine aa.bc [0, 1] [] Ax (rU (gl := (cB ++ [(⟨7, a.getD 0 0, b.getD 0 0⟩ : Gate)]) ++ [(⟨6, a.getD 0 0, jg.getD 0 0⟩ : Gate)]) (ps := kH.set 0 (⟨(((cB ++ [(⟨7, a.getD 0 0, b.getD 0 0⟩ : Gate)]).length : Nat) : Int), (kH.getD 0 default).p⟩ : aG)) (x := (cB.length : Int)) e2.dz aF hq (w1.ext e2) ⟨pt, pt⟩) rfl (.named rfl rfl (.au rfl rfl (.au rfl rfl .nil))) ⟨rfl, rfl, trivial⟩ rfl ag (fun _ h => by cases h) (fun _ h => by cases h) ag ag ?_
 rintro r a8 ⟨Pa, Lk, Jy, FT, FU, Jz, rfl, rfl⟩ _
 refine ⟨⟨rfl, (by intro ob aL; simp only [List.mem_cons, List.not_mem_nil, or_false] at aL; rcases aL with rfl | rfl <;> rfl), .inl rfl⟩, ?_⟩
 refine aa.bx rfl ag (aa.nil (ah.ret ?_))
 exact ⟨_, _, rfl, rfl, _, _, (xv.trans hT.ext).trans ((e1.trans e2).trans Jy), by simp only [List.length_append, List.length_singleton] at FT; omega, (z2 (by rw [List.length_set] at FU; omega) Jz).late (by rw [List.length_set, show kH.length = w by omega]; omega), rfl, rfl⟩
open Go Go.AW Go.Proofs
set_option maxRecDepth 4000 in
set_option maxHeartbeats 1000000 in
theorem k9 {c : Int} {gl : List Gate} (hg : Good gl) (oL : gl.length ≤ 40000000) {s : Bool} {w : Nat} {t : Int} {a b : List Int} {A B : List Bool → BitVec w} (ha : Wd c gl a w A t) (hb : Wd c gl b w B t) (hw : 1 ≤ w ∧ w ≤ 64) (ht : 0 ≤ t) : ak Try.prog 131 [.ptr 0 0 0 0, .fz 1 (a.map al), .fz 1 (b.map al), .v (.bool s)] [.cells [.aR 1 3 0 gl.length], .rows 3 (gl.map Gate.row)] [0] (fun r o => ∃ (l : List Gate) (x : Int), Ext gl l ∧ l.length ≤ gl.length + 450 ∧ Wr c l x (fun ins => if s then (A ins).slt (B ins) else (A ins).ult (B ins)) (t + 30 + 40 * (cg w : Int)) ∧ r = .v (.int .i64 x) ∧ o = [.cells [.aR 1 3 0 l.length], .rows 3 (l.map Gate.row)]) := by
 refine ak.of Try.func131 rfl rfl rfl (n := 120) ag (Nat.le_of_ble_eq_true rfl) ?_
 have um := ha.len; have Dj := hb.len
 refine ah.sr ?_
 refine .an ?_
 refine aa.nil (ah.sr ?_)
 refine .an ?_
 refine aa.sh (Sh.nil (d := 9) 109 2 rfl ag) (aa.nil (ah.seq ?_))
 refine ah.sr ?_
 refine .mv ?_
 refine .vl (Y.qu (n := a.length) az rfl (congrArg some (List.length_map ..))) ?_
 refine .mv ?_
 refine aa.nil (ah.block ?_)
 refine ah.eS (fun (ef : Nat) (aC : List Gate) (mL : List aG) => ⟨[(0, .ptr 0 0 0 0), (1, .fz 1 (a.map al)), (2, .fz 1 (b.map al)), (3, .v (.bool s)), (9, .aR 109 2 0 mL.length), (21, .v (.int .i64 (a.length : Int))), (22, .v (.int .i64 (ef : Int)))], [(0, .cells [.aR 1 3 0 aC.length]), (1, .rows 3 (aC.map Gate.row)), (109, .rows 2 (mL.map aG.row))]⟩) (fun (ef : Nat) (aC : List Gate) (mL : List aG) => ((ef : Int) ≤ (a.length : Int)) ∧ (pg c gl aC (fun k ins => (A ins).getLsbD k) (fun k ins => (B ins).getLsbD k) s w (t + 30) mL ef)) (fun (ef : Nat) (aC : List Gate) (mL : List aG) => ((a.length : Int) - (ef : Int)).toNat) 0 gl ([] : List aG) (⟨pt, pg.init hg⟩) (Le.mk (.c (.c (.c (.c (.cons (aI rfl aF) (.c (.cons (aq rfl bj) (.nil)))))))) (.cons (aB rfl gL) (.c (.c (.nil))))) (fun ef aC mL qH => ?_)
 obtain ⟨Cj, hL⟩ := qH
 refine ah.sr (.vl (Y.qz rfl rfl) (aa.nil ?_))
 refine ah.seq ?_
 refine ah.a9 rfl (fun AJ => ?_) (fun AJ => ?_)
 refine ah.skip (ah.seq (ah.block ?_))
 refine ah.sr ?_
 refine .mv ?_
 refine .an ?_
 refine aa.nil (ah.seq (ah.iz rfl aU ?_))
 refine aY.val (Y.zd rfl rfl) ag (aY.val (Y.zd rfl rfl) ag ?_)
 refine aY.val (Y.qq (m := ef) az rfl rfl bj (ao (d := 0) om)) ag ?_
 refine aY.val (Y.qx bw rfl rfl rfl rfl) ag (aY.val (Y.zd rfl rfl) ag (aY.val (Y.zd rfl rfl) ag ?_))
 refine aY.val (Y.qq (m := ef) az rfl rfl bj (ao (d := 0) om)) ag ?_
 refine aY.val (Y.qx bw rfl rfl rfl rfl) ag (aY.val (Y.qe rfl rfl) ag (aY.val (Y.qe rfl rfl) ag ?_))
 refine aY.nil ?_
 refine ah.lI (fun (cO : Int) (dH : Int) => ⟨[(0, .ptr 0 0 0 0), (1, .fz 1 (a.map al)), (2, .fz 1 (b.map al)), (3, .v (.bool s)), (9, .aR 109 2 0 mL.length), (11, .v (.int .i64 cO)), (12, .v (.int .i64 dH)), (21, .v (.int .i64 (a.length : Int))), (22, .v (.int .i64 (ef : Int)))], [(0, .cells [.aR 1 3 0 aC.length]), (1, .rows 3 (aC.map Gate.row)), (109, .rows 2 (mL.map aG.row))]⟩) (fun (cO : Int) (dH : Int) => (cO = if s = true ∧ ef + 1 = a.length then b.getD ef 0 else a.getD ef 0) ∧ (dH = if s = true ∧ ef + 1 = a.length then a.getD ef 0 else b.getD ef 0)) ?_ (fun cO dH De => ?_)
 refine ah.sr ?_
 refine .mv ?_
 refine .mv ?_
 refine aa.split (d := 34) rfl (fun Dc => ?_) (fun Dc => ?_)
 refine .gw 34 (Y.zd rfl rfl) (.gw 34 (Y.zd rfl rfl) (.gw 34 (Y.qu (n := a.length) az rfl (congrArg some (List.length_map ..))) ?_))
 refine .gw 34 (Y.zv rfl rfl om) ?_
 refine .gw 34 (Y.qk rfl rfl) ?_
 refine .pk ?_
 refine aa.nil ?_
 refine ah.a9 rfl (fun FV => ?_) (fun FV => ?_)
 refine ah.region ?_
 refine .mv ?_
 refine .mv ?_
 refine .an ?_
 refine .an ?_
 refine aa.nil ?_
 exact ⟨b.getD ef 0, a.getD ef 0, by grind, Le.mk (.c (.c (.c (.c (.c (.cons (aq rfl bj) (.cons (aq rfl bj) (.c (.c (.nil)))))))))) (.c (.c (.c (.nil))))⟩
 refine ah.skip ?_
 exact ⟨a.getD ef 0, b.getD ef 0, by grind, Le.mk (.c (.c (.c (.c (.c (.cons (aq rfl bj) (.cons (aq rfl bj) (.c (.c (.nil)))))))))) (.c (.c (.c (.nil))))⟩
 refine .gz 34 (.gz 34 (.gz 34 ?_))
 refine .gz 34 (.gz 34 ?_)
 refine .pk ?_
 refine aa.nil (ah.cT rfl (ah.skip ?_))
 exact ⟨a.getD ef 0, b.getD ef 0, by grind, Le.mk (.c (.c (.c (.c (.c (.cons (aq rfl bj) (.cons (aq rfl bj) (.c (.c (.nil)))))))))) (.c (.c (.c (.nil))))⟩
 refine ah.seq ?_
 have NG := hL.len; have NH := hL.pl; have vu := xc (s := s) (i := ef) ha hb om (De.1.trans (by rw [um])) (De.2.trans (by rw [um]))
 refine ah.region ?_
 refine .mv ?_
 refine .mv ?_
 refine .mv ?_
 refine aa.bc [0, 1] [] q3 (fC (gl := aC) (a := cO) om) rfl (.named rfl rfl (.au rfl rfl .nil)) ⟨rfl, rfl, trivial⟩ rfl ag (fun _ h => by cases h) (fun _ h => by cases h) ag ag ?_
 rintro r a8 ⟨rfl, rfl⟩ _
 refine ⟨⟨rfl, (by intro ob aL; simp only [List.mem_cons, List.not_mem_nil, or_false] at aL; rcases aL with rfl | rfl <;> rfl), .inl rfl⟩, ?_⟩
 refine .mv ?_
 refine aa.bc [0, 1] [] pf (eT (gl := aC ++ [(⟨4, cO, 0⟩ : Gate)]) (a := (aC.length : Int)) (b := dH) aF) rfl (.named rfl rfl (.au rfl rfl (.au rfl rfl .nil))) ⟨rfl, rfl, trivial⟩ rfl ag (fun _ h => by cases h) (fun _ h => by cases h) ag ag ?_
 rintro r a8 ⟨rfl, rfl⟩ _
 refine ⟨⟨rfl, (by intro ob aL; simp only [List.mem_cons, List.not_mem_nil, or_false] at aL; rcases aL with rfl | rfl <;> rfl), .inl rfl⟩, ?_⟩
 refine .an ?_
 refine aa.nil (ah.region ?_)
 refine .mv ?_
 refine .mv ?_
 refine .mv ?_
 refine .mv ?_
 refine .mv ?_
 refine .mv ?_
 refine aa.bc [0, 1] [] pA (jd (gl := (aC ++ [(⟨4, cO, 0⟩ : Gate)]) ++ [(⟨5, (aC.length : Int), dH⟩ : Gate)]) (a := cO) (b := dH) aF) rfl (.named rfl rfl (.au rfl rfl (.au rfl rfl .nil))) ⟨rfl, rfl, trivial⟩ rfl ag (fun _ h => by cases h) (fun _ h => by cases h) ag ag ?_
 rintro r a8 ⟨rfl, rfl⟩ _
 refine ⟨⟨rfl, (by intro ob aL; simp only [List.mem_cons, List.not_mem_nil, or_false] at aL; rcases aL with rfl | rfl <;> rfl), .inl rfl⟩, ?_⟩
 refine aa.bc [0, 1] [] q3 (fC (gl := ((aC ++ [(⟨4, cO, 0⟩ : Gate)]) ++ [(⟨5, (aC.length : Int), dH⟩ : Gate)]) ++ [(⟨7, cO, dH⟩ : Gate)]) (a := ((((aC ++ [(⟨4, cO, 0⟩ : Gate)]) ++ [(⟨5, (aC.length : Int), dH⟩ : Gate)]).length : Nat) : Int)) aF) rfl (.named rfl rfl (.au rfl rfl .nil)) ⟨rfl, rfl, trivial⟩ rfl ag (fun _ h => by cases h) (fun _ h => by cases h) ag ag ?_
 rintro r a8 ⟨rfl, rfl⟩ _
 refine ⟨⟨rfl, (by intro ob aL; simp only [List.mem_cons, List.not_mem_nil, or_false] at aL; rcases aL with rfl | rfl <;> rfl), .inl rfl⟩, ?_⟩
 refine .vl (Y.qg tT fc rfl rfl rfl) ?_
 refine aa.buildSlice (([(⟨(((aC ++ [(⟨4, cO, 0⟩ : Gate)]).length : Nat) : Int), (((((aC ++ [(⟨4, cO, 0⟩ : Gate)]) ++ [(⟨5, (aC.length : Int), dH⟩ : Gate)]) ++ [(⟨7, cO, dH⟩ : Gate)]).length : Nat) : Int)⟩ : aG)] : List aG).map aG.row) c3 fc rfl rfl rfl rfl rfl (aD (s := 2) (f := aG.row) (fun _ => rfl)) rfl rfl rfl ag ?_
 refine aa.bY ((mL ++ ([(⟨(((aC ++ [(⟨4, cO, 0⟩ : Gate)]).length : Nat) : Int), (((((aC ++ [(⟨4, cO, 0⟩ : Gate)]) ++ [(⟨5, (aC.length : Int), dH⟩ : Gate)]) ++ [(⟨7, cO, dH⟩ : Gate)]).length : Nat) : Int)⟩ : aG)] : List aG)).map aG.row) (mL ++ ([(⟨(((aC ++ [(⟨4, cO, 0⟩ : Gate)]).length : Nat) : Int), (((((aC ++ [(⟨4, cO, 0⟩ : Gate)]) ++ [(⟨5, (aC.length : Int), dH⟩ : Gate)]) ++ [(⟨7, cO, dH⟩ : Gate)]).length : Nat) : Int)⟩ : aG)] : List aG)).length c3 fc rfl rfl rfl rfl (bU aF) (bB aF) (da aF) aF aF ag ag ?_
 refine .an ?_
 refine aa.nil (ah.region ?_)
 refine .vl (Y.qb rfl rfl aF) ?_
 refine .mv ?_
 refine aa.nil ?_
 exact ⟨ef + 1, (((aC ++ [(⟨4, cO, 0⟩ : Gate)]) ++ [(⟨5, (aC.length : Int), dH⟩ : Gate)]) ++ [(⟨7, cO, dH⟩ : Gate)]) ++ [(⟨4, ((((aC ++ [(⟨4, cO, 0⟩ : Gate)]) ++ [(⟨5, (aC.length : Int), dH⟩ : Gate)]).length : Nat) : Int), 0⟩ : Gate)], mL ++ ([(⟨(((aC ++ [(⟨4, cO, 0⟩ : Gate)]).length : Nat) : Int), (((((aC ++ [(⟨4, cO, 0⟩ : Gate)]) ++ [(⟨5, (aC.length : Int), dH⟩ : Gate)]) ++ [(⟨7, cO, dH⟩ : Gate)]).length : Nat) : Int)⟩ : aG)] : List aG), ⟨om, hL.step vu.1 vu.2 (Int.le_refl _) (fun ins => ⟨rfl, rfl⟩)⟩, om, Le.mk (.c (.c (.c (.c (.cons (aI rfl om) (.c (.cons (aq rfl bj) (.nil)))))))) (.cons (aB rfl gL) (.c (.c (.nil))))⟩
 refine ah.exit (ah.seq (ah.block ?_))
 refine ah.sh (Sh.cV (d := 9) (o := 109) rfl rfl (bf om) ag) ?_
 refine ah.sh (Sh.c1 (d := 9) (mL.map aG.row) rfl jV (du.map aG.cD)) ?_
 have NG := hL.len; have NH := hL.pl
 refine ah.kJ (fun (bp : List aG) (j1 : List Gate) => ⟨[(0, .ptr 0 0 0 0), (9, .fz 2 (bp.map aG.row))], [(0, .cells [.aR 1 3 0 j1.length]), (1, .rows 3 (j1.map Gate.row))]⟩) (fun (bp : List aG) (j1 : List Gate) => (ug c aC (fun ins => if s then (A ins).slt (B ins) else (A ins).ult (B ins)) w (t + 30) j1 bp)) (fun (bp : List aG) (j1 : List Gate) => bp.length) mL aC (pg.tree (g0 := gl) om ((show ef = w by omega) ▸ hL)) (Le.mk (.c (.c (.nil))) (.cons (aB rfl gL) (.c (.nil)))) (fun bp j1 Ck => ?_)
 have hI := Ck
 refine ah.seq (ah.sr ?_)
 refine .mv ?_
 refine .vl (Y.qu (n := bp.length) c3 rfl (congrArg some (List.length_map ..))) (.vl (Y.qp rfl rfl) (aa.nil ?_))
 refine ah.a9 rfl (fun Da => ?_) (fun Da => ?_)
 refine ah.skip (ah.block (ah.seq ?_))
 have Ju := hI.len; have J0 := hI.lo; have Pb := hI.ext.len; have hex : ∃ G P t, Wp c j1 bp G P t := (by obtain ⟨G1, P1, t1, h1, _⟩ := hI.ex; exact ⟨G1, P1, t1, h1⟩)
 refine ah.region ?_
 refine .an ?_
 refine aa.sh (Sh.nil (d := 14) 114 2 rfl ag) (aa.nil (ah.seq ?_))
 refine ah.sr ?_
 refine .an ?_
 refine aa.nil (ah.block ?_)
 refine ah.eS (fun (bq : Nat) (cf : List Gate) (cF : List aG) => ⟨[(0, .ptr 0 0 0 0), (9, .fz 2 (bp.map aG.row)), (14, .aR 114 2 0 cF.length), (15, .v (.int .i64 (bq : Int)))], [(0, .cells [.aR 1 3 0 cf.length]), (1, .rows 3 (cf.map Gate.row)), (114, .rows 2 (cF.map aG.row))]⟩) (fun (bq : Nat) (cf : List Gate) (cF : List aG) => (zy c j1 bp cf cF bq)) (fun (bq : Nat) (cf : List Gate) (cF : List aG) => bp.length - bq) 0 j1 ([] : List aG) (zy.init hI.ext.dz) (Le.mk (.c (.c (.cons (aI rfl aF) (.cons (aq rfl bj) (.nil))))) (.cons (aB rfl gL) (.c (.c (.nil))))) (fun bq cf cF J1 => ?_)
 have hJ := J1
 refine ah.seq (ah.seq ?_)
 have Jp := hJ.hi; have kt := hJ.len; have Jq := hJ.nl; have Jr := hJ.even
 refine ah.region ?_
 refine .mv ?_
 refine .vl (Y.qb rfl rfl aF) ?_
 refine .mv ?_
 refine .vl (Y.qu (n := bp.length) c3 rfl (congrArg some (List.length_map ..))) (.vl (Y.qz rfl rfl) (aa.nil ?_))
 refine ah.a9 rfl (fun vx => ?_) (fun vx => ?_)
 refine ah.skip (ah.seq (ah.block ?_))
 refine ah.seq ?_
 refine ah.qD (⟨[(0, .ptr 0 0 0 0), (9, .fz 2 (bp.map aG.row)), (14, .aR 114 2 0 cF.length), (15, .v (.int .i64 (bq : Int))), (16, .ptr 116 0 0 0), (17, .ptr 117 0 0 0)], [(0, .cells [.aR 1 3 0 cf.length]), (1, .rows 3 (cf.map Gate.row)), (114, .rows 2 (cF.map aG.row)), (116, .cells [.v (.int .i64 ((bp.getD bq default).g)), .v (.int .i64 ((bp.getD bq default).p))]), (117, .cells [.v (.int .i64 ((bp.getD (bq + 1) default).g)), .v (.int .i64 ((bp.getD (bq + 1) default).p))])]⟩) rfl ?_ ?_
 refine b7.blind 0 rfl aU (aE.move rfl rfl) ag (b7.blind 1 rfl aU (aE.move rfl rfl) ag ?_)
 refine b7.blind 2 rfl aU (aE.xd (m := bq) c3 rfl rfl bj (ao (d := default) om)) ag ?_
 refine b7.xe 3 rfl aU w6 rfl rfl rfl (Nat.le_of_ble_eq_true rfl) rfl rfl ag (b7.blind 4 rfl aU (aE.move rfl rfl) ag (b7.blind 5 rfl aU (aE.move rfl rfl) ag ?_))
 refine b7.blind 6 rfl aU (aE.Iy rfl rfl om) ag ?_
 refine b7.blind 7 rfl aU (aE.xd (m := bq + 1) c3 rfl rfl bj (ao (d := default) om)) ag ?_
 refine b7.xe 8 rfl aU w6 rfl rfl rfl (Nat.le_of_ble_eq_true rfl) rfl rfl ag (b7.MW ?_)
 refine bP.two 9 10 rfl rfl aU ?_ ?_
 refine aa.alloc 116 fc rfl rfl ag ?_
 refine aa.nil ⟨rfl, ?_⟩
 refine bP.one 10 rfl aU (aa.alloc 117 fc rfl rfl ag ?_)
 refine aa.nil ⟨rfl, ?_⟩
 refine bP.one 11 rfl aU (aa.aj tU rfl rfl rfl rfl rfl rfl (Nat.le_of_ble_eq_true rfl) rfl ?_)
 refine aa.nil ⟨rfl, ?_⟩
 refine bP.one 12 rfl aU (aa.aj tU rfl rfl rfl rfl rfl rfl (Nat.le_of_ble_eq_true rfl) rfl ?_)
 refine aa.nil ⟨rfl, ?_⟩
 refine bP.done aU ?_
 exact Le.mk (.c (.c (.c (.c (.c (.c (.nil))))))) (.c (.c (.c (.c (.c (.nil))))))
 refine aa.alloc 117 fc rfl rfl ag ?_
 refine aa.nil ⟨rfl, ?_⟩
 refine bP.one 9 rfl aU (aa.alloc 116 fc rfl rfl ag ?_)
 refine aa.nil ⟨rfl, ?_⟩
 refine bP.one 11 rfl aU (aa.aj tU rfl rfl rfl rfl rfl rfl (Nat.le_of_ble_eq_true rfl) rfl ?_)
 refine aa.nil ⟨rfl, ?_⟩
 refine bP.one 12 rfl aU (aa.aj tU rfl rfl rfl rfl rfl rfl (Nat.le_of_ble_eq_true rfl) rfl ?_)
 refine aa.nil ⟨rfl, ?_⟩
 refine bP.done aU ?_
 exact Le.mk (.c (.c (.c (.c (.c (.c (.nil))))))) (.c (.c (.c (.c (.c (.nil))))))
 refine ah.sr ?_
 refine .mv ?_
 refine .fa gG ?_
 refine .ld bw ?_
 refine .fa iD ?_
 refine .ld bw ?_
 refine aa.bc [0, 1] [] pf (eT (gl := cf) (a := (bp.getD (bq + 1) default).p) (b := (bp.getD bq default).g) om) rfl (.named rfl rfl (.au rfl rfl (.au rfl rfl .nil))) ⟨rfl, rfl, trivial⟩ rfl ag (fun _ h => by cases h) (fun _ h => by cases h) ag ag ?_
 rintro r a8 ⟨rfl, rfl⟩ _
 refine ⟨⟨rfl, (by intro ob aL; simp only [List.mem_cons, List.not_mem_nil, or_false] at aL; rcases aL with rfl | rfl <;> rfl), .inl rfl⟩, ?_⟩
 refine .an ?_
 refine aa.nil (ah.sr ?_)
 refine .mv ?_
 refine .fa iD ?_
 refine .ld bw ?_
 refine .mv ?_
 refine aa.bc [0, 1] [] r5 (lX (gl := cf ++ [(⟨5, (bp.getD (bq + 1) default).p, (bp.getD bq default).g⟩ : Gate)]) (a := (bp.getD (bq + 1) default).g) (b := (cf.length : Int)) aF) rfl (.named rfl rfl (.au rfl rfl (.au rfl rfl .nil))) ⟨rfl, rfl, trivial⟩ rfl ag (fun _ h => by cases h) (fun _ h => by cases h) ag ag ?_
 rintro r a8 ⟨rfl, rfl⟩ _
 refine ⟨⟨rfl, (by intro ob aL; simp only [List.mem_cons, List.not_mem_nil, or_false] at aL; rcases aL with rfl | rfl <;> rfl), .inl rfl⟩, ?_⟩
 refine .an ?_
 refine aa.nil (ah.region ?_)
 refine .mv ?_
 refine .mv ?_
 refine .mv ?_
 refine .fa gG ?_
 refine .ld bw ?_
 refine .fa gG ?_
 refine .ld bw ?_
 refine aa.bc [0, 1] [] pf (eT (gl := (cf ++ [(⟨5, (bp.getD (bq + 1) default).p, (bp.getD bq default).g⟩ : Gate)]) ++ [(⟨6, (bp.getD (bq + 1) default).g, (cf.length : Int)⟩ : Gate)]) (a := (bp.getD (bq + 1) default).p) (b := (bp.getD bq default).p) aF) rfl (.named rfl rfl (.au rfl rfl (.au rfl rfl .nil))) ⟨rfl, rfl, trivial⟩ rfl ag (fun _ h => by cases h) (fun _ h => by cases h) ag ag ?_
 rintro r a8 ⟨rfl, rfl⟩ _
 refine ⟨⟨rfl, (by intro ob aL; simp only [List.mem_cons, List.not_mem_nil, or_false] at aL; rcases aL with rfl | rfl <;> rfl), .inl rfl⟩, ?_⟩
 refine .vl (Y.qg tT fc rfl rfl rfl) ?_
 refine aa.buildSlice (([(⟨(((cf ++ [(⟨5, (bp.getD (bq + 1) default).p, (bp.getD bq default).g⟩ : Gate)]).length : Nat) : Int), ((((cf ++ [(⟨5, (bp.getD (bq + 1) default).p, (bp.getD bq default).g⟩ : Gate)]) ++ [(⟨6, (bp.getD (bq + 1) default).g, (cf.length : Int)⟩ : Gate)]).length : Nat) : Int)⟩ : aG)] : List aG).map aG.row) c3 fc rfl rfl rfl rfl rfl (aD (s := 2) (f := aG.row) (fun _ => rfl)) rfl rfl rfl ag ?_
 refine aa.bY ((cF ++ ([(⟨(((cf ++ [(⟨5, (bp.getD (bq + 1) default).p, (bp.getD bq default).g⟩ : Gate)]).length : Nat) : Int), ((((cf ++ [(⟨5, (bp.getD (bq + 1) default).p, (bp.getD bq default).g⟩ : Gate)]) ++ [(⟨6, (bp.getD (bq + 1) default).g, (cf.length : Int)⟩ : Gate)]).length : Nat) : Int)⟩ : aG)] : List aG)).map aG.row) (cF ++ ([(⟨(((cf ++ [(⟨5, (bp.getD (bq + 1) default).p, (bp.getD bq default).g⟩ : Gate)]).length : Nat) : Int), ((((cf ++ [(⟨5, (bp.getD (bq + 1) default).p, (bp.getD bq default).g⟩ : Gate)]) ++ [(⟨6, (bp.getD (bq + 1) default).g, (cf.length : Int)⟩ : Gate)]).length : Nat) : Int)⟩ : aG)] : List aG)).length c3 fc rfl rfl rfl rfl (bU aF) (bB aF) (da aF) aF aF ag ag ?_
 refine .an ?_
 refine aa.nil (ah.region ?_)
 refine .mv ?_
 refine .vl (Y.qb rfl rfl aF) ?_
 refine .an ?_
 refine aa.nil ?_
 exact ⟨bq + 2, ((cf ++ [(⟨5, (bp.getD (bq + 1) default).p, (bp.getD bq default).g⟩ : Gate)]) ++ [(⟨6, (bp.getD (bq + 1) default).g, (cf.length : Int)⟩ : Gate)]) ++ [(⟨5, (bp.getD (bq + 1) default).p, (bp.getD bq default).p⟩ : Gate)], cF ++ ([(⟨(((cf ++ [(⟨5, (bp.getD (bq + 1) default).p, (bp.getD bq default).g⟩ : Gate)]).length : Nat) : Int), ((((cf ++ [(⟨5, (bp.getD (bq + 1) default).p, (bp.getD bq default).g⟩ : Gate)]) ++ [(⟨6, (bp.getD (bq + 1) default).g, (cf.length : Int)⟩ : Gate)]).length : Nat) : Int)⟩ : aG)] : List aG), hJ.step om hex, om, Le.mk (.c (.c (.cons (aI rfl om) (.cons (aq rfl bj) (.nil))))) (.cons (aB rfl gL) (.c (.c (.nil))))⟩
 refine ah.exit ?_
 refine ah.iA (fun (e9 : List aG) => ⟨[(0, .ptr 0 0 0 0), (14, .aR 114 2 0 e9.length)], [(0, .cells [.aR 1 3 0 cf.length]), (1, .rows 3 (cf.map Gate.row)), (114, .rows 2 (e9.map aG.row))]⟩) (fun (e9 : List aG) => ug c aC (fun ins => if s then (A ins).slt (B ins) else (A ins).ult (B ins)) w (t + 30) cf e9 ∧ e9.length < bp.length) ?_ (fun e9 FW => ?_)
 refine ah.seq ?_
 have Jp := hJ.hi; have kt := hJ.len; have Jq := hJ.nl; have Jr := hJ.even
 refine ah.region ?_
 refine .mv ?_
 refine .vl (Y.qu (n := bp.length) c3 rfl (congrArg some (List.length_map ..))) ?_
 refine .vl (Y.zn rfl rfl om) ?_
 refine .vl (Y.qk rfl rfl) (aa.nil ?_)
 refine ah.a9 rfl (fun J2 => ?_) (fun J2 => ?_)
 refine ah.region ?_
 refine .mv ?_
 refine .mv ?_
 refine .mv ?_
 refine .vl (Y.qu (n := bp.length) c3 rfl (congrArg some (List.length_map ..))) ?_
 refine .vl (Y.zv rfl rfl aF) ?_
 refine .vl (Y.qq (m := ((bp.length : Int) - 1).toNat) c3 rfl rfl om (ao (d := default) om)) ?_
 refine .vl (Y.qy w6 rfl rfl (Nat.le_of_ble_eq_true rfl) rfl rfl) ?_
 refine aa.buildSlice (([(bp.getD (((bp.length : Int) - 1).toNat) default)] : List aG).map aG.row) c3 fc rfl rfl rfl rfl rfl (aD (s := 2) (f := aG.row) (fun _ => rfl)) rfl rfl rfl ag ?_
 refine aa.bY ((cF ++ ([(bp.getD (((bp.length : Int) - 1).toNat) default)] : List aG)).map aG.row) (cF ++ ([(bp.getD (((bp.length : Int) - 1).toNat) default)] : List aG)).length c3 fc rfl rfl rfl rfl (bU aF) (bB aF) (da aF) aF aF ag ag ?_
 refine .an ?_
 refine aa.nil ?_
 exact ⟨cF ++ ([(bp.getD (((bp.length : Int) - 1).toNat) default)] : List aG), by have hx := hI.Fm hJ om om om; rw [show bp.length - 1 = ((bp.length : Int) - 1).toNat by omega] at hx; exact ⟨hx, by rw [List.length_append, List.length_singleton]; omega⟩, Le.mk (.c (.cons (aI rfl om) (.nil))) (.c (.c (.c (.nil))))⟩
 refine ah.skip ?_
 exact ⟨cF, ⟨hI.pass hJ om om om, om⟩, Le.mk (.c (.cons (aI rfl om) (.nil))) (.c (.c (.c (.nil))))⟩
 refine ah.sh (Sh.cV (d := 14) (o := 114) rfl rfl (bf om) ag) ?_
 refine ah.sh (Sh.c1 (d := 14) (e9.map aG.row) rfl jV (du.map aG.cD)) (ah.region ?_)
 refine .mv ?_
 refine .an ?_
 refine aa.nil ?_
 exact ⟨e9, cf, FW.1, by have := FW.2; omega, Le.mk (.c (.c (.nil))) (.cons (aB rfl gL) (.c (.nil)))⟩
 refine ah.exit (ah.seq ?_)
 have J0 := hI.lo; have Ju := hI.len
 refine ah.region ?_
 refine .mv ?_
 refine .vl (Y.qq (m := 0) c3 rfl rfl bj (ao (d := default) om)) ?_
 refine .fa iD ?_
 refine .ld bw ?_
 refine .an ?_
 refine aa.nil (ah.ret ?_)
 exact ⟨_, _, rfl, rfl, _, _, hL.ext.trans hI.ext, by have := hL.len; omega, hI.done om, rfl, rfl⟩
open Go Go.AW Go.Proofs
structure VT (n : ab) : Prop where
 formed : bn n
 fit : Fit n
 acyclic : Acyclic n
 small : n.Small
 ea : n.cells.length ≤ 1000
 dC : n.ai.length ≤ 1000
 wQ : ∀ c ∈ n.cells, c.args.length ≤ 200
 uc : n.ee.length ≤ 1000
 cA : n.streams.length ≤ 1000
 Fb : n.ins.length ≤ 1000
theorem bn.FX {n : ab} (h : bn n) : ∀ w ∈ n.ai, dL w := fun w hw => by
 obtain ⟨i, hi, rfl⟩ := List.mem_iff_getElem.1 hw
 have := h.wide i (by rw [List.length_append]; omega)
 rw [List.getD_eq_getElem?_getD, List.getElem?_append_left hi, List.getElem?_eq_getElem hi] at this
 exact this
theorem VT.q9 {n : ab} (h : VT n) {i : Nat} (hi : i < n.cells.length) : 0 ≤ q9 n (n.cells.getD i default) ∧ q9 n (n.cells.getD i default) ≤ 400 := BU h.formed.FX (h.wQ _ (getD_in hi))
def qM (at_ : List Int) (l : List Int) : Int := l.foldl (fun t w => max t (at_.getD w.toNat 0)) 0
theorem tp {a b l : List Int} (h : ∀ w ∈ l, a.getD w.toNat 0 = b.getD w.toNat 0) : qM a l = qM b l := by
 unfold qM
 have : ∀ (t : Int) (l : List Int), (∀ w ∈ l, a.getD w.toNat 0 = b.getD w.toNat 0) → l.foldl (fun t w => max t (a.getD w.toNat 0)) t = l.foldl (fun t w => max t (b.getD w.toNat 0)) t := by
  intro t l
  induction l generalizing t with
  | nil => intro _; rfl
  | cons x r ih =>
   intro h
   simp only [List.foldl_cons]
   rw [h x (List.mem_cons_self ..)]
   exact ih _ (fun w hw => h w (List.mem_cons_of_mem _ hw))
 exact this 0 l h
theorem kA {at_ l : List Int} {B : Int} (hB : 0 ≤ B) (h : ∀ w ∈ l, at_.getD w.toNat 0 ≤ B) : 0 ≤ qM at_ l ∧ qM at_ l ≤ B := by
 unfold qM
 have : ∀ (t : Int) (l : List Int), 0 ≤ t → t ≤ B → (∀ w ∈ l, at_.getD w.toNat 0 ≤ B) → 0 ≤ l.foldl (fun t w => max t (at_.getD w.toNat 0)) t ∧ l.foldl (fun t w => max t (at_.getD w.toNat 0)) t ≤ B := by
  intro t l
  induction l generalizing t with
  | nil => intro h0 h1 _; exact ⟨h0, h1⟩
  | cons x r ih =>
   intro h0 h1 h
   simp only [List.foldl_cons]
   have := h x (List.mem_cons_self ..)
   exact ih _ om om (fun w hw => h w (List.mem_cons_of_mem _ hw))
 exact this 0 l (Int.le_refl _) hB h
def pj (n : ab) (at_ : List Int) (c : Cell) : Int := (if cM c.kind then qM at_ c.args else 0) + q9 n c
structure FY (n : ab) (at_ : List Int) : Prop where
 len : at_.length = n.ai.length
 eq : ∀ i w, cy n i w → at_.getD w.toNat 0 = pj n at_ (n.cell i)
theorem Ord.lt {n : ab} {l : List Int} (ho : Ord n l) {i x : Int} (hi : 0 ≤ i ∧ i < n.cells.length) (hc : cM (n.cell i).kind) (hx : x ∈ (n.cell i).args) : ∃ j, cy n j x ∧ l.idxOf j < l.idxOf i := by
 obtain ⟨p, s, hl, hn⟩ := List.eq_append_cons_of_mem (ho.mem hi)
 obtain ⟨j, hj, hd⟩ := ho.kF p i s hl hc x hx
 refine ⟨j, hd, ?_⟩
 have h1 : l.idxOf i = p.length := by
  rw [hl, List.idxOf_append, if_neg hn]; simp
 have h2 : l.idxOf j = p.idxOf j := by rw [hl, List.idxOf_append, if_pos hj]
 rw [h1, h2]
 exact List.idxOf_lt_length_of_mem hj
theorem FY.bound {n : ab} {l a : List Int} (hv : VT n) (ho : Ord n l) (ha : FY n a) : ∀ i w, cy n i w → 0 ≤ a.getD w.toNat 0 ∧ a.getD w.toNat 0 ≤ 400 * ((l.idxOf i : Nat) + 1 : Int) := by
 have key : ∀ k : Nat, ∀ i w, cy n i w → l.idxOf i ≤ k → 0 ≤ a.getD w.toNat 0 ∧ a.getD w.toNat 0 ≤ 400 * ((l.idxOf i : Nat) + 1 : Int) := by
  intro k
  induction k with
  | zero =>
   intro i w hd hk
   rw [ha.eq i w hd]
   have h1 := hd.1
   have C5 := hv.q9 (i := i.toNat) om
   change 0 ≤ q9 n (n.cell i) ∧ q9 n (n.cell i) ≤ 400 at C5
   unfold pj
   by_cases hc : cM (n.cell i).kind
   ·rw [if_pos hc]
    have := kA (at_ := a) (l := (n.cell i).args) (B := 0) om (fun x hx => by obtain ⟨j, _, h⟩ := ho.lt hd.1 hc hx; omega)
    omega
   ·rw [if_neg hc]; omega
  | succ k ih =>
   intro i w hd hk
   rw [ha.eq i w hd]
   have h1 := hd.1
   have C5 := hv.q9 (i := i.toNat) om
   change 0 ≤ q9 n (n.cell i) ∧ q9 n (n.cell i) ≤ 400 at C5
   unfold pj
   by_cases hc : cM (n.cell i).kind
   ·rw [if_pos hc]
    have := kA (at_ := a) (l := (n.cell i).args) (B := 400 * (l.idxOf i : Int)) om (fun x hx => by
     obtain ⟨j, hj, h⟩ := ho.lt hd.1 hc hx
     have := (ih j x hj om).2
     omega)
    omega
   ·rw [if_neg hc]; omega
 exact fun i w hd => key _ i w hd (Nat.le_refl _)
theorem FY.s0 {n : ab} {l a : List Int} (hv : VT n) (ho : Ord n l) (ha : FY n a) {w : Int} (hw : In w n.ai.length) : 0 ≤ a.getD w.toNat 0 ∧ a.getD w.toNat 0 ≤ 400000 := by
 obtain ⟨i, hi⟩ := hv.formed.o0 hw
 have h := ha.bound hv ho i w hi
 have h1 : l.idxOf i < l.length := List.idxOf_lt_length_of_mem (ho.mem hi.1)
 have h2 := ho.len
 have h3 := hv.ea
 omega
open Go Go.AW Go.Proofs
theorem xw {l : List Int} (hn : l.Nodup) {k : Nat} (hk : k < l.length) : l.idxOf (l.getD k 0) = k := by
 have hm : l.getD k 0 ∈ l := dc hk
 have h1 : l.idxOf (l.getD k 0) < l.length := List.idxOf_lt_length_of_mem hm
 have h2 : l.getD (l.idxOf (l.getD k 0)) 0 = l.getD k 0 := by
  rw [List.getD_eq_getElem?_getD, List.getElem?_eq_getElem h1]
  exact List.getElem_idxOf h1
 exact Classical.byContradiction fun e => e (o6 hn h1 hk h2)
structure lY (n : ab) (l : List Int) (k : Nat) (out : List Int) : Prop where
 len : out.length = n.ai.length
 eq : ∀ i w, cy n i w → l.idxOf i < k → out.getD w.toNat 0 = pj n out (n.cell i)
theorem lY.init {n : ab} {l : List Int} : lY n l 0 (List.replicate n.ai.length 0) := ⟨by simp, fun i w _ h => by omega⟩
theorem lY.skip {n : ab} {l out : List Int} {k : Nat} (ho : Ord n l) (h : lY n l k out) (hk : k < l.length) (h7 : (n.cell (l.getD k 0)).kind = 7) : lY n l (k + 1) out := by
 refine ⟨h.len, fun i w hd gA => ?_⟩
 rcases Nat.lt_or_ge (l.idxOf i) k with h1 | h1
 ·exact h.eq i w hd h1
 ·exfalso
  have hm := ho.mem hd.1
  have h2 : l.idxOf i < l.length := List.idxOf_lt_length_of_mem hm
  have h3 : l.getD (l.idxOf i) 0 = i := by
   rw [List.getD_eq_getElem?_getD, List.getElem?_eq_getElem h2]; exact List.getElem_idxOf h2
  rw [show l.idxOf i = k by omega] at h3
  rw [h3] at h7
  exact hd.2.1 h7
theorem lY.set {n : ab} {l out : List Int} {k : Nat} (hf : bn n) (ho : Ord n l) (h : lY n l k out) (hk : k < l.length) {w : Int} (hd : cy n (l.getD k 0) w) {v : Int} (hv : v = pj n out (n.cell (l.getD k 0))) : lY n l (k + 1) (out.set w.toNat v) := by
 have hw := hf.iG hd
 unfold In at hw
 have hl := h.len
 have NI := xw ho.nd hk
 have other : ∀ j x, cy n j x → l.idxOf j < k → (out.set w.toNat v).getD x.toNat 0 = out.getD x.toNat 0 := by
  intro j x hx hj
  have NJ := hf.iG hx
  unfold In at NJ
  rw [bD, if_neg]
  intro e
  have : x = w := by omega
  subst this
  have := hf.unique hx hd
  rw [this] at hj; omega
 have args : ∀ i : Int, 0 ≤ i ∧ i < n.cells.length → l.idxOf i ≤ k → pj n (out.set w.toNat v) (n.cell i) = pj n out (n.cell i) := by
  intro i hi Pc
  unfold pj
  by_cases hc : cM (n.cell i).kind
  ·rw [if_pos hc, if_pos hc]
   rw [tp (fun x hx => by obtain ⟨j, hj, h1⟩ := ho.lt hi hc hx; exact other j x hj om)]
  ·rw [if_neg hc, if_neg hc]
 refine ⟨by rw [List.length_set]; exact hl, fun i x hx gA => ?_⟩
 rw [args i hx.1 om]
 rcases Nat.lt_or_ge (l.idxOf i) k with h1 | h1
 ·rw [other i x hx h1]; exact h.eq i x hx h1
 ·have hm := ho.mem hx.1
  have h2 : l.idxOf i < l.length := List.idxOf_lt_length_of_mem hm
  have h3 : l.getD (l.idxOf i) 0 = i := by
   rw [List.getD_eq_getElem?_getD, List.getElem?_eq_getElem h2]; exact List.getElem_idxOf h2
  rw [show l.idxOf i = k by omega] at h3
  rw [← h3] at hx ⊢
  have e : x = w := hx.2.2.symm.trans hd.2.2
  subst e
  rw [bD, if_pos ⟨rfl, om⟩]; exact hv
theorem lY.done {n : ab} {l out : List Int} {k : Nat} (ho : Ord n l) (h : lY n l k out) (hk : k = l.length) : FY n out :=
 ⟨h.len, fun i w hd => h.eq i w hd (by rw [hk]; exact List.idxOf_lt_length_of_mem (ho.mem hd.1))⟩
theorem lY.le {n : ab} {l out : List Int} {k : Nat} (hv : VT n) (ho : Ord n l) (h : lY n l k out) {i w : Int} (hd : cy n i w) (hi : l.idxOf i < k) : 0 ≤ out.getD w.toNat 0 ∧ out.getD w.toNat 0 ≤ 400 * ((l.idxOf i : Nat) + 1 : Int) := by
 have key : ∀ m : Nat, ∀ i w, cy n i w → l.idxOf i ≤ m → l.idxOf i < k → 0 ≤ out.getD w.toNat 0 ∧ out.getD w.toNat 0 ≤ 400 * ((l.idxOf i : Nat) + 1 : Int) := by
  intro m
  induction m with
  | zero =>
   intro i w hd hm hk
   rw [h.eq i w hd hk]
   have h1 := hd.1
   have C5 := hv.q9 (i := i.toNat) om
   change 0 ≤ q9 n (n.cell i) ∧ q9 n (n.cell i) ≤ 400 at C5
   unfold pj
   by_cases hc : cM (n.cell i).kind
   ·rw [if_pos hc]
    have := kA (at_ := out) (l := (n.cell i).args) (B := 0) om (fun x hx => by obtain ⟨j, _, h⟩ := ho.lt hd.1 hc hx; omega)
    omega
   ·rw [if_neg hc]; omega
  | succ m ih =>
   intro i w hd hm hk
   rw [h.eq i w hd hk]
   have h1 := hd.1
   have C5 := hv.q9 (i := i.toNat) om
   change 0 ≤ q9 n (n.cell i) ∧ q9 n (n.cell i) ≤ 400 at C5
   unfold pj
   by_cases hc : cM (n.cell i).kind
   ·rw [if_pos hc]
    have := kA (at_ := out) (l := (n.cell i).args) (B := 400 * (l.idxOf i : Int)) om (fun x hx => by
     obtain ⟨j, hj, h⟩ := ho.lt hd.1 hc hx
     have := (ih j x hj om om).2
     omega)
    omega
   ·rw [if_neg hc]; omega
 exact key _ i w hd (Nat.le_refl _) hi
theorem lY.kA {n : ab} {l out : List Int} {k : Nat} (hv : VT n) (ho : Ord n l) (h : lY n l k out) (hk : k < l.length) (hc : cM (n.cell (l.getD k 0)).kind) (m : Nat) : 0 ≤ qM out ((n.cell (l.getD k 0)).args.take m) ∧ qM out ((n.cell (l.getD k 0)).args.take m) ≤ 400000 := by
 refine Go.Proofs.Ytlimckldnjmabaa.kA om fun x hx => ?_
 have hr := ho.s0 _ (dc hk)
 have Hx := List.mem_of_mem_take hx
 obtain ⟨j, hj, h1⟩ := ho.lt hr hc Hx
 rw [xw ho.nd hk] at h1
 have h2 := (h.le hv ho hj h1).2
 have h3 := ho.len
 have h4 := hv.ea
 omega
open Go Go.AW Go.Proofs
def Port (k : Int) : Prop := k = 5 ∨ k = 6 ∨ k = 7
instance (w : Int) : Decidable (Port w) := by unfold Port; infer_instance
abbrev rest (n : ab) : List Int := (([[n.done], n.ee, n.bQ, n.data] : List (List Int)).flatten)
section
variable {n : ab} {k : Nat}
end
def J3 (at_ : List Int) (s : Int × Int) (e : Int × Int) : Int × Int := if s.2 < 0 ∨ at_.getD e.1.toNat 0 + e.2 > s.1 then (at_.getD e.1.toNat 0 + e.2, e.1) else s
structure tq (at_ : List Int) (L : List (Int × Int)) (s : Int × Int) : Prop where
 none : L = [] → s = (0, -1)
 some : L ≠ [] → ∃ e ∈ L, s = (at_.getD e.1.toNat 0 + e.2, e.1)
 max : ∀ e ∈ L, at_.getD e.1.toNat 0 + e.2 ≤ s.1
theorem tq.step {at_ : List Int} {L : List (Int × Int)} {s e : Int × Int} (h : tq at_ L s) (h0 : ∀ e ∈ L, 0 ≤ e.1) : tq at_ (L ++ [e]) (J3 at_ s e) where
 none := fun h => by simp at h
 some := fun _ => by
  unfold J3
  by_cases hc : s.2 < 0 ∨ at_.getD e.1.toNat 0 + e.2 > s.1
  ·rw [if_pos hc]; exact ⟨e, by simp, rfl⟩
  ·rw [if_neg hc]
   by_cases hL : L = []
   ·rw [h.none hL] at hc; simp at hc
   ·obtain ⟨x, hx, hs⟩ := h.some hL
    exact ⟨x, List.mem_append.2 (.inl hx), hs⟩
 max := fun x hx => by
  unfold J3
  by_cases hc : s.2 < 0 ∨ at_.getD e.1.toNat 0 + e.2 > s.1
  ·rw [if_pos hc]
   rcases List.mem_append.1 hx with hx | hx
   ·have h1 := h.max x hx
    rcases hc with hc | hc
    ·exfalso
     obtain ⟨y, hy, hs⟩ := h.some (List.ne_nil_of_mem hx)
     rw [hs] at hc
     have := h0 y hy
     simp only at hc; omega
    ·show _ ≤ at_.getD e.1.toNat 0 + e.2; omega
   ·rw [List.mem_singleton.1 hx]; exact Int.le_refl _
  ·rw [if_neg hc]
   rcases List.mem_append.1 hx with hx | hx
   ·exact h.max x hx
   ·rw [List.mem_singleton.1 hx]; omega
open Go Go.AW Go.Proofs
section
variable {n : ab} {i k m : Nat} {ix X Z : List (Int × Int)} {b : Bool}
end
open Go Go.AW Go.Proofs
def xx : ByteArray := ⟨(([0, 1, 2, 2, 3, 3, 3, 3, 4, 4, 4, 4, 4, 4, 4, 4, 5, 5, 5, 5, 5, 5, 5, 5, 5, 5, 5, 5, 5, 5, 5, 5, 6, 6, 6, 6, 6, 6, 6, 6, 6, 6, 6, 6, 6, 6, 6, 6, 6, 6, 6, 6, 6, 6, 6, 6, 6, 6, 6, 6, 6, 6, 6, 6].append [7, 7, 7, 7, 7, 7, 7, 7, 7, 7, 7, 7, 7, 7, 7, 7, 7, 7, 7, 7, 7, 7, 7, 7, 7, 7, 7, 7, 7, 7, 7, 7, 7, 7, 7, 7, 7, 7, 7, 7, 7, 7, 7, 7, 7, 7, 7, 7, 7, 7, 7, 7, 7, 7, 7, 7, 7, 7, 7, 7, 7, 7, 7, 7]).append ([8, 8, 8, 8, 8, 8, 8, 8, 8, 8, 8, 8, 8, 8, 8, 8, 8, 8, 8, 8, 8, 8, 8, 8, 8, 8, 8, 8, 8, 8, 8, 8, 8, 8, 8, 8, 8, 8, 8, 8, 8, 8, 8, 8, 8, 8, 8, 8, 8, 8, 8, 8, 8, 8, 8, 8, 8, 8, 8, 8, 8, 8, 8, 8].append [8, 8, 8, 8, 8, 8, 8, 8, 8, 8, 8, 8, 8, 8, 8, 8, 8, 8, 8, 8, 8, 8, 8, 8, 8, 8, 8, 8, 8, 8, 8, 8, 8, 8, 8, 8, 8, 8, 8, 8, 8, 8, 8, 8, 8, 8, 8, 8, 8, 8, 8, 8, 8, 8, 8, 8, 8, 8, 8, 8, 8, 8, 8, 8])).toArray⟩
theorem xy : (List.range 256).all (fun m => aV xx m == cg (m + 1)) = true := by kernel_rfl
theorem uZ : xx.size = 256 := by kernel_rfl
theorem zB {m : Nat} (h : m < 256) : aV xx m = cg (m + 1) := by
 have := List.all_eq_true.1 xy m (List.mem_range.2 h)
 simpa using this
theorem xz {n : Nat} (h : n ≤ 256) : cg n ≤ 8 := jw om
theorem uo {x : Int} {k : Nat} (h0 : 1 ≤ x) (h1 : x ≤ 64) (hk : k ≤ 8) : 0 ≤ 3 * x * (k : Int) ∧ 3 * x * (k : Int) ≤ 1536 :=
 ⟨Int.mul_nonneg om om, Int.le_trans (Int.mul_le_mul (show 3 * x ≤ 192 by omega) (show (k : Int) ≤ 8 by omega) om om) ag⟩
structure J4 (n : ab) (l : List Cell) : Prop where
 len : l.length = n.ai.length
 at_ : ∀ i w, cy n i w → l.getD w.toNat default = n.cell i
structure kS (n : ab) (k : Nat) (l : List Cell) : Prop where
 len : l.length = n.ai.length
 at_ : ∀ i w, cy n i w → i < k → l.getD w.toNat default = n.cell i
theorem kS.init {n : ab} {z : Cell} : kS n 0 (List.replicate n.ai.length z) := ⟨by simp, fun i w hd h => by have := hd.1; omega⟩
theorem kS.set {n : ab} {k : Nat} {l : List Cell} (hf : bn n) (h : kS n k l) (hk : k < n.cells.length) (h0 : (n.cells.getD k default).out ≥ 0) : kS n (k + 1) (l.set (n.cells.getD k default).out.toNat (n.cells.getD k default)) := by
 refine ⟨by rw [List.length_set]; exact h.len, fun i w hd hi => ?_⟩
 have hw := hf.iG hd
 unfold In at hw
 have hl := h.len
 have h7 : (n.cells.getD k default).kind ≠ 7 := fun e => by have := (hf.cells k hk).2.2.1 e; omega
 have CU : cy n (k : Int) (n.cells.getD k default).out := ⟨⟨om, om⟩, h7, rfl⟩
 have Ip := hf.iG CU
 unfold In at Ip
 rw [bD]
 by_cases e : (n.cells.getD k default).out = w
 ·rw [if_pos ⟨om, om⟩]
  rw [e] at CU
  have := hf.unique hd CU
  subst this; rfl
 ·rw [if_neg om]
  refine h.at_ i w hd ?_
  rcases Int.lt_or_eq_of_le (show i ≤ k by omega) with h1 | h1
  ·exact h1
  ·subst h1; exact absurd hd.2.2 e
theorem kS.skip {n : ab} {k : Nat} {l : List Cell} (hf : bn n) (h : kS n k l) (hk : k < n.cells.length) (h0 : ¬ (n.cells.getD k default).out ≥ 0) : kS n (k + 1) l := by
 refine ⟨h.len, fun i w hd hi => ?_⟩
 refine h.at_ i w hd ?_
 rcases Int.lt_or_eq_of_le (show i ≤ k by omega) with h1 | h1
 ·exact h1
 ·subst h1
  have hw := hf.iG hd
  unfold In at hw
  have : n.cell (k : Int) = n.cells.getD k default := rfl
  rw [← this, hd.2.2] at h0
  omega
theorem kS.done {n : ab} {k : Nat} {l : List Cell} (h : kS n k l) (hk : k = n.cells.length) : J4 n l := ⟨h.len, fun i w hd => h.at_ i w hd (by rw [hk]; exact hd.1.2)⟩
structure C6 (l m : List Int) (i j : Int) : Prop where
 len : m.length = l.length
 sum : i + j = (l.length : Int) - 1
 i0 : 0 ≤ i
 out : ∀ k : Nat, k < l.length → ((k : Int) < i ∨ j < k) → m.getD k 0 = l.getD (l.length - 1 - k) 0
 GS : ∀ k : Nat, i ≤ k → (k : Int) ≤ j → m.getD k 0 = l.getD k 0
theorem C6.init (l : List Int) : C6 l l 0 ((l.length : Int) - 1) := ⟨rfl, om, om, fun k hk h => by omega, fun _ _ _ => rfl⟩
theorem C6.step {l m : List Int} {i j : Int} (h : C6 l m i j) (NK : i < j) : C6 l ((m.set i.toNat (m.getD j.toNat 0)).set j.toNat (m.getD i.toNat 0)) (i + 1) (j - 1) := by
 have h1 := h.len; have h2 := h.sum; have h3 := h.i0
 refine ⟨by simp [h1], om, om, fun k hk hc => ?_, fun k ha hb => ?_⟩
 ·rw [bD, bD]
  by_cases e : j.toNat = k
  ·rw [if_pos ⟨e, by rw [List.length_set]; omega⟩, h.GS i.toNat om om]
   congr 1; omega
  ·rw [if_neg om]
   by_cases e2 : i.toNat = k
   ·rw [if_pos ⟨e2, om⟩, h.GS j.toNat om om]
    congr 1; omega
   ·rw [if_neg om]
    exact h.out k hk om
 ·rw [bD, bD, if_neg om, if_neg om]
  exact h.GS k om om
theorem C6.done {l m : List Int} {i j : Int} (h : C6 l m i j) (NK : ¬ i < j) : m = l.reverse := by
 have h1 := h.len; have h2 := h.sum
 refine List.ext_getElem (by simp [h1]) fun k hk tN => ?_
 have e : m.getD k 0 = l.getD (l.length - 1 - k) 0 := by
  by_cases e : (k : Int) < i ∨ j < k
  ·exact h.out k om e
  ·rw [h.GS k om om]
   congr 1; omega
 rw [List.getD_eq_getElem?_getD, List.getElem?_eq_getElem hk, List.getD_eq_getElem?_getD, List.getElem?_eq_getElem om] at e
 rw [List.getElem_reverse]
 exact e
open Go Go.AW Go.Proofs
theorem tt {x : Int} (h0 : 0 ≤ x) (h1 : x < 256) : ak Try.prog 197 [.v (.int .u64 x)] [] [] (fun r o => r = (vi ((cg (x.toNat + 1) : Nat) : Int)) ∧ o = []) := by
 refine ak.of Try.func197 rfl rfl rfl (n := 25) ag (bE rfl) ?_
 have Pd := uZ
 refine .sr ?_
 refine .an ?_
 refine .nil (.seq (.sr ?_))
 refine .mv ?_
 refine .vl (Y.qo rfl rfl) (.nil ?_)
 refine .a9 rfl (fun c4 => ?_) (fun c4 => ?_)
 exfalso; omega
 refine .skip (.seq (.sr ?_))
 refine .mv ?_
 refine .vl (Y.qo rfl rfl) (.nil ?_)
 refine .a9 rfl (fun c8 => ?_) (fun c8 => ?_)
 exfalso; omega
 refine .skip (.seq (.sr ?_))
 refine .mv ?_
 refine .vl (Y.qo rfl rfl) (.nil ?_)
 refine .a9 rfl (fun qF => ?_) (fun qF => ?_)
 exfalso; omega
 refine .skip (.sr ?_)
 have Pe := wc xx x.toNat
 refine .mv ?_
 refine .mv ?_
 refine .vl (Y.qj Bx KF rfl (by first | rfl | exact IntWalk.u8_in _ om)) (.vl (Y.qt (b := xx) (m := (x).toNat) Gz rfl rfl om om) (.vl (Y.qj KF Ej rfl MC) (.vl (Y.qb rfl rfl aF) ?_)))
 refine .an ?_
 refine .nil (.ret ?_)
 exact .ri rfl (by rw [zB om]; omega)
theorem x7 {x : Int} (h0 : 0 ≤ x) (h1 : x < 256) : ak Try.prog 194 [.v (.int .u64 x)] [] [] (fun r o => r = (vi ((cg (x.toNat + 1) : Nat) : Int)) ∧ o = []) := by
 refine ak.of Try.func194 rfl rfl rfl (n := 8) ag (bE rfl) (.sr ?_)
 refine .an ?_
 refine .nil (.seq (.cT rfl ?_))
 refine .skip (.sr ?_)
 refine .mv ?_
 refine .br E8 (tt (x := x) (om) (om)) rfl (.au rfl rfl .nil) ag rfl ?_
 refine .an ?_
 refine .nil (.ret ?_)
 exact .ri rfl (rfl)
theorem gk {x : Int} (h0 : 0 ≤ x) (h1 : x ≤ 256) : ak Try.prog 174 [vi x] [] [] (fun r o => r = (vi ((cg x.toNat : Nat) : Int)) ∧ o = []) := by
 refine ak.of Try.func174 rfl rfl rfl (n := 9) ag (bE rfl) (.sr ?_)
 refine .an ?_
 refine .nil (.seq (.sr ?_))
 refine .mv ?_
 refine .vl (Y.qz rfl rfl) (.nil ?_)
 refine .a9 rfl (fun c4 => ?_) (fun c4 => ?_)
 refine .sr ?_
 refine .an ?_
 refine .nil (.ret ?_)
 exact .ri rfl (by unfold cg; rw [if_pos om]; rfl)
 refine .skip (.sr ?_)
 refine .mv ?_
 refine .vl (Y.zv rfl rfl aF) (.vl (Y.qi Ej Ei rfl (uF _ om)) (.br E7 (x7 (x := (((x - 1).toNat : Nat) : Int)) (om) (om)) rfl (.au rfl rfl .nil) ag rfl ?_))
 refine .an ?_
 refine .nil (.ret ?_)
 exact .ri rfl (by rw [show ((((x - 1).toNat : Nat) : Int).toNat + 1) = x.toNat by omega])
open Go Go.AW
section
variable {c : Int} {g0 gl : List Gate} {r : List Int} {t u : Int} {i w : Nat} {A B : List Bool → BitVec w}
structure x8 (c : Int) (g0 gl : List Gate) (out : List Int) (h : Nat → List Bool → Bool) (u : Int) (i : Nat) : Prop where
 ext : Ext g0 gl
 len : gl.length ≤ g0.length + 3 * i
 ol : out.length = i
 ws : Ws c gl out h u
theorem x8.init {h : Nat → List Bool → Bool} {u : Int} (hg : Good g0) : x8 c g0 g0 [] h u 0 := ⟨.refl hg, om, rfl, .nil⟩
theorem x8.choose {h : Nat → List Bool → Bool} {s v y n : Int} {fs fy fn : List Bool → Bool} {ts tv ty tn : Int} (k : x8 c g0 gl r h u i) (hs : Wr c g0 s fs ts) (hv : Wr c g0 v (fun ins => !fs ins) tv) (hy : Wr c g0 y fy ty) (hn : Wr c g0 n fn tn)
  (h1 : ts + 40 ≤ u) (h2 : tv + 40 ≤ u) (h3 : ty + 40 ≤ u) (h4 : tn + 40 ≤ u) (hh : ∀ ins, h i ins = if fs ins then fy ins else fn ins) : x8 c g0 (ta gl s v y n) (r ++ [(gl.length : Int) + 2]) h u (i + 1) := by
 obtain ⟨e, wv⟩ := xa k.ext.dz (hs.ext k.ext) (hv.ext k.ext) (hy.ext k.ext) (hn.ext k.ext) h1 h2 h3 h4
 have hl := k.len
 exact ⟨k.ext.trans e, by rw [uf]; omega, by rw [List.length_append, k.ol]; rfl, (k.ws.ext e).snoc (by rw [k.ol]; exact wv.as fun ins => (hh ins).symm)⟩
theorem x8.and {h : Nat → List Bool → Bool} {x y : Int} {fx fy : List Bool → Bool} {tx ty : Int} (k : x8 c g0 gl r h u i) (hx : Wr c g0 x fx tx) (hy : Wr c g0 y fy ty) (h1 : tx + 20 ≤ u) (h2 : ty + 20 ≤ u) (hh : ∀ ins, h i ins = (fx ins && fy ins)) :
  x8 c g0 (gl ++ [⟨5, x, y⟩]) (r ++ [(gl.length : Int)]) h u (i + 1) := by
 have e := Ext.two (k := 5) k.ext.dz ag (hx.ext k.ext) (hy.ext k.ext)
 have wv := (hx.ext k.ext).and (u := u) (hy.ext k.ext) h1 h2
 have hl := k.len
 exact ⟨k.ext.trans e, by rw [List.length_append, List.length_singleton]; omega, by rw [List.length_append, k.ol]; rfl, (k.ws.ext e).snoc (by rw [k.ol]; exact wv.as fun ins => (hh ins).symm)⟩
def tu {w : Nat} (B : List Bool → BitVec w) (ins : List Bool) : Bool := g7 (fun j => (B ins).getLsbD (cg w + j)) (w - cg w)
def rW (left ar : Bool) (w : Nat) (A B : List Bool → BitVec w) (i : Nat) (ins : List Bool) : Bool :=
 if ar then (if tu B ins then (A ins).msb else nD left w (A ins).getLsbD (ar && (A ins).msb) ((B ins).toNat % 2 ^ cg w) i) else (!tu B ins && nD left w (A ins).getLsbD (ar && (A ins).msb) ((B ins).toNat % 2 ^ cg w) i)
def zH (left ar : Bool) {w : Nat} (a b : BitVec w) : BitVec w := if left then a <<< b.toNat else if ar then a.sshiftRight b.toNat else a >>> b.toNat
theorem tw {left ar : Bool} (J6 : left = true → ar = false) (hr : r.length = w) (h : Ws c gl r (rW left ar w A B) u) : Wd c gl r w (fun ins => zH left ar (A ins) (B ins)) u := by
 cases left with
 | true =>
  obtain rfl := J6 rfl
  have h1 := Cd (A := A) (B := B) hr (h.as fun k _ ins => by simp [rW, tu])
  exact ⟨h1.len, fun k hk => (h1.bit k hk).as fun ins => by simp [zH]⟩
 | false =>
  cases ar with
  | true =>
   have h1 := Cf (A := A) (B := B) hr (h.as fun k _ ins => by simp [rW, tu])
   exact ⟨h1.len, fun k hk => (h1.bit k hk).as fun ins => by simp [zH]⟩
  | false =>
   have h1 := Ce (A := A) (B := B) hr (h.as fun k _ ins => by simp [rW, tu])
   exact ⟨h1.len, fun k hk => (h1.bit k hk).as fun ins => by simp [zH]⟩
def p2 (k : Nat) : Nat := 2 ^ k
theorem ur {k : Nat} (h : k ≤ 6) : IntKind.i64.wrap (1 * 2 ^ (min (k : Int).toNat IntKind.i64.bits)) = ((p2 k : Nat) : Int) := by
 have : k = 0 ∨ k = 1 ∨ k = 2 ∨ k = 3 ∨ k = 4 ∨ k = 5 ∨ k = 6 := by omega
 rcases this with rfl | rfl | rfl | rfl | rfl | rfl | rfl <;> decide
theorem C8 {k : Nat} (h : k ≤ 6) : p2 k ≤ 64 := Nat.pow_le_pow_right (n := 2) om h
theorem x9 {w : Nat} : cg w ≤ w := by
 refine jw ?_
 exact Nat.le_of_lt Nat.lt_two_pow_self
end
open Go Go.AW Go.Proofs
theorem qO {n : Nat} (h : n ≤ 256) : ak Try.prog 174 [.v (.int .i64 (n : Int))] [] [] (fun r o => r = .v (.int .i64 ((cg n : Nat) : Int)) ∧ o = []) := by
  have h1 := gk (x := (n : Int)) om om
  rwa [Int.toNat_natCast] at h1
set_option maxRecDepth 4000 in
set_option maxHeartbeats 1000000 in
theorem lz {c : Int} {gl : List Gate} (hg : Good gl) (oL : gl.length ≤ 30000000) {left ar : Bool} (J6 : left = true → ar = false) {w : Nat} {t : Int} {a b : List Int} {A B : List Bool → BitVec w} (ha : Wd c gl a w A t) (hb : Wd c gl b w B t) (hw : 1 ≤ w ∧ w ≤ 64) (ht : 0 ≤ t) : ak Try.prog 129 [.ptr 0 0 0 0, .fz 1 (a.map al), .fz 1 (b.map al), .v (.bool left), .v (.bool ar)] [.cells [.aR 1 3 0 gl.length], .rows 3 (gl.map Gate.row)] [0] (fun r o => ∃ (l : List Gate) (out : List Int), Ext gl l ∧ l.length ≤ gl.length + 1500 ∧ Wd c l out w (fun ins => zH left ar (A ins) (B ins)) (t + (if ar then 50 else 30) + 40 * (cg w : Int)) ∧ r = .cX 1 (out.map al) ∧ o = [.cells [.aR 1 3 0 l.length], .rows 3 (l.map Gate.row)]) := by
 refine ak.of Try.func129 rfl rfl rfl (n := 129) ag (Nat.le_of_ble_eq_true rfl) ?_
 have um := ha.len; have Dj := hb.len; have NO : cg a.length = cg w := by rw [um]
 have GR : cg a.length ≤ 6 := jw om
 have Pf : cg a.length ≤ a.length := x9
 refine ah.sr ?_
 refine .an ?_
 refine aa.nil (ah.sr ?_)
 refine .mv ?_
 refine .vl (Y.qu (n := a.length) az rfl (congrArg some (List.length_map ..))) ?_
 refine .an ?_
 refine aa.nil (ah.sr ?_)
 refine .mv ?_
 refine aa.br r3 (qO (n := a.length) om) rfl (.au rfl rfl .nil) ag rfl ?_
 refine .an ?_
 refine aa.nil (ah.sr ?_)
 refine .an ?_
 refine aa.nil ?_
 refine ah.lI (fun (cG : Int) (j2 : List Gate) => ⟨[(0, .ptr 0 0 0 0), (1, .fz 1 (a.map al)), (2, .fz 1 (b.map al)), (3, .v (.bool left)), (4, .v (.bool ar)), (11, .v (.int .i64 (a.length : Int))), (12, .v (.int .i64 ((cg a.length : Nat) : Int))), (13, .v (.int .i64 cG))], [(0, .cells [.aR 1 3 0 j2.length]), (1, .rows 3 (j2.map Gate.row))]⟩) (fun (cG : Int) (j2 : List Gate) => Ext gl j2 ∧ j2.length ≤ gl.length + 1 ∧ Wr c j2 cG (fun ins => ar && (A ins).msb) t) ?_ (fun cG j2 KU => ?_)
 refine ah.sr ?_
 refine .mv ?_
 refine aa.nil ?_
 refine ah.cond rfl (fun nu => ?_) (fun nu => ?_)
 refine ah.region ?_
 refine .mv ?_
 refine .mv ?_
 refine .vl (Y.zv rfl rfl aF) ?_
 refine .vl (Y.qq (m := ((a.length : Int) - 1).toNat) az rfl rfl om (ao (d := 0) om)) ?_
 refine .ld bw ?_
 refine .an ?_
 refine aa.nil ?_
 exact ⟨a.getD (((a.length : Int) - 1).toNat) 0, gl, ⟨.refl hg, om, by rw [show ((a.length : Int) - 1).toNat = w - 1 by omega]; exact (ha.msb om).as fun ins => by simp [nu]⟩, Le.mk (.c (.c (.c (.c (.c (.c (.c (.cons (aq rfl bj) (.nil))))))))) (.cons (aB rfl gL) (.c (.nil)))⟩
 refine ah.region ?_
 refine .mv ?_
 refine aa.bc [0, 1] [] w5 (eh (gl := gl) aF) rfl (.named rfl rfl .nil) ⟨rfl, rfl, trivial⟩ rfl ag (fun _ h => by cases h) (fun _ h => by cases h) ag ag ?_
 rintro r a8 ⟨rfl, rfl⟩ _
 refine ⟨⟨rfl, (by intro ob aL; simp only [List.mem_cons, List.not_mem_nil, or_false] at aL; rcases aL with rfl | rfl <;> rfl), .inl rfl⟩, ?_⟩
 refine .an ?_
 refine aa.nil ?_
 exact ⟨(gl.length : Int), gl ++ [(⟨1, 0, 0⟩ : Gate)], ⟨Ext.Il hg ag, by simp, (Wr.zero ht).as fun ins => by simp [nu]⟩, Le.mk (.c (.c (.c (.c (.c (.c (.c (.cons (aq rfl bj) (.nil))))))))) (.cons (aB rfl gL) (.c (.nil)))⟩
 refine ah.seq ?_
 obtain ⟨hE, Lm, hF⟩ := KU; have NP := hE.dz
 refine ah.region ?_
 refine .mv ?_
 refine .an ?_
 refine aa.nil (ah.seq (ah.sr ?_))
 refine .mv ?_
 refine .mv ?_
 refine aa.nil (ah.block ?_)
 refine ah.eS (fun (dD : List Int) (cP : Nat) (ij : List Gate) => ⟨[(0, .ptr 0 0 0 0), (2, .fz 1 (b.map al)), (3, .v (.bool left)), (4, .v (.bool ar)), (11, .v (.int .i64 (a.length : Int))), (12, .v (.int .i64 ((cg a.length : Nat) : Int))), (13, .v (.int .i64 cG)), (14, .fz 1 (dD.map al)), (39, .v (.int .i64 ((cg a.length : Nat) : Int))), (40, .v (.int .i64 (cP : Int)))], [(0, .cells [.aR 1 3 0 ij.length]), (1, .rows 3 (ij.map Gate.row))]⟩) (fun (dD : List Int) (cP : Nat) (ij : List Gate) => ((cP : Int) ≤ ((cg a.length : Nat) : Int)) ∧ (zz c j2 left w A B (fun ins => ar && (A ins).msb) t ij dD cP)) (fun (dD : List Int) (cP : Nat) (ij : List Gate) => (((cg a.length : Nat) : Int) - (cP : Int)).toNat) a 0 j2 (⟨om, zz.init NP (ha.ext hE)⟩) (Le.mk (.c (.c (.c (.c (.c (.c (.c (.c (.c (.cons (aq rfl bj) (.nil))))))))))) (.cons (aB rfl gL) (.c (.nil)))) (fun dD cP ij NQ => ?_)
 obtain ⟨Pg, hS⟩ := NQ
 refine ah.sr (.vl (Y.qz rfl rfl) (aa.nil ?_))
 refine ah.seq ?_
 refine ah.a9 rfl (fun I7 => ?_) (fun I7 => ?_)
 refine ah.skip (ah.seq (ah.block ?_))
 refine ah.sr ?_
 refine .mv ?_
 refine .an ?_
 refine aa.nil (ah.seq ?_)
 have Lf := hS.len; have NR := hS.xl; have NS : (3 * w + 1) * cP ≤ 193 * 6 := Nat.mul_le_mul om om; have Ph := C8 (k := cP) om; have J7 := ((hb.bit cP om).ext hE).ext hS.ext; have eN := Ext.not hS.ext.dz J7; have nN := J7.not (u := t + 10) (Int.le_refl _)
 refine ah.region ?_
 refine .mv ?_
 refine .mv ?_
 refine .vl (Y.qq (m := cP) az rfl rfl bj (ao (d := 0) om)) ?_
 refine .ld bw ?_
 refine .an ?_
 refine aa.nil (ah.sr ?_)
 refine .mv ?_
 refine .mv ?_
 refine aa.bc [0, 1] [] q3 (fC (gl := ij) (a := b.getD cP 0) om) rfl (.named rfl rfl (.au rfl rfl .nil)) ⟨rfl, rfl, trivial⟩ rfl ag (fun _ h => by cases h) (fun _ h => by cases h) ag ag ?_
 rintro r a8 ⟨rfl, rfl⟩ _
 refine ⟨⟨rfl, (by intro ob aL; simp only [List.mem_cons, List.not_mem_nil, or_false] at aL; rcases aL with rfl | rfl <;> rfl), .inl rfl⟩, ?_⟩
 refine .an ?_
 refine aa.nil (ah.sr ?_)
 refine .an ?_
 refine aa.sh (Sh.nil (d := 18) 118 1 rfl ag) (aa.nil (ah.seq ?_))
 refine ah.sr ?_
 refine .mv ?_
 refine .vl (Y.qu (n := dD.length) az rfl (congrArg some (List.length_map ..))) ?_
 refine .mv ?_
 refine aa.nil (ah.block ?_)
 refine ah.eS (fun (dU : Nat) (eA : List Gate) (cH : List Int) => ⟨[(0, .ptr 0 0 0 0), (2, .fz 1 (b.map al)), (3, .v (.bool left)), (4, .v (.bool ar)), (11, .v (.int .i64 (a.length : Int))), (12, .v (.int .i64 ((cg a.length : Nat) : Int))), (13, .v (.int .i64 cG)), (14, .fz 1 (dD.map al)), (15, .v (.int .i64 (cP : Int))), (16, .v (.int .i64 (b.getD cP 0))), (17, .v (.int .i64 (ij.length : Int))), (18, .aR 118 1 0 cH.length), (39, .v (.int .i64 ((cg a.length : Nat) : Int))), (40, .v (.int .i64 (cP : Int))), (51, .v (.int .i64 (dD.length : Int))), (52, .v (.int .i64 (dU : Int)))], [(0, .cells [.aR 1 3 0 eA.length]), (1, .rows 3 (eA.map Gate.row)), (118, .rows 1 (cH.map al))]⟩) (fun (dU : Nat) (eA : List Gate) (cH : List Int) => ((dU : Int) ≤ (dD.length : Int)) ∧ (yd c (ij ++ [(⟨4, b.getD cP 0, 0⟩ : Gate)]) eA cH (GF left w A B (fun ins => ar && (A ins).msb) cP) (t + 10 + 40 * ((cP : Int) + 1)) dU)) (fun (dU : Nat) (eA : List Gate) (cH : List Int) => ((dD.length : Int) - (dU : Int)).toNat) 0 (ij ++ [(⟨4, b.getD cP 0, 0⟩ : Gate)]) ([] : List Int) (⟨pt, yd.init eN.dz⟩) (Le.mk (.c (.c (.c (.c (.c (.c (.c (.c (.c (.c (.c (.cons (aI rfl aF) (.c (.c (.c (.cons (aq rfl bj) (.nil))))))))))))))))) (.cons (aB rfl gL) (.c (.c (.nil))))) (fun dU eA cH J8 => ?_)
 obtain ⟨NT, hM⟩ := J8
 refine ah.sr (.vl (Y.qz rfl rfl) (aa.nil ?_))
 refine ah.seq ?_
 refine ah.a9 rfl (fun I6 => ?_) (fun I6 => ?_)
 refine ah.skip (ah.seq (ah.block ?_))
 refine ah.seq ?_
 have Ga := hM.len; have Ln := hM.ol; have Pj := eN.len; rw [List.length_append, List.length_singleton] at Ga
 refine ah.region ?_
 refine .mv ?_
 refine .an ?_
 refine aa.nil (ah.sr ?_)
 refine .mv ?_
 refine .mv ?_
 refine .vl (Y.zo rfl rfl om (ur (k := cP) om)) ?_
 refine .vl (Y.qb rfl rfl aF) ?_
 refine .an ?_
 refine aa.nil ?_
 refine ah.iA (fun (dI : Int) => ⟨[(0, .ptr 0 0 0 0), (2, .fz 1 (b.map al)), (3, .v (.bool left)), (4, .v (.bool ar)), (11, .v (.int .i64 (a.length : Int))), (12, .v (.int .i64 ((cg a.length : Nat) : Int))), (13, .v (.int .i64 cG)), (14, .fz 1 (dD.map al)), (15, .v (.int .i64 (cP : Int))), (16, .v (.int .i64 (b.getD cP 0))), (17, .v (.int .i64 (ij.length : Int))), (18, .aR 118 1 0 cH.length), (19, .v (.int .i64 (dU : Int))), (20, .v (.int .i64 dI)), (39, .v (.int .i64 ((cg a.length : Nat) : Int))), (40, .v (.int .i64 (cP : Int))), (51, .v (.int .i64 (dD.length : Int))), (52, .v (.int .i64 (dU : Int)))], [(0, .cells [.aR 1 3 0 eA.length]), (1, .rows 3 (eA.map Gate.row)), (118, .rows 1 (cH.map al))]⟩) (fun (dI : Int) => dI = Fi left cP dU) ?_ (fun dI Cs => ?_)
 refine ah.sr ?_
 refine .mv ?_
 refine aa.nil ?_
 refine ah.cond rfl (fun J9 => ?_) (fun J9 => ?_)
 refine ah.region ?_
 refine .mv ?_
 refine .mv ?_
 refine .vl (Y.zo rfl rfl om (ur (k := cP) om)) ?_
 refine .vl (Y.zv rfl rfl aF) ?_
 refine .an ?_
 refine aa.nil ?_
 exact ⟨(dU : Int) - ((p2 cP : Nat) : Int), by unfold Fi p2; simp [J9], Le.mk (.c (.c (.c (.c (.c (.c (.c (.c (.c (.c (.c (.c (.c (.cons (aq rfl bj) (.c (.c (.c (.c (.nil))))))))))))))))))) (.c (.c (.c (.nil))))⟩
 refine ah.skip ?_
 exact ⟨(dU : Int) + ((p2 cP : Nat) : Int), by unfold Fi p2; simp [J9], Le.mk (.c (.c (.c (.c (.c (.c (.c (.c (.c (.c (.c (.c (.c (.cons (aq rfl bj) (.c (.c (.c (.c (.nil))))))))))))))))))) (.c (.c (.c (.nil))))⟩
 refine ah.sr ?_
 refine .mv ?_
 refine .an ?_
 refine aa.nil ?_
 refine ah.iA (fun (j3 : Int) => ⟨[(0, .ptr 0 0 0 0), (2, .fz 1 (b.map al)), (3, .v (.bool left)), (4, .v (.bool ar)), (11, .v (.int .i64 (a.length : Int))), (12, .v (.int .i64 ((cg a.length : Nat) : Int))), (13, .v (.int .i64 cG)), (14, .fz 1 (dD.map al)), (15, .v (.int .i64 (cP : Int))), (16, .v (.int .i64 (b.getD cP 0))), (17, .v (.int .i64 (ij.length : Int))), (18, .aR 118 1 0 cH.length), (19, .v (.int .i64 (dU : Int))), (21, .v (.int .i64 j3)), (39, .v (.int .i64 ((cg a.length : Nat) : Int))), (40, .v (.int .i64 (cP : Int))), (51, .v (.int .i64 (dD.length : Int))), (52, .v (.int .i64 (dU : Int)))], [(0, .cells [.aR 1 3 0 eA.length]), (1, .rows 3 (eA.map Gate.row)), (118, .rows 1 (cH.map al))]⟩) (fun (j3 : Int) => j3 = (if 0 ≤ dI ∧ dI < (a.length : Int) then dD.getD dI.toNat 0 else cG)) ?_ (fun j3 JA => ?_)
 refine ah.sr ?_
 refine .mv ?_
 refine .vl (Y.qo rfl rfl) ?_
 refine .mv ?_
 refine aa.aw (d := 67) rfl (fun I8 => ?_) (fun I8 => ?_)
 refine .gw 67 (Y.zd rfl rfl) (.gw 67 (Y.zd rfl rfl) (.gw 67 (Y.qz rfl rfl) ?_))
 refine .pk ?_
 refine aa.nil ?_
 refine ah.a9 rfl (fun NU => ?_) (fun NU => ?_)
 refine ah.region ?_
 refine .mv ?_
 refine .mv ?_
 refine .vl (Y.qq (m := (dI).toNat) az rfl rfl om (ao (d := 0) om)) ?_
 refine .ld bw ?_
 refine .an ?_
 refine aa.nil ?_
 exact ⟨dD.getD ((dI).toNat) 0, by grind, Le.mk (.c (.c (.c (.c (.c (.c (.c (.c (.c (.c (.c (.c (.c (.cons (aq rfl bj) (.c (.c (.c (.c (.nil))))))))))))))))))) (.c (.c (.c (.nil))))⟩
 refine ah.skip ?_
 exact ⟨cG, by grind, Le.mk (.c (.c (.c (.c (.c (.c (.c (.c (.c (.c (.c (.c (.c (.cons (aq rfl bj) (.c (.c (.c (.c (.nil))))))))))))))))))) (.c (.c (.c (.nil))))⟩
 refine .gz 67 (.gz 67 (.gz 67 ?_))
 refine .pk ?_
 refine aa.nil (ah.cT rfl (ah.skip ?_))
 exact ⟨cG, by grind, Le.mk (.c (.c (.c (.c (.c (.c (.c (.c (.c (.c (.c (.c (.c (.cons (aq rfl bj) (.c (.c (.c (.c (.nil))))))))))))))))))) (.c (.c (.c (.nil))))⟩
 have NV := (hS.pick hF (i := dU) (y := j3) om dI Cs (by rw [JA, um])).ext eN; have NW := (hS.ws.bit dU om).ext eN
 refine ah.region ?_
 refine .mv ?_
 refine .mv ?_
 refine .mv ?_
 refine .mv ?_
 refine .mv ?_
 refine .mv ?_
 refine .mv ?_
 refine .vl (Y.qq (m := dU) az rfl rfl bj (ao (d := 0) om)) ?_
 refine .ld bw ?_
 refine aa.bc [0, 1] [] BD (choose_spec (gl := eA) (s := b.getD cP 0) (v := (ij.length : Int)) (y := j3) (n := dD.getD dU 0) om) rfl (.named rfl rfl (.au rfl rfl (.au rfl rfl (.au rfl rfl (.au rfl rfl .nil))))) ⟨rfl, rfl, trivial⟩ rfl ag (fun _ h => by cases h) (fun _ h => by cases h) ag ag ?_
 rintro r a8 ⟨rfl, rfl⟩ _
 refine ⟨⟨rfl, (by intro ob aL; simp only [List.mem_cons, List.not_mem_nil, or_false] at aL; rcases aL with rfl | rfl <;> rfl), .inl rfl⟩, ?_⟩
 refine aa.buildSlice (([((eA.length : Int) + 2)] : List Int).map al) az fX rfl rfl rfl rfl rfl (aD (s := 1) (f := al) (fun _ => rfl)) rfl rfl rfl ag ?_
 refine aa.bY ((cH ++ ([((eA.length : Int) + 2)] : List Int)).map al) (cH ++ ([((eA.length : Int) + 2)] : List Int)).length az fX rfl rfl rfl rfl (bU aF) (bB aF) (da aF) aF aF ag ag ?_
 refine .an ?_
 refine aa.nil (ah.region ?_)
 refine .vl (Y.qb rfl rfl aF) ?_
 refine .mv ?_
 refine aa.nil ?_
 exact ⟨dU + 1, ta eA (b.getD cP 0) (ij.length : Int) j3 (dD.getD dU 0), cH ++ ([((eA.length : Int) + 2)] : List Int), ⟨om, hM.step (J7.ext eN) nN NV NW om om om om (fun ins => Cb om ins)⟩, om, Le.mk (.c (.c (.c (.c (.c (.c (.c (.c (.c (.c (.c (.cons (aI rfl om) (.c (.c (.c (.cons (aq rfl bj) (.nil))))))))))))))))) (.cons (aB rfl gL) (.c (.c (.nil))))⟩
 refine ah.exit ?_
 refine ah.sh (Sh.cV (d := 18) (o := 118) rfl rfl (bf om) ag) ?_
 refine ah.sh (Sh.c1 (d := 18) (cH.map al) rfl jV (du.map cv)) (ah.region ?_)
 refine .mv ?_
 refine .an ?_
 refine aa.nil (ah.region ?_)
 refine .vl (Y.qb rfl rfl aF) ?_
 refine .mv ?_
 refine aa.nil ?_
 exact ⟨cH, cP + 1, eA, ⟨om, hS.pass eN hM om⟩, om, Le.mk (.c (.c (.c (.c (.c (.c (.c (.c (.c (.cons (aq rfl bj) (.nil))))))))))) (.cons (aB rfl gL) (.c (.nil)))⟩
 refine ah.exit (ah.seq ?_)
 have Lf := hS.len; have NR := hS.xl; have Ac : cP = cg w := om; rw [Ac] at hS; have NS : (3 * w + 1) * cP ≤ 193 * 6 := Nat.mul_le_mul om om; have NX := (hb.ext hE).ext hS.ext; have Js := hS.ext.dz
 refine ah.region ?_
 refine .mv ?_
 refine .mv ?_
 refine .mv ?_
 refine .vl (Y.zr (l := cg a.length) (h := (b.map al).length) az rfl (.some rfl) (.none _) aF aF (by rw [List.take_length, ← List.map_drop])) ?_
 refine aa.bc [0, 1] [] Aw (rS (gl := ij) Js aF (a := b.drop (cg a.length)) (Cc NX (cg a.length) om) aF aF) rfl (.named rfl rfl (.au rfl rfl .nil)) ⟨rfl, rfl, trivial⟩ rfl ag (fun _ h => by cases h) (fun _ h => by cases h) ag ag ?_
 rintro r a8 ⟨ye, AP, xA, Gb, JB, rfl, rfl⟩ _
 refine ⟨⟨rfl, (by intro ob aL; simp only [List.mem_cons, List.not_mem_nil, or_false] at aL; rcases aL with rfl | rfl <;> rfl), .inl rfl⟩, ?_⟩
 refine .an ?_
 refine aa.nil (ah.seq ?_)
 have hv := JB.as (f' := tu B) (fun ins => by unfold tu; rw [List.length_drop, Dj, NO]); have eF := Ext.not xA.dz hv; have nF := hv.not (u := t + 10 + 20 * (cg w : Int)) (by have := ke (show (b.drop (cg a.length)).length ≤ w by rw [List.length_drop]; omega); omega); have Hc := ke (show (b.drop (cg a.length)).length ≤ w by rw [List.length_drop]; omega); have JC := Gb; rw [List.length_drop] at JC
 refine ah.region ?_
 refine .mv ?_
 refine .mv ?_
 refine aa.bc [0, 1] [] q3 (fC (gl := ye) (a := AP) aF) rfl (.named rfl rfl (.au rfl rfl .nil)) ⟨rfl, rfl, trivial⟩ rfl ag (fun _ h => by cases h) (fun _ h => by cases h) ag ag ?_
 rintro r a8 ⟨rfl, rfl⟩ _
 refine ⟨⟨rfl, (by intro ob aL; simp only [List.mem_cons, List.not_mem_nil, or_false] at aL; rcases aL with rfl | rfl <;> rfl), .inl rfl⟩, ?_⟩
 refine .an ?_
 refine aa.nil (ah.sr ?_)
 refine .an ?_
 refine aa.sh (Sh.nil (d := 24) 124 1 rfl ag) (aa.nil (ah.seq ?_))
 refine ah.sr ?_
 refine .mv ?_
 refine .vl (Y.qu (n := dD.length) az rfl (congrArg some (List.length_map ..))) ?_
 refine .mv ?_
 refine aa.nil (ah.block ?_)
 refine ah.eS (fun (dx : Nat) (ek : List Gate) (eg : List Int) => ⟨[(0, .ptr 0 0 0 0), (4, .v (.bool ar)), (13, .v (.int .i64 cG)), (14, .fz 1 (dD.map al)), (22, .v (.int .i64 AP)), (23, .v (.int .i64 (ye.length : Int))), (24, .aR 124 1 0 eg.length), (100, .v (.int .i64 (dD.length : Int))), (101, .v (.int .i64 (dx : Int)))], [(0, .cells [.aR 1 3 0 ek.length]), (1, .rows 3 (ek.map Gate.row)), (124, .rows 1 (eg.map al))]⟩) (fun (dx : Nat) (ek : List Gate) (eg : List Int) => ((dx : Int) ≤ (dD.length : Int)) ∧ (x8 c (ye ++ [(⟨4, AP, 0⟩ : Gate)]) ek eg (rW left ar w A B) (t + (if ar then 50 else 30) + 40 * (cg w : Int)) dx)) (fun (dx : Nat) (ek : List Gate) (eg : List Int) => ((dD.length : Int) - (dx : Int)).toNat) 0 (ye ++ [(⟨4, AP, 0⟩ : Gate)]) ([] : List Int) (⟨pt, x8.init eF.dz⟩) (Le.mk (.c (.c (.c (.c (.c (.c (.cons (aI rfl aF) (.c (.cons (aq rfl bj) (.nil)))))))))) (.cons (aB rfl gL) (.c (.c (.nil))))) (fun dx ek eg JD => ?_)
 obtain ⟨NY, hM⟩ := JD
 refine ah.sr (.vl (Y.qz rfl rfl) (aa.nil ?_))
 refine ah.seq ?_
 refine ah.a9 rfl (fun JE => ?_) (fun JE => ?_)
 refine ah.skip ?_
 refine ah.lI (fun (kB : List Gate) (gP : List Int) => ⟨[(0, .ptr 0 0 0 0), (4, .v (.bool ar)), (13, .v (.int .i64 cG)), (14, .fz 1 (dD.map al)), (22, .v (.int .i64 AP)), (23, .v (.int .i64 (ye.length : Int))), (24, .aR 124 1 0 gP.length), (100, .v (.int .i64 (dD.length : Int))), (101, .v (.int .i64 (dx : Int)))], [(0, .cells [.aR 1 3 0 kB.length]), (1, .rows 3 (kB.map Gate.row)), (124, .rows 1 (gP.map al))]⟩) (fun (kB : List Gate) (gP : List Int) => x8 c (ye ++ [(⟨4, AP, 0⟩ : Gate)]) kB gP (rW left ar w A B) (t + (if ar then 50 else 30) + 40 * (cg w : Int)) (dx + 1)) ?_ (fun kB gP z8 => ?_)
 refine ah.block (ah.sr ?_)
 refine .mv ?_
 refine .an ?_
 refine aa.nil (ah.seq ?_)
 have Ga := hM.len; have Ln := hM.ol; rw [List.length_append, List.length_singleton] at Ga
 refine ah.region ?_
 refine .mv ?_
 refine aa.nil ?_
 refine ah.cond rfl (fun kh => ?_) (fun kh => ?_)
 refine ah.region ?_
 refine .mv ?_
 refine .mv ?_
 refine .mv ?_
 refine .mv ?_
 refine .mv ?_
 refine .mv ?_
 refine .mv ?_
 refine .vl (Y.qq (m := dx) az rfl rfl bj (ao (d := 0) om)) ?_
 refine .ld bw ?_
 refine aa.bc [0, 1] [] BD (choose_spec (gl := ek) (s := AP) (v := (ye.length : Int)) (y := cG) (n := dD.getD dx 0) om) rfl (.named rfl rfl (.au rfl rfl (.au rfl rfl (.au rfl rfl (.au rfl rfl .nil))))) ⟨rfl, rfl, trivial⟩ rfl ag (fun _ h => by cases h) (fun _ h => by cases h) ag ag ?_
 rintro r a8 ⟨rfl, rfl⟩ _
 refine ⟨⟨rfl, (by intro ob aL; simp only [List.mem_cons, List.not_mem_nil, or_false] at aL; rcases aL with rfl | rfl <;> rfl), .inl rfl⟩, ?_⟩
 refine aa.buildSlice (([((ek.length : Int) + 2)] : List Int).map al) az fX rfl rfl rfl rfl rfl (aD (s := 1) (f := al) (fun _ => rfl)) rfl rfl rfl ag ?_
 refine aa.bY ((eg ++ ([((ek.length : Int) + 2)] : List Int)).map al) (eg ++ ([((ek.length : Int) + 2)] : List Int)).length az fX rfl rfl rfl rfl (bU aF) (bB aF) (da aF) aF aF ag ag ?_
 refine .an ?_
 refine aa.nil ?_
 exact ⟨ta ek AP (ye.length : Int) cG (dD.getD dx 0), eg ++ ([((ek.length : Int) + 2)] : List Int), hM.choose (hv.ext eF) nF (((hF.ext hS.ext).ext xA).ext eF) (((hS.ws.bit dx om).ext xA).ext eF) (by rw [if_pos kh]; omega) (by rw [if_pos kh]; omega) (by rw [if_pos kh]; omega) (by rw [if_pos kh]; omega) (fun ins => by simp [rW, kh]), Le.mk (.c (.c (.c (.c (.c (.c (.cons (aI rfl om) (.c (.c (.nil)))))))))) (.cons (aB rfl gL) (.c (.c (.nil))))⟩
 refine ah.region ?_
 refine .mv ?_
 refine .mv ?_
 refine .mv ?_
 refine .mv ?_
 refine .mv ?_
 refine .vl (Y.qq (m := dx) az rfl rfl bj (ao (d := 0) om)) ?_
 refine .ld bw ?_
 refine aa.bc [0, 1] [] pf (eT (gl := ek) (a := (ye.length : Int)) (b := dD.getD dx 0) om) rfl (.named rfl rfl (.au rfl rfl (.au rfl rfl .nil))) ⟨rfl, rfl, trivial⟩ rfl ag (fun _ h => by cases h) (fun _ h => by cases h) ag ag ?_
 rintro r a8 ⟨rfl, rfl⟩ _
 refine ⟨⟨rfl, (by intro ob aL; simp only [List.mem_cons, List.not_mem_nil, or_false] at aL; rcases aL with rfl | rfl <;> rfl), .inl rfl⟩, ?_⟩
 refine aa.buildSlice (([(ek.length : Int)] : List Int).map al) az fX rfl rfl rfl rfl rfl (aD (s := 1) (f := al) (fun _ => rfl)) rfl rfl rfl ag ?_
 refine aa.bY ((eg ++ ([(ek.length : Int)] : List Int)).map al) (eg ++ ([(ek.length : Int)] : List Int)).length az fX rfl rfl rfl rfl (bU aF) (bB aF) (da aF) aF aF ag ag ?_
 refine .an ?_
 refine aa.nil ?_
 exact ⟨ek ++ [(⟨5, (ye.length : Int), dD.getD dx 0⟩ : Gate)], eg ++ ([(ek.length : Int)] : List Int), hM.and nF (((hS.ws.bit dx om).ext xA).ext eF) (by rw [if_neg (by simp [kh])]; omega) (by rw [if_neg (by simp [kh])]; omega) (fun ins => by simp [rW, kh]), Le.mk (.c (.c (.c (.c (.c (.c (.cons (aI rfl om) (.c (.c (.nil)))))))))) (.cons (aB rfl gL) (.c (.c (.nil))))⟩
 refine ah.region ?_
 refine .vl (Y.qb rfl rfl aF) ?_
 refine .mv ?_
 refine aa.nil ?_
 exact ⟨dx + 1, kB, gP, ⟨om, z8⟩, om, Le.mk (.c (.c (.c (.c (.c (.c (.cons (aI rfl om) (.c (.cons (aq rfl bj) (.nil)))))))))) (.cons (aB rfl gL) (.c (.c (.nil))))⟩
 refine ah.exit (ah.sr ?_)
 refine .mv ?_
 refine .an ?_
 refine aa.sh (Sh.cV (d := 10) (o := 124) rfl rfl (bf om) ag) ?_
 refine aa.nil (ah.ret ?_)
 exact ⟨_, _, rfl, rfl, _, _, hE.trans (hS.ext.trans (xA.trans (eF.trans hM.ext))), by have := hM.len; rw [List.length_append, List.length_singleton] at this; omega, tw J6 (by have := hM.ol; omega) hM.ws, rfl, rfl⟩
open Go Go.AW
section
variable {c : Int} {g0 gl : List Gate} {a r : List Int} {t u : Int} {w n : Nat} {A : List Bool → BitVec w}
def rX (sg : Bool) {w : Nat} (A : List Bool → BitVec w) (k : Nat) (ins : List Bool) : Bool := if k < w then (A ins).getLsbD k else sg && (A ins).msb
def qP (sg : Bool) {w : Nat} (n : Nat) (x : BitVec w) : BitVec n := if sg then x.signExtend n else x.setWidth n
theorem xB {sg : Bool} (ha : Wd c gl a w A t) : Ws c gl a (rX sg A) t := ha.ws.as fun k hk ins => by
 unfold rX; rw [if_pos (by rw [← ha.len]; exact hk)]
theorem xC {sg : Bool} {x : Int} (hr : Ws c gl r (rX sg A) t) (hl : w ≤ r.length) (hx : Wr c gl x (fun ins => sg && (A ins).msb) t) : Ws c gl (r ++ [x]) (rX sg A) t :=
 hr.snoc (hx.as fun ins => by unfold rX; rw [if_neg om])
theorem xD {sg : Bool} (hr : Ws c gl r (rX sg A) t) (hl : r.length = n) (_ : w ≤ n) : Wd c gl r n (fun ins => qP sg n (A ins)) t := hr.wd hl fun k hk ins => by
 unfold rX qP
 cases sg
 ·simp only [Bool.false_and, Bool.false_eq_true, if_false, BitVec.getLsbD_setWidth, hk, decide_true, Bool.true_and]
  by_cases h : k < w
  ·rw [if_pos h]
  ·rw [if_neg h, BitVec.getLsbD_of_ge _ _ om]
 ·simp only [Bool.true_and, if_true, BitVec.getLsbD_signExtend, hk, decide_true]
theorem zI {sg : Bool} (ha : Wd c gl a w A t) (h : n ≤ w) : Wd c gl (a.take n) n (fun ins => qP sg n (A ins)) t := ⟨by rw [List.length_take, ha.len]; omega, fun k hk => by
 have h1 := ha.bit k om
 rw [List.getD_eq_getElem?_getD, List.getElem?_take_of_lt hk, ← List.getD_eq_getElem?_getD]
 refine h1.as fun ins => ?_
 unfold qP
 cases sg
 ·simp only [Bool.false_eq_true, if_false, BitVec.getLsbD_setWidth, hk, decide_true, Bool.true_and]
 ·simp only [if_true, BitVec.getLsbD_signExtend, hk, decide_true, Bool.true_and, show k < w by omega]⟩
def l9 (s n : Nat) : List Int := (List.range n).map (fun i => ((s + i : Nat) : Int))
theorem rY (s n : Nat) : l9 s (n + 1) = l9 s n ++ [((s + n : Nat) : Int)] := by simp [l9, List.range_succ]
theorem iJ (s n : Nat) : (l9 s n).length = n := by simp [l9]
theorem uu {s n k : Nat} (h : k < n) : (l9 s n).getD k 0 = ((s + k : Nat) : Int) := by
 unfold l9
 rw [List.getD_eq_getElem?_getD, List.getElem?_map, List.getElem?_range h]; rfl
def mj (n : Nat) : List Gate := List.replicate n ⟨3, 0, 0⟩
theorem ko (n : Nat) : mj (n + 1) = mj n ++ [⟨3, 0, 0⟩] := List.replicate_succ'
theorem zJ (n m : Nat) : mj n ++ mj m = mj (n + m) := by simp [mj, List.replicate_append_replicate]
theorem iK (n : Nat) : (mj n).length = n := by simp [mj]
theorem rZ : ∀ n, Good (mj n)
 | 0 => Good.nil
 | n + 1 => by rw [ko]; exact (rZ n).snoc (w9 ag)
theorem ma : ∀ n, jt (mj n) = n
 | 0 => rfl
 | n + 1 => by rw [ko, gH, ma n, kx, if_pos rfl]
theorem uv {ins : List Bool} : ∀ {n k : Nat}, k < n → val (mj n) ins (k : Int) = ins.getD k false
 | 0, _, h => by omega
 | n + 1, k, h => by
  rw [ko]
  rcases Nat.lt_or_ge k n with h1 | h1
  ·rw [tV om (by rw [iK]; omega)]; exact uv h1
  ·obtain rfl : k = n := by omega
   have h2 := val_last (l := mj k) (g := ⟨3, 0, 0⟩) (ins := ins)
   rw [iK] at h2
   rw [h2, ma]; rfl
theorem C9 {o ins : List Int} {n : Nat} : sx o ins n ⟨3, 0, 0⟩ = ins.getD n 0 := rfl
theorem uw {c : Int} : ∀ {n k : Nat}, k < n → vv c (mj n) (k : Int) = c
 | 0, _, h => by omega
 | n + 1, k, h => by
  rw [ko]
  rcases Nat.lt_or_ge k n with h1 | h1
  ·rw [tW om (by rw [iK]; omega)]; exact uw h1
  ·obtain rfl : k = n := by omega
   unfold vv kM
   have h3 : (mj k ++ [(⟨3, 0, 0⟩ : Gate)]).length = (mj k).length + 1 := by simp
   rw [h3, m8, Int.toNat_natCast, gM (by rw [gd _ (Nat.le_refl _), iK]), C9, ma, gH, ma, kx, if_pos rfl, ox om]
def oO (f : Nat → Bool) : Nat → Nat
 | 0 => 0
 | n + 1 => oO f n + 2 ^ n * (f n).toNat
theorem oP {f : Nat → Bool} : ∀ n, oO f n < 2 ^ n
 | 0 => by simp [oO]
 | n + 1 => by
  have h := oP (f := f) n
  rw [oO, Nat.pow_succ]
  cases f n <;> simp <;> omega
theorem pL {f : Nat → Bool} : ∀ {n k : Nat}, k < n → (oO f n).testBit k = f k
 | 0, _, h => by omega
 | n + 1, k, h => by
  have h0 := oP (f := f) n
  rw [oO, Nat.add_comm, Nat.testBit_two_pow_mul_add _ h0]
  rcases Nat.lt_or_ge k n with h1 | h1
  ·rw [if_pos h1]; exact pL h1
  ·obtain rfl : k = n := by omega
   rw [if_neg om, Nat.sub_self]; cases f k <;> rfl
def AR (s w : Nat) (ins : List Bool) : Nat := oO (fun k => ins.getD (s + k) false) w
theorem Gc {c : Int} {s w n : Nat} (h : s + w ≤ n) : Wk c (mj n) (l9 s w) w (AR s w) c := ⟨iJ s w, fun ins => oP w, fun k hk => by
 rw [uu hk]
 exact ⟨om, by rw [iK]; omega, fun ins => by rw [uv om]; exact (pL (f := fun k => ins.getD (s + k) false) hk).symm, by rw [uw om]; exact Int.le_refl _⟩⟩
end
structure CA (c : Int) (gl : List Gate) (ws : List (List Int)) (op : Int) (w width : Nat) (x y z : List Bool → Nat) (t : Int) : Prop where
 x : Wk c gl (ws.getD 0 []) w x t
 y : 2 ≤ ws.length → Wk c gl (ws.getD 1 []) (if op = 21 then width else w) y t
 z : 3 ≤ ws.length → Wk c gl (ws.getD 2 []) width z t
 ok : ((op = 2 ∨ op = 3 ∨ 9 ≤ op ∧ op ≤ 14) ∧ ws.length = 2 ∧ width = w) ∨ ((15 ≤ op ∧ op ≤ 20) ∧ ws.length = 2 ∧ width = 1) ∨ (op = 21 ∧ ws.length = 3 ∧ w = 1) ∨ ((op = 22 ∨ op = 23) ∧ ws.length = 1 ∧ w ≤ width) ∨ (op = 24 ∧ ws.length = 1 ∧ width ≤ w)
 hw : 1 ≤ w ∧ w ≤ 64
 hd : 1 ≤ width ∧ width ≤ 64
 t0 : 0 ≤ t
open Go Go.AW Go.Proofs
set_option maxRecDepth 4000 in
set_option maxHeartbeats 1000000 in
theorem sa {c : Int} {gl : List Gate} (hg : Good gl) (oL : gl.length ≤ 40000000) {w n : Nat} {sg : Bool} {t : Int} {a : List Int} {A : List Bool → BitVec w} (ha : Wd c gl a w A t) (hw : 1 ≤ w ∧ w ≤ 64) (hn : 1 ≤ n ∧ n ≤ 64) (ht : 0 ≤ t) : ak Try.prog 132 [.ptr 0 0 0 0, .fz 1 (a.map al), .v (.int .i64 (n : Int)), .v (.bool sg)] [.cells [.aR 1 3 0 gl.length], .rows 3 (gl.map Gate.row)] [0] (fun r o => ∃ (l : List Gate) (out : List Int), Ext gl l ∧ l.length ≤ gl.length + 1 ∧ Wd c l out n (fun ins => qP sg n (A ins)) t ∧ r = .cX 1 (out.map al) ∧ o = [.cells [.aR 1 3 0 l.length], .rows 3 (l.map Gate.row)]) := by
 refine ak.of Try.func132 rfl rfl rfl (n := 40) ag (Nat.le_of_ble_eq_true rfl) ?_
 have um := ha.len
 refine ah.sr ?_
 refine .an ?_
 refine aa.nil (ah.seq (ah.sr ?_))
 refine .mv ?_
 refine .mv ?_
 refine .vl (Y.qu (n := a.length) az rfl (congrArg some (List.length_map ..))) (.vl (Y.qw rfl rfl) (aa.nil ?_))
 refine ah.a9 rfl (fun qF => ?_) (fun qF => ?_)
 refine ah.sr ?_
 refine .mv ?_
 refine .mv ?_
 refine .vl (Y.zr (l := 0) (h := n) az rfl (.none _) (.some rfl) aF aF (by rw [List.drop_zero, ← List.map_take])) ?_
 refine aa.br wm (iR (l := (a.take n)) (by rw [List.length_take]; omega)) rfl (.au rfl rfl .nil) ag rfl (aa.bx rfl ag (aa.nil ?_))
 refine ah.ret ?_
 exact ⟨_, _, rfl, rfl, _, _, .refl hg, om, zI ha om, rfl, rfl⟩
 refine ah.skip (ah.sr ?_)
 refine .mv ?_
 refine .mv ?_
 refine .vl (Y.qu (n := a.length) az rfl (congrArg some (List.length_map ..))) ?_
 refine .vl (Y.zv rfl rfl aF) ?_
 refine .vl (Y.qq (m := ((a.length : Int) - 1).toNat) az rfl rfl om (ao (d := 0) om)) ?_
 refine .ld bw ?_
 refine .an ?_
 refine aa.nil ?_
 refine ah.lI (fun (fD : Int) (iS : List Gate) => ⟨[(1, .fz 1 (a.map al)), (2, .v (.int .i64 (n : Int))), (9, .v (.int .i64 fD))], [(0, .cells [.aR 1 3 0 iS.length]), (1, .rows 3 (iS.map Gate.row))]⟩) (fun (fD : Int) (iS : List Gate) => Ext gl iS ∧ iS.length ≤ gl.length + 1 ∧ Wr c iS fD (fun ins => sg && (A ins).msb) t) ?_ (fun fD iS GU => ?_)
 refine ah.sr ?_
 refine .mv ?_
 refine .vl (Y.zi rfl) (aa.nil ?_)
 refine ah.cond rfl (fun CB => ?_) (fun CB => ?_)
 replace CB : sg = false := by simpa using CB
 refine ah.region ?_
 refine .mv ?_
 refine aa.bc [0, 1] [] w5 (eh (gl := gl) aF) rfl (.named rfl rfl .nil) ⟨rfl, rfl, trivial⟩ rfl ag (fun _ h => by cases h) (fun _ h => by cases h) ag ag ?_
 rintro r a8 ⟨rfl, rfl⟩ _
 refine ⟨⟨rfl, (by intro ob aL; simp only [List.mem_cons, List.not_mem_nil, or_false] at aL; rcases aL with rfl | rfl <;> rfl), .inl rfl⟩, ?_⟩
 refine .an ?_
 refine aa.nil ?_
 exact ⟨(gl.length : Int), gl ++ [(⟨1, 0, 0⟩ : Gate)], ⟨Ext.Il hg ag, by simp, (Wr.zero ht).as fun ins => by simp [CB]⟩, Le.mk (.c (.c (.cons (aq rfl bj) (.nil)))) (.cons (aB rfl gL) (.c (.nil)))⟩
 replace CB : sg = true := by simpa using CB
 refine ah.skip ?_
 exact ⟨a.getD (((a.length : Int) - 1).toNat) 0, gl, ⟨.refl hg, om, by rw [show ((a.length : Int) - 1).toNat = w - 1 by omega]; exact (ha.msb om).as fun ins => by simp [CB]⟩, Le.mk (.c (.c (.cons (aq rfl bj) (.nil)))) (.cons (aB rfl gL) (.c (.nil)))⟩
 refine ah.seq ?_
 obtain ⟨hE, Lm, hF⟩ := GU
 refine ah.region ?_
 refine .mv ?_
 refine aa.br wm (iR (l := a) om) rfl (.au rfl rfl .nil) ag rfl (aa.bx rfl ag (aa.sh (Sh.fL (d := 10) (n := a.length) 110 (a.map al) rfl jV (bf rfl) ag) ?_))
 refine aa.nil (ah.seq (ah.block ?_))
 refine ah.j7 (fun (eH : List Int) => ⟨[(2, .v (.int .i64 (n : Int))), (9, .v (.int .i64 fD)), (10, .aR 110 1 0 eH.length)], [(0, .cells [.aR 1 3 0 iS.length]), (1, .rows 3 (iS.map Gate.row)), (110, .rows 1 (eH.map al))]⟩) (fun (eH : List Int) => (w ≤ eH.length ∧ eH.length ≤ n ∧ Ws c iS eH (rX sg A) t)) (fun (eH : List Int) => n - eH.length) a (⟨om, om, xB (ha.ext hE)⟩) (Le.mk (.c (.c (.cons (aI rfl om) (.nil)))) (.c (.c (.c (.nil))))) (fun eH Jv => ?_)
 have hO := Jv
 refine ah.seq (ah.sr ?_)
 refine .mv ?_
 refine .vl (Y.qu (n := eH.length) az rfl rfl) ?_
 refine .mv ?_
 refine .vl (Y.qz rfl rfl) (aa.nil ?_)
 refine ah.a9 rfl (fun Dc => ?_) (fun Dc => ?_)
 refine ah.skip (ah.block (ah.region ?_))
 refine .mv ?_
 refine .mv ?_
 refine aa.buildSlice (([fD] : List Int).map al) az fX rfl rfl rfl rfl rfl (aD (s := 1) (f := al) (fun _ => rfl)) rfl rfl rfl ag ?_
 refine aa.bY ((eH ++ ([fD] : List Int)).map al) (eH ++ ([fD] : List Int)).length az fX rfl rfl rfl rfl (bU aF) (bB aF) (da aF) aF aF ag ag ?_
 refine .an ?_
 refine aa.nil ?_
 exact ⟨eH ++ ([fD] : List Int), ⟨by rw [List.length_append, List.length_singleton]; omega, by rw [List.length_append, List.length_singleton]; omega, xC hO.2.2 hO.1 hF⟩, by rw [List.length_append, List.length_singleton]; omega, Le.mk (.c (.c (.cons (aI rfl om) (.nil)))) (.c (.c (.c (.nil))))⟩
 refine ah.exit (ah.sr ?_)
 refine .mv ?_
 refine .an ?_
 refine aa.sh (Sh.cV (d := 8) (o := 110) rfl rfl (bf om) ag) ?_
 refine aa.nil (ah.ret ?_)
 exact ⟨_, _, rfl, rfl, _, _, hE, Lm, xD hO.2.2 om om, rfl, rfl⟩
set_option maxRecDepth 4000 in
set_option maxHeartbeats 1000000 in
theorem sb {gl : List Gate} (oL : gl.length ≤ 40000000) {n : Nat} (hn : n ≤ 64) : ak Try.prog 78 [.ptr 0 0 0 0, .v (.int .i64 (n : Int))] [.cells [.aR 1 3 0 gl.length], .rows 3 (gl.map Gate.row)] [0] (fun r o => r = .cX 1 ((l9 gl.length n).map al) ∧ o = [.cells [.aR 1 3 0 ((gl ++ mj n).length)], .rows 3 ((gl ++ mj n).map Gate.row)]) := by
 refine ak.of Try.func78 rfl rfl rfl (n := 16) ag (Nat.le_of_ble_eq_true rfl) (ah.sr ?_)
 refine .an ?_
 refine aa.nil (ah.sr ?_)
 refine .an ?_
 refine aa.sh (Sh.nil (d := 5) 105 1 rfl ag) (aa.nil (ah.seq ?_))
 refine ah.sr ?_
 refine .mv ?_
 refine .mv ?_
 refine aa.nil (ah.block ?_)
 refine ah.eS (fun (ny : Nat) (aC : List Gate) (aM : List Int) => ⟨[(0, .ptr 0 0 0 0), (5, .aR 105 1 0 aM.length), (6, .v (.int .i64 (n : Int))), (7, .v (.int .i64 (ny : Int)))], [(0, .cells [.aR 1 3 0 aC.length]), (1, .rows 3 (aC.map Gate.row)), (105, .rows 1 (aM.map al))]⟩) (fun (ny : Nat) (aC : List Gate) (aM : List Int) => ((ny : Int) ≤ (n : Int)) ∧ (aC = gl ++ mj ny ∧ aM = l9 gl.length ny)) (fun (ny : Nat) (aC : List Gate) (aM : List Int) => ((n : Int) - (ny : Int)).toNat) 0 gl ([] : List Int) (⟨pt, ⟨by simp [mj], rfl⟩⟩) (Le.mk (.c (.cons (aI rfl aF) (.c (.cons (aq rfl bj) (.nil))))) (.cons (aB rfl gL) (.c (.c (.nil))))) (fun ny aC aM qH => ?_)
 obtain ⟨Cj, hO⟩ := qH
 refine ah.sr (.vl (Y.qz rfl rfl) (aa.nil ?_))
 refine ah.seq ?_
 refine ah.a9 rfl (fun c8 => ?_) (fun c8 => ?_)
 refine ah.skip (ah.seq (ah.block ?_))
 obtain ⟨AN, AO⟩ := hO; have pa : aC.length = gl.length + ny := (by rw [AN, List.length_append, iK]); have Pk : aM.length = ny := (by rw [AO, iJ])
 refine ah.region ?_
 refine .mv ?_
 refine .mv ?_
 refine aa.bc [0, 1] [] ou (fU (gl := aC) (k := 3) (a := 0) (b := 0) om) rfl (.named rfl rfl (.au rfl rfl (.au rfl rfl (.au rfl rfl .nil)))) ⟨rfl, rfl, trivial⟩ rfl ag (fun _ h => by cases h) (fun _ h => by cases h) ag ag ?_
 rintro r a8 ⟨rfl, rfl⟩ _
 refine ⟨⟨rfl, (by intro ob aL; simp only [List.mem_cons, List.not_mem_nil, or_false] at aL; rcases aL with rfl | rfl <;> rfl), .inl rfl⟩, ?_⟩
 refine aa.buildSlice (([(aC.length : Int)] : List Int).map al) az fX rfl rfl rfl rfl rfl (aD (s := 1) (f := al) (fun _ => rfl)) rfl rfl rfl ag ?_
 refine aa.bY ((aM ++ ([(aC.length : Int)] : List Int)).map al) (aM ++ ([(aC.length : Int)] : List Int)).length az fX rfl rfl rfl rfl (bU aF) (bB aF) (da aF) aF aF ag ag ?_
 refine .an ?_
 refine aa.nil (ah.region ?_)
 refine .vl (Y.qb rfl rfl aF) ?_
 refine .mv ?_
 refine aa.nil ?_
 exact ⟨ny + 1, aC ++ [(⟨3, 0, 0⟩ : Gate)], aM ++ ([(aC.length : Int)] : List Int), ⟨om, ⟨by rw [ko, AN, List.append_assoc], by rw [rY, ← AO, pa]⟩⟩, om, Le.mk (.c (.cons (aI rfl om) (.c (.cons (aq rfl bj) (.nil))))) (.cons (aB rfl gL) (.c (.c (.nil))))⟩
 refine ah.exit (ah.sr ?_)
 refine .mv ?_
 refine .an ?_
 refine aa.sh (Sh.cV (d := 4) (o := 105) rfl rfl (bf om) ag) ?_
 refine aa.nil (ah.ret ?_)
 obtain ⟨AN, AO⟩ := hO; obtain rfl : ny = n := om; exact ⟨_, _, rfl, rfl, (by rw [AO]; rfl), (by rw [AN]; rfl)⟩
open Go Go.AW
theorem Wk.ws {c : Int} {l : List Gate} {a : List Int} {w : Nat} {N : List Bool → Nat} {t : Int} (h : Wk c l a w N t) : Ws c l a (fun k ins => (N ins).testBit k) t := ⟨fun k hk => h.bit k (by have := h.len; omega)⟩
theorem Ws.wk {c : Int} {l : List Gate} {a : List Int} {w : Nat} {N : List Bool → Nat} {t : Int} (h : Ws c l a (fun k ins => (N ins).testBit k) t) (hl : a.length = w) (hn : ∀ ins, N ins < 2 ^ w) : Wk c l a w N t := ⟨hl, hn, fun k hk => h.bit k om⟩
section
variable {c : Int} {l : List Gate} {r : List Int} {t : Int} {op : Int} {w width : Nat} {X Y Z : List Bool → Nat} {x : Int}
abbrev vd (c : Int) (l : List Gate) (r : List Int) (op : Int) (w width : Nat) (X Y Z : List Bool → Nat) (t : Int) : Prop := Wk c l r width (fun ins => qC op w width (X ins) (Y ins) (Z ins)) (t + aO op (if eo op then w else width))
theorem zK {n : Nat} (h : n < 2 ^ w) : (BitVec.ofNat w n).toNat = n := by rw [BitVec.toNat_ofNat, Nat.mod_eq_of_lt h]
theorem zL (h : Wd c l r w (fun ins => BitVec.ofNat w (X ins) + BitVec.ofNat w (Y ins)) (t + 40 + 40 * (cg w : Int))) (ho : op = 2) (hw : width = w) : vd c l r op w width X Y Z t := by
 subst ho hw
 exact (h.wk.as fun ins => by simp [qC]).late (by simp [aO, eo]; omega)
theorem zM (h : Wd c l r w (fun ins => BitVec.ofNat w (X ins) - BitVec.ofNat w (Y ins)) (t + 50 + 40 * (cg w : Int))) (ho : op = 3) (hw : width = w) : vd c l r op w width X Y Z t := by
 subst ho hw
 exact (h.wk.as fun ins => by simp [qC]).late (by simp [aO, eo]; omega)
theorem qQ {k : Int} (h : Ws c l r (fun i ins => (if k = 5 then X ins &&& Y ins else if k = 6 then X ins ||| Y ins else X ins ^^^ Y ins).testBit i) (t + 20)) (hl : r.length = w) (hX : ∀ ins, X ins < 2 ^ w) (hY : ∀ ins, Y ins < 2 ^ w) (ho : op = 9 ∧ k = 5 ∨ op = 10 ∧ k = 6 ∨ op = 11 ∧ k = 7) (hw : width = w) : vd c l r op w width X Y Z t := by
 subst hw
 rcases ho with ⟨rfl, rfl⟩ | ⟨rfl, rfl⟩ | ⟨rfl, rfl⟩
 ·exact ((h.wk hl fun ins => Nat.and_lt_two_pow _ (hY ins)).as fun ins => by simp [qC]).late (by simp [aO, eo])
 ·exact ((h.wk hl fun ins => Nat.or_lt_two_pow (hX ins) (hY ins)).as fun ins => by simp [qC]).late (by simp [aO, eo])
 ·exact ((h.wk hl fun ins => Nat.xor_lt_two_pow (hX ins) (hY ins)).as fun ins => by simp [qC]).late (by simp [aO, eo])
theorem tz {left ar : Bool} (h : Wd c l r w (fun ins => zH left ar (BitVec.ofNat w (X ins)) (BitVec.ofNat w (Y ins))) (t + (if ar then 50 else 30) + 40 * (cg w : Int))) (hY : ∀ ins, Y ins < 2 ^ w) (ho : op = 12 ∧ left = true ∧ ar = false ∨ op = 13 ∧ left = false ∧ ar = false ∨ op = 14 ∧ left = false ∧ ar = true) (hw : width = w) : vd c l r op w width X Y Z t := by
 subst hw
 rcases ho with ⟨rfl, rfl, rfl⟩ | ⟨rfl, rfl, rfl⟩ | ⟨rfl, rfl, rfl⟩
 ·exact (h.wk.as fun ins => by simp only [qC, zH, zK (hY ins)]; simp).late (by simp [aO, eo]; omega)
 ·exact (h.wk.as fun ins => by simp only [qC, zH, zK (hY ins)]; simp).late (by simp [aO, eo]; omega)
 ·exact (h.wk.as fun ins => by simp only [qC, zH, zK (hY ins)]; simp).late (by simp [aO, eo]; omega)
theorem xE {x y : Nat} (hx : x < 2 ^ w) (hy : y < 2 ^ w) : BitVec.ofNat w x = BitVec.ofNat w y ↔ x = y := by
 constructor
 ·intro h
  have := congrArg BitVec.toNat h
  rwa [zK hx, zK hy] at this
 ·rintro rfl; rfl
theorem CC (h : Wr c l x (fun ins => decide (BitVec.ofNat w (X ins) ≠ BitVec.ofNat w (Y ins))) (t + 20 + 20 * (cg w : Int))) (hX : ∀ ins, X ins < 2 ^ w) (hY : ∀ ins, Y ins < 2 ^ w) (ho : op = 16) (hw : width = 1) : vd c l [x] op w width X Y Z t := by
 subst ho hw
 exact (h.CX.as fun ins => by simp [qC, xE (hX ins) (hY ins)]).late (by simp [aO, eo]; omega)
theorem CD (h : Wr c l x (fun ins => !decide (BitVec.ofNat w (X ins) ≠ BitVec.ofNat w (Y ins))) (t + 30 + 20 * (cg w : Int))) (hX : ∀ ins, X ins < 2 ^ w) (hY : ∀ ins, Y ins < 2 ^ w) (ho : op = 15) (hw : width = 1) : vd c l [x] op w width X Y Z t := by
 subst ho hw
 exact (h.CX.as fun ins => by simp [qC, xE (hX ins) (hY ins)]).late (by simp [aO, eo]; omega)
theorem xF {s : Bool} (h : Wr c l x (fun ins => if s then (BitVec.ofNat w (X ins)).slt (BitVec.ofNat w (Y ins)) else (BitVec.ofNat w (X ins)).ult (BitVec.ofNat w (Y ins))) (t + 30 + 40 * (cg w : Int))) (hX : ∀ ins, X ins < 2 ^ w) (hY : ∀ ins, Y ins < 2 ^ w) (ho : op = 17 ∧ s = false ∨ op = 19 ∧ s = true) (hw : width = 1) : vd c l [x] op w width X Y Z t := by
 subst hw
 have hm := ke (show w ≤ w + 1 by omega)
 rcases ho with ⟨rfl, rfl⟩ | ⟨rfl, rfl⟩
 ·exact (h.CX.as fun ins => by simp [qC, BitVec.ult, Nat.mod_eq_of_lt (hX ins), Nat.mod_eq_of_lt (hY ins)]).late (by simp [aO, eo]; omega)
 ·exact (h.CX.as fun ins => by simp [qC]).late (by simp [aO, eo]; omega)
theorem xG {s : Bool} (h : Wr c l x (fun ins => !(if s then (BitVec.ofNat w (Y ins)).slt (BitVec.ofNat w (X ins)) else (BitVec.ofNat w (Y ins)).ult (BitVec.ofNat w (X ins)))) (t + 40 + 40 * (cg w : Int))) (hX : ∀ ins, X ins < 2 ^ w) (hY : ∀ ins, Y ins < 2 ^ w) (ho : op = 18 ∧ s = false ∨ op = 20 ∧ s = true) (hw : width = 1) : vd c l [x] op w width X Y Z t := by
 subst hw
 have hm := ke (show w ≤ w + 1 by omega)
 rcases ho with ⟨rfl, rfl⟩ | ⟨rfl, rfl⟩
 ·refine (h.CX.as fun ins => ?_).late (by simp [aO, eo]; omega)
  simp only [qC, BitVec.ult, zK (hX ins), zK (hY ins)]
  simp
  by_cases h : X ins ≤ Y ins
  ·rw [decide_eq_true h, decide_eq_false om]; rfl
  ·rw [decide_eq_false h, decide_eq_true om]; rfl
 ·refine (h.CX.as fun ins => ?_).late (by simp [aO, eo]; omega)
  simp only [qC, if_true, BitVec.sle_eq_not_slt]
  simp
theorem JF {x : Nat} (h : x < 2 ^ 1) : x.testBit 0 = decide (x = 1) := by
 rcases (show x = 0 ∨ x = 1 by omega) with rfl | rfl <;> rfl
theorem zO (h : Ws c l r (fun i ins => if (X ins).testBit 0 then (Y ins).testBit i else (Z ins).testBit i) (t + 50)) (hl : r.length = width) (hX : ∀ ins, X ins < 2 ^ 1) (hY : ∀ ins, Y ins < 2 ^ width) (hZ : ∀ ins, Z ins < 2 ^ width) (ho : op = 21) : vd c l r op w width X Y Z t := by
 subst ho
 have h1 : Ws c l r (fun i ins => (if X ins = 1 then Y ins else Z ins).testBit i) (t + 50) := h.as fun k _ ins => by
  rw [JF (hX ins)]
  by_cases hx : X ins = 1
  ·simp [hx]
  ·simp [hx]
 exact ((h1.wk hl fun ins => by split; exact hY ins; exact hZ ins).as fun ins => by simp [qC]).late (by simp [aO, eo])
theorem zP {sg : Bool} (h : Wd c l r width (fun ins => qP sg width (BitVec.ofNat w (X ins))) t) (hX : ∀ ins, X ins < 2 ^ w) (ho : op = 22 ∧ sg = false ∧ w ≤ width ∨ op = 23 ∧ sg = true ∧ w ≤ width ∨ op = 24 ∧ sg = false ∧ width ≤ w) : vd c l r op w width X Y Z t := by
 rcases ho with ⟨rfl, rfl, hw⟩ | ⟨rfl, rfl, hw⟩ | ⟨rfl, rfl, hw⟩
 ·refine (h.wk.as fun ins => ?_).late (by simp [aO, eo])
  have := Nat.pow_le_pow_right (n := 2) om hw
  simp only [qC, qP, Bool.false_eq_true, if_false, BitVec.toNat_setWidth, zK (hX ins)]
  rw [Nat.mod_eq_of_lt (by have := hX ins; omega)]; simp
 ·exact (h.wk.as fun ins => by simp [qC, qP]).late (by simp [aO, eo])
 ·refine (h.wk.as fun ins => ?_).late (by simp [aO, eo])
  simp only [qC, qP, Bool.false_eq_true, if_false, BitVec.toNat_setWidth, zK (hX ins)]
  simp
end
end Go.Proofs.Ytlimckldnjmabaa
