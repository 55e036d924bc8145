/- The walk of prefixes. -/
import Derived.Test.YtlimckldnjmabaaSynx2
import Derived.Test.YtlimckldnjmabaaSynx0
import Derived.Test.YtlimckldnjmabaaSynx1
import Derived.Test.YtlimckldnjmabaaAWx2
set_option linter.unusedSimpArgs false
set_option linter.unusedVariables false
set_option linter.unusedSectionVars false
set_option maxRecDepth 4000
set_option maxHeartbeats 8000000
namespace Go.Proofs.Ytlimckldnjmabaa
open Go Go.AW Go.Proofs
set_option maxRecDepth 4000 in
set_option maxHeartbeats 1000000 in
theorem u3 {c : Int} {gl : List Gate} (hg : Good gl) (pD : gl.length ≤ 50000000) {t : Int} {ps : List aP} {G P : Nat → List Bool → Bool} (hp : Wp c gl ps G P t) (hn : ps.length ≤ 64) : ak Try.prog 195 [.ptr 0 0 0 0, .fz 2 (ps.map aP.row)] [.cells [.aY 1 3 0 gl.length], .rows 3 (gl.map Gate.row)] [0] (fun r o => ∃ (l : List Gate) (out : List aP), Ext gl l ∧ l.length ≤ gl.length + 1152 ∧ out.length = ps.length ∧ (∀ i, i < ps.length → Wr c l (out.getD i default).g (fun ins => ca (fun k => G k ins) (fun k => P k ins) 0 (i + 1) false) (t + 40 * (cD ps.length : Int))) ∧ r = .fz 2 (out.map aP.row) ∧ o = [.cells [.aY 1 3 0 l.length], .rows 3 (l.map Gate.row)]) := by
 refine ak.of Try.func195 rfl rfl rfl (n := 78) ag (Nat.le_of_ble_eq_true rfl) (ab.sr ?_)
 refine .an ?_
 refine aa.nil (ab.sr ?_)
 refine .mv ?_
 refine aa.aR El (lR (l := ps) (om)) rfl (.ao rfl rfl .nil) ag rfl ?_
 refine aa.bd rfl ag (aa.sh (Sh.bB (d := 5) (ps.map aP.row) rfl iW (cp.map aP.cN)) (aa.nil ?_))
 refine ab.seq (ab.sr ?_)
 refine .an ?_
 refine aa.nil (ab.block ?_)
 refine ab.eP (fun (aO : List aP) (fQ : Nat) (aK : List Gate) => ⟨[(0, .ptr 0 0 0 0), (5, .fz 2 (aO.map aP.row)), (6, .v (.int .i64 (fQ : Int)))], [(0, .cells [.aY 1 3 0 aK.length]), (1, .rows 3 (aK.map Gate.row))]⟩) (fun (aO : List aP) (fQ : Nat) (aK : List Gate) => (∃ j, nO c gl G P t ps.length aK aO fQ j)) (fun (aO : List aP) (fQ : Nat) (aK : List Gate) => ps.length - fQ) ps 1 gl (⟨0, nO.init hg hp⟩) (Le.mk (.c (.c (.cons (ai rfl aZ) (.nil)))) (.cons (aJ rfl jf) (.c (.nil)))) (fun aO fQ aK nW => ?_)
 have hI := nW
 refine ab.seq (ab.sr ?_)
 refine .mv ?_
 refine .mv ?_
 refine .vl (Y.qw (n := aO.length) cV rfl (congrArg some (List.length_map ..))) (.vl (Y.zb rfl rfl) (aa.nil ?_))
 refine ab.ay rfl (fun pB => ?_) (fun pB => ?_)
 refine ab.skip (ab.seq (ab.block ?_))
 refine ab.seq ?_
 obtain ⟨j, hI⟩ := hI; have Tw := hI.Fl; have mu := hI.ol; have NA := hI.len; have lV := hI.jl; have K7 : cD ps.length ≤ 6 := kN om; have RV : 3 * ps.length * j ≤ 1152 := Nat.le_trans (Nat.mul_le_mul_left _ lV) (Nat.mul_le_mul (show 3 * ps.length ≤ 192 by omega) K7)
 refine ab.region ?_
 refine .mv ?_
 refine aa.aR El (lR (l := aO) (om)) rfl (.ao rfl rfl .nil) ag rfl ?_
 refine aa.bd rfl ag (aa.sh (Sh.gU (d := 7) (n := aO.length) 107 (aO.map aP.row) rfl iW (bn rfl) ag) (aa.nil ?_))
 refine ab.seq (ab.sr ?_)
 refine .mv ?_
 refine .an ?_
 refine aa.nil (ab.block ?_)
 refine ab.eP (fun (bY : Nat) (eA : List Gate) (dw : List aP) => ⟨[(0, .ptr 0 0 0 0), (5, .fz 2 (aO.map aP.row)), (6, .v (.int .i64 (fQ : Int))), (7, .aY 107 2 0 aO.length), (8, .v (.int .i64 (bY : Int)))], [(0, .cells [.aY 1 3 0 eA.length]), (1, .rows 3 (eA.map Gate.row)), (107, .rows 2 (dw.map aP.row))]⟩) (fun (bY : Nat) (eA : List Gate) (dw : List aP) => (dw.length = aO.length) ∧ ((bY : Int) ≤ (aO.length : Int)) ∧ (nP c aK G P t ps.length aO fQ j eA dw bY)) (fun (bY : Nat) (eA : List Gate) (dw : List aP) => ps.length - bY) fQ aK aO (⟨om, om, nP.init hI⟩) (Le.mk (.c (.c (.c (.c (.cons (ai rfl aZ) (.nil)))))) (.cons (aJ rfl jf) (.c (.c (.nil))))) (fun bY eA dw Jm => ?_)
 obtain ⟨Ey, Rm, hJ⟩ := Jm
 refine ab.seq (ab.sr ?_)
 refine .mv ?_
 refine .mv ?_
 refine .vl (Y.qw (n := aO.length) cV rfl (congrArg some (List.length_map ..))) (.vl (Y.zb rfl rfl) (aa.nil ?_))
 refine ab.ay rfl (fun yd => ?_) (fun yd => ?_)
 refine ab.skip ?_
 refine ab.m5 (fun (oM : List Gate) (ky : List aP) => ⟨[(0, .ptr 0 0 0 0), (5, .fz 2 (aO.map aP.row)), (6, .v (.int .i64 (fQ : Int))), (7, .aY 107 2 0 aO.length), (8, .v (.int .i64 (bY : Int)))], [(0, .cells [.aY 1 3 0 oM.length]), (1, .rows 3 (oM.map Gate.row)), (107, .rows 2 (ky.map aP.row))]⟩) (fun (oM : List Gate) (ky : List aP) => (ky.length = aO.length) ∧ (nP c aK G P t ps.length aO fQ j oM ky (bY + 1))) ?_ (fun oM ky NB => ?_)
 refine ab.block (ab.seq ?_)
 have x4 := hJ.lo; have Tx := hJ.len; have Ty := hJ.nl
 refine ab.iT 13 rfl ba (a9.val (Y.zf rfl rfl) ag (a9.val (Y.zf rfl rfl) ag ?_))
 refine a9.val (Y.zf rfl rfl) ag ?_
 refine a9.val (Y.qr (m := bY) cV rfl rfl aZ (aq (d := default) om)) ag ?_
 refine a9.val (Y.qo jb rfl rfl) ag (a9.val (Y.qz bg rfl rfl rfl rfl) ag (a9.val (Y.zf rfl rfl) ag ?_))
 refine a9.val (Y.zf rfl rfl) ag (a9.val (Y.zf rfl rfl) ag ?_)
 refine a9.val (Y.wd rfl rfl om) ag ?_
 refine a9.val (Y.qr (m := ((bY : Int) - (fQ : Int)).toNat) cV rfl rfl om (aq (d := default) om)) ag ?_
 refine a9.val (Y.qo jM rfl rfl) ag (a9.val (Y.qz bg rfl rfl rfl rfl) ag (a9.nil ?_))
 refine aa.br [0, 1] [] rA (fZ (gl := eA) (a := (aO.getD bY default).p) (b := (aO.getD (((bY : Int) - (fQ : Int)).toNat) default).g) om) rfl (.named rfl rfl (.ao rfl rfl (.ao rfl rfl .nil))) ⟨rfl, rfl, trivial⟩ rfl ag (fun _ h => by cases h) (fun _ h => by cases h) ag ag ?_
 rintro r aE ⟨rfl, rfl⟩ _
 refine ⟨⟨rfl, (by intro ob aS; simp only [List.mem_cons, List.not_mem_nil, or_false] at aS; rcases aS with rfl | rfl <;> rfl), .inl rfl⟩, ?_⟩
 refine .an ?_
 refine aa.nil (ab.sr ?_)
 refine .mv ?_
 refine .mv ?_
 refine .mv ?_
 refine .mv ?_
 refine .mv ?_
 refine .vl (Y.qr (m := bY) cV rfl rfl aZ (aq (d := default) om)) ?_
 refine .fa jM ?_
 refine .ld bg ?_
 refine .mv ?_
 refine aa.br [0, 1] [] ui (nZ (gl := eA ++ [(⟨5, (aO.getD bY default).p, (aO.getD (((bY : Int) - (fQ : Int)).toNat) default).g⟩ : Gate)]) (a := (aO.getD bY default).g) (b := (eA.length : Int)) aB) rfl (.named rfl rfl (.ao rfl rfl (.ao rfl rfl .nil))) ⟨rfl, rfl, trivial⟩ rfl ag (fun _ h => by cases h) (fun _ h => by cases h) ag ag ?_
 rintro r aE ⟨rfl, rfl⟩ _
 refine ⟨⟨rfl, (by intro ob aS; simp only [List.mem_cons, List.not_mem_nil, or_false] at aS; rcases aS with rfl | rfl <;> rfl), .inl rfl⟩, ?_⟩
 refine .vl (Y.qs (m := bY) cV rfl rfl aZ om) ?_
 refine .fa jM ?_
 refine aa.lA ((dw.set bY (⟨(((eA ++ [(⟨5, (aO.getD bY default).p, (aO.getD (((bY : Int) - (fQ : Int)).toNat) default).g⟩ : Gate)]).length : Nat) : Int), (dw.getD bY default).p⟩ : aP)).map aP.row) dh rfl rfl rfl rfl rfl rfl rfl (aV (d := default) om) (Nat.le_of_ble_eq_true rfl) (iu rfl) ?_
 refine aa.nil (ab.sr ?_)
 refine .mv ?_
 refine .mv ?_
 refine .vl (Y.wd rfl rfl aB) ?_
 refine .mv ?_
 refine .vl (Y.qp rfl rfl) (aa.nil ?_)
 refine ab.ay rfl (fun xw => ?_) (fun xw => ?_)
 refine ab.cv rfl (aT.blind 0 rfl ba (aL.move rfl rfl) ag (aT.blind 1 rfl ba (aL.move rfl rfl) ag ?_))
 refine aT.bp (n := 4) [2, 3, 4, 5, 6, 7, 8, 9, 10, 11, 12, 13, 14] [15, 16, 17, 18] 15 rfl ba (.cn 2 rfl (Y.zf rfl rfl) (.cn 3 rfl (Y.zf rfl rfl) ?_))
 refine .cn 4 rfl (Y.zf rfl rfl) ?_
 refine .cn 5 rfl (Y.qr (m := bY) cV rfl rfl aZ (aq (d := default) om)) ?_
 refine .cn 6 rfl (Y.qo jb rfl rfl) (.cn 7 rfl (Y.qz bg rfl rfl rfl rfl) (.cn 8 rfl (Y.zf rfl rfl) ?_))
 refine .cn 9 rfl (Y.zf rfl rfl) (.cn 10 rfl (Y.zf rfl rfl) ?_)
 refine .cn 11 rfl (Y.wd rfl rfl om) ?_
 refine .cn 12 rfl (Y.qr (m := ((bY : Int) - (fQ : Int)).toNat) cV rfl rfl om (aq (d := default) om)) ?_
 refine .cn 13 rfl (Y.qo jb rfl rfl) (.cn 14 rfl (Y.qz bg rfl rfl rfl rfl) (AQ.nil ?_))
 refine aT.one 15 rfl ba ?_
 refine aa.br [0, 1] [] rA (fZ (gl := (eA ++ [(⟨5, (aO.getD bY default).p, (aO.getD (((bY : Int) - (fQ : Int)).toNat) default).g⟩ : Gate)]) ++ [(⟨6, (aO.getD bY default).g, (eA.length : Int)⟩ : Gate)]) (a := (aO.getD bY default).p) (b := (aO.getD (((bY : Int) - (fQ : Int)).toNat) default).p) aB) rfl (.named rfl rfl (.ao rfl rfl (.ao rfl rfl .nil))) ⟨rfl, rfl, trivial⟩ rfl ag (fun _ h => by cases h) (fun _ h => by cases h) ag ag ?_
 rintro r aE ⟨rfl, rfl⟩ _
 refine ⟨⟨rfl, (by intro ob aS; simp only [List.mem_cons, List.not_mem_nil, or_false] at aS; rcases aS with rfl | rfl <;> rfl), .inl rfl⟩, ?_⟩
 refine aa.nil ⟨rfl, ?_⟩
 refine aT.bp (n := 1) [16, 17] [18] 18 rfl ba ?_
 refine .cn 16 rfl (Y.qs (m := bY) cV rfl rfl aZ om) ?_
 refine .cn 17 rfl (Y.qo jb rfl rfl) (AQ.nil (aT.one 18 rfl ba ?_))
 refine aa.lA (((dw.set bY (⟨(((eA ++ [(⟨5, (aO.getD bY default).p, (aO.getD (((bY : Int) - (fQ : Int)).toNat) default).g⟩ : Gate)]).length : Nat) : Int), (dw.getD bY default).p⟩ : aP)).set bY (⟨((dw.set bY (⟨(((eA ++ [(⟨5, (aO.getD bY default).p, (aO.getD (((bY : Int) - (fQ : Int)).toNat) default).g⟩ : Gate)]).length : Nat) : Int), (dw.getD bY default).p⟩ : aP)).getD bY default).g, ((((eA ++ [(⟨5, (aO.getD bY default).p, (aO.getD (((bY : Int) - (fQ : Int)).toNat) default).g⟩ : Gate)]) ++ [(⟨6, (aO.getD bY default).g, (eA.length : Int)⟩ : Gate)]).length : Nat) : Int)⟩ : aP)).map aP.row) dh rfl rfl rfl rfl rfl rfl rfl (aV (d := default) aB) (Nat.le_of_ble_eq_true rfl) (iu rfl) ?_
 refine aa.nil ⟨rfl, ?_⟩
 refine aT.done ba ?_
 exact ⟨((eA ++ [(⟨5, (aO.getD bY default).p, (aO.getD (((bY : Int) - (fQ : Int)).toNat) default).g⟩ : Gate)]) ++ [(⟨6, (aO.getD bY default).g, (eA.length : Int)⟩ : Gate)]) ++ [(⟨5, (aO.getD bY default).p, (aO.getD (((bY : Int) - (fQ : Int)).toNat) default).p⟩ : Gate)], (dw.set bY (⟨(((eA ++ [(⟨5, (aO.getD bY default).p, (aO.getD (((bY : Int) - (fQ : Int)).toNat) default).g⟩ : Gate)]).length : Nat) : Int), (dw.getD bY default).p⟩ : aP)).set bY (⟨((dw.set bY (⟨(((eA ++ [(⟨5, (aO.getD bY default).p, (aO.getD (((bY : Int) - (fQ : Int)).toNat) default).g⟩ : Gate)]).length : Nat) : Int), (dw.getD bY default).p⟩ : aP)).getD bY default).g, ((((eA ++ [(⟨5, (aO.getD bY default).p, (aO.getD (((bY : Int) - (fQ : Int)).toNat) default).g⟩ : Gate)]) ++ [(⟨6, (aO.getD bY default).g, (eA.length : Int)⟩ : Gate)]).length : Nat) : Int)⟩ : aP), ⟨ni, by rw [List.set_set, show ((bY : Int) - (fQ : Int)).toNat = bY - fQ by omega]; (try rw [iw om]); exact nP.QX hI hJ om om rfl⟩, Le.mk (.c (.c (.c (.c (.c (.nil)))))) (.cons (aJ rfl jf) (.c (.c (.nil))))⟩
 refine ab.skip ?_
 exact ⟨(eA ++ [(⟨5, (aO.getD bY default).p, (aO.getD (((bY : Int) - (fQ : Int)).toNat) default).g⟩ : Gate)]) ++ [(⟨6, (aO.getD bY default).g, (eA.length : Int)⟩ : Gate)], dw.set bY (⟨(((eA ++ [(⟨5, (aO.getD bY default).p, (aO.getD (((bY : Int) - (fQ : Int)).toNat) default).g⟩ : Gate)]).length : Nat) : Int), (dw.getD bY default).p⟩ : aP), ⟨ni, by rw [show ((bY : Int) - (fQ : Int)).toNat = bY - fQ by omega]; exact nP.L6 hI hJ om om⟩, Le.mk (.c (.c (.c (.c (.c (.nil)))))) (.cons (aJ rfl jf) (.c (.c (.nil))))⟩
 obtain ⟨JG, Ep⟩ := NB
 refine ab.region ?_
 refine .mv ?_
 refine .vl (Y.qb rfl rfl aB) ?_
 refine .an ?_
 refine aa.nil ?_
 exact ⟨bY + 1, oM, ky, ⟨om, om, Ep⟩, om, Le.mk (.c (.c (.c (.c (.cons (ai rfl aZ) (.nil)))))) (.cons (aJ rfl jf) (.c (.c (.nil))))⟩
 refine ab.exit ?_
 refine ab.sh (Sh.cK (d := 7) (o := 107) rfl rfl (bn om) ag) ?_
 refine ab.sh (Sh.bB (d := 7) (dw.map aP.row) rfl iW (cp.map aP.cN)) (ab.region ?_)
 refine .mv ?_
 refine .an ?_
 refine aa.nil (ab.region ?_)
 refine .mv ?_
 refine .vl (Y.zh rfl rfl om) ?_
 refine .an ?_
 refine aa.nil ?_
 exact ⟨dw, fQ * 2, eA, ⟨j + 1, hI.pass om hJ om⟩, om, Le.mk (.c (.c (.cons (ai rfl aZ) (.nil)))) (.cons (aJ rfl jf) (.c (.nil)))⟩
 refine ab.exit (ab.sr ?_)
 refine .mv ?_
 refine .an ?_
 refine aa.nil (ab.ret ?_)
 obtain ⟨j, hI⟩ := hI; have mu := hI.ol; have NA := hI.len; have lV := hI.jl; have K7 : cD ps.length ≤ 6 := kN om; have RV : 3 * ps.length * j ≤ 1152 := Nat.le_trans (Nat.mul_le_mul_left _ lV) (Nat.mul_le_mul (show 3 * ps.length ≤ 192 by omega) K7); exact ⟨_, _, rfl, rfl, _, _, hI.ext, om, mu, fun i hi => hI.done om hi, rfl, rfl⟩
open Go Go.AW Go.Proofs
set_option maxRecDepth 4000 in
set_option maxHeartbeats 1000000 in
theorem u4 {c : Int} {gl : List Gate} (hg : Good gl) (pD : gl.length ≤ 40000000) {t : Int} {x : Int} {ps : List aP} {G P : Nat → List Bool → Bool} {F0 : List Bool → Bool} (hp : Wp c gl ps G P t) (hx : Wr c gl x F0 t) (hn : 1 ≤ ps.length ∧ ps.length ≤ 64) : ak Try.prog 176 [.ptr 0 0 0 0, .fz 2 (ps.map aP.row), .v (.int .i64 x)] [.cells [.aY 1 3 0 gl.length], .rows 3 (gl.map Gate.row)] [0] (fun r o => ∃ (l : List Gate) (out : List Int), Ext gl l ∧ l.length ≤ gl.length + 1216 ∧ out.length = ps.length ∧ Ws c l out (v8 F0 G P) (t + 20 + 40 * (cD ps.length : Int)) ∧ r = .cX 1 (out.map al) ∧ o = [.cells [.aY 1 3 0 l.length], .rows 3 (l.map Gate.row)]) := by
 refine ak.of Try.func176 rfl rfl rfl (n := 42) ag (Nat.le_of_ble_eq_true rfl) (ab.sr ?_)
 refine .an ?_
 refine aa.nil (ab.sr ?_)
 refine .mv ?_
 refine .mv ?_
 refine .mv ?_
 refine .vl (Y.qw (n := ps.length) cV rfl (congrArg some (List.length_map ..))) (.vl (Y.wc rfl rfl (Fc (a := ps.length) (b := 1) (by first | omega | (simp; omega)))) ?_)
 refine .vl (Y.zz (l := 0) (h := ps.length - 1) cV rfl (.none _) (.some rfl) aB aB (by rw [List.drop_zero, ← List.map_take])) ?_
 refine aa.br [0, 1] [] Ja (u3 (gl := gl) (ps := ps.take (ps.length - 1)) hg om hp.take (by rw [List.length_take]; omega)) rfl (.named rfl rfl (.ao rfl rfl .nil)) ⟨rfl, rfl, trivial⟩ rfl ag (fun _ h => by cases h) (fun _ h => by cases h) ag ag ?_
 rintro r aE ⟨Pu, Be, Dr, Pv, Pw, NC, rfl, rfl⟩ _
 refine ⟨⟨rfl, (by intro ob aS; simp only [List.mem_cons, List.not_mem_nil, or_false] at aS; rcases aS with rfl | rfl <;> rfl), .inl rfl⟩, ?_⟩
 refine .an ?_
 refine aa.nil (ab.seq ?_)
 have Tz : (ps.take (ps.length - 1)).length = ps.length - 1 := by rw [List.length_take]; omega
 refine ab.region ?_
 refine .mv ?_
 refine aa.buildSlice (([x] : List Int).map al) a7 er rfl rfl rfl rfl rfl (az (s := 1) (f := al) (fun _ => rfl)) rfl rfl rfl ag ?_
 refine aa.bd rfl ag (aa.sh (Sh.gU (d := 8) (n := ([x] : List Int).length) 108 (([x] : List Int).map al) rfl iW (bn rfl) ag) (aa.nil ?_))
 refine ab.seq (ab.sr ?_)
 refine .an ?_
 refine aa.nil (ab.block ?_)
 refine ab.eP (fun (eJ : Nat) (cW : List Gate) (dx : List Int) => ⟨[(0, .ptr 0 0 0 0), (1, .fz 2 (ps.map aP.row)), (7, .fz 2 (Be.map aP.row)), (8, .aY 108 1 0 dx.length), (9, .v (.int .i64 (eJ : Int)))], [(0, .cells [.aY 1 3 0 cW.length]), (1, .rows 3 (cW.map Gate.row)), (108, .rows 1 (dx.map al))]⟩) (fun (eJ : Nat) (cW : List Gate) (dx : List Int) => ((eJ : Int) ≤ (ps.length : Int)) ∧ (v9 c Pu cW F0 G P (t + 20 + 40 * (cD ps.length : Int)) dx eJ)) (fun (eJ : Nat) (cW : List Gate) (dx : List Int) => ps.length - eJ) 1 Pu ([x] : List Int) (⟨om, v9.init Dr.dM ((hx.ext Dr).late om)⟩) (Le.mk (.c (.c (.c (.cons (a8 rfl om) (.cons (ai rfl aZ) (.nil)))))) (.cons (aJ rfl jf) (.c (.c (.nil))))) (fun eJ cW dx um => ?_)
 obtain ⟨y7, hS⟩ := um
 refine ab.seq (ab.sr ?_)
 refine .mv ?_
 refine .mv ?_
 refine .vl (Y.qw (n := ps.length) cV rfl (congrArg some (List.length_map ..))) (.vl (Y.zb rfl rfl) (aa.nil ?_))
 refine ab.ay rfl (fun mj => ?_) (fun mj => ?_)
 refine ab.skip (ab.seq (ab.block ?_))
 have RW := hS.lo; have Px := hS.len; have T0 := hS.ol; have RY := (hp.bit eJ om).2.ext Dr; have Py := NC (eJ - 1) om; rw [show eJ - 1 + 1 = eJ by omega] at Py; have KF := lH (show (ps.take (ps.length - 1)).length ≤ ps.length by omega)
 refine ab.cv rfl (aT.blind 0 rfl ba (aL.move rfl rfl) ag (aT.bp (n := 4) [1, 2, 3, 4, 5, 6, 7, 8, 9, 10, 11, 12] [13, 14, 15, 16] 13 rfl ba ?_))
 refine .cn 1 rfl (Y.zf rfl rfl) (.cn 2 rfl (Y.zf rfl rfl) (.cn 3 rfl (Y.zf rfl rfl) ?_))
 refine .cn 4 rfl (Y.qr (m := eJ) cV rfl rfl aZ (aq (d := default) om)) ?_
 refine .cn 5 rfl (Y.qo jb rfl rfl) (.cn 6 rfl (Y.qz bg rfl rfl rfl rfl) (.cn 7 rfl (Y.zf rfl rfl) ?_))
 refine .cn 8 rfl (Y.zf rfl rfl) ?_
 refine .cn 9 rfl (Y.wd rfl rfl om) ?_
 refine .cn 10 rfl (Y.qr (m := ((eJ : Int) - 1).toNat) cV rfl rfl aB (aq (d := default) aB)) ?_
 refine .cn 11 rfl (Y.qo jM rfl rfl) (.cn 12 rfl (Y.qz bg rfl rfl rfl rfl) (AQ.nil ?_))
 refine aT.one 13 rfl ba ?_
 refine aa.br [0, 1] [] sa (kx (gl := cW) (a := (ps.getD eJ default).p) (b := (Be.getD (((eJ : Int) - 1).toNat) default).g) om) rfl (.named rfl rfl (.ao rfl rfl (.ao rfl rfl .nil))) ⟨rfl, rfl, trivial⟩ rfl ag (fun _ h => by cases h) (fun _ h => by cases h) ag ag ?_
 rintro r aE ⟨rfl, rfl⟩ _
 refine ⟨⟨rfl, (by intro ob aS; simp only [List.mem_cons, List.not_mem_nil, or_false] at aS; rcases aS with rfl | rfl <;> rfl), .inl rfl⟩, ?_⟩
 refine aa.nil ⟨rfl, ?_⟩
 refine aT.one 14 rfl ba ?_
 refine aa.buildSlice (([(cW.length : Int)] : List Int).map al) a7 er rfl rfl rfl rfl rfl (az (s := 1) (f := al) (fun _ => rfl)) rfl rfl rfl ag ?_
 refine aa.nil ⟨rfl, ?_⟩
 refine aT.one 15 rfl ba ?_
 refine aa.bx ((dx ++ ([(cW.length : Int)] : List Int)).map al) (dx ++ ([(cW.length : Int)] : List Int)).length a7 er rfl rfl rfl rfl (b8 aB) (bm aB) (cb aB) aB aB ag ag ?_
 refine aa.nil ⟨rfl, ?_⟩
 refine aT.bp (n := 0) [16] [] 0 rfl ba (.cn 16 rfl (Y.qf rfl rfl) (AQ.nil ?_))
 refine aT.done ba (ab.region ?_)
 refine .mv ?_
 refine .vl (Y.qb rfl rfl aB) ?_
 refine .an ?_
 refine aa.nil ?_
 exact ⟨eJ + 1, cW ++ [(⟨7, (ps.getD eJ default).p, (Be.getD (((eJ : Int) - 1).toNat) default).g⟩ : Gate)], dx ++ ([(cW.length : Int)] : List Int), ⟨om, by rw [show ((eJ : Int) - 1).toNat = eJ - 1 by omega]; exact hS.step (t := t + 40 * (cD ps.length : Int)) (RY.late om) (Py.late om) om⟩, om, Le.mk (.c (.c (.c (.cons (a8 rfl om) (.cons (ai rfl aZ) (.nil)))))) (.cons (aJ rfl jf) (.c (.c (.nil))))⟩
 refine ab.exit (ab.sr ?_)
 refine .mv ?_
 refine .an ?_
 refine aa.sh (Sh.cK (d := 6) (o := 108) rfl rfl (bn om) ag) ?_
 refine aa.nil (ab.ret ?_)
 exact ⟨_, _, rfl, rfl, _, _, Dr.trans hS.ext, by have := hS.len; omega, by have := hS.ol; omega, hS.ws, rfl, rfl⟩
open Go Go.AW Go.Proofs
set_option maxRecDepth 4000 in
set_option maxHeartbeats 1000000 in
theorem Bf {c : Int} {gl : List Gate} (hg : Good gl) (pD : gl.length ≤ 30000000) {w : Nat} {t : Int} {a b : List Int} {A B : List Bool → BitVec w} (ha : Wd c gl a w A t) (hb : Wd c gl b w B t) (hw : 1 ≤ w ∧ w ≤ 64) (ht : 0 ≤ t) : ak Try.prog 126 [.ptr 0 0 0 0, .fz 1 (a.map al), .fz 1 (b.map al)] [.cells [.aY 1 3 0 gl.length], .rows 3 (gl.map Gate.row)] [0] (fun r o => ∃ (l : List Gate) (out : List Int), Ext gl l ∧ l.length ≤ gl.length + 1500 ∧ Wd c l out w (fun ins => A ins + B ins) (t + 40 + 40 * (cD w : Int)) ∧ r = .cX 1 (out.map al) ∧ o = [.cells [.aY 1 3 0 l.length], .rows 3 (l.map Gate.row)]) := by
 refine ak.of Try.func126 rfl rfl rfl (n := 48) ag (Nat.le_of_ble_eq_true rfl) ?_
 have tj := ha.len; have uR := hb.len
 refine ab.sr ?_
 refine .an ?_
 refine aa.nil (ab.sr ?_)
 refine .an ?_
 refine aa.sh (Sh.nil (d := 7) 107 2 rfl ag) (aa.nil (ab.seq ?_))
 refine ab.sr ?_
 refine .mv ?_
 refine .vl (Y.qw (n := a.length) a7 rfl (congrArg some (List.length_map ..))) ?_
 refine .mv ?_
 refine aa.nil (ab.block ?_)
 refine ab.eP (fun (dI : Nat) (aK : List Gate) (iC : List aP) => ⟨[(0, .ptr 0 0 0 0), (1, .fz 1 (a.map al)), (2, .fz 1 (b.map al)), (7, .aY 107 2 0 iC.length), (11, .v (.int .i64 (a.length : Int))), (12, .v (.int .i64 (dI : Int)))], [(0, .cells [.aY 1 3 0 aK.length]), (1, .rows 3 (aK.map Gate.row)), (107, .rows 2 (iC.map aP.row))]⟩) (fun (dI : Nat) (aK : List Gate) (iC : List aP) => ((dI : Int) ≤ (a.length : Int)) ∧ (s9 c gl aK (fun k ins => (A ins).getLsbD k) (fun k ins => (B ins).getLsbD k) (t + 20) iC dI)) (fun (dI : Nat) (aK : List Gate) (iC : List aP) => ((a.length : Int) - (dI : Int)).toNat) 0 gl ([] : List aP) (⟨ni, s9.init hg⟩) (Le.mk (.c (.c (.c (.cons (a8 rfl aB) (.c (.cons (ai rfl aZ) (.nil))))))) (.cons (aJ rfl jf) (.c (.c (.nil))))) (fun dI aK iC nW => ?_)
 obtain ⟨AL, hT⟩ := nW
 refine ab.sr (.vl (Y.zb rfl rfl) (aa.nil ?_))
 refine ab.seq ?_
 refine ab.ay rfl (fun y6 => ?_) (fun y6 => ?_)
 refine ab.skip (ab.seq (ab.block ?_))
 refine ab.sr ?_
 refine .mv ?_
 refine .an ?_
 refine aa.nil (ab.seq ?_)
 have JH := hT.len; have JI := hT.pl
 refine ab.iT 9 rfl ba (a9.val (Y.zf rfl rfl) ag (a9.val (Y.zf rfl rfl) ag ?_))
 refine a9.val (Y.zf rfl rfl) ag ?_
 refine a9.val (Y.qr (m := dI) a7 rfl rfl aZ (aq (d := 0) om)) ag ?_
 refine a9.val (Y.qz bg rfl rfl rfl rfl) ag (a9.val (Y.zf rfl rfl) ag (a9.val (Y.zf rfl rfl) ag ?_))
 refine a9.val (Y.qr (m := dI) a7 rfl rfl aZ (aq (d := 0) om)) ag ?_
 refine a9.val (Y.qz bg rfl rfl rfl rfl) ag (a9.nil ?_)
 refine aa.br [0, 1] [] rA (fZ (gl := aK) (a := a.getD dI 0) (b := b.getD dI 0) om) rfl (.named rfl rfl (.ao rfl rfl (.ao rfl rfl .nil))) ⟨rfl, rfl, trivial⟩ rfl ag (fun _ h => by cases h) (fun _ h => by cases h) ag ag ?_
 rintro r aE ⟨rfl, rfl⟩ _
 refine ⟨⟨rfl, (by intro ob aS; simp only [List.mem_cons, List.not_mem_nil, or_false] at aS; rcases aS with rfl | rfl <;> rfl), .inl rfl⟩, ?_⟩
 refine .an ?_
 refine aa.nil ?_
 have JH := hT.len; have JI := hT.pl
 refine ab.cv rfl (aT.blind 0 rfl ba (aL.move rfl rfl) ag (aT.blind 1 rfl ba (aL.move rfl rfl) ag ?_))
 refine aT.bp (n := 5) [2, 3, 4, 5, 6, 7, 8, 9, 10] [11, 12, 13, 14, 15] 11 rfl ba (.cn 2 rfl (Y.zf rfl rfl) (.cn 3 rfl (Y.zf rfl rfl) ?_))
 refine .cn 4 rfl (Y.zf rfl rfl) ?_
 refine .cn 5 rfl (Y.qr (m := dI) a7 rfl rfl aZ (aq (d := 0) om)) ?_
 refine .cn 6 rfl (Y.qz bg rfl rfl rfl rfl) (.cn 7 rfl (Y.zf rfl rfl) (.cn 8 rfl (Y.zf rfl rfl) ?_))
 refine .cn 9 rfl (Y.qr (m := dI) a7 rfl rfl aZ (aq (d := 0) om)) ?_
 refine .cn 10 rfl (Y.qz bg rfl rfl rfl rfl) (AQ.nil (aT.one 11 rfl ba ?_))
 refine aa.br [0, 1] [] sa (kx (gl := aK ++ [(⟨5, a.getD dI 0, b.getD dI 0⟩ : Gate)]) (a := a.getD dI 0) (b := b.getD dI 0) aB) rfl (.named rfl rfl (.ao rfl rfl (.ao rfl rfl .nil))) ⟨rfl, rfl, trivial⟩ rfl ag (fun _ h => by cases h) (fun _ h => by cases h) ag ag ?_
 rintro r aE ⟨rfl, rfl⟩ _
 refine ⟨⟨rfl, (by intro ob aS; simp only [List.mem_cons, List.not_mem_nil, or_false] at aS; rcases aS with rfl | rfl <;> rfl), .inl rfl⟩, ?_⟩
 refine aa.nil ⟨rfl, ?_⟩
 refine aT.bp (n := 3) [12] [13, 14, 15] 13 rfl ba (.cn 12 rfl (Y.qh xq gr rfl rfl rfl) (AQ.nil ?_))
 refine aT.one 13 rfl ba ?_
 refine aa.buildSlice (([(⟨(aK.length : Int), (((aK ++ [(⟨5, a.getD dI 0, b.getD dI 0⟩ : Gate)]).length : Nat) : Int)⟩ : aP)] : List aP).map aP.row) cV gr rfl rfl rfl rfl rfl (az (s := 2) (f := aP.row) (fun _ => rfl)) rfl rfl rfl ag ?_
 refine aa.nil ⟨rfl, ?_⟩
 refine aT.one 14 rfl ba ?_
 refine aa.bx ((iC ++ ([(⟨(aK.length : Int), (((aK ++ [(⟨5, a.getD dI 0, b.getD dI 0⟩ : Gate)]).length : Nat) : Int)⟩ : aP)] : List aP)).map aP.row) (iC ++ ([(⟨(aK.length : Int), (((aK ++ [(⟨5, a.getD dI 0, b.getD dI 0⟩ : Gate)]).length : Nat) : Int)⟩ : aP)] : List aP)).length cV gr rfl rfl rfl rfl (b8 aB) (bm aB) (cb aB) aB aB ag ag ?_
 refine aa.nil ⟨rfl, ?_⟩
 refine aT.bp (n := 0) [15] [] 0 rfl ba (.cn 15 rfl (Y.qf rfl rfl) (AQ.nil ?_))
 refine aT.done ba (ab.region ?_)
 refine .vl (Y.qb rfl rfl aB) ?_
 refine .mv ?_
 refine aa.nil ?_
 exact ⟨dI + 1, (aK ++ [(⟨5, a.getD dI 0, b.getD dI 0⟩ : Gate)]) ++ [(⟨7, a.getD dI 0, b.getD dI 0⟩ : Gate)], iC ++ ([(⟨(aK.length : Int), (((aK ++ [(⟨5, a.getD dI 0, b.getD dI 0⟩ : Gate)]).length : Nat) : Int)⟩ : aP)] : List aP), ⟨om, hT.step (ha.bit dI om) (hb.bit dI om) (Int.le_refl _) (Int.le_refl _)⟩, om, Le.mk (.c (.c (.c (.cons (a8 rfl om) (.c (.cons (ai rfl aZ) (.nil))))))) (.cons (aJ rfl jf) (.c (.c (.nil))))⟩
 refine ab.exit (ab.seq ?_)
 refine ab.sh (Sh.cK (d := 7) (o := 107) rfl rfl (bn om) ag) ?_
 refine ab.sh (Sh.bB (d := 7) (iC.map aP.row) rfl iW (cp.map aP.cN)) ?_
 have JH := hT.len; have JI := hT.pl; have RZ := hT.wp.bit 0 om
 refine ab.region ?_
 refine .mv ?_
 refine .mv ?_
 refine .mv ?_
 refine .vl (Y.qr (m := 0) cV rfl rfl aZ (aq (d := default) om)) ?_
 refine .fa jb ?_
 refine .ld bg ?_
 refine aa.br [0, 1] [] Ek (u4 (gl := aK) (ps := iC) (x := (iC.getD 0 default).p) hT.ext.dM om hT.wp (F0 := fun ins => (A ins).getLsbD 0 ^^ (B ins).getLsbD 0) RZ.2 ⟨om, om⟩) rfl (.named rfl rfl (.ao rfl rfl (.ao rfl rfl .nil))) ⟨rfl, rfl, trivial⟩ rfl ag (fun _ h => by cases h) (fun _ h => by cases h) ag ag ?_
 rintro r aE ⟨Sa, JJ, Gp, JK, JL, Gq, rfl, rfl⟩ _
 refine ⟨⟨rfl, (by intro ob aS; simp only [List.mem_cons, List.not_mem_nil, or_false] at aS; rcases aS with rfl | rfl <;> rfl), .inl rfl⟩, ?_⟩
 refine aa.bd rfl ag (aa.nil (ab.ret ?_))
 exact ⟨_, _, rfl, rfl, _, _, hT.ext.trans Gp, om, (sum_add om Gq).late (by have := hT.pl; rw [show iC.length = w by omega]; omega), rfl, rfl⟩
set_option maxRecDepth 4000 in
set_option maxHeartbeats 1000000 in
theorem Bg {c : Int} {gl : List Gate} (hg : Good gl) (pD : gl.length ≤ 30000000) {w : Nat} {t : Int} {a b : List Int} {A B : List Bool → BitVec w} (ha : Wd c gl a w A t) (hb : Wd c gl b w B t) (hw : 1 ≤ w ∧ w ≤ 64) (ht : 0 ≤ t) : ak Try.prog 127 [.ptr 0 0 0 0, .fz 1 (a.map al), .fz 1 (b.map al)] [.cells [.aY 1 3 0 gl.length], .rows 3 (gl.map Gate.row)] [0] (fun r o => ∃ (l : List Gate) (out : List Int), Ext gl l ∧ l.length ≤ gl.length + 1500 ∧ Wd c l out w (fun ins => A ins - B ins) (t + 50 + 40 * (cD w : Int)) ∧ r = .cX 1 (out.map al) ∧ o = [.cells [.aY 1 3 0 l.length], .rows 3 (l.map Gate.row)]) := by
 refine ak.of Try.func127 rfl rfl rfl (n := 69) ag (Nat.le_of_ble_eq_true rfl) ?_
 have tj := ha.len; have uR := hb.len
 refine ab.sr ?_
 refine .an ?_
 refine aa.nil (ab.sr ?_)
 refine .mv ?_
 refine .mv ?_
 refine aa.br [0, 1] [] IY (yi (gl := gl) (a := b) hg om hb.ws om) rfl (.named rfl rfl (.ao rfl rfl .nil)) ⟨rfl, rfl, trivial⟩ rfl ag (fun _ h => by cases h) (fun _ h => by cases h) ag ag ?_
 rintro r aE ⟨Pz, kz, Bh, P2, P3, JM, rfl, rfl⟩ _
 refine ⟨⟨rfl, (by intro ob aS; simp only [List.mem_cons, List.not_mem_nil, or_false] at aS; rcases aS with rfl | rfl <;> rfl), .inl rfl⟩, ?_⟩
 refine aa.bd rfl ag (aa.sh (Sh.bB (d := 7) (kz.map al) rfl iW (cp.map bf)) (aa.nil ?_))
 refine ab.sr ?_
 refine .an ?_
 refine aa.sh (Sh.nil (d := 8) 108 2 rfl ag) (aa.nil (ab.seq ?_))
 refine ab.sr ?_
 refine .mv ?_
 refine .vl (Y.qw (n := a.length) a7 rfl (congrArg some (List.length_map ..))) ?_
 refine .mv ?_
 refine aa.nil (ab.block ?_)
 refine ab.eP (fun (dJ : Nat) (cW : List Gate) (mz : List aP) => ⟨[(0, .ptr 0 0 0 0), (1, .fz 1 (a.map al)), (2, .fz 1 (b.map al)), (7, .fz 1 (kz.map al)), (8, .aY 108 2 0 mz.length), (16, .v (.int .i64 (a.length : Int))), (17, .v (.int .i64 (dJ : Int)))], [(0, .cells [.aY 1 3 0 cW.length]), (1, .rows 3 (cW.map Gate.row)), (108, .rows 2 (mz.map aP.row))]⟩) (fun (dJ : Nat) (cW : List Gate) (mz : List aP) => ((dJ : Int) ≤ (a.length : Int)) ∧ (s9 c Pz cW (fun k ins => (A ins).getLsbD k) (fun k ins => !(B ins).getLsbD k) (t + 30) mz dJ)) (fun (dJ : Nat) (cW : List Gate) (mz : List aP) => ((a.length : Int) - (dJ : Int)).toNat) 0 Pz ([] : List aP) (⟨ni, s9.init Bh.dM⟩) (Le.mk (.c (.c (.c (.c (.cons (a8 rfl aB) (.c (.cons (ai rfl aZ) (.nil)))))))) (.cons (aJ rfl jf) (.c (.c (.nil))))) (fun dJ cW mz um => ?_)
 obtain ⟨y7, hT⟩ := um
 refine ab.sr (.vl (Y.zb rfl rfl) (aa.nil ?_))
 refine ab.seq ?_
 refine ab.ay rfl (fun Jl => ?_) (fun Jl => ?_)
 refine ab.skip (ab.seq (ab.block ?_))
 refine ab.sr ?_
 refine .mv ?_
 refine .an ?_
 refine aa.nil (ab.seq ?_)
 have JH := hT.len; have JI := hT.pl
 refine ab.iT 9 rfl ba (a9.val (Y.zf rfl rfl) ag (a9.val (Y.zf rfl rfl) ag ?_))
 refine a9.val (Y.zf rfl rfl) ag ?_
 refine a9.val (Y.qr (m := dJ) a7 rfl rfl aZ (aq (d := 0) om)) ag ?_
 refine a9.val (Y.qz bg rfl rfl rfl rfl) ag (a9.val (Y.zf rfl rfl) ag (a9.val (Y.zf rfl rfl) ag ?_))
 refine a9.val (Y.qr (m := dJ) a7 rfl rfl aZ (aq (d := 0) om)) ag ?_
 refine a9.val (Y.qz bg rfl rfl rfl rfl) ag (a9.nil ?_)
 refine aa.br [0, 1] [] rA (fZ (gl := cW) (a := a.getD dJ 0) (b := kz.getD dJ 0) om) rfl (.named rfl rfl (.ao rfl rfl (.ao rfl rfl .nil))) ⟨rfl, rfl, trivial⟩ rfl ag (fun _ h => by cases h) (fun _ h => by cases h) ag ag ?_
 rintro r aE ⟨rfl, rfl⟩ _
 refine ⟨⟨rfl, (by intro ob aS; simp only [List.mem_cons, List.not_mem_nil, or_false] at aS; rcases aS with rfl | rfl <;> rfl), .inl rfl⟩, ?_⟩
 refine .an ?_
 refine aa.nil ?_
 have JH := hT.len; have JI := hT.pl
 refine ab.cv rfl (aT.blind 0 rfl ba (aL.move rfl rfl) ag (aT.blind 1 rfl ba (aL.move rfl rfl) ag ?_))
 refine aT.bp (n := 5) [2, 3, 4, 5, 6, 7, 8, 9, 10] [11, 12, 13, 14, 15] 11 rfl ba (.cn 2 rfl (Y.zf rfl rfl) (.cn 3 rfl (Y.zf rfl rfl) ?_))
 refine .cn 4 rfl (Y.zf rfl rfl) ?_
 refine .cn 5 rfl (Y.qr (m := dJ) a7 rfl rfl aZ (aq (d := 0) om)) ?_
 refine .cn 6 rfl (Y.qz bg rfl rfl rfl rfl) (.cn 7 rfl (Y.zf rfl rfl) (.cn 8 rfl (Y.zf rfl rfl) ?_))
 refine .cn 9 rfl (Y.qr (m := dJ) a7 rfl rfl aZ (aq (d := 0) om)) ?_
 refine .cn 10 rfl (Y.qz bg rfl rfl rfl rfl) (AQ.nil (aT.one 11 rfl ba ?_))
 refine aa.br [0, 1] [] sa (kx (gl := cW ++ [(⟨5, a.getD dJ 0, kz.getD dJ 0⟩ : Gate)]) (a := a.getD dJ 0) (b := kz.getD dJ 0) aB) rfl (.named rfl rfl (.ao rfl rfl (.ao rfl rfl .nil))) ⟨rfl, rfl, trivial⟩ rfl ag (fun _ h => by cases h) (fun _ h => by cases h) ag ag ?_
 rintro r aE ⟨rfl, rfl⟩ _
 refine ⟨⟨rfl, (by intro ob aS; simp only [List.mem_cons, List.not_mem_nil, or_false] at aS; rcases aS with rfl | rfl <;> rfl), .inl rfl⟩, ?_⟩
 refine aa.nil ⟨rfl, ?_⟩
 refine aT.bp (n := 3) [12] [13, 14, 15] 13 rfl ba (.cn 12 rfl (Y.qh xq gr rfl rfl rfl) (AQ.nil ?_))
 refine aT.one 13 rfl ba ?_
 refine aa.buildSlice (([(⟨(cW.length : Int), (((cW ++ [(⟨5, a.getD dJ 0, kz.getD dJ 0⟩ : Gate)]).length : Nat) : Int)⟩ : aP)] : List aP).map aP.row) cV gr rfl rfl rfl rfl rfl (az (s := 2) (f := aP.row) (fun _ => rfl)) rfl rfl rfl ag ?_
 refine aa.nil ⟨rfl, ?_⟩
 refine aT.one 14 rfl ba ?_
 refine aa.bx ((mz ++ ([(⟨(cW.length : Int), (((cW ++ [(⟨5, a.getD dJ 0, kz.getD dJ 0⟩ : Gate)]).length : Nat) : Int)⟩ : aP)] : List aP)).map aP.row) (mz ++ ([(⟨(cW.length : Int), (((cW ++ [(⟨5, a.getD dJ 0, kz.getD dJ 0⟩ : Gate)]).length : Nat) : Int)⟩ : aP)] : List aP)).length cV gr rfl rfl rfl rfl (b8 aB) (bm aB) (cb aB) aB aB ag ag ?_
 refine aa.nil ⟨rfl, ?_⟩
 refine aT.bp (n := 0) [15] [] 0 rfl ba (.cn 15 rfl (Y.qf rfl rfl) (AQ.nil ?_))
 refine aT.done ba (ab.region ?_)
 refine .vl (Y.qb rfl rfl aB) ?_
 refine .mv ?_
 refine aa.nil ?_
 exact ⟨dJ + 1, (cW ++ [(⟨5, a.getD dJ 0, kz.getD dJ 0⟩ : Gate)]) ++ [(⟨7, a.getD dJ 0, kz.getD dJ 0⟩ : Gate)], mz ++ ([(⟨(cW.length : Int), (((cW ++ [(⟨5, a.getD dJ 0, kz.getD dJ 0⟩ : Gate)]).length : Nat) : Int)⟩ : aP)] : List aP), ⟨om, hT.step ((ha.bit dJ om).ext Bh) (JM.bit dJ om) om om⟩, om, Le.mk (.c (.c (.c (.c (.cons (a8 rfl om) (.c (.cons (ai rfl aZ) (.nil)))))))) (.cons (aJ rfl jf) (.c (.c (.nil))))⟩
 refine ab.exit (ab.seq ?_)
 have JH := hT.len; have JI := hT.pl; have a0 := (ha.bit 0 om).ext (Bh.trans hT.ext); have b0 := (hb.bit 0 om).ext (Bh.trans hT.ext); have n0 := (JM.bit 0 om).ext hT.ext; have e1 := Ext.two (k := 7) hT.ext.dM ag a0 b0; have w1 := a0.xor (u := t + 30) b0 om om; have e2 := Ext.two (k := 6) e1.dM ag (a0.ext e1) (n0.ext e1); have w2 := (a0.ext e1).or (u := t + 30) (n0.ext e1) om om; have hq := (hT.wp.ext (e1.trans e2)).L7 om w2
 refine ab.iT 7 rfl ba (a9.val (Y.zf rfl rfl) ag (a9.val (Y.zf rfl rfl) ag ?_))
 refine a9.val (Y.qr (m := 0) a7 rfl rfl aZ (aq (d := 0) om)) ag ?_
 refine a9.val (Y.qz bg rfl rfl rfl rfl) ag (a9.val (Y.zf rfl rfl) ag ?_)
 refine a9.val (Y.qr (m := 0) a7 rfl rfl aZ (aq (d := 0) om)) ag ?_
 refine a9.val (Y.qz bg rfl rfl rfl rfl) ag (a9.nil ?_)
 refine aa.br [0, 1] [] sa (kx (gl := cW) (a := a.getD 0 0) (b := b.getD 0 0) om) rfl (.named rfl rfl (.ao rfl rfl (.ao rfl rfl .nil))) ⟨rfl, rfl, trivial⟩ rfl ag (fun _ h => by cases h) (fun _ h => by cases h) ag ag ?_
 rintro r aE ⟨rfl, rfl⟩ _
 refine ⟨⟨rfl, (by intro ob aS; simp only [List.mem_cons, List.not_mem_nil, or_false] at aS; rcases aS with rfl | rfl <;> rfl), .inl rfl⟩, ?_⟩
 refine .an ?_
 refine aa.nil (ab.seq (ab.cv rfl ?_))
 refine aT.blind 0 rfl ba (aL.move rfl rfl) ag (aT.bp (n := 4) [1, 2, 3, 4, 5, 6, 7] [8, 9, 10, 11] 8 rfl ba (.cn 1 rfl (Y.zf rfl rfl) ?_))
 refine .cn 2 rfl (Y.zf rfl rfl) ?_
 refine .cn 3 rfl (Y.qr (m := 0) a7 rfl rfl aZ (aq (d := 0) om)) ?_
 refine .cn 4 rfl (Y.qz bg rfl rfl rfl rfl) (.cn 5 rfl (Y.zf rfl rfl) ?_)
 refine .cn 6 rfl (Y.qr (m := 0) a7 rfl rfl aZ (aq (d := 0) om)) ?_
 refine .cn 7 rfl (Y.qz bg rfl rfl rfl rfl) (AQ.nil (aT.one 8 rfl ba ?_))
 refine aa.br [0, 1] [] ui (nZ (gl := cW ++ [(⟨7, a.getD 0 0, b.getD 0 0⟩ : Gate)]) (a := a.getD 0 0) (b := kz.getD 0 0) aB) rfl (.named rfl rfl (.ao rfl rfl (.ao rfl rfl .nil))) ⟨rfl, rfl, trivial⟩ rfl ag (fun _ h => by cases h) (fun _ h => by cases h) ag ag ?_
 rintro r aE ⟨rfl, rfl⟩ _
 refine ⟨⟨rfl, (by intro ob aS; simp only [List.mem_cons, List.not_mem_nil, or_false] at aS; rcases aS with rfl | rfl <;> rfl), .inl rfl⟩, ?_⟩
 refine aa.nil ⟨rfl, ?_⟩
 refine aT.bp (n := 1) [9, 10] [11] 11 rfl ba ?_
 refine .cn 9 rfl (Y.qs (m := 0) cV rfl rfl aZ om) ?_
 refine .cn 10 rfl (Y.qo jM rfl rfl) (AQ.nil (aT.one 11 rfl ba ?_))
 refine aa.lA ((mz.set 0 (⟨(((cW ++ [(⟨7, a.getD 0 0, b.getD 0 0⟩ : Gate)]).length : Nat) : Int), (mz.getD 0 default).p⟩ : aP)).map aP.row) dh rfl rfl rfl rfl rfl rfl rfl (aV (d := default) om) (Nat.le_of_ble_eq_true rfl) (iu rfl) ?_
 refine aa.nil ⟨rfl, ?_⟩
 refine aT.done ba (ab.seq ?_)
 refine ab.sh (Sh.cK (d := 8) (o := 108) rfl rfl (bn aB) ag) ?_
 refine ab.sh (Sh.bB (d := 8) ((mz.set 0 (⟨(((cW ++ [(⟨7, a.getD 0 0, b.getD 0 0⟩ : Gate)]).length : Nat) : Int), (mz.getD 0 default).p⟩ : aP)).map aP.row) rfl iW (cp.map aP.cN)) (ab.region ?_)
 refine .mv ?_
 refine .mv ?_
 refine .mv ?_
 refine aa.br [0, 1] [] Ek (u4 (gl := (cW ++ [(⟨7, a.getD 0 0, b.getD 0 0⟩ : Gate)]) ++ [(⟨6, a.getD 0 0, kz.getD 0 0⟩ : Gate)]) (ps := mz.set 0 (⟨(((cW ++ [(⟨7, a.getD 0 0, b.getD 0 0⟩ : Gate)]).length : Nat) : Int), (mz.getD 0 default).p⟩ : aP)) (x := (cW.length : Int)) e2.dM aB hq (w1.ext e2) ⟨ni, ni⟩) rfl (.named rfl rfl (.ao rfl rfl (.ao rfl rfl .nil))) ⟨rfl, rfl, trivial⟩ rfl ag (fun _ h => by cases h) (fun _ h => by cases h) ag ag ?_
 rintro r aE ⟨T1, P4, ND, JN, JO, NF, rfl, rfl⟩ _
 refine ⟨⟨rfl, (by intro ob aS; simp only [List.mem_cons, List.not_mem_nil, or_false] at aS; rcases aS with rfl | rfl <;> rfl), .inl rfl⟩, ?_⟩
 refine aa.bd rfl ag (aa.nil (ab.ret ?_))
 exact ⟨_, _, rfl, rfl, _, _, (Bh.trans hT.ext).trans ((e1.trans e2).trans ND), by simp only [List.length_append, List.length_singleton] at JN; omega, (CC (by rw [List.length_set] at JO; omega) NF).late (by rw [List.length_set, show mz.length = w by omega]; omega), rfl, rfl⟩
open Go Go.AW Go.Proofs
set_option maxRecDepth 4000 in
set_option maxHeartbeats 1000000 in
theorem mn {c : Int} {gl : List Gate} (hg : Good gl) (pD : gl.length ≤ 40000000) {s : Bool} {w : Nat} {t : Int} {a b : List Int} {A B : List Bool → BitVec w} (ha : Wd c gl a w A t) (hb : Wd c gl b w B t) (hw : 1 ≤ w ∧ w ≤ 64) (ht : 0 ≤ t) : ak Try.prog 131 [.ptr 0 0 0 0, .fz 1 (a.map al), .fz 1 (b.map al), .v (.bool s)] [.cells [.aY 1 3 0 gl.length], .rows 3 (gl.map Gate.row)] [0] (fun r o => ∃ (l : List Gate) (x : Int), Ext gl l ∧ l.length ≤ gl.length + 450 ∧ Wr c l x (fun ins => if s then (A ins).slt (B ins) else (A ins).ult (B ins)) (t + 30 + 40 * (cD w : Int)) ∧ r = .v (.int .i64 x) ∧ o = [.cells [.aY 1 3 0 l.length], .rows 3 (l.map Gate.row)]) := by
 refine ak.of Try.func131 rfl rfl rfl (n := 120) ag (Nat.le_of_ble_eq_true rfl) ?_
 have tj := ha.len; have uR := hb.len
 refine ab.sr ?_
 refine .an ?_
 refine aa.nil (ab.sr ?_)
 refine .an ?_
 refine aa.sh (Sh.nil (d := 9) 109 2 rfl ag) (aa.nil (ab.seq ?_))
 refine ab.sr ?_
 refine .mv ?_
 refine .vl (Y.qw (n := a.length) a7 rfl (congrArg some (List.length_map ..))) ?_
 refine .mv ?_
 refine aa.nil (ab.block ?_)
 refine ab.eP (fun (eT : Nat) (aK : List Gate) (oN : List aP) => ⟨[(0, .ptr 0 0 0 0), (1, .fz 1 (a.map al)), (2, .fz 1 (b.map al)), (3, .v (.bool s)), (9, .aY 109 2 0 oN.length), (21, .v (.int .i64 (a.length : Int))), (22, .v (.int .i64 (eT : Int)))], [(0, .cells [.aY 1 3 0 aK.length]), (1, .rows 3 (aK.map Gate.row)), (109, .rows 2 (oN.map aP.row))]⟩) (fun (eT : Nat) (aK : List Gate) (oN : List aP) => ((eT : Int) ≤ (a.length : Int)) ∧ (r8 c gl aK (fun k ins => (A ins).getLsbD k) (fun k ins => (B ins).getLsbD k) s w (t + 30) oN eT)) (fun (eT : Nat) (aK : List Gate) (oN : List aP) => ((a.length : Int) - (eT : Int)).toNat) 0 gl ([] : List aP) (⟨ni, r8.init hg⟩) (Le.mk (.c (.c (.c (.c (.cons (a8 rfl aB) (.c (.cons (ai rfl aZ) (.nil)))))))) (.cons (aJ rfl jf) (.c (.c (.nil))))) (fun eT aK oN nW => ?_)
 obtain ⟨AL, hL⟩ := nW
 refine ab.sr (.vl (Y.zb rfl rfl) (aa.nil ?_))
 refine ab.seq ?_
 refine ab.ay rfl (fun Ew => ?_) (fun Ew => ?_)
 refine ab.skip (ab.seq (ab.block ?_))
 refine ab.sr ?_
 refine .mv ?_
 refine .an ?_
 refine aa.nil (ab.seq (ab.gC rfl ba ?_))
 refine a9.val (Y.zf rfl rfl) ag (a9.val (Y.zf rfl rfl) ag ?_)
 refine a9.val (Y.qr (m := eT) a7 rfl rfl aZ (aq (d := 0) om)) ag ?_
 refine a9.val (Y.qz bg rfl rfl rfl rfl) ag (a9.val (Y.zf rfl rfl) ag (a9.val (Y.zf rfl rfl) ag ?_))
 refine a9.val (Y.qr (m := eT) a7 rfl rfl aZ (aq (d := 0) om)) ag ?_
 refine a9.val (Y.qz bg rfl rfl rfl rfl) ag (a9.val (Y.qf rfl rfl) ag (a9.val (Y.qf rfl rfl) ag ?_))
 refine a9.nil ?_
 refine ab.m5 (fun (dp : Int) (ee : Int) => ⟨[(0, .ptr 0 0 0 0), (1, .fz 1 (a.map al)), (2, .fz 1 (b.map al)), (3, .v (.bool s)), (9, .aY 109 2 0 oN.length), (11, .v (.int .i64 dp)), (12, .v (.int .i64 ee)), (21, .v (.int .i64 (a.length : Int))), (22, .v (.int .i64 (eT : Int)))], [(0, .cells [.aY 1 3 0 aK.length]), (1, .rows 3 (aK.map Gate.row)), (109, .rows 2 (oN.map aP.row))]⟩) (fun (dp : Int) (ee : Int) => (dp = if s = true ∧ eT + 1 = a.length then b.getD eT 0 else a.getD eT 0) ∧ (ee = if s = true ∧ eT + 1 = a.length then a.getD eT 0 else b.getD eT 0)) ?_ (fun dp ee Ep => ?_)
 refine ab.sr ?_
 refine .mv ?_
 refine .mv ?_
 refine aa.split (d := 34) rfl (fun GX => ?_) (fun GX => ?_)
 refine .gw 34 (Y.zf rfl rfl) (.gw 34 (Y.zf rfl rfl) (.gw 34 (Y.qw (n := a.length) a7 rfl (congrArg some (List.length_map ..))) ?_))
 refine .gw 34 (Y.wd rfl rfl om) ?_
 refine .gw 34 (Y.ql rfl rfl) ?_
 refine .pk ?_
 refine aa.nil ?_
 refine ab.ay rfl (fun vQ => ?_) (fun vQ => ?_)
 refine ab.region ?_
 refine .mv ?_
 refine .mv ?_
 refine .an ?_
 refine .an ?_
 refine aa.nil ?_
 exact ⟨b.getD eT 0, a.getD eT 0, by grind, Le.mk (.c (.c (.c (.c (.c (.cons (ai rfl aZ) (.cons (ai rfl aZ) (.c (.c (.nil)))))))))) (.c (.c (.c (.nil))))⟩
 refine ab.skip ?_
 exact ⟨a.getD eT 0, b.getD eT 0, by grind, Le.mk (.c (.c (.c (.c (.c (.cons (ai rfl aZ) (.cons (ai rfl aZ) (.c (.c (.nil)))))))))) (.c (.c (.c (.nil))))⟩
 refine .gz 34 (.gz 34 (.gz 34 ?_))
 refine .gz 34 (.gz 34 ?_)
 refine .pk ?_
 refine aa.nil (ab.cj rfl (ab.skip ?_))
 exact ⟨a.getD eT 0, b.getD eT 0, by grind, Le.mk (.c (.c (.c (.c (.c (.cons (ai rfl aZ) (.cons (ai rfl aZ) (.c (.c (.nil)))))))))) (.c (.c (.c (.nil))))⟩
 refine ab.seq ?_
 have Sb := hL.len; have Sc := hL.pl; have yy := Ac (s := s) (i := eT) ha hb om (Ep.1.trans (by rw [tj])) (Ep.2.trans (by rw [tj]))
 refine ab.region ?_
 refine .mv ?_
 refine .mv ?_
 refine .mv ?_
 refine aa.br [0, 1] [] sO (gH (gl := aK) (a := dp) om) rfl (.named rfl rfl (.ao rfl rfl .nil)) ⟨rfl, rfl, trivial⟩ rfl ag (fun _ h => by cases h) (fun _ h => by cases h) ag ag ?_
 rintro r aE ⟨rfl, rfl⟩ _
 refine ⟨⟨rfl, (by intro ob aS; simp only [List.mem_cons, List.not_mem_nil, or_false] at aS; rcases aS with rfl | rfl <;> rfl), .inl rfl⟩, ?_⟩
 refine .mv ?_
 refine aa.br [0, 1] [] rA (fZ (gl := aK ++ [(⟨4, dp, 0⟩ : Gate)]) (a := (aK.length : Int)) (b := ee) aB) rfl (.named rfl rfl (.ao rfl rfl (.ao rfl rfl .nil))) ⟨rfl, rfl, trivial⟩ rfl ag (fun _ h => by cases h) (fun _ h => by cases h) ag ag ?_
 rintro r aE ⟨rfl, rfl⟩ _
 refine ⟨⟨rfl, (by intro ob aS; simp only [List.mem_cons, List.not_mem_nil, or_false] at aS; rcases aS with rfl | rfl <;> rfl), .inl rfl⟩, ?_⟩
 refine .an ?_
 refine aa.nil (ab.region ?_)
 refine .mv ?_
 refine .mv ?_
 refine .mv ?_
 refine .mv ?_
 refine .mv ?_
 refine .mv ?_
 refine aa.br [0, 1] [] sa (kx (gl := (aK ++ [(⟨4, dp, 0⟩ : Gate)]) ++ [(⟨5, (aK.length : Int), ee⟩ : Gate)]) (a := dp) (b := ee) aB) rfl (.named rfl rfl (.ao rfl rfl (.ao rfl rfl .nil))) ⟨rfl, rfl, trivial⟩ rfl ag (fun _ h => by cases h) (fun _ h => by cases h) ag ag ?_
 rintro r aE ⟨rfl, rfl⟩ _
 refine ⟨⟨rfl, (by intro ob aS; simp only [List.mem_cons, List.not_mem_nil, or_false] at aS; rcases aS with rfl | rfl <;> rfl), .inl rfl⟩, ?_⟩
 refine aa.br [0, 1] [] sO (gH (gl := ((aK ++ [(⟨4, dp, 0⟩ : Gate)]) ++ [(⟨5, (aK.length : Int), ee⟩ : Gate)]) ++ [(⟨7, dp, ee⟩ : Gate)]) (a := ((((aK ++ [(⟨4, dp, 0⟩ : Gate)]) ++ [(⟨5, (aK.length : Int), ee⟩ : Gate)]).length : Nat) : Int)) aB) rfl (.named rfl rfl (.ao rfl rfl .nil)) ⟨rfl, rfl, trivial⟩ rfl ag (fun _ h => by cases h) (fun _ h => by cases h) ag ag ?_
 rintro r aE ⟨rfl, rfl⟩ _
 refine ⟨⟨rfl, (by intro ob aS; simp only [List.mem_cons, List.not_mem_nil, or_false] at aS; rcases aS with rfl | rfl <;> rfl), .inl rfl⟩, ?_⟩
 refine .vl (Y.qh xq gr rfl rfl rfl) ?_
 refine aa.buildSlice (([(⟨(((aK ++ [(⟨4, dp, 0⟩ : Gate)]).length : Nat) : Int), (((((aK ++ [(⟨4, dp, 0⟩ : Gate)]) ++ [(⟨5, (aK.length : Int), ee⟩ : Gate)]) ++ [(⟨7, dp, ee⟩ : Gate)]).length : Nat) : Int)⟩ : aP)] : List aP).map aP.row) cV gr rfl rfl rfl rfl rfl (az (s := 2) (f := aP.row) (fun _ => rfl)) rfl rfl rfl ag ?_
 refine aa.bx ((oN ++ ([(⟨(((aK ++ [(⟨4, dp, 0⟩ : Gate)]).length : Nat) : Int), (((((aK ++ [(⟨4, dp, 0⟩ : Gate)]) ++ [(⟨5, (aK.length : Int), ee⟩ : Gate)]) ++ [(⟨7, dp, ee⟩ : Gate)]).length : Nat) : Int)⟩ : aP)] : List aP)).map aP.row) (oN ++ ([(⟨(((aK ++ [(⟨4, dp, 0⟩ : Gate)]).length : Nat) : Int), (((((aK ++ [(⟨4, dp, 0⟩ : Gate)]) ++ [(⟨5, (aK.length : Int), ee⟩ : Gate)]) ++ [(⟨7, dp, ee⟩ : Gate)]).length : Nat) : Int)⟩ : aP)] : List aP)).length cV gr rfl rfl rfl rfl (b8 aB) (bm aB) (cb aB) aB aB ag ag ?_
 refine .an ?_
 refine aa.nil (ab.region ?_)
 refine .vl (Y.qb rfl rfl aB) ?_
 refine .mv ?_
 refine aa.nil ?_
 exact ⟨eT + 1, (((aK ++ [(⟨4, dp, 0⟩ : Gate)]) ++ [(⟨5, (aK.length : Int), ee⟩ : Gate)]) ++ [(⟨7, dp, ee⟩ : Gate)]) ++ [(⟨4, ((((aK ++ [(⟨4, dp, 0⟩ : Gate)]) ++ [(⟨5, (aK.length : Int), ee⟩ : Gate)]).length : Nat) : Int), 0⟩ : Gate)], oN ++ ([(⟨(((aK ++ [(⟨4, dp, 0⟩ : Gate)]).length : Nat) : Int), (((((aK ++ [(⟨4, dp, 0⟩ : Gate)]) ++ [(⟨5, (aK.length : Int), ee⟩ : Gate)]) ++ [(⟨7, dp, ee⟩ : Gate)]).length : Nat) : Int)⟩ : aP)] : List aP), ⟨om, hL.step yy.1 yy.2 (Int.le_refl _) (fun ins => ⟨rfl, rfl⟩)⟩, om, Le.mk (.c (.c (.c (.c (.cons (a8 rfl om) (.c (.cons (ai rfl aZ) (.nil)))))))) (.cons (aJ rfl jf) (.c (.c (.nil))))⟩
 refine ab.exit (ab.seq (ab.block ?_))
 refine ab.sh (Sh.cK (d := 9) (o := 109) rfl rfl (bn om) ag) ?_
 refine ab.sh (Sh.bB (d := 9) (oN.map aP.row) rfl iW (cp.map aP.cN)) ?_
 have Sb := hL.len; have Sc := hL.pl
 refine ab.ir (fun (b6 : List aP) (kU : List Gate) => ⟨[(0, .ptr 0 0 0 0), (9, .fz 2 (b6.map aP.row))], [(0, .cells [.aY 1 3 0 kU.length]), (1, .rows 3 (kU.map Gate.row))]⟩) (fun (b6 : List aP) (kU : List Gate) => (xb c aK (fun ins => if s then (A ins).slt (B ins) else (A ins).ult (B ins)) w (t + 30) kU b6)) (fun (b6 : List aP) (kU : List Gate) => b6.length) oN aK (r8.tree (g0 := gl) om ((show eT = w by omega) ▸ hL)) (Le.mk (.c (.c (.nil))) (.cons (aJ rfl jf) (.c (.nil)))) (fun b6 kU Ge => ?_)
 have hI := Ge
 refine ab.seq (ab.sr ?_)
 refine .mv ?_
 refine .vl (Y.qw (n := b6.length) cV rfl (congrArg some (List.length_map ..))) (.vl (Y.qq rfl rfl) (aa.nil ?_))
 refine ab.ay rfl (fun ru => ?_) (fun ru => ?_)
 refine ab.skip (ab.block (ab.seq ?_))
 have NA := hI.len; have NG := hI.lo; have T2 := hI.ext.len; have hex : ∃ G P t, Wp c kU b6 G P t := (by obtain ⟨G1, P1, t1, h1, _⟩ := hI.ex; exact ⟨G1, P1, t1, h1⟩)
 refine ab.region ?_
 refine .an ?_
 refine aa.sh (Sh.nil (d := 14) 114 2 rfl ag) (aa.nil (ab.seq ?_))
 refine ab.sr ?_
 refine .an ?_
 refine aa.nil (ab.block ?_)
 refine ab.eP (fun (b7 : Nat) (cC : List Gate) (cZ : List aP) => ⟨[(0, .ptr 0 0 0 0), (9, .fz 2 (b6.map aP.row)), (14, .aY 114 2 0 cZ.length), (15, .v (.int .i64 (b7 : Int)))], [(0, .cells [.aY 1 3 0 cC.length]), (1, .rows 3 (cC.map Gate.row)), (114, .rows 2 (cZ.map aP.row))]⟩) (fun (b7 : Nat) (cC : List Gate) (cZ : List aP) => (CA c kU b6 cC cZ b7)) (fun (b7 : Nat) (cC : List Gate) (cZ : List aP) => b6.length - b7) 0 kU ([] : List aP) (CA.init hI.ext.dM) (Le.mk (.c (.c (.cons (a8 rfl aB) (.cons (ai rfl aZ) (.nil))))) (.cons (aJ rfl jf) (.c (.c (.nil))))) (fun b7 cC cZ NH => ?_)
 have hJ := NH
 refine ab.seq (ab.seq ?_)
 have Nv := hJ.hi; have lV := hJ.len; have Nw := hJ.nl; have Nx := hJ.even
 refine ab.region ?_
 refine .mv ?_
 refine .vl (Y.qb rfl rfl aB) ?_
 refine .mv ?_
 refine .vl (Y.qw (n := b6.length) cV rfl (congrArg some (List.length_map ..))) (.vl (Y.zb rfl rfl) (aa.nil ?_))
 refine ab.ay rfl (fun xt => ?_) (fun xt => ?_)
 refine ab.skip (ab.seq (ab.block ?_))
 refine ab.seq ?_
 refine ab.sU (⟨[(0, .ptr 0 0 0 0), (9, .fz 2 (b6.map aP.row)), (14, .aY 114 2 0 cZ.length), (15, .v (.int .i64 (b7 : Int))), (16, .ptr 116 0 0 0), (17, .ptr 117 0 0 0)], [(0, .cells [.aY 1 3 0 cC.length]), (1, .rows 3 (cC.map Gate.row)), (114, .rows 2 (cZ.map aP.row)), (116, .cells [.v (.int .i64 ((b6.getD b7 default).g)), .v (.int .i64 ((b6.getD b7 default).p))]), (117, .cells [.v (.int .i64 ((b6.getD (b7 + 1) default).g)), .v (.int .i64 ((b6.getD (b7 + 1) default).p))])]⟩) rfl ?_ ?_
 refine bF.blind 0 rfl ba (aL.move rfl rfl) ag (bF.blind 1 rfl ba (aL.move rfl rfl) ag ?_)
 refine bF.blind 2 rfl ba (aL.AP (m := b7) cV rfl rfl aZ (aq (d := default) om)) ag ?_
 refine bF.AR 3 rfl ba AJ rfl rfl rfl (Nat.le_of_ble_eq_true rfl) rfl rfl ag (bF.blind 4 rfl ba (aL.move rfl rfl) ag (bF.blind 5 rfl ba (aL.move rfl rfl) ag ?_))
 refine bF.blind 6 rfl ba (aL.My rfl rfl om) ag ?_
 refine bF.blind 7 rfl ba (aL.AP (m := b7 + 1) cV rfl rfl aZ (aq (d := default) om)) ag ?_
 refine bF.AR 8 rfl ba AJ rfl rfl rfl (Nat.le_of_ble_eq_true rfl) rfl rfl ag (bF.R0 ?_)
 refine cd.two 9 10 rfl rfl ba ?_ ?_
 refine aa.alloc 116 gr rfl rfl ag ?_
 refine aa.nil ⟨rfl, ?_⟩
 refine cd.one 10 rfl ba (aa.alloc 117 gr rfl rfl ag ?_)
 refine aa.nil ⟨rfl, ?_⟩
 refine cd.one 11 rfl ba (aa.aw xr rfl rfl rfl rfl rfl rfl (Nat.le_of_ble_eq_true rfl) rfl ?_)
 refine aa.nil ⟨rfl, ?_⟩
 refine cd.one 12 rfl ba (aa.aw xr rfl rfl rfl rfl rfl rfl (Nat.le_of_ble_eq_true rfl) rfl ?_)
 refine aa.nil ⟨rfl, ?_⟩
 refine cd.done ba ?_
 exact Le.mk (.c (.c (.c (.c (.c (.c (.nil))))))) (.c (.c (.c (.c (.c (.nil))))))
 refine aa.alloc 117 gr rfl rfl ag ?_
 refine aa.nil ⟨rfl, ?_⟩
 refine cd.one 9 rfl ba (aa.alloc 116 gr rfl rfl ag ?_)
 refine aa.nil ⟨rfl, ?_⟩
 refine cd.one 11 rfl ba (aa.aw xr rfl rfl rfl rfl rfl rfl (Nat.le_of_ble_eq_true rfl) rfl ?_)
 refine aa.nil ⟨rfl, ?_⟩
 refine cd.one 12 rfl ba (aa.aw xr rfl rfl rfl rfl rfl rfl (Nat.le_of_ble_eq_true rfl) rfl ?_)
 refine aa.nil ⟨rfl, ?_⟩
 refine cd.done ba ?_
 exact Le.mk (.c (.c (.c (.c (.c (.c (.nil))))))) (.c (.c (.c (.c (.c (.nil))))))
 refine ab.sr ?_
 refine .mv ?_
 refine .fa jb ?_
 refine .ld bg ?_
 refine .fa jM ?_
 refine .ld bg ?_
 refine aa.br [0, 1] [] rA (fZ (gl := cC) (a := (b6.getD (b7 + 1) default).p) (b := (b6.getD b7 default).g) om) rfl (.named rfl rfl (.ao rfl rfl (.ao rfl rfl .nil))) ⟨rfl, rfl, trivial⟩ rfl ag (fun _ h => by cases h) (fun _ h => by cases h) ag ag ?_
 rintro r aE ⟨rfl, rfl⟩ _
 refine ⟨⟨rfl, (by intro ob aS; simp only [List.mem_cons, List.not_mem_nil, or_false] at aS; rcases aS with rfl | rfl <;> rfl), .inl rfl⟩, ?_⟩
 refine .an ?_
 refine aa.nil (ab.sr ?_)
 refine .mv ?_
 refine .fa jM ?_
 refine .ld bg ?_
 refine .mv ?_
 refine aa.br [0, 1] [] ui (nZ (gl := cC ++ [(⟨5, (b6.getD (b7 + 1) default).p, (b6.getD b7 default).g⟩ : Gate)]) (a := (b6.getD (b7 + 1) default).g) (b := (cC.length : Int)) aB) rfl (.named rfl rfl (.ao rfl rfl (.ao rfl rfl .nil))) ⟨rfl, rfl, trivial⟩ rfl ag (fun _ h => by cases h) (fun _ h => by cases h) ag ag ?_
 rintro r aE ⟨rfl, rfl⟩ _
 refine ⟨⟨rfl, (by intro ob aS; simp only [List.mem_cons, List.not_mem_nil, or_false] at aS; rcases aS with rfl | rfl <;> rfl), .inl rfl⟩, ?_⟩
 refine .an ?_
 refine aa.nil (ab.region ?_)
 refine .mv ?_
 refine .mv ?_
 refine .mv ?_
 refine .fa jb ?_
 refine .ld bg ?_
 refine .fa jb ?_
 refine .ld bg ?_
 refine aa.br [0, 1] [] rA (fZ (gl := (cC ++ [(⟨5, (b6.getD (b7 + 1) default).p, (b6.getD b7 default).g⟩ : Gate)]) ++ [(⟨6, (b6.getD (b7 + 1) default).g, (cC.length : Int)⟩ : Gate)]) (a := (b6.getD (b7 + 1) default).p) (b := (b6.getD b7 default).p) aB) rfl (.named rfl rfl (.ao rfl rfl (.ao rfl rfl .nil))) ⟨rfl, rfl, trivial⟩ rfl ag (fun _ h => by cases h) (fun _ h => by cases h) ag ag ?_
 rintro r aE ⟨rfl, rfl⟩ _
 refine ⟨⟨rfl, (by intro ob aS; simp only [List.mem_cons, List.not_mem_nil, or_false] at aS; rcases aS with rfl | rfl <;> rfl), .inl rfl⟩, ?_⟩
 refine .vl (Y.qh xq gr rfl rfl rfl) ?_
 refine aa.buildSlice (([(⟨(((cC ++ [(⟨5, (b6.getD (b7 + 1) default).p, (b6.getD b7 default).g⟩ : Gate)]).length : Nat) : Int), ((((cC ++ [(⟨5, (b6.getD (b7 + 1) default).p, (b6.getD b7 default).g⟩ : Gate)]) ++ [(⟨6, (b6.getD (b7 + 1) default).g, (cC.length : Int)⟩ : Gate)]).length : Nat) : Int)⟩ : aP)] : List aP).map aP.row) cV gr rfl rfl rfl rfl rfl (az (s := 2) (f := aP.row) (fun _ => rfl)) rfl rfl rfl ag ?_
 refine aa.bx ((cZ ++ ([(⟨(((cC ++ [(⟨5, (b6.getD (b7 + 1) default).p, (b6.getD b7 default).g⟩ : Gate)]).length : Nat) : Int), ((((cC ++ [(⟨5, (b6.getD (b7 + 1) default).p, (b6.getD b7 default).g⟩ : Gate)]) ++ [(⟨6, (b6.getD (b7 + 1) default).g, (cC.length : Int)⟩ : Gate)]).length : Nat) : Int)⟩ : aP)] : List aP)).map aP.row) (cZ ++ ([(⟨(((cC ++ [(⟨5, (b6.getD (b7 + 1) default).p, (b6.getD b7 default).g⟩ : Gate)]).length : Nat) : Int), ((((cC ++ [(⟨5, (b6.getD (b7 + 1) default).p, (b6.getD b7 default).g⟩ : Gate)]) ++ [(⟨6, (b6.getD (b7 + 1) default).g, (cC.length : Int)⟩ : Gate)]).length : Nat) : Int)⟩ : aP)] : List aP)).length cV gr rfl rfl rfl rfl (b8 aB) (bm aB) (cb aB) aB aB ag ag ?_
 refine .an ?_
 refine aa.nil (ab.region ?_)
 refine .mv ?_
 refine .vl (Y.qb rfl rfl aB) ?_
 refine .an ?_
 refine aa.nil ?_
 exact ⟨b7 + 2, ((cC ++ [(⟨5, (b6.getD (b7 + 1) default).p, (b6.getD b7 default).g⟩ : Gate)]) ++ [(⟨6, (b6.getD (b7 + 1) default).g, (cC.length : Int)⟩ : Gate)]) ++ [(⟨5, (b6.getD (b7 + 1) default).p, (b6.getD b7 default).p⟩ : Gate)], cZ ++ ([(⟨(((cC ++ [(⟨5, (b6.getD (b7 + 1) default).p, (b6.getD b7 default).g⟩ : Gate)]).length : Nat) : Int), ((((cC ++ [(⟨5, (b6.getD (b7 + 1) default).p, (b6.getD b7 default).g⟩ : Gate)]) ++ [(⟨6, (b6.getD (b7 + 1) default).g, (cC.length : Int)⟩ : Gate)]).length : Nat) : Int)⟩ : aP)] : List aP), hJ.step om hex, om, Le.mk (.c (.c (.cons (a8 rfl om) (.cons (ai rfl aZ) (.nil))))) (.cons (aJ rfl jf) (.c (.c (.nil))))⟩
 refine ab.exit ?_
 refine ab.gO (fun (fv : List aP) => ⟨[(0, .ptr 0 0 0 0), (14, .aY 114 2 0 fv.length)], [(0, .cells [.aY 1 3 0 cC.length]), (1, .rows 3 (cC.map Gate.row)), (114, .rows 2 (fv.map aP.row))]⟩) (fun (fv : List aP) => xb c aK (fun ins => if s then (A ins).slt (B ins) else (A ins).ult (B ins)) w (t + 30) cC fv ∧ fv.length < b6.length) ?_ (fun fv AN => ?_)
 refine ab.seq ?_
 have Nv := hJ.hi; have lV := hJ.len; have Nw := hJ.nl; have Nx := hJ.even
 refine ab.region ?_
 refine .mv ?_
 refine .vl (Y.qw (n := b6.length) cV rfl (congrArg some (List.length_map ..))) ?_
 refine .vl (Y.zu rfl rfl om) ?_
 refine .vl (Y.ql rfl rfl) (aa.nil ?_)
 refine ab.ay rfl (fun FZ => ?_) (fun FZ => ?_)
 refine ab.region ?_
 refine .mv ?_
 refine .mv ?_
 refine .mv ?_
 refine .vl (Y.qw (n := b6.length) cV rfl (congrArg some (List.length_map ..))) ?_
 refine .vl (Y.wd rfl rfl aB) ?_
 refine .vl (Y.qr (m := ((b6.length : Int) - 1).toNat) cV rfl rfl om (aq (d := default) om)) ?_
 refine .vl (Y.za AJ rfl rfl (Nat.le_of_ble_eq_true rfl) rfl rfl) ?_
 refine aa.buildSlice (([(b6.getD (((b6.length : Int) - 1).toNat) default)] : List aP).map aP.row) cV gr rfl rfl rfl rfl rfl (az (s := 2) (f := aP.row) (fun _ => rfl)) rfl rfl rfl ag ?_
 refine aa.bx ((cZ ++ ([(b6.getD (((b6.length : Int) - 1).toNat) default)] : List aP)).map aP.row) (cZ ++ ([(b6.getD (((b6.length : Int) - 1).toNat) default)] : List aP)).length cV gr rfl rfl rfl rfl (b8 aB) (bm aB) (cb aB) aB aB ag ag ?_
 refine .an ?_
 refine aa.nil ?_
 exact ⟨cZ ++ ([(b6.getD (((b6.length : Int) - 1).toNat) default)] : List aP), by have hx := hI.Iv hJ om om om; rw [show b6.length - 1 = ((b6.length : Int) - 1).toNat by omega] at hx; exact ⟨hx, by rw [List.length_append, List.length_singleton]; omega⟩, Le.mk (.c (.cons (a8 rfl om) (.nil))) (.c (.c (.c (.nil))))⟩
 refine ab.skip ?_
 exact ⟨cZ, ⟨hI.pass hJ om om om, om⟩, Le.mk (.c (.cons (a8 rfl om) (.nil))) (.c (.c (.c (.nil))))⟩
 refine ab.sh (Sh.cK (d := 14) (o := 114) rfl rfl (bn om) ag) ?_
 refine ab.sh (Sh.bB (d := 14) (fv.map aP.row) rfl iW (cp.map aP.cN)) (ab.region ?_)
 refine .mv ?_
 refine .an ?_
 refine aa.nil ?_
 exact ⟨fv, cC, AN.1, by have := AN.2; omega, Le.mk (.c (.c (.nil))) (.cons (aJ rfl jf) (.c (.nil)))⟩
 refine ab.exit (ab.seq ?_)
 have NG := hI.lo; have NA := hI.len
 refine ab.region ?_
 refine .mv ?_
 refine .vl (Y.qr (m := 0) cV rfl rfl aZ (aq (d := default) om)) ?_
 refine .fa jM ?_
 refine .ld bg ?_
 refine .an ?_
 refine aa.nil (ab.ret ?_)
 exact ⟨_, _, rfl, rfl, _, _, hL.ext.trans hI.ext, by have := hL.len; omega, hI.done om, rfl, rfl⟩
open Go Go.AW Go.Proofs
structure VT (n : ae) : Prop where
 formed : b5 n
 fit : Fit n
 acyclic : Acyclic n
 small : n.Small
 eD : n.cells.length ≤ 1000
 dY : n.aj.length ≤ 1000
 zR : ∀ c ∈ n.cells, c.args.length ≤ 200
 wX : n.eQ.length ≤ 1000
 cU : n.streams.length ≤ 1000
 Ij : n.ins.length ≤ 1000
theorem b5.JP {n : ae} (h : b5 n) : ∀ w ∈ n.aj, cw w := fun w hw => by
 obtain ⟨i, hi, rfl⟩ := List.mem_iff_getElem.1 hw
 have := h.wide i (by rw [List.length_append]; omega)
 rw [List.getD_eq_getElem?_getD, List.getElem?_append_left hi, List.getElem?_eq_getElem hi] at this
 exact this
theorem VT.s7 {n : ae} (h : VT n) {i : Nat} (hi : i < n.cells.length) : 0 ≤ s7 n (n.cells.getD i default) ∧ s7 n (n.cells.getD i default) ≤ 400 := Ff h.formed.JP (h.zR _ (getD_in hi))
def sZ (at_ : List Int) (l : List Int) : Int := l.foldl (fun t w => max t (at_.getD w.toNat 0)) 0
theorem wj {a b l : List Int} (h : ∀ w ∈ l, a.getD w.toNat 0 = b.getD w.toNat 0) : sZ a l = sZ b l := by
 unfold sZ
 have : ∀ (t : Int) (l : List Int), (∀ w ∈ l, a.getD w.toNat 0 = b.getD w.toNat 0) → l.foldl (fun t w => max t (a.getD w.toNat 0)) t = l.foldl (fun t w => max t (b.getD w.toNat 0)) t := by
  intro t l
  induction l generalizing t with
  | nil => intro _; rfl
  | cons x r ih =>
   intro h
   simp only [List.foldl_cons]
   rw [h x (List.mem_cons_self ..)]
   exact ih _ (fun w hw => h w (List.mem_cons_of_mem _ hw))
 exact this 0 l h
theorem mo {at_ l : List Int} {B : Int} (hB : 0 ≤ B) (h : ∀ w ∈ l, at_.getD w.toNat 0 ≤ B) : 0 ≤ sZ at_ l ∧ sZ at_ l ≤ B := by
 unfold sZ
 have : ∀ (t : Int) (l : List Int), 0 ≤ t → t ≤ B → (∀ w ∈ l, at_.getD w.toNat 0 ≤ B) → 0 ≤ l.foldl (fun t w => max t (at_.getD w.toNat 0)) t ∧ l.foldl (fun t w => max t (at_.getD w.toNat 0)) t ≤ B := by
  intro t l
  induction l generalizing t with
  | nil => intro h0 h1 _; exact ⟨h0, h1⟩
  | cons x r ih =>
   intro h0 h1 h
   simp only [List.foldl_cons]
   have := h x (List.mem_cons_self ..)
   exact ih _ om om (fun w hw => h w (List.mem_cons_of_mem _ hw))
 exact this 0 l (Int.le_refl _) hB h
def rD (n : ae) (at_ : List Int) (c : Cell) : Int := (if dk c.kind then sZ at_ c.args else 0) + s7 n c
structure JQ (n : ae) (at_ : List Int) : Prop where
 len : at_.length = n.aj.length
 eq : ∀ i w, cQ n i w → at_.getD w.toNat 0 = rD n at_ (n.cell i)
theorem Ord.lt {n : ae} {l : List Int} (ho : Ord n l) {i x : Int} (hi : 0 ≤ i ∧ i < n.cells.length) (hc : dk (n.cell i).kind) (hx : x ∈ (n.cell i).args) : ∃ j, cQ n j x ∧ l.idxOf j < l.idxOf i := by
 obtain ⟨p, s, hl, hn⟩ := List.eq_append_cons_of_mem (ho.mem hi)
 obtain ⟨j, hj, hd⟩ := ho.mw p i s hl hc x hx
 refine ⟨j, hd, ?_⟩
 have h1 : l.idxOf i = p.length := by
  rw [hl, List.idxOf_append, if_neg hn]; simp
 have h2 : l.idxOf j = p.idxOf j := by rw [hl, List.idxOf_append, if_pos hj]
 rw [h1, h2]
 exact List.idxOf_lt_length_of_mem hj
theorem JQ.bound {n : ae} {l a : List Int} (hv : VT n) (ho : Ord n l) (ha : JQ n a) : ∀ i w, cQ n i w → 0 ≤ a.getD w.toNat 0 ∧ a.getD w.toNat 0 ≤ 400 * ((l.idxOf i : Nat) + 1 : Int) := by
 have key : ∀ k : Nat, ∀ i w, cQ n i w → l.idxOf i ≤ k → 0 ≤ a.getD w.toNat 0 ∧ a.getD w.toNat 0 ≤ 400 * ((l.idxOf i : Nat) + 1 : Int) := by
  intro k
  induction k with
  | zero =>
   intro i w hd hk
   rw [ha.eq i w hd]
   have h1 := hd.1
   have Gs := hv.s7 (i := i.toNat) om
   change 0 ≤ s7 n (n.cell i) ∧ s7 n (n.cell i) ≤ 400 at Gs
   unfold rD
   by_cases hc : dk (n.cell i).kind
   ·rw [if_pos hc]
    have := mo (at_ := a) (l := (n.cell i).args) (B := 0) om (fun x hx => by obtain ⟨j, _, h⟩ := ho.lt hd.1 hc hx; omega)
    omega
   ·rw [if_neg hc]; omega
  | succ k ih =>
   intro i w hd hk
   rw [ha.eq i w hd]
   have h1 := hd.1
   have Gs := hv.s7 (i := i.toNat) om
   change 0 ≤ s7 n (n.cell i) ∧ s7 n (n.cell i) ≤ 400 at Gs
   unfold rD
   by_cases hc : dk (n.cell i).kind
   ·rw [if_pos hc]
    have := mo (at_ := a) (l := (n.cell i).args) (B := 400 * (l.idxOf i : Int)) om (fun x hx => by
     obtain ⟨j, hj, h⟩ := ho.lt hd.1 hc hx
     have := (ih j x hj om).2
     omega)
    omega
   ·rw [if_neg hc]; omega
 exact fun i w hd => key _ i w hd (Nat.le_refl _)
theorem JQ.uN {n : ae} {l a : List Int} (hv : VT n) (ho : Ord n l) (ha : JQ n a) {w : Int} (hw : In w n.aj.length) : 0 ≤ a.getD w.toNat 0 ∧ a.getD w.toNat 0 ≤ 400000 := by
 obtain ⟨i, hi⟩ := hv.formed.q6 hw
 have h := ha.bound hv ho i w hi
 have h1 : l.idxOf i < l.length := List.idxOf_lt_length_of_mem (ho.mem hi.1)
 have h2 := ho.len
 have h3 := hv.eD
 omega
open Go Go.AW Go.Proofs
theorem Bi {l : List Int} (hn : l.Nodup) {k : Nat} (hk : k < l.length) : l.idxOf (l.getD k 0) = k := by
 have hm : l.getD k 0 ∈ l := cL hk
 have h1 : l.idxOf (l.getD k 0) < l.length := List.idxOf_lt_length_of_mem hm
 have h2 : l.getD (l.idxOf (l.getD k 0)) 0 = l.getD k 0 := by
  rw [List.getD_eq_getElem?_getD, List.getElem?_eq_getElem h1]
  exact List.getElem_idxOf h1
 exact Classical.byContradiction fun e => e (qD hn h1 hk h2)
structure oa (n : ae) (l : List Int) (k : Nat) (out : List Int) : Prop where
 len : out.length = n.aj.length
 eq : ∀ i w, cQ n i w → l.idxOf i < k → out.getD w.toNat 0 = rD n out (n.cell i)
theorem oa.init {n : ae} {l : List Int} : oa n l 0 (List.replicate n.aj.length 0) := ⟨by simp, fun i w _ h => by omega⟩
theorem oa.skip {n : ae} {l out : List Int} {k : Nat} (ho : Ord n l) (h : oa n l k out) (hk : k < l.length) (h7 : (n.cell (l.getD k 0)).kind = 7) : oa n l (k + 1) out := by
 refine ⟨h.len, fun i w hd gM => ?_⟩
 rcases Nat.lt_or_ge (l.idxOf i) k with h1 | h1
 ·exact h.eq i w hd h1
 ·exfalso
  have hm := ho.mem hd.1
  have h2 : l.idxOf i < l.length := List.idxOf_lt_length_of_mem hm
  have h3 : l.getD (l.idxOf i) 0 = i := by
   rw [List.getD_eq_getElem?_getD, List.getElem?_eq_getElem h2]; exact List.getElem_idxOf h2
  rw [show l.idxOf i = k by omega] at h3
  rw [h3] at h7
  exact hd.2.1 h7
theorem oa.set {n : ae} {l out : List Int} {k : Nat} (hf : b5 n) (ho : Ord n l) (h : oa n l k out) (hk : k < l.length) {w : Int} (hd : cQ n (l.getD k 0) w) {v : Int} (hv : v = rD n out (n.cell (l.getD k 0))) : oa n l (k + 1) (out.set w.toNat v) := by
 have hw := hf.jG hd
 unfold In at hw
 have hl := h.len
 have Sd := Bi ho.nd hk
 have other : ∀ j x, cQ n j x → l.idxOf j < k → (out.set w.toNat v).getD x.toNat 0 = out.getD x.toNat 0 := by
  intro j x hx hj
  have Se := hf.jG hx
  unfold In at Se
  rw [bM, if_neg]
  intro e
  have : x = w := by omega
  subst this
  have := hf.unique hx hd
  rw [this] at hj; omega
 have args : ∀ i : Int, 0 ≤ i ∧ i < n.cells.length → l.idxOf i ≤ k → rD n (out.set w.toNat v) (n.cell i) = rD n out (n.cell i) := by
  intro i hi T3
  unfold rD
  by_cases hc : dk (n.cell i).kind
  ·rw [if_pos hc, if_pos hc]
   rw [wj (fun x hx => by obtain ⟨j, hj, h1⟩ := ho.lt hi hc hx; exact other j x hj om)]
  ·rw [if_neg hc, if_neg hc]
 refine ⟨by rw [List.length_set]; exact hl, fun i x hx gM => ?_⟩
 rw [args i hx.1 om]
 rcases Nat.lt_or_ge (l.idxOf i) k with h1 | h1
 ·rw [other i x hx h1]; exact h.eq i x hx h1
 ·have hm := ho.mem hx.1
  have h2 : l.idxOf i < l.length := List.idxOf_lt_length_of_mem hm
  have h3 : l.getD (l.idxOf i) 0 = i := by
   rw [List.getD_eq_getElem?_getD, List.getElem?_eq_getElem h2]; exact List.getElem_idxOf h2
  rw [show l.idxOf i = k by omega] at h3
  rw [← h3] at hx ⊢
  have e : x = w := hx.2.2.symm.trans hd.2.2
  subst e
  rw [bM, if_pos ⟨rfl, om⟩]; exact hv
theorem oa.done {n : ae} {l out : List Int} {k : Nat} (ho : Ord n l) (h : oa n l k out) (hk : k = l.length) : JQ n out :=
 ⟨h.len, fun i w hd => h.eq i w hd (by rw [hk]; exact List.idxOf_lt_length_of_mem (ho.mem hd.1))⟩
theorem oa.le {n : ae} {l out : List Int} {k : Nat} (hv : VT n) (ho : Ord n l) (h : oa n l k out) {i w : Int} (hd : cQ n i w) (hi : l.idxOf i < k) : 0 ≤ out.getD w.toNat 0 ∧ out.getD w.toNat 0 ≤ 400 * ((l.idxOf i : Nat) + 1 : Int) := by
 have key : ∀ m : Nat, ∀ i w, cQ n i w → l.idxOf i ≤ m → l.idxOf i < k → 0 ≤ out.getD w.toNat 0 ∧ out.getD w.toNat 0 ≤ 400 * ((l.idxOf i : Nat) + 1 : Int) := by
  intro m
  induction m with
  | zero =>
   intro i w hd hm hk
   rw [h.eq i w hd hk]
   have h1 := hd.1
   have Gs := hv.s7 (i := i.toNat) om
   change 0 ≤ s7 n (n.cell i) ∧ s7 n (n.cell i) ≤ 400 at Gs
   unfold rD
   by_cases hc : dk (n.cell i).kind
   ·rw [if_pos hc]
    have := mo (at_ := out) (l := (n.cell i).args) (B := 0) om (fun x hx => by obtain ⟨j, _, h⟩ := ho.lt hd.1 hc hx; omega)
    omega
   ·rw [if_neg hc]; omega
  | succ m ih =>
   intro i w hd hm hk
   rw [h.eq i w hd hk]
   have h1 := hd.1
   have Gs := hv.s7 (i := i.toNat) om
   change 0 ≤ s7 n (n.cell i) ∧ s7 n (n.cell i) ≤ 400 at Gs
   unfold rD
   by_cases hc : dk (n.cell i).kind
   ·rw [if_pos hc]
    have := mo (at_ := out) (l := (n.cell i).args) (B := 400 * (l.idxOf i : Int)) om (fun x hx => by
     obtain ⟨j, hj, h⟩ := ho.lt hd.1 hc hx
     have := (ih j x hj om om).2
     omega)
    omega
   ·rw [if_neg hc]; omega
 exact key _ i w hd (Nat.le_refl _) hi
theorem oa.mo {n : ae} {l out : List Int} {k : Nat} (hv : VT n) (ho : Ord n l) (h : oa n l k out) (hk : k < l.length) (hc : dk (n.cell (l.getD k 0)).kind) (m : Nat) : 0 ≤ sZ out ((n.cell (l.getD k 0)).args.take m) ∧ sZ out ((n.cell (l.getD k 0)).args.take m) ≤ 400000 := by
 refine Go.Proofs.Ytlimckldnjmabaa.mo om fun x hx => ?_
 have hr := ho.uN _ (cL hk)
 have HF := List.mem_of_mem_take hx
 obtain ⟨j, hj, h1⟩ := ho.lt hr hc HF
 rw [Bi ho.nd hk] at h1
 have h2 := (h.le hv ho hj h1).2
 have h3 := ho.len
 have h4 := hv.eD
 omega
open Go Go.AW Go.Proofs
def Port (k : Int) : Prop := k = 5 ∨ k = 6 ∨ k = 7
instance (w : Int) : Decidable (Port w) := by unfold Port; infer_instance
abbrev rest (n : ae) : List Int := (([[n.done], n.eQ, n.cf, n.data] : List (List Int)).flatten)
section
variable {n : ae} {k : Nat}
end
def NI (at_ : List Int) (s : Int × Int) (e : Int × Int) : Int × Int := if s.2 < 0 ∨ at_.getD e.1.toNat 0 + e.2 > s.1 then (at_.getD e.1.toNat 0 + e.2, e.1) else s
structure wm (at_ : List Int) (L : List (Int × Int)) (s : Int × Int) : Prop where
 none : L = [] → s = (0, -1)
 some : L ≠ [] → ∃ e ∈ L, s = (at_.getD e.1.toNat 0 + e.2, e.1)
 max : ∀ e ∈ L, at_.getD e.1.toNat 0 + e.2 ≤ s.1
theorem wm.step {at_ : List Int} {L : List (Int × Int)} {s e : Int × Int} (h : wm at_ L s) (h0 : ∀ e ∈ L, 0 ≤ e.1) : wm at_ (L ++ [e]) (NI at_ s e) where
 none := fun h => by simp at h
 some := fun _ => by
  unfold NI
  by_cases hc : s.2 < 0 ∨ at_.getD e.1.toNat 0 + e.2 > s.1
  ·rw [if_pos hc]; exact ⟨e, by simp, rfl⟩
  ·rw [if_neg hc]
   by_cases hL : L = []
   ·rw [h.none hL] at hc; simp at hc
   ·obtain ⟨x, hx, hs⟩ := h.some hL
    exact ⟨x, List.mem_append.2 (.inl hx), hs⟩
 max := fun x hx => by
  unfold NI
  by_cases hc : s.2 < 0 ∨ at_.getD e.1.toNat 0 + e.2 > s.1
  ·rw [if_pos hc]
   rcases List.mem_append.1 hx with hx | hx
   ·have h1 := h.max x hx
    rcases hc with hc | hc
    ·exfalso
     obtain ⟨y, hy, hs⟩ := h.some (List.ne_nil_of_mem hx)
     rw [hs] at hc
     have := h0 y hy
     simp only at hc; omega
    ·show _ ≤ at_.getD e.1.toNat 0 + e.2; omega
   ·rw [List.mem_singleton.1 hx]; exact Int.le_refl _
  ·rw [if_neg hc]
   rcases List.mem_append.1 hx with hx | hx
   ·exact h.max x hx
   ·rw [List.mem_singleton.1 hx]; omega
open Go Go.AW Go.Proofs
section
variable {n : ae} {i k m : Nat} {ix X Z : List (Int × Int)} {b : Bool}
end
open Go Go.AW Go.Proofs
def Bj : ByteArray := ⟨(([0, 1, 2, 2, 3, 3, 3, 3, 4, 4, 4, 4, 4, 4, 4, 4, 5, 5, 5, 5, 5, 5, 5, 5, 5, 5, 5, 5, 5, 5, 5, 5, 6, 6, 6, 6, 6, 6, 6, 6, 6, 6, 6, 6, 6, 6, 6, 6, 6, 6, 6, 6, 6, 6, 6, 6, 6, 6, 6, 6, 6, 6, 6, 6].append [7, 7, 7, 7, 7, 7, 7, 7, 7, 7, 7, 7, 7, 7, 7, 7, 7, 7, 7, 7, 7, 7, 7, 7, 7, 7, 7, 7, 7, 7, 7, 7, 7, 7, 7, 7, 7, 7, 7, 7, 7, 7, 7, 7, 7, 7, 7, 7, 7, 7, 7, 7, 7, 7, 7, 7, 7, 7, 7, 7, 7, 7, 7, 7]).append ([8, 8, 8, 8, 8, 8, 8, 8, 8, 8, 8, 8, 8, 8, 8, 8, 8, 8, 8, 8, 8, 8, 8, 8, 8, 8, 8, 8, 8, 8, 8, 8, 8, 8, 8, 8, 8, 8, 8, 8, 8, 8, 8, 8, 8, 8, 8, 8, 8, 8, 8, 8, 8, 8, 8, 8, 8, 8, 8, 8, 8, 8, 8, 8].append [8, 8, 8, 8, 8, 8, 8, 8, 8, 8, 8, 8, 8, 8, 8, 8, 8, 8, 8, 8, 8, 8, 8, 8, 8, 8, 8, 8, 8, 8, 8, 8, 8, 8, 8, 8, 8, 8, 8, 8, 8, 8, 8, 8, 8, 8, 8, 8, 8, 8, 8, 8, 8, 8, 8, 8, 8, 8, 8, 8, 8, 8, 8, 8])).toArray⟩
theorem Bk : (List.range 256).all (fun m => bl Bj m == cD (m + 1)) = true := by kernel_rfl
theorem yj : Bj.size = 256 := by kernel_rfl
theorem Ds {m : Nat} (h : m < 256) : bl Bj m = cD (m + 1) := by
 have := List.all_eq_true.1 Bk m (List.mem_range.2 h)
 simpa using this
theorem Bl {n : Nat} (h : n ≤ 256) : cD n ≤ 8 := kN om
theorem xy {x : Int} {k : Nat} (h0 : 1 ≤ x) (h1 : x ≤ 64) (hk : k ≤ 8) : 0 ≤ 3 * x * (k : Int) ∧ 3 * x * (k : Int) ≤ 1536 :=
 ⟨Int.mul_nonneg om om, Int.le_trans (Int.mul_le_mul (show 3 * x ≤ 192 by omega) (show (k : Int) ≤ 8 by omega) om om) ag⟩
structure NJ (n : ae) (l : List Cell) : Prop where
 len : l.length = n.aj.length
 at_ : ∀ i w, cQ n i w → l.getD w.toNat default = n.cell i
structure mE (n : ae) (k : Nat) (l : List Cell) : Prop where
 len : l.length = n.aj.length
 at_ : ∀ i w, cQ n i w → i < k → l.getD w.toNat default = n.cell i
theorem mE.init {n : ae} {z : Cell} : mE n 0 (List.replicate n.aj.length z) := ⟨by simp, fun i w hd h => by have := hd.1; omega⟩
theorem mE.set {n : ae} {k : Nat} {l : List Cell} (hf : b5 n) (h : mE n k l) (hk : k < n.cells.length) (h0 : (n.cells.getD k default).out ≥ 0) : mE n (k + 1) (l.set (n.cells.getD k default).out.toNat (n.cells.getD k default)) := by
 refine ⟨by rw [List.length_set]; exact h.len, fun i w hd hi => ?_⟩
 have hw := hf.jG hd
 unfold In at hw
 have hl := h.len
 have h7 : (n.cells.getD k default).kind ≠ 7 := fun e => by have := (hf.cells k hk).2.2.1 e; omega
 have GO : cQ n (k : Int) (n.cells.getD k default).out := ⟨⟨om, om⟩, h7, rfl⟩
 have L3 := hf.jG GO
 unfold In at L3
 rw [bM]
 by_cases e : (n.cells.getD k default).out = w
 ·rw [if_pos ⟨om, om⟩]
  rw [e] at GO
  have := hf.unique hd GO
  subst this; rfl
 ·rw [if_neg om]
  refine h.at_ i w hd ?_
  rcases Int.lt_or_eq_of_le (show i ≤ k by omega) with h1 | h1
  ·exact h1
  ·subst h1; exact absurd hd.2.2 e
theorem mE.skip {n : ae} {k : Nat} {l : List Cell} (hf : b5 n) (h : mE n k l) (hk : k < n.cells.length) (h0 : ¬ (n.cells.getD k default).out ≥ 0) : mE n (k + 1) l := by
 refine ⟨h.len, fun i w hd hi => ?_⟩
 refine h.at_ i w hd ?_
 rcases Int.lt_or_eq_of_le (show i ≤ k by omega) with h1 | h1
 ·exact h1
 ·subst h1
  have hw := hf.jG hd
  unfold In at hw
  have : n.cell (k : Int) = n.cells.getD k default := rfl
  rw [← this, hd.2.2] at h0
  omega
theorem mE.done {n : ae} {k : Nat} {l : List Cell} (h : mE n k l) (hk : k = n.cells.length) : NJ n l := ⟨h.len, fun i w hd => h.at_ i w hd (by rw [hk]; exact hd.1.2)⟩
structure Gt (l m : List Int) (i j : Int) : Prop where
 len : m.length = l.length
 sum : i + j = (l.length : Int) - 1
 i0 : 0 ≤ i
 out : ∀ k : Nat, k < l.length → ((k : Int) < i ∨ j < k) → m.getD k 0 = l.getD (l.length - 1 - k) 0
 K8 : ∀ k : Nat, i ≤ k → (k : Int) ≤ j → m.getD k 0 = l.getD k 0
theorem Gt.init (l : List Int) : Gt l l 0 ((l.length : Int) - 1) := ⟨rfl, om, om, fun k hk h => by omega, fun _ _ _ => rfl⟩
theorem Gt.step {l m : List Int} {i j : Int} (h : Gt l m i j) (Sf : i < j) : Gt l ((m.set i.toNat (m.getD j.toNat 0)).set j.toNat (m.getD i.toNat 0)) (i + 1) (j - 1) := by
 have h1 := h.len; have h2 := h.sum; have h3 := h.i0
 refine ⟨by simp [h1], om, om, fun k hk hc => ?_, fun k ha hb => ?_⟩
 ·rw [bM, bM]
  by_cases e : j.toNat = k
  ·rw [if_pos ⟨e, by rw [List.length_set]; omega⟩, h.K8 i.toNat om om]
   congr 1; omega
  ·rw [if_neg om]
   by_cases e2 : i.toNat = k
   ·rw [if_pos ⟨e2, om⟩, h.K8 j.toNat om om]
    congr 1; omega
   ·rw [if_neg om]
    exact h.out k hk om
 ·rw [bM, bM, if_neg om, if_neg om]
  exact h.K8 k om om
theorem Gt.done {l m : List Int} {i j : Int} (h : Gt l m i j) (Sf : ¬ i < j) : m = l.reverse := by
 have h1 := h.len; have h2 := h.sum
 refine List.ext_getElem (by simp [h1]) fun k hk wM => ?_
 have e : m.getD k 0 = l.getD (l.length - 1 - k) 0 := by
  by_cases e : (k : Int) < i ∨ j < k
  ·exact h.out k om e
  ·rw [h.K8 k om om]
   congr 1; omega
 rw [List.getD_eq_getElem?_getD, List.getElem?_eq_getElem hk, List.getD_eq_getElem?_getD, List.getElem?_eq_getElem om] at e
 rw [List.getElem_reverse]
 exact e
open Go Go.AW Go.Proofs
theorem wu {x : Int} (h0 : 0 ≤ x) (h1 : x < 256) : ak Try.prog 197 [.v (.int .u64 x)] [] [] (fun r o => r = (vi ((cD (x.toNat + 1) : Nat) : Int)) ∧ o = []) := by
 refine ak.of Try.func197 rfl rfl rfl (n := 25) ag (bN rfl) ?_
 have T4 := yj
 refine .sr ?_
 refine .an ?_
 refine .nil (.seq (.sr ?_))
 refine .mv ?_
 refine .vl (Y.qp rfl rfl) (.nil ?_)
 refine .ay rfl (fun c4 => ?_) (fun c4 => ?_)
 exfalso; omega
 refine .skip (.seq (.sr ?_))
 refine .mv ?_
 refine .vl (Y.qp rfl rfl) (.nil ?_)
 refine .ay rfl (fun c8 => ?_) (fun c8 => ?_)
 exfalso; omega
 refine .skip (.seq (.sr ?_))
 refine .mv ?_
 refine .vl (Y.qp rfl rfl) (.nil ?_)
 refine .ay rfl (fun xZ => ?_) (fun xZ => ?_)
 exfalso; omega
 refine .skip (.sr ?_)
 have T5 := z6 Bj x.toNat
 refine .mv ?_
 refine .mv ?_
 refine .vl (Y.qk sK I2 rfl (by first | rfl | exact IntWalk.u8_in _ om)) (.vl (Y.qv (b := Bj) (m := (x).toNat) Kt rfl rfl om om) (.vl (Y.qk I2 y5 rfl GM) (.vl (Y.qb rfl rfl aB) ?_)))
 refine .an ?_
 refine .nil (.ret ?_)
 exact .ri rfl (by rw [Ds om]; omega)
theorem Bq {x : Int} (h0 : 0 ≤ x) (h1 : x < 256) : ak Try.prog 194 [.v (.int .u64 x)] [] [] (fun r o => r = (vi ((cD (x.toNat + 1) : Nat) : Int)) ∧ o = []) := by
 refine ak.of Try.func194 rfl rfl rfl (n := 8) ag (bN rfl) (.sr ?_)
 refine .an ?_
 refine .nil (.seq (.cj rfl ?_))
 refine .skip (.sr ?_)
 refine .mv ?_
 refine .aR IL (wu (x := x) (om) (om)) rfl (.ao rfl rfl .nil) ag rfl ?_
 refine .an ?_
 refine .nil (.ret ?_)
 exact .ri rfl (rfl)
theorem iD {x : Int} (h0 : 0 ≤ x) (h1 : x ≤ 256) : ak Try.prog 174 [vi x] [] [] (fun r o => r = (vi ((cD x.toNat : Nat) : Int)) ∧ o = []) := by
 refine ak.of Try.func174 rfl rfl rfl (n := 9) ag (bN rfl) (.sr ?_)
 refine .an ?_
 refine .nil (.seq (.sr ?_))
 refine .mv ?_
 refine .vl (Y.zb rfl rfl) (.nil ?_)
 refine .ay rfl (fun c4 => ?_) (fun c4 => ?_)
 refine .sr ?_
 refine .an ?_
 refine .nil (.ret ?_)
 exact .ri rfl (by unfold cD; rw [if_pos om]; rfl)
 refine .skip (.sr ?_)
 refine .mv ?_
 refine .vl (Y.wd rfl rfl aB) (.vl (Y.qj y5 I1 rfl (rQ _ om)) (.aR IK (Bq (x := (((x - 1).toNat : Nat) : Int)) (om) (om)) rfl (.ao rfl rfl .nil) ag rfl ?_))
 refine .an ?_
 refine .nil (.ret ?_)
 exact .ri rfl (by rw [show ((((x - 1).toNat : Nat) : Int).toNat + 1) = x.toNat by omega])
open Go Go.AW Go.Proofs
theorem tc {n : Nat} (h : n ≤ 256) : ak Try.prog 174 [.v (.int .i64 (n : Int))] [] [] (fun r o => r = .v (.int .i64 ((cD n : Nat) : Int)) ∧ o = []) := by
  have h1 := iD (x := (n : Int)) om om
  rwa [Int.toNat_natCast] at h1
set_option maxRecDepth 4000 in
set_option maxHeartbeats 1000000 in
theorem nf {c : Int} {gl : List Gate} (hg : Good gl) (pD : gl.length ≤ 30000000) {left ar : Bool} (LC : left = true → ar = false) {w : Nat} {t : Int} {a b : List Int} {A B : List Bool → BitVec w} (ha : Wd c gl a w A t) (hb : Wd c gl b w B t) (hw : 1 ≤ w ∧ w ≤ 64) (ht : 0 ≤ t) : ak Try.prog 129 [.ptr 0 0 0 0, .fz 1 (a.map al), .fz 1 (b.map al), .v (.bool left), .v (.bool ar)] [.cells [.aY 1 3 0 gl.length], .rows 3 (gl.map Gate.row)] [0] (fun r o => ∃ (l : List Gate) (out : List Int), Ext gl l ∧ l.length ≤ gl.length + 1500 ∧ Wd c l out w (fun ins => CE left ar (A ins) (B ins)) (t + (if ar then 50 else 30) + 40 * (cD w : Int)) ∧ r = .cX 1 (out.map al) ∧ o = [.cells [.aY 1 3 0 l.length], .rows 3 (l.map Gate.row)]) := by
 refine ak.of Try.func129 rfl rfl rfl (n := 129) ag (Nat.le_of_ble_eq_true rfl) ?_
 have tj := ha.len; have uR := hb.len; have nq : cD a.length = cD w := by rw [tj]
 have K7 : cD a.length ≤ 6 := kN om
 have T6 : cD a.length ≤ a.length := Ae
 refine ab.sr ?_
 refine .an ?_
 refine aa.nil (ab.sr ?_)
 refine .mv ?_
 refine .vl (Y.qw (n := a.length) a7 rfl (congrArg some (List.length_map ..))) ?_
 refine .an ?_
 refine aa.nil (ab.sr ?_)
 refine .mv ?_
 refine aa.aR uh (tc (n := a.length) om) rfl (.ao rfl rfl .nil) ag rfl ?_
 refine .an ?_
 refine aa.nil (ab.sr ?_)
 refine .an ?_
 refine aa.nil ?_
 refine ab.m5 (fun (da : Int) (kV : List Gate) => ⟨[(0, .ptr 0 0 0 0), (1, .fz 1 (a.map al)), (2, .fz 1 (b.map al)), (3, .v (.bool left)), (4, .v (.bool ar)), (11, .v (.int .i64 (a.length : Int))), (12, .v (.int .i64 ((cD a.length : Nat) : Int))), (13, .v (.int .i64 da))], [(0, .cells [.aY 1 3 0 kV.length]), (1, .rows 3 (kV.map Gate.row))]⟩) (fun (da : Int) (kV : List Gate) => Ext gl kV ∧ kV.length ≤ gl.length + 1 ∧ Wr c kV da (fun ins => ar && (A ins).msb) t) ?_ (fun da kV Ku => ?_)
 refine ab.sr ?_
 refine .mv ?_
 refine aa.nil ?_
 refine ab.cond rfl (fun nt => ?_) (fun nt => ?_)
 refine ab.region ?_
 refine .mv ?_
 refine .mv ?_
 refine .vl (Y.wd rfl rfl aB) ?_
 refine .vl (Y.qr (m := ((a.length : Int) - 1).toNat) a7 rfl rfl om (aq (d := 0) om)) ?_
 refine .ld bg ?_
 refine .an ?_
 refine aa.nil ?_
 exact ⟨a.getD (((a.length : Int) - 1).toNat) 0, gl, ⟨.refl hg, om, by rw [show ((a.length : Int) - 1).toNat = w - 1 by omega]; exact (ha.msb om).as fun ins => by simp [nt]⟩, Le.mk (.c (.c (.c (.c (.c (.c (.c (.cons (ai rfl aZ) (.nil))))))))) (.cons (aJ rfl jf) (.c (.nil)))⟩
 refine ab.region ?_
 refine .mv ?_
 refine aa.br [0, 1] [] AI (eV (gl := gl) aB) rfl (.named rfl rfl .nil) ⟨rfl, rfl, trivial⟩ rfl ag (fun _ h => by cases h) (fun _ h => by cases h) ag ag ?_
 rintro r aE ⟨rfl, rfl⟩ _
 refine ⟨⟨rfl, (by intro ob aS; simp only [List.mem_cons, List.not_mem_nil, or_false] at aS; rcases aS with rfl | rfl <;> rfl), .inl rfl⟩, ?_⟩
 refine .an ?_
 refine aa.nil ?_
 exact ⟨(gl.length : Int), gl ++ [(⟨1, 0, 0⟩ : Gate)], ⟨Ext.L1 hg ag, by simp, (Wr.zero ht).as fun ins => by simp [nt]⟩, Le.mk (.c (.c (.c (.c (.c (.c (.c (.cons (ai rfl aZ) (.nil))))))))) (.cons (aJ rfl jf) (.c (.nil)))⟩
 refine ab.seq ?_
 obtain ⟨hE, P6, hF⟩ := Ku; have Sk := hE.dM
 refine ab.region ?_
 refine .mv ?_
 refine .an ?_
 refine aa.nil (ab.seq (ab.sr ?_))
 refine .mv ?_
 refine .mv ?_
 refine aa.nil (ab.block ?_)
 refine ab.eP (fun (dZ : List Int) (dq : Nat) (j2 : List Gate) => ⟨[(0, .ptr 0 0 0 0), (2, .fz 1 (b.map al)), (3, .v (.bool left)), (4, .v (.bool ar)), (11, .v (.int .i64 (a.length : Int))), (12, .v (.int .i64 ((cD a.length : Nat) : Int))), (13, .v (.int .i64 da)), (14, .fz 1 (dZ.map al)), (39, .v (.int .i64 ((cD a.length : Nat) : Int))), (40, .v (.int .i64 (dq : Int)))], [(0, .cells [.aY 1 3 0 j2.length]), (1, .rows 3 (j2.map Gate.row))]⟩) (fun (dZ : List Int) (dq : Nat) (j2 : List Gate) => ((dq : Int) ≤ ((cD a.length : Nat) : Int)) ∧ (CB c kV left w A B (fun ins => ar && (A ins).msb) t j2 dZ dq)) (fun (dZ : List Int) (dq : Nat) (j2 : List Gate) => (((cD a.length : Nat) : Int) - (dq : Int)).toNat) a 0 kV (⟨om, CB.init Sk (ha.ext hE)⟩) (Le.mk (.c (.c (.c (.c (.c (.c (.c (.c (.c (.cons (ai rfl aZ) (.nil))))))))))) (.cons (aJ rfl jf) (.c (.nil)))) (fun dZ dq j2 Sl => ?_)
 obtain ⟨T7, hS⟩ := Sl
 refine ab.sr (.vl (Y.zb rfl rfl) (aa.nil ?_))
 refine ab.seq ?_
 refine ab.ay rfl (fun Dl => ?_) (fun Dl => ?_)
 refine ab.skip (ab.seq (ab.block ?_))
 refine ab.sr ?_
 refine .mv ?_
 refine .an ?_
 refine aa.nil (ab.seq ?_)
 have Px := hS.len; have Sm := hS.xl; have So : (3 * w + 1) * dq ≤ 193 * 6 := Nat.mul_le_mul om om; have T8 := Ft (k := dq) om; have NL := ((hb.bit dq om).ext hE).ext hS.ext; have eN := Ext.not hS.ext.dM NL; have nN := NL.not (u := t + 10) (Int.le_refl _)
 refine ab.region ?_
 refine .mv ?_
 refine .mv ?_
 refine .vl (Y.qr (m := dq) a7 rfl rfl aZ (aq (d := 0) om)) ?_
 refine .ld bg ?_
 refine .an ?_
 refine aa.nil (ab.sr ?_)
 refine .mv ?_
 refine .mv ?_
 refine aa.br [0, 1] [] sO (gH (gl := j2) (a := b.getD dq 0) om) rfl (.named rfl rfl (.ao rfl rfl .nil)) ⟨rfl, rfl, trivial⟩ rfl ag (fun _ h => by cases h) (fun _ h => by cases h) ag ag ?_
 rintro r aE ⟨rfl, rfl⟩ _
 refine ⟨⟨rfl, (by intro ob aS; simp only [List.mem_cons, List.not_mem_nil, or_false] at aS; rcases aS with rfl | rfl <;> rfl), .inl rfl⟩, ?_⟩
 refine .an ?_
 refine aa.nil (ab.sr ?_)
 refine .an ?_
 refine aa.sh (Sh.nil (d := 18) 118 1 rfl ag) (aa.nil (ab.seq ?_))
 refine ab.sr ?_
 refine .mv ?_
 refine .vl (Y.qw (n := dZ.length) a7 rfl (congrArg some (List.length_map ..))) ?_
 refine .mv ?_
 refine aa.nil (ab.block ?_)
 refine ab.eP (fun (ew : Nat) (fw : List Gate) (dc : List Int) => ⟨[(0, .ptr 0 0 0 0), (2, .fz 1 (b.map al)), (3, .v (.bool left)), (4, .v (.bool ar)), (11, .v (.int .i64 (a.length : Int))), (12, .v (.int .i64 ((cD a.length : Nat) : Int))), (13, .v (.int .i64 da)), (14, .fz 1 (dZ.map al)), (15, .v (.int .i64 (dq : Int))), (16, .v (.int .i64 (b.getD dq 0))), (17, .v (.int .i64 (j2.length : Int))), (18, .aY 118 1 0 dc.length), (39, .v (.int .i64 ((cD a.length : Nat) : Int))), (40, .v (.int .i64 (dq : Int))), (51, .v (.int .i64 (dZ.length : Int))), (52, .v (.int .i64 (ew : Int)))], [(0, .cells [.aY 1 3 0 fw.length]), (1, .rows 3 (fw.map Gate.row)), (118, .rows 1 (dc.map al))]⟩) (fun (ew : Nat) (fw : List Gate) (dc : List Int) => ((ew : Int) ≤ (dZ.length : Int)) ∧ (BG c (j2 ++ [(⟨4, b.getD dq 0, 0⟩ : Gate)]) fw dc (Kr left w A B (fun ins => ar && (A ins).msb) dq) (t + 10 + 40 * ((dq : Int) + 1)) ew)) (fun (ew : Nat) (fw : List Gate) (dc : List Int) => ((dZ.length : Int) - (ew : Int)).toNat) 0 (j2 ++ [(⟨4, b.getD dq 0, 0⟩ : Gate)]) ([] : List Int) (⟨ni, BG.init eN.dM⟩) (Le.mk (.c (.c (.c (.c (.c (.c (.c (.c (.c (.c (.c (.cons (a8 rfl aB) (.c (.c (.c (.cons (ai rfl aZ) (.nil))))))))))))))))) (.cons (aJ rfl jf) (.c (.c (.nil))))) (fun ew fw dc NM => ?_)
 obtain ⟨Sp, hM⟩ := NM
 refine ab.sr (.vl (Y.zb rfl rfl) (aa.nil ?_))
 refine ab.seq ?_
 refine ab.ay rfl (fun MF => ?_) (fun MF => ?_)
 refine ab.skip (ab.seq (ab.block ?_))
 refine ab.seq ?_
 have JS := hM.len; have P7 := hM.ol; have T9 := eN.len; rw [List.length_append, List.length_singleton] at JS
 refine ab.region ?_
 refine .mv ?_
 refine .an ?_
 refine aa.nil (ab.sr ?_)
 refine .mv ?_
 refine .mv ?_
 refine .vl (Y.zw rfl rfl om (xc (k := dq) om)) ?_
 refine .vl (Y.qb rfl rfl aB) ?_
 refine .an ?_
 refine aa.nil ?_
 refine ab.gO (fun (ef : Int) => ⟨[(0, .ptr 0 0 0 0), (2, .fz 1 (b.map al)), (3, .v (.bool left)), (4, .v (.bool ar)), (11, .v (.int .i64 (a.length : Int))), (12, .v (.int .i64 ((cD a.length : Nat) : Int))), (13, .v (.int .i64 da)), (14, .fz 1 (dZ.map al)), (15, .v (.int .i64 (dq : Int))), (16, .v (.int .i64 (b.getD dq 0))), (17, .v (.int .i64 (j2.length : Int))), (18, .aY 118 1 0 dc.length), (19, .v (.int .i64 (ew : Int))), (20, .v (.int .i64 ef)), (39, .v (.int .i64 ((cD a.length : Nat) : Int))), (40, .v (.int .i64 (dq : Int))), (51, .v (.int .i64 (dZ.length : Int))), (52, .v (.int .i64 (ew : Int)))], [(0, .cells [.aY 1 3 0 fw.length]), (1, .rows 3 (fw.map Gate.row)), (118, .rows 1 (dc.map al))]⟩) (fun (ef : Int) => ef = Iq left dq ew) ?_ (fun ef Gj => ?_)
 refine ab.sr ?_
 refine .mv ?_
 refine aa.nil ?_
 refine ab.cond rfl (fun td => ?_) (fun td => ?_)
 refine ab.region ?_
 refine .mv ?_
 refine .mv ?_
 refine .vl (Y.zw rfl rfl om (xc (k := dq) om)) ?_
 refine .vl (Y.wd rfl rfl aB) ?_
 refine .an ?_
 refine aa.nil ?_
 exact ⟨(ew : Int) - ((p2 dq : Nat) : Int), by unfold Iq p2; simp [td], Le.mk (.c (.c (.c (.c (.c (.c (.c (.c (.c (.c (.c (.c (.c (.cons (ai rfl aZ) (.c (.c (.c (.c (.nil))))))))))))))))))) (.c (.c (.c (.nil))))⟩
 refine ab.skip ?_
 exact ⟨(ew : Int) + ((p2 dq : Nat) : Int), by unfold Iq p2; simp [td], Le.mk (.c (.c (.c (.c (.c (.c (.c (.c (.c (.c (.c (.c (.c (.cons (ai rfl aZ) (.c (.c (.c (.c (.nil))))))))))))))))))) (.c (.c (.c (.nil))))⟩
 refine ab.sr ?_
 refine .mv ?_
 refine .an ?_
 refine aa.nil ?_
 refine ab.gO (fun (kW : Int) => ⟨[(0, .ptr 0 0 0 0), (2, .fz 1 (b.map al)), (3, .v (.bool left)), (4, .v (.bool ar)), (11, .v (.int .i64 (a.length : Int))), (12, .v (.int .i64 ((cD a.length : Nat) : Int))), (13, .v (.int .i64 da)), (14, .fz 1 (dZ.map al)), (15, .v (.int .i64 (dq : Int))), (16, .v (.int .i64 (b.getD dq 0))), (17, .v (.int .i64 (j2.length : Int))), (18, .aY 118 1 0 dc.length), (19, .v (.int .i64 (ew : Int))), (21, .v (.int .i64 kW)), (39, .v (.int .i64 ((cD a.length : Nat) : Int))), (40, .v (.int .i64 (dq : Int))), (51, .v (.int .i64 (dZ.length : Int))), (52, .v (.int .i64 (ew : Int)))], [(0, .cells [.aY 1 3 0 fw.length]), (1, .rows 3 (fw.map Gate.row)), (118, .rows 1 (dc.map al))]⟩) (fun (kW : Int) => kW = (if 0 ≤ ef ∧ ef < (a.length : Int) then dZ.getD ef.toNat 0 else da)) ?_ (fun kW NN => ?_)
 refine ab.sr ?_
 refine .mv ?_
 refine .vl (Y.qp rfl rfl) ?_
 refine .mv ?_
 refine aa.ax (d := 67) rfl (fun MI => ?_) (fun MI => ?_)
 refine .gw 67 (Y.zf rfl rfl) (.gw 67 (Y.zf rfl rfl) (.gw 67 (Y.zb rfl rfl) ?_))
 refine .pk ?_
 refine aa.nil ?_
 refine ab.ay rfl (fun Sq => ?_) (fun Sq => ?_)
 refine ab.region ?_
 refine .mv ?_
 refine .mv ?_
 refine .vl (Y.qr (m := (ef).toNat) a7 rfl rfl om (aq (d := 0) om)) ?_
 refine .ld bg ?_
 refine .an ?_
 refine aa.nil ?_
 exact ⟨dZ.getD ((ef).toNat) 0, by grind, Le.mk (.c (.c (.c (.c (.c (.c (.c (.c (.c (.c (.c (.c (.c (.cons (ai rfl aZ) (.c (.c (.c (.c (.nil))))))))))))))))))) (.c (.c (.c (.nil))))⟩
 refine ab.skip ?_
 exact ⟨da, by grind, Le.mk (.c (.c (.c (.c (.c (.c (.c (.c (.c (.c (.c (.c (.c (.cons (ai rfl aZ) (.c (.c (.c (.c (.nil))))))))))))))))))) (.c (.c (.c (.nil))))⟩
 refine .gz 67 (.gz 67 (.gz 67 ?_))
 refine .pk ?_
 refine aa.nil (ab.cj rfl (ab.skip ?_))
 exact ⟨da, by grind, Le.mk (.c (.c (.c (.c (.c (.c (.c (.c (.c (.c (.c (.c (.c (.cons (ai rfl aZ) (.c (.c (.c (.c (.nil))))))))))))))))))) (.c (.c (.c (.nil))))⟩
 have Sr := (hS.pick hF (i := ew) (y := kW) om ef Gj (by rw [NN, tj])).ext eN; have Ss := (hS.ws.bit ew om).ext eN
 refine ab.region ?_
 refine .mv ?_
 refine .mv ?_
 refine .mv ?_
 refine .mv ?_
 refine .mv ?_
 refine .mv ?_
 refine .mv ?_
 refine .vl (Y.qr (m := ew) a7 rfl rfl aZ (aq (d := 0) om)) ?_
 refine .ld bg ?_
 refine aa.br [0, 1] [] FW (choose_spec (gl := fw) (s := b.getD dq 0) (v := (j2.length : Int)) (y := kW) (n := dZ.getD ew 0) om) rfl (.named rfl rfl (.ao rfl rfl (.ao rfl rfl (.ao rfl rfl (.ao rfl rfl .nil))))) ⟨rfl, rfl, trivial⟩ rfl ag (fun _ h => by cases h) (fun _ h => by cases h) ag ag ?_
 rintro r aE ⟨rfl, rfl⟩ _
 refine ⟨⟨rfl, (by intro ob aS; simp only [List.mem_cons, List.not_mem_nil, or_false] at aS; rcases aS with rfl | rfl <;> rfl), .inl rfl⟩, ?_⟩
 refine aa.buildSlice (([((fw.length : Int) + 2)] : List Int).map al) a7 er rfl rfl rfl rfl rfl (az (s := 1) (f := al) (fun _ => rfl)) rfl rfl rfl ag ?_
 refine aa.bx ((dc ++ ([((fw.length : Int) + 2)] : List Int)).map al) (dc ++ ([((fw.length : Int) + 2)] : List Int)).length a7 er rfl rfl rfl rfl (b8 aB) (bm aB) (cb aB) aB aB ag ag ?_
 refine .an ?_
 refine aa.nil (ab.region ?_)
 refine .vl (Y.qb rfl rfl aB) ?_
 refine .mv ?_
 refine aa.nil ?_
 exact ⟨ew + 1, v7 fw (b.getD dq 0) (j2.length : Int) kW (dZ.getD ew 0), dc ++ ([((fw.length : Int) + 2)] : List Int), ⟨om, hM.step (NL.ext eN) nN Sr Ss om om om om (fun ins => Fm om ins)⟩, om, Le.mk (.c (.c (.c (.c (.c (.c (.c (.c (.c (.c (.c (.cons (a8 rfl om) (.c (.c (.c (.cons (ai rfl aZ) (.nil))))))))))))))))) (.cons (aJ rfl jf) (.c (.c (.nil))))⟩
 refine ab.exit ?_
 refine ab.sh (Sh.cK (d := 18) (o := 118) rfl rfl (bn om) ag) ?_
 refine ab.sh (Sh.bB (d := 18) (dc.map al) rfl iW (cp.map bf)) (ab.region ?_)
 refine .mv ?_
 refine .an ?_
 refine aa.nil (ab.region ?_)
 refine .vl (Y.qb rfl rfl aB) ?_
 refine .mv ?_
 refine aa.nil ?_
 exact ⟨dc, dq + 1, fw, ⟨om, hS.pass eN hM om⟩, om, Le.mk (.c (.c (.c (.c (.c (.c (.c (.c (.c (.cons (ai rfl aZ) (.nil))))))))))) (.cons (aJ rfl jf) (.c (.nil)))⟩
 refine ab.exit (ab.seq ?_)
 have Px := hS.len; have Sm := hS.xl; have DG : dq = cD w := om; rw [DG] at hS; have So : (3 * w + 1) * dq ≤ 193 * 6 := Nat.mul_le_mul om om; have Ph := (hb.ext hE).ext hS.ext; have Ny := hS.ext.dM
 refine ab.region ?_
 refine .mv ?_
 refine .mv ?_
 refine .mv ?_
 refine .vl (Y.zz (l := cD a.length) (h := (b.map al).length) a7 rfl (.some rfl) (.none _) aB aB (by rw [List.take_length, ← List.map_drop])) ?_
 refine aa.br [0, 1] [] Ej (u0 (gl := j2) Ny aB (a := b.drop (cD a.length)) (Fo Ph (cD a.length) om) aB aB) rfl (.named rfl rfl (.ao rfl rfl .nil)) ⟨rfl, rfl, trivial⟩ rfl ag (fun _ h => by cases h) (fun _ h => by cases h) ag ag ?_
 rintro r aE ⟨BM, Ez, Br, JT, NO, rfl, rfl⟩ _
 refine ⟨⟨rfl, (by intro ob aS; simp only [List.mem_cons, List.not_mem_nil, or_false] at aS; rcases aS with rfl | rfl <;> rfl), .inl rfl⟩, ?_⟩
 refine .an ?_
 refine aa.nil (ab.seq ?_)
 have hv := NO.as (f' := vA B) (fun ins => by unfold vA; rw [List.length_drop, uR, nq]); have eF := Ext.not Br.dM hv; have nF := hv.not (u := t + 10 + 20 * (cD w : Int)) (by have := lH (show (b.drop (cD a.length)).length ≤ w by rw [List.length_drop]; omega); omega); have KF := lH (show (b.drop (cD a.length)).length ≤ w by rw [List.length_drop]; omega); have NP := JT; rw [List.length_drop] at NP
 refine ab.region ?_
 refine .mv ?_
 refine .mv ?_
 refine aa.br [0, 1] [] sO (gH (gl := BM) (a := Ez) aB) rfl (.named rfl rfl (.ao rfl rfl .nil)) ⟨rfl, rfl, trivial⟩ rfl ag (fun _ h => by cases h) (fun _ h => by cases h) ag ag ?_
 rintro r aE ⟨rfl, rfl⟩ _
 refine ⟨⟨rfl, (by intro ob aS; simp only [List.mem_cons, List.not_mem_nil, or_false] at aS; rcases aS with rfl | rfl <;> rfl), .inl rfl⟩, ?_⟩
 refine .an ?_
 refine aa.nil (ab.sr ?_)
 refine .an ?_
 refine aa.sh (Sh.nil (d := 24) 124 1 rfl ag) (aa.nil (ab.seq ?_))
 refine ab.sr ?_
 refine .mv ?_
 refine .vl (Y.qw (n := dZ.length) a7 rfl (congrArg some (List.length_map ..))) ?_
 refine .mv ?_
 refine aa.nil (ab.block ?_)
 refine ab.eP (fun (dS : Nat) (eY : List Gate) (eU : List Int) => ⟨[(0, .ptr 0 0 0 0), (4, .v (.bool ar)), (13, .v (.int .i64 da)), (14, .fz 1 (dZ.map al)), (22, .v (.int .i64 Ez)), (23, .v (.int .i64 (BM.length : Int))), (24, .aY 124 1 0 eU.length), (100, .v (.int .i64 (dZ.length : Int))), (101, .v (.int .i64 (dS : Int)))], [(0, .cells [.aY 1 3 0 eY.length]), (1, .rows 3 (eY.map Gate.row)), (124, .rows 1 (eU.map al))]⟩) (fun (dS : Nat) (eY : List Gate) (eU : List Int) => ((dS : Int) ≤ (dZ.length : Int)) ∧ (Ad c (BM ++ [(⟨4, Ez, 0⟩ : Gate)]) eY eU (tX left ar w A B) (t + (if ar then 50 else 30) + 40 * (cD w : Int)) dS)) (fun (dS : Nat) (eY : List Gate) (eU : List Int) => ((dZ.length : Int) - (dS : Int)).toNat) 0 (BM ++ [(⟨4, Ez, 0⟩ : Gate)]) ([] : List Int) (⟨ni, Ad.init eF.dM⟩) (Le.mk (.c (.c (.c (.c (.c (.c (.cons (a8 rfl aB) (.c (.cons (ai rfl aZ) (.nil)))))))))) (.cons (aJ rfl jf) (.c (.c (.nil))))) (fun dS eY eU NQ => ?_)
 obtain ⟨Su, hM⟩ := NQ
 refine ab.sr (.vl (Y.zb rfl rfl) (aa.nil ?_))
 refine ab.seq ?_
 refine ab.ay rfl (fun NR => ?_) (fun NR => ?_)
 refine ab.skip ?_
 refine ab.m5 (fun (mq : List Gate) (jk : List Int) => ⟨[(0, .ptr 0 0 0 0), (4, .v (.bool ar)), (13, .v (.int .i64 da)), (14, .fz 1 (dZ.map al)), (22, .v (.int .i64 Ez)), (23, .v (.int .i64 (BM.length : Int))), (24, .aY 124 1 0 jk.length), (100, .v (.int .i64 (dZ.length : Int))), (101, .v (.int .i64 (dS : Int)))], [(0, .cells [.aY 1 3 0 mq.length]), (1, .rows 3 (mq.map Gate.row)), (124, .rows 1 (jk.map al))]⟩) (fun (mq : List Gate) (jk : List Int) => Ad c (BM ++ [(⟨4, Ez, 0⟩ : Gate)]) mq jk (tX left ar w A B) (t + (if ar then 50 else 30) + 40 * (cD w : Int)) (dS + 1)) ?_ (fun mq jk Dp => ?_)
 refine ab.block (ab.sr ?_)
 refine .mv ?_
 refine .an ?_
 refine aa.nil (ab.seq ?_)
 have JS := hM.len; have P7 := hM.ol; rw [List.length_append, List.length_singleton] at JS
 refine ab.region ?_
 refine .mv ?_
 refine aa.nil ?_
 refine ab.cond rfl (fun lO => ?_) (fun lO => ?_)
 refine ab.region ?_
 refine .mv ?_
 refine .mv ?_
 refine .mv ?_
 refine .mv ?_
 refine .mv ?_
 refine .mv ?_
 refine .mv ?_
 refine .vl (Y.qr (m := dS) a7 rfl rfl aZ (aq (d := 0) om)) ?_
 refine .ld bg ?_
 refine aa.br [0, 1] [] FW (choose_spec (gl := eY) (s := Ez) (v := (BM.length : Int)) (y := da) (n := dZ.getD dS 0) om) rfl (.named rfl rfl (.ao rfl rfl (.ao rfl rfl (.ao rfl rfl (.ao rfl rfl .nil))))) ⟨rfl, rfl, trivial⟩ rfl ag (fun _ h => by cases h) (fun _ h => by cases h) ag ag ?_
 rintro r aE ⟨rfl, rfl⟩ _
 refine ⟨⟨rfl, (by intro ob aS; simp only [List.mem_cons, List.not_mem_nil, or_false] at aS; rcases aS with rfl | rfl <;> rfl), .inl rfl⟩, ?_⟩
 refine aa.buildSlice (([((eY.length : Int) + 2)] : List Int).map al) a7 er rfl rfl rfl rfl rfl (az (s := 1) (f := al) (fun _ => rfl)) rfl rfl rfl ag ?_
 refine aa.bx ((eU ++ ([((eY.length : Int) + 2)] : List Int)).map al) (eU ++ ([((eY.length : Int) + 2)] : List Int)).length a7 er rfl rfl rfl rfl (b8 aB) (bm aB) (cb aB) aB aB ag ag ?_
 refine .an ?_
 refine aa.nil ?_
 exact ⟨v7 eY Ez (BM.length : Int) da (dZ.getD dS 0), eU ++ ([((eY.length : Int) + 2)] : List Int), hM.choose (hv.ext eF) nF (((hF.ext hS.ext).ext Br).ext eF) (((hS.ws.bit dS om).ext Br).ext eF) (by rw [if_pos lO]; omega) (by rw [if_pos lO]; omega) (by rw [if_pos lO]; omega) (by rw [if_pos lO]; omega) (fun ins => by simp [tX, lO]), Le.mk (.c (.c (.c (.c (.c (.c (.cons (a8 rfl om) (.c (.c (.nil)))))))))) (.cons (aJ rfl jf) (.c (.c (.nil))))⟩
 refine ab.region ?_
 refine .mv ?_
 refine .mv ?_
 refine .mv ?_
 refine .mv ?_
 refine .mv ?_
 refine .vl (Y.qr (m := dS) a7 rfl rfl aZ (aq (d := 0) om)) ?_
 refine .ld bg ?_
 refine aa.br [0, 1] [] rA (fZ (gl := eY) (a := (BM.length : Int)) (b := dZ.getD dS 0) om) rfl (.named rfl rfl (.ao rfl rfl (.ao rfl rfl .nil))) ⟨rfl, rfl, trivial⟩ rfl ag (fun _ h => by cases h) (fun _ h => by cases h) ag ag ?_
 rintro r aE ⟨rfl, rfl⟩ _
 refine ⟨⟨rfl, (by intro ob aS; simp only [List.mem_cons, List.not_mem_nil, or_false] at aS; rcases aS with rfl | rfl <;> rfl), .inl rfl⟩, ?_⟩
 refine aa.buildSlice (([(eY.length : Int)] : List Int).map al) a7 er rfl rfl rfl rfl rfl (az (s := 1) (f := al) (fun _ => rfl)) rfl rfl rfl ag ?_
 refine aa.bx ((eU ++ ([(eY.length : Int)] : List Int)).map al) (eU ++ ([(eY.length : Int)] : List Int)).length a7 er rfl rfl rfl rfl (b8 aB) (bm aB) (cb aB) aB aB ag ag ?_
 refine .an ?_
 refine aa.nil ?_
 exact ⟨eY ++ [(⟨5, (BM.length : Int), dZ.getD dS 0⟩ : Gate)], eU ++ ([(eY.length : Int)] : List Int), hM.and nF (((hS.ws.bit dS om).ext Br).ext eF) (by rw [if_neg (by simp [lO])]; omega) (by rw [if_neg (by simp [lO])]; omega) (fun ins => by simp [tX, lO]), Le.mk (.c (.c (.c (.c (.c (.c (.cons (a8 rfl om) (.c (.c (.nil)))))))))) (.cons (aJ rfl jf) (.c (.c (.nil))))⟩
 refine ab.region ?_
 refine .vl (Y.qb rfl rfl aB) ?_
 refine .mv ?_
 refine aa.nil ?_
 exact ⟨dS + 1, mq, jk, ⟨om, Dp⟩, om, Le.mk (.c (.c (.c (.c (.c (.c (.cons (a8 rfl om) (.c (.cons (ai rfl aZ) (.nil)))))))))) (.cons (aJ rfl jf) (.c (.c (.nil))))⟩
 refine ab.exit (ab.sr ?_)
 refine .mv ?_
 refine .an ?_
 refine aa.sh (Sh.cK (d := 10) (o := 124) rfl rfl (bn om) ag) ?_
 refine aa.nil (ab.ret ?_)
 exact ⟨_, _, rfl, rfl, _, _, hE.trans (hS.ext.trans (Br.trans (eF.trans hM.ext))), by have := hM.len; rw [List.length_append, List.length_singleton] at this; omega, vB LC (by have := hM.ol; omega) hM.ws, rfl, rfl⟩
open Go Go.AW Go.Proofs
set_option maxRecDepth 4000 in
set_option maxHeartbeats 1000000 in
theorem u6 {c : Int} {gl : List Gate} (hg : Good gl) (pD : gl.length ≤ 40000000) {w n : Nat} {sg : Bool} {t : Int} {a : List Int} {A : List Bool → BitVec w} (ha : Wd c gl a w A t) (hw : 1 ≤ w ∧ w ≤ 64) (hn : 1 ≤ n ∧ n ≤ 64) (ht : 0 ≤ t) : ak Try.prog 132 [.ptr 0 0 0 0, .fz 1 (a.map al), .v (.int .i64 (n : Int)), .v (.bool sg)] [.cells [.aY 1 3 0 gl.length], .rows 3 (gl.map Gate.row)] [0] (fun r o => ∃ (l : List Gate) (out : List Int), Ext gl l ∧ l.length ≤ gl.length + 1 ∧ Wd c l out n (fun ins => sA sg n (A ins)) t ∧ r = .cX 1 (out.map al) ∧ o = [.cells [.aY 1 3 0 l.length], .rows 3 (l.map Gate.row)]) := by
 refine ak.of Try.func132 rfl rfl rfl (n := 40) ag (Nat.le_of_ble_eq_true rfl) ?_
 have tj := ha.len
 refine ab.sr ?_
 refine .an ?_
 refine aa.nil (ab.seq (ab.sr ?_))
 refine .mv ?_
 refine .mv ?_
 refine .vl (Y.qw (n := a.length) a7 rfl (congrArg some (List.length_map ..))) (.vl (Y.qy rfl rfl) (aa.nil ?_))
 refine ab.ay rfl (fun xZ => ?_) (fun xZ => ?_)
 refine ab.sr ?_
 refine .mv ?_
 refine .mv ?_
 refine .vl (Y.zz (l := 0) (h := n) a7 rfl (.none _) (.some rfl) aB aB (by rw [List.drop_zero, ← List.map_take])) ?_
 refine aa.aR Az (jW (l := (a.take n)) (by rw [List.length_take]; omega)) rfl (.ao rfl rfl .nil) ag rfl (aa.bd rfl ag (aa.nil ?_))
 refine ab.ret ?_
 exact ⟨_, _, rfl, rfl, _, _, .refl hg, om, CF ha om, rfl, rfl⟩
 refine ab.skip (ab.sr ?_)
 refine .mv ?_
 refine .mv ?_
 refine .vl (Y.qw (n := a.length) a7 rfl (congrArg some (List.length_map ..))) ?_
 refine .vl (Y.wd rfl rfl aB) ?_
 refine .vl (Y.qr (m := ((a.length : Int) - 1).toNat) a7 rfl rfl om (aq (d := 0) om)) ?_
 refine .ld bg ?_
 refine .an ?_
 refine aa.nil ?_
 refine ab.m5 (fun (gI : Int) (jX : List Gate) => ⟨[(1, .fz 1 (a.map al)), (2, .v (.int .i64 (n : Int))), (9, .v (.int .i64 gI))], [(0, .cells [.aY 1 3 0 jX.length]), (1, .rows 3 (jX.map Gate.row))]⟩) (fun (gI : Int) (jX : List Gate) => Ext gl jX ∧ jX.length ≤ gl.length + 1 ∧ Wr c jX gI (fun ins => sg && (A ins).msb) t) ?_ (fun gI jX Sv => ?_)
 refine ab.sr ?_
 refine .mv ?_
 refine .vl (Y.zo rfl) (aa.nil ?_)
 refine ab.cond rfl (fun yb => ?_) (fun yb => ?_)
 replace yb : sg = false := by simpa using yb
 refine ab.region ?_
 refine .mv ?_
 refine aa.br [0, 1] [] AI (eV (gl := gl) aB) rfl (.named rfl rfl .nil) ⟨rfl, rfl, trivial⟩ rfl ag (fun _ h => by cases h) (fun _ h => by cases h) ag ag ?_
 rintro r aE ⟨rfl, rfl⟩ _
 refine ⟨⟨rfl, (by intro ob aS; simp only [List.mem_cons, List.not_mem_nil, or_false] at aS; rcases aS with rfl | rfl <;> rfl), .inl rfl⟩, ?_⟩
 refine .an ?_
 refine aa.nil ?_
 exact ⟨(gl.length : Int), gl ++ [(⟨1, 0, 0⟩ : Gate)], ⟨Ext.L1 hg ag, by simp, (Wr.zero ht).as fun ins => by simp [yb]⟩, Le.mk (.c (.c (.cons (ai rfl aZ) (.nil)))) (.cons (aJ rfl jf) (.c (.nil)))⟩
 replace yb : sg = true := by simpa using yb
 refine ab.skip ?_
 exact ⟨a.getD (((a.length : Int) - 1).toNat) 0, gl, ⟨.refl hg, om, by rw [show ((a.length : Int) - 1).toNat = w - 1 by omega]; exact (ha.msb om).as fun ins => by simp [yb]⟩, Le.mk (.c (.c (.cons (ai rfl aZ) (.nil)))) (.cons (aJ rfl jf) (.c (.nil)))⟩
 refine ab.seq ?_
 obtain ⟨hE, P6, hF⟩ := Sv
 refine ab.region ?_
 refine .mv ?_
 refine aa.aR Az (jW (l := a) om) rfl (.ao rfl rfl .nil) ag rfl (aa.bd rfl ag (aa.sh (Sh.gU (d := 10) (n := a.length) 110 (a.map al) rfl iW (bn rfl) ag) ?_))
 refine aa.nil (ab.seq (ab.block ?_))
 refine ab.jD (fun (fJ : List Int) => ⟨[(2, .v (.int .i64 (n : Int))), (9, .v (.int .i64 gI)), (10, .aY 110 1 0 fJ.length)], [(0, .cells [.aY 1 3 0 jX.length]), (1, .rows 3 (jX.map Gate.row)), (110, .rows 1 (fJ.map al))]⟩) (fun (fJ : List Int) => (w ≤ fJ.length ∧ fJ.length ≤ n ∧ Ws c jX fJ (tY sg A) t)) (fun (fJ : List Int) => n - fJ.length) a (⟨om, om, Af (ha.ext hE)⟩) (Le.mk (.c (.c (.cons (a8 rfl om) (.nil)))) (.c (.c (.c (.nil))))) (fun fJ Jm => ?_)
 have hO := Jm
 refine ab.seq (ab.sr ?_)
 refine .mv ?_
 refine .vl (Y.qw (n := fJ.length) a7 rfl rfl) ?_
 refine .mv ?_
 refine .vl (Y.zb rfl rfl) (aa.nil ?_)
 refine ab.ay rfl (fun GX => ?_) (fun GX => ?_)
 refine ab.skip (ab.block (ab.region ?_))
 refine .mv ?_
 refine .mv ?_
 refine aa.buildSlice (([gI] : List Int).map al) a7 er rfl rfl rfl rfl rfl (az (s := 1) (f := al) (fun _ => rfl)) rfl rfl rfl ag ?_
 refine aa.bx ((fJ ++ ([gI] : List Int)).map al) (fJ ++ ([gI] : List Int)).length a7 er rfl rfl rfl rfl (b8 aB) (bm aB) (cb aB) aB aB ag ag ?_
 refine .an ?_
 refine aa.nil ?_
 exact ⟨fJ ++ ([gI] : List Int), ⟨by rw [List.length_append, List.length_singleton]; omega, by rw [List.length_append, List.length_singleton]; omega, Ag hO.2.2 hO.1 hF⟩, by rw [List.length_append, List.length_singleton]; omega, Le.mk (.c (.c (.cons (a8 rfl om) (.nil)))) (.c (.c (.c (.nil))))⟩
 refine ab.exit (ab.sr ?_)
 refine .mv ?_
 refine .an ?_
 refine aa.sh (Sh.cK (d := 8) (o := 110) rfl rfl (bn om) ag) ?_
 refine aa.nil (ab.ret ?_)
 exact ⟨_, _, rfl, rfl, _, _, hE, P6, Ah hO.2.2 om om, rfl, rfl⟩
set_option maxRecDepth 4000 in
set_option maxHeartbeats 1000000 in
theorem u7 {gl : List Gate} (pD : gl.length ≤ 40000000) {n : Nat} (hn : n ≤ 64) : ak Try.prog 78 [.ptr 0 0 0 0, .v (.int .i64 (n : Int))] [.cells [.aY 1 3 0 gl.length], .rows 3 (gl.map Gate.row)] [0] (fun r o => r = .cX 1 ((np gl.length n).map al) ∧ o = [.cells [.aY 1 3 0 ((gl ++ od n).length)], .rows 3 ((gl ++ od n).map Gate.row)]) := by
 refine ak.of Try.func78 rfl rfl rfl (n := 16) ag (Nat.le_of_ble_eq_true rfl) (ab.sr ?_)
 refine .an ?_
 refine aa.nil (ab.sr ?_)
 refine .an ?_
 refine aa.sh (Sh.nil (d := 5) 105 1 rfl ag) (aa.nil (ab.seq ?_))
 refine ab.sr ?_
 refine .mv ?_
 refine .mv ?_
 refine aa.nil (ab.block ?_)
 refine ab.eP (fun (pq : Nat) (aK : List Gate) (aO : List Int) => ⟨[(0, .ptr 0 0 0 0), (5, .aY 105 1 0 aO.length), (6, .v (.int .i64 (n : Int))), (7, .v (.int .i64 (pq : Int)))], [(0, .cells [.aY 1 3 0 aK.length]), (1, .rows 3 (aK.map Gate.row)), (105, .rows 1 (aO.map al))]⟩) (fun (pq : Nat) (aK : List Gate) (aO : List Int) => ((pq : Int) ≤ (n : Int)) ∧ (aK = gl ++ od pq ∧ aO = np gl.length pq)) (fun (pq : Nat) (aK : List Gate) (aO : List Int) => ((n : Int) - (pq : Int)).toNat) 0 gl ([] : List Int) (⟨ni, ⟨by simp [od], rfl⟩⟩) (Le.mk (.c (.cons (a8 rfl aB) (.c (.cons (ai rfl aZ) (.nil))))) (.cons (aJ rfl jf) (.c (.c (.nil))))) (fun pq aK aO nW => ?_)
 obtain ⟨AL, hO⟩ := nW
 refine ab.sr (.vl (Y.zb rfl rfl) (aa.nil ?_))
 refine ab.seq ?_
 refine ab.ay rfl (fun c8 => ?_) (fun c8 => ?_)
 refine ab.skip (ab.seq (ab.block ?_))
 obtain ⟨AM, sT⟩ := hO; have mu : aK.length = gl.length + pq := (by rw [AM, List.length_append, jI]); have TA : aO.length = pq := (by rw [sT, jH])
 refine ab.region ?_
 refine .mv ?_
 refine .mv ?_
 refine aa.br [0, 1] [] qR (ie (gl := aK) (k := 3) (a := 0) (b := 0) om) rfl (.named rfl rfl (.ao rfl rfl (.ao rfl rfl (.ao rfl rfl .nil)))) ⟨rfl, rfl, trivial⟩ rfl ag (fun _ h => by cases h) (fun _ h => by cases h) ag ag ?_
 rintro r aE ⟨rfl, rfl⟩ _
 refine ⟨⟨rfl, (by intro ob aS; simp only [List.mem_cons, List.not_mem_nil, or_false] at aS; rcases aS with rfl | rfl <;> rfl), .inl rfl⟩, ?_⟩
 refine aa.buildSlice (([(aK.length : Int)] : List Int).map al) a7 er rfl rfl rfl rfl rfl (az (s := 1) (f := al) (fun _ => rfl)) rfl rfl rfl ag ?_
 refine aa.bx ((aO ++ ([(aK.length : Int)] : List Int)).map al) (aO ++ ([(aK.length : Int)] : List Int)).length a7 er rfl rfl rfl rfl (b8 aB) (bm aB) (cb aB) aB aB ag ag ?_
 refine .an ?_
 refine aa.nil (ab.region ?_)
 refine .vl (Y.qb rfl rfl aB) ?_
 refine .mv ?_
 refine aa.nil ?_
 exact ⟨pq + 1, aK ++ [(⟨3, 0, 0⟩ : Gate)], aO ++ ([(aK.length : Int)] : List Int), ⟨om, ⟨by rw [lI, AM, List.append_assoc], by rw [tZ, ← sT, mu]⟩⟩, om, Le.mk (.c (.cons (a8 rfl om) (.c (.cons (ai rfl aZ) (.nil))))) (.cons (aJ rfl jf) (.c (.c (.nil))))⟩
 refine ab.exit (ab.sr ?_)
 refine .mv ?_
 refine .an ?_
 refine aa.sh (Sh.cK (d := 4) (o := 105) rfl rfl (bn om) ag) ?_
 refine aa.nil (ab.ret ?_)
 obtain ⟨AM, sT⟩ := hO; obtain rfl : pq = n := om; exact ⟨_, _, rfl, rfl, (by rw [sT]; rfl), (by rw [AM]; rfl)⟩
open Go Go.AW Go.Proofs
set_option maxRecDepth 4000 in
set_option maxHeartbeats 1000000 in
theorem rE {c : Int} {gl : List Gate} (hg : Good gl) (pD : gl.length ≤ 20000000) {op : Int} {ws : List (List Int)} {w width : Nat} {xN yN zN : List Bool → Nat} {t : Int} (hI : Fv c gl ws op w width xN yN zN t) (uJ : ws.length ≤ 100) : ak Try.prog 79 [.ptr 0 0 0 0, .v (.int .i64 op), .fz 1 (ws.map iX), .v (.int .i64 (width : Int))] [.cells [.aY 1 3 0 gl.length], .rows 3 (gl.map Gate.row)] [0] (fun r o => ∃ (l : List Gate) (out : List Int), Ext gl l ∧ l.length ≤ gl.length + 1600 ∧ xT c l out op w width xN yN zN t ∧ r = .cX 1 (out.map al) ∧ o = [.cells [.aY 1 3 0 l.length], .rows 3 (l.map Gate.row)]) := by
 refine ak.of Try.func79 rfl rfl rfl (n := 149) ag (Nat.le_of_ble_eq_true rfl) ?_
 have hX := hI.x; have ov := hI.ok; have K0 := hI.hw; have J8 := hI.hd; have TB := hX.len
 refine ab.sr ?_
 refine .an ?_
 refine aa.nil (ab.sr ?_)
 refine .mv ?_
 refine .vl (Y.qr (m := 0) jy rfl rfl aZ (aq (d := []) aB)) ?_
 refine .ld dr ?_
 refine .an ?_
 refine aa.nil (ab.sr ?_)
 refine .an ?_
 refine aa.nil ?_
 refine ab.gO (fun (cR : List Int) => ⟨[(0, .ptr 0 0 0 0), (1, .v (.int .i64 op)), (2, .fz 1 (ws.map iX)), (3, .v (.int .i64 (width : Int))), (9, .fz 1 ((ws.getD 0 []).map al)), (10, .fz 1 (cR.map al))], [(0, .cells [.aY 1 3 0 gl.length]), (1, .rows 3 (gl.map Gate.row))]⟩) (fun (cR : List Int) => 1 < ws.length → cR = ws.getD 1 []) ?_ (fun cR Eo => ?_)
 refine ab.seq (ab.sh (Sh.KZ (d := 10) 1 rfl) (ab.region ?_))
 refine .mv ?_
 refine .vl (Y.qw (n := ws.length) jy rfl (congrArg some (List.length_map ..))) (.vl (Y.qq rfl rfl) (aa.nil ?_))
 refine ab.ay rfl (fun sP => ?_) (fun sP => ?_)
 refine ab.region ?_
 refine .mv ?_
 refine .vl (Y.qr (m := 1) jy rfl rfl aZ (aq (d := []) om)) ?_
 refine .ld dr ?_
 refine .an ?_
 refine aa.nil ?_
 exact ⟨ws.getD 1 [], fun _ => rfl, Le.mk (.c (.c (.c (.c (.c (.c (.nil))))))) (.c (.c (.nil)))⟩
 refine ab.skip ?_
 exact ⟨([] : List Int), fun h => absurd h om, Le.mk (.c (.c (.c (.c (.c (.c (.nil))))))) (.c (.c (.nil)))⟩
 refine ab.seq (ab.sr ?_)
 refine .mv ?_
 refine aa.nil (ab.block (ab.seq ?_))
 have nu : op < 21 → Wk c gl cR w yN t := fun h => (by rw [Eo om]; have := hI.y om; rwa [if_neg om] at this)
 have TC : op < 21 → cR.length = w := fun h => (nu h).len
 refine ab.region (.vl (Y.ql rfl rfl) ?_)
 refine .an ?_
 refine aa.nil ?_
 refine ab.ay rfl (fun yd => ?_) (fun yd => ?_)
 refine ab.sr ?_
 refine .mv ?_
 refine .mv ?_
 refine .mv ?_
 refine aa.br [0, 1] [] IU (Bf (gl := gl) (a := ws.getD 0 []) (b := cR) hg om hX.wd (nu om).wd hI.hw hI.t0) rfl (.named rfl rfl (.ao rfl rfl (.ao rfl rfl .nil))) ⟨rfl, rfl, trivial⟩ rfl ag (fun _ h => by cases h) (fun _ h => by cases h) ag ag ?_
 rintro r aE ⟨TD, P8, NS, P9, NT, rfl, rfl⟩ _
 refine ⟨⟨rfl, (by intro ob aS; simp only [List.mem_cons, List.not_mem_nil, or_false] at aS; rcases aS with rfl | rfl <;> rfl), .inl rfl⟩, ?_⟩
 refine aa.bd rfl ag (aa.nil (ab.ret ?_))
 exact ⟨_, _, rfl, rfl, _, _, NS, by have := hX.len; omega, CI NT om om, rfl, rfl⟩
 refine ab.sr (.vl (Y.ql rfl rfl) ?_)
 refine .an ?_
 refine aa.nil ?_
 refine ab.ay rfl (fun nt => ?_) (fun nt => ?_)
 refine ab.sr ?_
 refine .mv ?_
 refine .mv ?_
 refine .mv ?_
 refine aa.br [0, 1] [] IV (Bg (gl := gl) (a := ws.getD 0 []) (b := cR) hg om hX.wd (nu om).wd hI.hw hI.t0) rfl (.named rfl rfl (.ao rfl rfl (.ao rfl rfl .nil))) ⟨rfl, rfl, trivial⟩ rfl ag (fun _ h => by cases h) (fun _ h => by cases h) ag ag ?_
 rintro r aE ⟨TE, PA, NU, PC, NV, rfl, rfl⟩ _
 refine ⟨⟨rfl, (by intro ob aS; simp only [List.mem_cons, List.not_mem_nil, or_false] at aS; rcases aS with rfl | rfl <;> rfl), .inl rfl⟩, ?_⟩
 refine aa.bd rfl ag (aa.nil (ab.ret ?_))
 exact ⟨_, _, rfl, rfl, _, _, NU, by have := hX.len; omega, CJ NV om om, rfl, rfl⟩
 refine ab.sr (.vl (Y.ql rfl rfl) ?_)
 refine .an ?_
 refine aa.nil ?_
 refine ab.ay rfl (fun Gd => ?_) (fun Gd => ?_)
 refine ab.sr ?_
 refine .mv ?_
 refine .mv ?_
 refine .mv ?_
 refine aa.br [0, 1] [] AE (oK (gl := gl) (k := 5) (a := ws.getD 0 []) (b := cR) (f := fun k ins => (xN ins).testBit k) (h := fun k ins => (yN ins).testBit k) (e := fun i ins => (if (5 : Int) = 5 then xN ins &&& yN ins else if (5 : Int) = 6 then xN ins ||| yN ins else xN ins ^^^ yN ins).testBit i) (t := t) (u := t + 20) hg om ag hX.ws (nu om).ws (by have := hX.len; have := (nu om).len; omega) (by have := hX.len; omega) (Int.le_refl _) (fun i ins => by simp)) rfl (.named rfl rfl (.ao rfl rfl (.ao rfl rfl (.ao rfl rfl .nil)))) ⟨rfl, rfl, trivial⟩ rfl ag (fun _ h => by cases h) (fun _ h => by cases h) ag ag ?_
 rintro r aE ⟨TF, PD, NW, PE, PF, NX, rfl, rfl⟩ _
 refine ⟨⟨rfl, (by intro ob aS; simp only [List.mem_cons, List.not_mem_nil, or_false] at aS; rcases aS with rfl | rfl <;> rfl), .inl rfl⟩, ?_⟩
 refine aa.bd rfl ag (aa.nil (ab.ret ?_))
 exact ⟨_, _, rfl, rfl, _, _, NW, by have := hX.len; omega, sB NX (by have := hX.len; omega) hX.lt (nu om).lt om om, rfl, rfl⟩
 refine ab.sr (.vl (Y.ql rfl rfl) ?_)
 refine .an ?_
 refine aa.nil ?_
 refine ab.ay rfl (fun J9 => ?_) (fun J9 => ?_)
 refine ab.sr ?_
 refine .mv ?_
 refine .mv ?_
 refine .mv ?_
 refine aa.br [0, 1] [] AE (oK (gl := gl) (k := 6) (a := ws.getD 0 []) (b := cR) (f := fun k ins => (xN ins).testBit k) (h := fun k ins => (yN ins).testBit k) (e := fun i ins => (if (6 : Int) = 5 then xN ins &&& yN ins else if (6 : Int) = 6 then xN ins ||| yN ins else xN ins ^^^ yN ins).testBit i) (t := t) (u := t + 20) hg om ag hX.ws (nu om).ws (by have := hX.len; have := (nu om).len; omega) (by have := hX.len; omega) (Int.le_refl _) (fun i ins => by simp)) rfl (.named rfl rfl (.ao rfl rfl (.ao rfl rfl (.ao rfl rfl .nil)))) ⟨rfl, rfl, trivial⟩ rfl ag (fun _ h => by cases h) (fun _ h => by cases h) ag ag ?_
 rintro r aE ⟨Sa, JJ, Gp, JK, JL, Gq, rfl, rfl⟩ _
 refine ⟨⟨rfl, (by intro ob aS; simp only [List.mem_cons, List.not_mem_nil, or_false] at aS; rcases aS with rfl | rfl <;> rfl), .inl rfl⟩, ?_⟩
 refine aa.bd rfl ag (aa.nil (ab.ret ?_))
 exact ⟨_, _, rfl, rfl, _, _, Gp, by have := hX.len; omega, sB Gq (by have := hX.len; omega) hX.lt (nu om).lt om om, rfl, rfl⟩
 refine ab.sr (.vl (Y.ql rfl rfl) ?_)
 refine .an ?_
 refine aa.nil ?_
 refine ab.ay rfl (fun uw => ?_) (fun uw => ?_)
 refine ab.sr ?_
 refine .mv ?_
 refine .mv ?_
 refine .mv ?_
 refine aa.br [0, 1] [] AE (oK (gl := gl) (k := 7) (a := ws.getD 0 []) (b := cR) (f := fun k ins => (xN ins).testBit k) (h := fun k ins => (yN ins).testBit k) (e := fun i ins => (if (7 : Int) = 5 then xN ins &&& yN ins else if (7 : Int) = 6 then xN ins ||| yN ins else xN ins ^^^ yN ins).testBit i) (t := t) (u := t + 20) hg om ag hX.ws (nu om).ws (by have := hX.len; have := (nu om).len; omega) (by have := hX.len; omega) (Int.le_refl _) (fun i ins => by simp)) rfl (.named rfl rfl (.ao rfl rfl (.ao rfl rfl (.ao rfl rfl .nil)))) ⟨rfl, rfl, trivial⟩ rfl ag (fun _ h => by cases h) (fun _ h => by cases h) ag ag ?_
 rintro r aE ⟨TG, PG, NY, PH, PI, NZ, rfl, rfl⟩ _
 refine ⟨⟨rfl, (by intro ob aS; simp only [List.mem_cons, List.not_mem_nil, or_false] at aS; rcases aS with rfl | rfl <;> rfl), .inl rfl⟩, ?_⟩
 refine aa.bd rfl ag (aa.nil (ab.ret ?_))
 exact ⟨_, _, rfl, rfl, _, _, NY, by have := hX.len; omega, sB NZ (by have := hX.len; omega) hX.lt (nu om).lt om om, rfl, rfl⟩
 refine ab.sr (.vl (Y.ql rfl rfl) ?_)
 refine .an ?_
 refine aa.nil ?_
 refine ab.ay rfl (fun BL => ?_) (fun BL => ?_)
 refine ab.sr ?_
 refine .mv ?_
 refine .mv ?_
 refine .mv ?_
 refine aa.br [0, 1] [] AF (nf (gl := gl) (left := true) (ar := false) (a := ws.getD 0 []) (b := cR) hg om ag hX.wd (nu om).wd hI.hw hI.t0) rfl (.named rfl rfl (.ao rfl rfl (.ao rfl rfl (.ao rfl rfl (.ao rfl rfl .nil))))) ⟨rfl, rfl, trivial⟩ rfl ag (fun _ h => by cases h) (fun _ h => by cases h) ag ag ?_
 rintro r aE ⟨TH, PJ, Oa, PK, Ob, rfl, rfl⟩ _
 refine ⟨⟨rfl, (by intro ob aS; simp only [List.mem_cons, List.not_mem_nil, or_false] at aS; rcases aS with rfl | rfl <;> rfl), .inl rfl⟩, ?_⟩
 refine aa.bd rfl ag (aa.nil (ab.ret ?_))
 exact ⟨_, _, rfl, rfl, _, _, Oa, by have := hX.len; omega, vC Ob (nu om).lt (by simp; omega) om, rfl, rfl⟩
 refine ab.sr (.vl (Y.ql rfl rfl) ?_)
 refine .an ?_
 refine aa.nil ?_
 refine ab.ay rfl (fun Sw => ?_) (fun Sw => ?_)
 refine ab.sr ?_
 refine .mv ?_
 refine .mv ?_
 refine .mv ?_
 refine aa.br [0, 1] [] AF (nf (gl := gl) (left := false) (ar := false) (a := ws.getD 0 []) (b := cR) hg om ag hX.wd (nu om).wd hI.hw hI.t0) rfl (.named rfl rfl (.ao rfl rfl (.ao rfl rfl (.ao rfl rfl (.ao rfl rfl .nil))))) ⟨rfl, rfl, trivial⟩ rfl ag (fun _ h => by cases h) (fun _ h => by cases h) ag ag ?_
 rintro r aE ⟨TI, PL, Oc, PM, Od, rfl, rfl⟩ _
 refine ⟨⟨rfl, (by intro ob aS; simp only [List.mem_cons, List.not_mem_nil, or_false] at aS; rcases aS with rfl | rfl <;> rfl), .inl rfl⟩, ?_⟩
 refine aa.bd rfl ag (aa.nil (ab.ret ?_))
 exact ⟨_, _, rfl, rfl, _, _, Oc, by have := hX.len; omega, vC Od (nu om).lt (by simp; omega) om, rfl, rfl⟩
 refine ab.sr (.vl (Y.ql rfl rfl) ?_)
 refine .an ?_
 refine aa.nil ?_
 refine ab.ay rfl (fun JU => ?_) (fun JU => ?_)
 refine ab.sr ?_
 refine .mv ?_
 refine .mv ?_
 refine .mv ?_
 refine aa.br [0, 1] [] AF (nf (gl := gl) (left := false) (ar := true) (a := ws.getD 0 []) (b := cR) hg om ag hX.wd (nu om).wd hI.hw hI.t0) rfl (.named rfl rfl (.ao rfl rfl (.ao rfl rfl (.ao rfl rfl (.ao rfl rfl .nil))))) ⟨rfl, rfl, trivial⟩ rfl ag (fun _ h => by cases h) (fun _ h => by cases h) ag ag ?_
 rintro r aE ⟨TJ, PN, Oe, PO, Og, rfl, rfl⟩ _
 refine ⟨⟨rfl, (by intro ob aS; simp only [List.mem_cons, List.not_mem_nil, or_false] at aS; rcases aS with rfl | rfl <;> rfl), .inl rfl⟩, ?_⟩
 refine aa.bd rfl ag (aa.nil (ab.ret ?_))
 exact ⟨_, _, rfl, rfl, _, _, Oe, by have := hX.len; omega, vC Og (nu om).lt (by simp; omega) om, rfl, rfl⟩
 refine ab.sr (.vl (Y.ql rfl rfl) ?_)
 refine .an ?_
 refine aa.nil ?_
 refine ab.ay rfl (fun MJ => ?_) (fun MJ => ?_)
 refine ab.sr ?_
 refine .mv ?_
 refine .mv ?_
 refine .mv ?_
 refine .mv ?_
 refine aa.br [0, 1] [] Eg (pc (gl := gl) (a := ws.getD 0 []) (b := cR) hg om hX.wd (nu om).wd hI.hw hI.t0) rfl (.named rfl rfl (.ao rfl rfl (.ao rfl rfl .nil))) ⟨rfl, rfl, trivial⟩ rfl ag (fun _ h => by cases h) (fun _ h => by cases h) ag ag ?_
 rintro r aE ⟨PQ, Sx, JV, PR, JW, rfl, rfl⟩ _
 refine ⟨⟨rfl, (by intro ob aS; simp only [List.mem_cons, List.not_mem_nil, or_false] at aS; rcases aS with rfl | rfl <;> rfl), .inl rfl⟩, ?_⟩
 refine aa.br [0, 1] [] sO (gH (gl := PQ) (a := Sx) om) rfl (.named rfl rfl (.ao rfl rfl .nil)) ⟨rfl, rfl, trivial⟩ rfl ag (fun _ h => by cases h) (fun _ h => by cases h) ag ag ?_
 rintro r aE ⟨rfl, rfl⟩ _
 refine ⟨⟨rfl, (by intro ob aS; simp only [List.mem_cons, List.not_mem_nil, or_false] at aS; rcases aS with rfl | rfl <;> rfl), .inl rfl⟩, ?_⟩
 refine aa.buildSlice (([(PQ.length : Int)] : List Int).map al) a7 er rfl rfl rfl rfl rfl (az (s := 1) (f := al) (fun _ => rfl)) rfl rfl rfl ag ?_
 refine aa.bd rfl ag (aa.nil (ab.ret ?_))
 exact ⟨_, _, rfl, rfl, _, _, JV.trans (Ext.not JV.dM JW), by rw [List.length_append, List.length_singleton]; omega, Fx (JW.not om) hX.lt (nu om).lt om om, rfl, rfl⟩
 refine ab.sr (.vl (Y.ql rfl rfl) ?_)
 refine .an ?_
 refine aa.nil ?_
 refine ab.ay rfl (fun Hb => ?_) (fun Hb => ?_)
 refine ab.sr ?_
 refine .mv ?_
 refine .mv ?_
 refine .mv ?_
 refine aa.br [0, 1] [] Eg (pc (gl := gl) (a := ws.getD 0 []) (b := cR) hg om hX.wd (nu om).wd hI.hw hI.t0) rfl (.named rfl rfl (.ao rfl rfl (.ao rfl rfl .nil))) ⟨rfl, rfl, trivial⟩ rfl ag (fun _ h => by cases h) (fun _ h => by cases h) ag ag ?_
 rintro r aE ⟨TK, Sy, Oh, PS, Oi, rfl, rfl⟩ _
 refine ⟨⟨rfl, (by intro ob aS; simp only [List.mem_cons, List.not_mem_nil, or_false] at aS; rcases aS with rfl | rfl <;> rfl), .inl rfl⟩, ?_⟩
 refine aa.buildSlice (([Sy] : List Int).map al) a7 er rfl rfl rfl rfl rfl (az (s := 1) (f := al) (fun _ => rfl)) rfl rfl rfl ag ?_
 refine aa.bd rfl ag (aa.nil (ab.ret ?_))
 exact ⟨_, _, rfl, rfl, _, _, Oh, om, Fw Oi hX.lt (nu om).lt om om, rfl, rfl⟩
 refine ab.seq (ab.sr (.vl (Y.ql rfl rfl) ?_))
 refine .an ?_
 refine aa.nil ?_
 refine ab.bh rfl (fun ln => ?_) (fun ln => ?_)
 refine ab.skip (ab.aI rfl (ab.sr ?_))
 refine .mv ?_
 refine .mv ?_
 refine .mv ?_
 refine .mv ?_
 refine .vl (Y.ql rfl rfl) ?_
 refine aa.br [0, 1] [] xo (mn (gl := gl) (s := decide (op = 19)) (a := ws.getD 0 []) (b := cR) hg om hX.wd (nu om).wd hI.hw hI.t0) rfl (.named rfl rfl (.ao rfl rfl (.ao rfl rfl (.ao rfl rfl .nil)))) ⟨rfl, rfl, trivial⟩ rfl ag (fun _ h => by cases h) (fun _ h => by cases h) ag ag ?_
 rintro r aE ⟨S0, Oj, Gv, JX, Gw, rfl, rfl⟩ _
 refine ⟨⟨rfl, (by intro ob aS; simp only [List.mem_cons, List.not_mem_nil, or_false] at aS; rcases aS with rfl | rfl <;> rfl), .inl rfl⟩, ?_⟩
 refine aa.buildSlice (([Oj] : List Int).map al) a7 er rfl rfl rfl rfl rfl (az (s := 1) (f := al) (fun _ => rfl)) rfl rfl rfl ag ?_
 refine aa.bd rfl ag (aa.nil (ab.ret ?_))
 exact ⟨_, _, rfl, rfl, _, _, Gv, om, Aj Gw hX.lt (nu om).lt (by simp; omega) om, rfl, rfl⟩
 refine ab.region (.vl (Y.ql rfl rfl) ?_)
 refine .an ?_
 refine aa.nil ?_
 refine ab.bh rfl (fun ln => ?_) (fun ln => ?_)
 refine ab.sr ?_
 refine .mv ?_
 refine .mv ?_
 refine .mv ?_
 refine .mv ?_
 refine .vl (Y.ql rfl rfl) ?_
 refine aa.br [0, 1] [] xo (mn (gl := gl) (s := decide (op = 19)) (a := ws.getD 0 []) (b := cR) hg om hX.wd (nu om).wd hI.hw hI.t0) rfl (.named rfl rfl (.ao rfl rfl (.ao rfl rfl (.ao rfl rfl .nil)))) ⟨rfl, rfl, trivial⟩ rfl ag (fun _ h => by cases h) (fun _ h => by cases h) ag ag ?_
 rintro r aE ⟨S0, Oj, Gv, JX, Gw, rfl, rfl⟩ _
 refine ⟨⟨rfl, (by intro ob aS; simp only [List.mem_cons, List.not_mem_nil, or_false] at aS; rcases aS with rfl | rfl <;> rfl), .inl rfl⟩, ?_⟩
 refine aa.buildSlice (([Oj] : List Int).map al) a7 er rfl rfl rfl rfl rfl (az (s := 1) (f := al) (fun _ => rfl)) rfl rfl rfl ag ?_
 refine aa.bd rfl ag (aa.nil (ab.ret ?_))
 exact ⟨_, _, rfl, rfl, _, _, Gv, om, Aj Gw hX.lt (nu om).lt (by simp; omega) om, rfl, rfl⟩
 refine ab.seq (ab.sr (.vl (Y.ql rfl rfl) ?_))
 refine .an ?_
 refine aa.nil ?_
 refine ab.bh rfl (fun lN => ?_) (fun lN => ?_)
 refine ab.skip (ab.aI rfl (ab.sr ?_))
 refine .mv ?_
 refine .mv ?_
 refine .mv ?_
 refine .mv ?_
 refine .mv ?_
 refine .vl (Y.ql rfl rfl) ?_
 refine aa.br [0, 1] [] xo (mn (gl := gl) (s := decide (op = 20)) (a := cR) (b := ws.getD 0 []) hg om (nu om).wd hX.wd hI.hw hI.t0) rfl (.named rfl rfl (.ao rfl rfl (.ao rfl rfl (.ao rfl rfl .nil)))) ⟨rfl, rfl, trivial⟩ rfl ag (fun _ h => by cases h) (fun _ h => by cases h) ag ag ?_
 rintro r aE ⟨Bs, Gx, u9, Gy, uA, rfl, rfl⟩ _
 refine ⟨⟨rfl, (by intro ob aS; simp only [List.mem_cons, List.not_mem_nil, or_false] at aS; rcases aS with rfl | rfl <;> rfl), .inl rfl⟩, ?_⟩
 refine aa.br [0, 1] [] sO (gH (gl := Bs) (a := Gx) om) rfl (.named rfl rfl (.ao rfl rfl .nil)) ⟨rfl, rfl, trivial⟩ rfl ag (fun _ h => by cases h) (fun _ h => by cases h) ag ag ?_
 rintro r aE ⟨rfl, rfl⟩ _
 refine ⟨⟨rfl, (by intro ob aS; simp only [List.mem_cons, List.not_mem_nil, or_false] at aS; rcases aS with rfl | rfl <;> rfl), .inl rfl⟩, ?_⟩
 refine aa.buildSlice (([(Bs.length : Int)] : List Int).map al) a7 er rfl rfl rfl rfl rfl (az (s := 1) (f := al) (fun _ => rfl)) rfl rfl rfl ag ?_
 refine aa.bd rfl ag (aa.nil (ab.ret ?_))
 exact ⟨_, _, rfl, rfl, _, _, u9.trans (Ext.not u9.dM uA), by rw [List.length_append, List.length_singleton]; omega, Ak (uA.not om) hX.lt (nu om).lt (by simp; omega) om, rfl, rfl⟩
 refine ab.region (.vl (Y.ql rfl rfl) ?_)
 refine .an ?_
 refine aa.nil ?_
 refine ab.bh rfl (fun lN => ?_) (fun lN => ?_)
 refine ab.sr ?_
 refine .mv ?_
 refine .mv ?_
 refine .mv ?_
 refine .mv ?_
 refine .mv ?_
 refine .vl (Y.ql rfl rfl) ?_
 refine aa.br [0, 1] [] xo (mn (gl := gl) (s := decide (op = 20)) (a := cR) (b := ws.getD 0 []) hg om (nu om).wd hX.wd hI.hw hI.t0) rfl (.named rfl rfl (.ao rfl rfl (.ao rfl rfl (.ao rfl rfl .nil)))) ⟨rfl, rfl, trivial⟩ rfl ag (fun _ h => by cases h) (fun _ h => by cases h) ag ag ?_
 rintro r aE ⟨Bs, Gx, u9, Gy, uA, rfl, rfl⟩ _
 refine ⟨⟨rfl, (by intro ob aS; simp only [List.mem_cons, List.not_mem_nil, or_false] at aS; rcases aS with rfl | rfl <;> rfl), .inl rfl⟩, ?_⟩
 refine aa.br [0, 1] [] sO (gH (gl := Bs) (a := Gx) om) rfl (.named rfl rfl (.ao rfl rfl .nil)) ⟨rfl, rfl, trivial⟩ rfl ag (fun _ h => by cases h) (fun _ h => by cases h) ag ag ?_
 rintro r aE ⟨rfl, rfl⟩ _
 refine ⟨⟨rfl, (by intro ob aS; simp only [List.mem_cons, List.not_mem_nil, or_false] at aS; rcases aS with rfl | rfl <;> rfl), .inl rfl⟩, ?_⟩
 refine aa.buildSlice (([(Bs.length : Int)] : List Int).map al) a7 er rfl rfl rfl rfl rfl (az (s := 1) (f := al) (fun _ => rfl)) rfl rfl rfl ag ?_
 refine aa.bd rfl ag (aa.nil (ab.ret ?_))
 exact ⟨_, _, rfl, rfl, _, _, u9.trans (Ext.not u9.dM uA), by rw [List.length_append, List.length_singleton]; omega, Ak (uA.not om) hX.lt (nu om).lt (by simp; omega) om, rfl, rfl⟩
 refine ab.sr (.vl (Y.ql rfl rfl) ?_)
 refine .an ?_
 refine aa.nil ?_
 refine ab.ay rfl (fun AT => ?_) (fun AT => ?_)
 refine ab.seq ?_
 have Ol : Wk c gl cR width yN t := (by rw [Eo om]; have := hI.y om; rwa [if_pos om] at this)
 have Om := hI.z om; have S1 := Ol.len; have S2 := Om.len; have Oo := hX.bit 0 om; have eN := Ext.not hg Oo; have nN := Oo.not (u := t + 10) (Int.le_refl _)
 refine ab.region ?_
 refine .mv ?_
 refine .mv ?_
 refine .vl (Y.qr (m := 0) a7 rfl rfl aZ (aq (d := 0) om)) ?_
 refine .ld bg ?_
 refine aa.br [0, 1] [] sO (gH (gl := gl) (a := (ws.getD 0 []).getD 0 0) om) rfl (.named rfl rfl (.ao rfl rfl .nil)) ⟨rfl, rfl, trivial⟩ rfl ag (fun _ h => by cases h) (fun _ h => by cases h) ag ag ?_
 rintro r aE ⟨rfl, rfl⟩ _
 refine ⟨⟨rfl, (by intro ob aS; simp only [List.mem_cons, List.not_mem_nil, or_false] at aS; rcases aS with rfl | rfl <;> rfl), .inl rfl⟩, ?_⟩
 refine .an ?_
 refine aa.nil (ab.sr ?_)
 refine .an ?_
 refine aa.sh (Sh.nil (d := 12) 112 1 rfl ag) (aa.nil (ab.seq ?_))
 refine ab.sr ?_
 refine .mv ?_
 refine .vl (Y.qw (n := cR.length) a7 rfl (congrArg some (List.length_map ..))) ?_
 refine .mv ?_
 refine aa.nil (ab.block ?_)
 refine ab.eP (fun (ek : Nat) (iN : List Gate) (gJ : List Int) => ⟨[(0, .ptr 0 0 0 0), (2, .fz 1 (ws.map iX)), (9, .fz 1 ((ws.getD 0 []).map al)), (10, .fz 1 (cR.map al)), (11, .v (.int .i64 (gl.length : Int))), (12, .aY 112 1 0 gJ.length), (118, .v (.int .i64 (cR.length : Int))), (119, .v (.int .i64 (ek : Int)))], [(0, .cells [.aY 1 3 0 iN.length]), (1, .rows 3 (iN.map Gate.row)), (112, .rows 1 (gJ.map al))]⟩) (fun (ek : Nat) (iN : List Gate) (gJ : List Int) => ((ek : Int) ≤ (cR.length : Int)) ∧ (BG c (gl ++ [(⟨4, (ws.getD 0 []).getD 0 0, 0⟩ : Gate)]) iN gJ (fun i ins => if (xN ins).testBit 0 then (yN ins).testBit i else (zN ins).testBit i) (t + 50) ek)) (fun (ek : Nat) (iN : List Gate) (gJ : List Int) => ((cR.length : Int) - (ek : Int)).toNat) 0 (gl ++ [(⟨4, (ws.getD 0 []).getD 0 0, 0⟩ : Gate)]) ([] : List Int) (⟨ni, BG.init eN.dM⟩) (Le.mk (.c (.c (.c (.c (.c (.cons (a8 rfl aB) (.c (.cons (ai rfl aZ) (.nil))))))))) (.cons (aJ rfl jf) (.c (.c (.nil))))) (fun ek iN gJ Gn => ?_)
 obtain ⟨S3, hM⟩ := Gn
 refine ab.sr (.vl (Y.zb rfl rfl) (aa.nil ?_))
 refine ab.seq ?_
 refine ab.ay rfl (fun Oq => ?_) (fun Oq => ?_)
 refine ab.skip (ab.seq (ab.block ?_))
 refine ab.sr ?_
 refine .mv ?_
 refine .an ?_
 refine aa.nil ?_
 have JS := hM.len; have P7 := hM.ol; rw [List.length_append, List.length_singleton] at JS; have Ot := (Ol.bit ek om).ext eN; have Ou := (Om.bit ek om).ext eN
 refine ab.cv rfl (aT.blind 0 rfl ba (aL.move rfl rfl) ag (aT.bp (n := 4) [1, 2, 3, 4, 5, 6, 7, 8, 9, 10, 11, 12, 13, 14, 15] [16, 17, 18, 19] 16 rfl ba ?_))
 refine .cn 1 rfl (Y.zf rfl rfl) (.cn 2 rfl (Y.zf rfl rfl) ?_)
 refine .cn 3 rfl (Y.qr (m := 0) a7 rfl rfl aZ (aq (d := 0) om)) ?_
 refine .cn 4 rfl (Y.qz bg rfl rfl rfl rfl) (.cn 5 rfl (Y.zf rfl rfl) (.cn 6 rfl (Y.zf rfl rfl) ?_))
 refine .cn 7 rfl (Y.zf rfl rfl) ?_
 refine .cn 8 rfl (Y.qr (m := ek) a7 rfl rfl aZ (aq (d := 0) om)) ?_
 refine .cn 9 rfl (Y.qz bg rfl rfl rfl rfl) (.cn 10 rfl (Y.zf rfl rfl) ?_)
 refine .cn 11 rfl (Y.qr (m := 2) jy rfl rfl aZ (aq (d := []) om)) ?_
 refine .cn 12 rfl (Y.qz dr rfl rfl rfl rfl) (.cn 13 rfl (Y.zf rfl rfl) ?_)
 refine .cn 14 rfl (Y.qr (m := ek) a7 rfl rfl aZ (aq (d := 0) om)) ?_
 refine .cn 15 rfl (Y.qz bg rfl rfl rfl rfl) (AQ.nil (aT.one 16 rfl ba ?_))
 refine aa.br [0, 1] [] FW (choose_spec (gl := iN) (s := (ws.getD 0 []).getD 0 0) (v := (gl.length : Int)) (y := cR.getD ek 0) (n := (ws.getD 2 []).getD ek 0) om) rfl (.named rfl rfl (.ao rfl rfl (.ao rfl rfl (.ao rfl rfl (.ao rfl rfl .nil))))) ⟨rfl, rfl, trivial⟩ rfl ag (fun _ h => by cases h) (fun _ h => by cases h) ag ag ?_
 rintro r aE ⟨rfl, rfl⟩ _
 refine ⟨⟨rfl, (by intro ob aS; simp only [List.mem_cons, List.not_mem_nil, or_false] at aS; rcases aS with rfl | rfl <;> rfl), .inl rfl⟩, ?_⟩
 refine aa.nil ⟨rfl, ?_⟩
 refine aT.one 17 rfl ba ?_
 refine aa.buildSlice (([((iN.length : Int) + 2)] : List Int).map al) a7 er rfl rfl rfl rfl rfl (az (s := 1) (f := al) (fun _ => rfl)) rfl rfl rfl ag ?_
 refine aa.nil ⟨rfl, ?_⟩
 refine aT.one 18 rfl ba ?_
 refine aa.bx ((gJ ++ ([((iN.length : Int) + 2)] : List Int)).map al) (gJ ++ ([((iN.length : Int) + 2)] : List Int)).length a7 er rfl rfl rfl rfl (b8 aB) (bm aB) (cb aB) aB aB ag ag ?_
 refine aa.nil ⟨rfl, ?_⟩
 refine aT.bp (n := 0) [19] [] 0 rfl ba (.cn 19 rfl (Y.qf rfl rfl) (AQ.nil ?_))
 refine aT.done ba (ab.region ?_)
 refine .vl (Y.qb rfl rfl aB) ?_
 refine .mv ?_
 refine aa.nil ?_
 exact ⟨ek + 1, v7 iN ((ws.getD 0 []).getD 0 0) (gl.length : Int) (cR.getD ek 0) ((ws.getD 2 []).getD ek 0), gJ ++ ([((iN.length : Int) + 2)] : List Int), ⟨om, hM.step (Oo.ext eN) nN Ot Ou om om om om (fun ins => rfl)⟩, om, Le.mk (.c (.c (.c (.c (.c (.cons (a8 rfl om) (.c (.cons (ai rfl aZ) (.nil))))))))) (.cons (aJ rfl jf) (.c (.c (.nil))))⟩
 refine ab.exit (ab.sr ?_)
 refine .mv ?_
 refine .an ?_
 refine aa.sh (Sh.cK (d := 8) (o := 112) rfl rfl (bn om) ag) ?_
 refine aa.nil (ab.ret ?_)
 obtain rfl : w = 1 := om; exact ⟨_, _, rfl, rfl, _, _, eN.trans hM.ext, by have := hM.len; rw [List.length_append, List.length_singleton] at this; omega, CK hM.ws (by have := hM.ol; omega) hX.lt Ol.lt Om.lt om, rfl, rfl⟩
 refine ab.skip (ab.sr ?_)
 refine .mv ?_
 refine .mv ?_
 refine .mv ?_
 refine .mv ?_
 refine .vl (Y.ql rfl rfl) ?_
 refine aa.br [0, 1] [] IW (u6 (gl := gl) (a := ws.getD 0 []) (n := width) (sg := decide (op = 23)) hg om hX.wd hI.hw hI.hd hI.t0) rfl (.named rfl rfl (.ao rfl rfl (.ao rfl rfl (.ao rfl rfl .nil)))) ⟨rfl, rfl, trivial⟩ rfl ag (fun _ h => by cases h) (fun _ h => by cases h) ag ag ?_
 rintro r aE ⟨S4, Ov, JY, Ow, JZ, rfl, rfl⟩ _
 refine ⟨⟨rfl, (by intro ob aS; simp only [List.mem_cons, List.not_mem_nil, or_false] at aS; rcases aS with rfl | rfl <;> rfl), .inl rfl⟩, ?_⟩
 refine aa.bd rfl ag (aa.nil (ab.ret ?_))
 exact ⟨_, _, rfl, rfl, _, _, JY, om, CL JZ hX.lt (by simp; omega), rfl, rfl⟩
open Go Go.AW Go.Proofs
set_option maxRecDepth 4000 in
set_option maxHeartbeats 1000000 in
theorem nh {nm : ByteArray} {ws is : List Int} {cs : List Cell} {fz dn : Int} (Km : ws.length ≤ 1048576) (tt : cs.length ≤ 1048576) {w : Int} : ak Try.prog 72 [.ptr 0 0 0 0, .v (.int .i64 w)] [.cells [.v (.string nm), .aY 1 1 0 ws.length, .aY 2 6 0 cs.length, .aY 3 1 0 is.length, .v (.slice none 0 0), .v (.slice none 0 0), .v (.slice none 0 0), .v (.slice none 0 0), .v (.int .i64 fz), .v (.int .i64 dn), .v (.slice none 0 0)], .rows 1 (ws.map al), .rows 6 (cs.map Cell.row), .rows 1 (is.map al)] [0] (fun r o => r = .v (.int .i64 (ws.length : Int)) ∧ o = [.cells [.v (.string nm), .aY 1 1 0 ((ws ++ [w]).length), .aY 2 6 0 cs.length, .aY 3 1 0 is.length, .v (.slice none 0 0), .v (.slice none 0 0), .v (.slice none 0 0), .v (.slice none 0 0), .v (.int .i64 fz), .v (.int .i64 dn), .v (.slice none 0 0)], .rows 1 ((ws ++ [w]).map al), .rows 6 (cs.map Cell.row), .rows 1 (is.map al)]) := by
 refine ak.of Try.func72 rfl rfl rfl (n := 24) ag (Nat.le_of_ble_eq_true rfl) (ab.sr ?_)
 refine .an ?_
 refine aa.nil (ab.sr ?_)
 refine .mv ?_
 refine .mv ?_
 refine .vl (Y.zn rfl rfl) ?_
 refine .fa gg ?_
 refine .fa gh ?_
 refine .ld dr ?_
 refine .mv ?_
 refine aa.buildSlice (([w] : List Int).map al) a7 er rfl rfl rfl rfl rfl (az (s := 1) (f := al) (fun _ => rfl)) rfl rfl rfl ag ?_
 refine aa.bx ((ws ++ ([w] : List Int)).map al) (ws ++ ([w] : List Int)).length a7 er rfl rfl rfl rfl (b8 aB) (bm aB) (cb aB) aB aB ag ag ?_
 refine .vl (Y.zn rfl rfl) ?_
 refine .fa gg ?_
 refine .fa gh ?_
 refine aa.aw Dg rfl rfl rfl rfl rfl rfl (Nat.le_of_ble_eq_true rfl) rfl (aa.nil (ab.sr ?_))
 refine .mv ?_
 refine .vl (Y.zn rfl rfl) ?_
 refine .fa gg ?_
 refine .fa gh ?_
 refine .ld dr ?_
 refine .vl (Y.qw (n := (ws ++ ([w] : List Int)).length) a7 rfl rfl) ?_
 refine .vl (Y.wd rfl rfl aB) ?_
 refine .an ?_
 refine aa.nil (ab.ret ?_)
 exact ⟨_, _, rfl, rfl, yw (fun (z0 : Int) => X.v (.int .i64 z0)) (by simp : (((ws ++ ([w] : List Int)).length : Nat) : Int) - 1 = (ws.length : Int)), rfl⟩
set_option maxHeartbeats 1000000 in
theorem lS {nm : ByteArray} {ws is : List Int} {cs : List Cell} {fz dn : Int} (Km : ws.length ≤ 1048576) (tt : cs.length ≤ 1048576) {c : Cell} (hc : c.args.length ≤ 17592186043904) : ak Try.prog 73 [.ptr 0 0 0 0, .agg (Cell.row c)] [.cells [.v (.string nm), .aY 1 1 0 ws.length, .aY 2 6 0 cs.length, .aY 3 1 0 is.length, .v (.slice none 0 0), .v (.slice none 0 0), .v (.slice none 0 0), .v (.slice none 0 0), .v (.int .i64 fz), .v (.int .i64 dn), .v (.slice none 0 0)], .rows 1 (ws.map al), .rows 6 (cs.map Cell.row), .rows 1 (is.map al)] [0] (fun r o => r = .tup [] ∧ o = [.cells [.v (.string nm), .aY 1 1 0 ws.length, .aY 2 6 0 ((cs ++ [c]).length), .aY 3 1 0 is.length, .v (.slice none 0 0), .v (.slice none 0 0), .v (.slice none 0 0), .v (.slice none 0 0), .v (.int .i64 fz), .v (.int .i64 dn), .v (.slice none 0 0)], .rows 1 (ws.map al), .rows 6 ((cs ++ [c]).map Cell.row), .rows 1 (is.map al)]) := by
 refine ak.of Try.func73 rfl rfl rfl (n := 20) ag (Nat.le_of_ble_eq_true rfl) (ab.sr (aa.box 103 rfl rfl rfl rfl rfl ag ?_))
 refine aa.nil (ab.sr ?_)
 refine .fa eH ?_
 refine .ld dr ?_
 refine aa.aR Az (jW (l := c.args) (om)) rfl (.ao rfl rfl .nil) ag rfl ?_
 refine .fa eH ?_
 refine aa.sh (Sh.bB (d := 6) (c.args.map al) rfl iW (cp.map bf)) (aa.aw Dg rfl rfl rfl rfl rfl rfl (Nat.le_of_ble_eq_true rfl) rfl (aa.nil ?_))
 refine ab.cv rfl (aT.blind 0 rfl ba (aL.move rfl rfl) ag (aT.blind 1 rfl ba (aL.move rfl rfl) ag ?_))
 refine aT.blind 2 rfl ba (aL.nilCheck rfl rfl) ag (aT.blind 3 rfl ba (aL.fieldAddr gg rfl rfl) ag (aT.blind 4 rfl ba (aL.fieldAddr gY rfl rfl) ag ?_))
 refine aT.two 5 6 rfl rfl ba ?_ ?_
 refine .ld pg ?_
 refine aa.nil ⟨rfl, ?_⟩
 refine aT.bp (n := 6) [6] [7, 8, 9, 10, 11, 12] 7 rfl ba (.cn 6 rfl (Y.za sN rfl rfl (Nat.le_of_ble_eq_true rfl) rfl rfl) (AQ.nil ?_))
 refine aT.one 7 rfl ba ?_
 refine aa.buildSlice (([c] : List Cell).map Cell.row) kq oF rfl rfl rfl rfl rfl (az (s := 6) (f := Cell.row) (fun _ => rfl)) rfl rfl rfl ag ?_
 refine aa.nil ⟨rfl, ?_⟩
 refine aT.one 8 rfl ba ?_
 refine aa.bx ((cs ++ ([c] : List Cell)).map Cell.row) (cs ++ ([c] : List Cell)).length kq oF rfl rfl rfl rfl (b8 aB) (bm aB) (cb aB) aB aB ag ag ?_
 refine aa.nil ⟨rfl, ?_⟩
 refine aT.bp (n := 1) [9, 10, 11] [12] 12 rfl ba (.cn 9 rfl (Y.zn rfl rfl) (.cn 10 rfl (Y.qo gg rfl rfl) ?_))
 refine .cn 11 rfl (Y.qo gY rfl rfl) (AQ.nil (aT.one 12 rfl ba ?_))
 refine aa.aw FT rfl rfl rfl rfl rfl rfl (Nat.le_of_ble_eq_true rfl) rfl ?_
 refine aa.nil ⟨rfl, ?_⟩
 refine aT.done ba ?_
 exact ⟨_, _, rfl, rfl, rfl, rfl⟩
 refine .vl (Y.za sN rfl rfl (Nat.le_of_ble_eq_true rfl) rfl rfl) ?_
 refine aa.nil ⟨rfl, ?_⟩
 refine aT.two 5 7 rfl rfl ba ?_ ?_
 refine .ld pg ?_
 refine aa.nil ⟨rfl, ?_⟩
 refine aT.one 7 rfl ba ?_
 refine aa.buildSlice (([c] : List Cell).map Cell.row) kq oF rfl rfl rfl rfl rfl (az (s := 6) (f := Cell.row) (fun _ => rfl)) rfl rfl rfl ag ?_
 refine aa.nil ⟨rfl, ?_⟩
 refine aT.one 8 rfl ba ?_
 refine aa.bx ((cs ++ ([c] : List Cell)).map Cell.row) (cs ++ ([c] : List Cell)).length kq oF rfl rfl rfl rfl (b8 aB) (bm aB) (cb aB) aB aB ag ag ?_
 refine aa.nil ⟨rfl, ?_⟩
 refine aT.bp (n := 1) [9, 10, 11] [12] 12 rfl ba (.cn 9 rfl (Y.zn rfl rfl) (.cn 10 rfl (Y.qo gg rfl rfl) ?_))
 refine .cn 11 rfl (Y.qo gY rfl rfl) (AQ.nil (aT.one 12 rfl ba ?_))
 refine aa.aw FT rfl rfl rfl rfl rfl rfl (Nat.le_of_ble_eq_true rfl) rfl ?_
 refine aa.nil ⟨rfl, ?_⟩
 refine aT.done ba ?_
 exact ⟨_, _, rfl, rfl, rfl, rfl⟩
 refine aa.buildSlice (([c] : List Cell).map Cell.row) kq oF rfl rfl rfl rfl rfl (az (s := 6) (f := Cell.row) (fun _ => rfl)) rfl rfl rfl ag ?_
 refine aa.nil ⟨rfl, ?_⟩
 refine aT.bp (n := 5) [5] [8, 9, 10, 11, 12] 8 rfl ba (.cn 5 rfl (Y.qz pg rfl rfl rfl rfl) (AQ.nil ?_))
 refine aT.one 8 rfl ba ?_
 refine aa.bx ((cs ++ ([c] : List Cell)).map Cell.row) (cs ++ ([c] : List Cell)).length kq oF rfl rfl rfl rfl (b8 aB) (bm aB) (cb aB) aB aB ag ag ?_
 refine aa.nil ⟨rfl, ?_⟩
 refine aT.bp (n := 1) [9, 10, 11] [12] 12 rfl ba (.cn 9 rfl (Y.zn rfl rfl) (.cn 10 rfl (Y.qo gg rfl rfl) ?_))
 refine .cn 11 rfl (Y.qo gY rfl rfl) (AQ.nil (aT.one 12 rfl ba ?_))
 refine aa.aw FT rfl rfl rfl rfl rfl rfl (Nat.le_of_ble_eq_true rfl) rfl ?_
 refine aa.nil ⟨rfl, ?_⟩
 refine aT.done ba ?_
 exact ⟨_, _, rfl, rfl, rfl, rfl⟩
set_option maxHeartbeats 1000000 in
theorem uB {nm : ByteArray} {ws is : List Int} {cs : List Cell} {fz dn : Int} (Km : ws.length ≤ 1048000) (tt : cs.length ≤ 1048000) {w : Int} {x : Nat} (hx : x < 18446744073709551616) : ak Try.prog 76 [.ptr 0 0 0 0, .v (.int .i64 w), .v (.int .u64 (x : Int))] [.cells [.v (.string nm), .aY 1 1 0 ws.length, .aY 2 6 0 cs.length, .aY 3 1 0 is.length, .v (.slice none 0 0), .v (.slice none 0 0), .v (.slice none 0 0), .v (.slice none 0 0), .v (.int .i64 fz), .v (.int .i64 dn), .v (.slice none 0 0)], .rows 1 (ws.map al), .rows 6 (cs.map Cell.row), .rows 1 (is.map al)] [0] (fun r o => r = .v (.int .i64 (ws.length : Int)) ∧ o = [.cells [.v (.string nm), .aY 1 1 0 ((ws ++ [w]).length), .aY 2 6 0 ((cs ++ [(⟨1, 0, (ws.length : Int), [], dK w x, 0⟩ : Cell)]).length), .aY 3 1 0 is.length, .v (.slice none 0 0), .v (.slice none 0 0), .v (.slice none 0 0), .v (.slice none 0 0), .v (.int .i64 fz), .v (.int .i64 dn), .v (.slice none 0 0)], .rows 1 ((ws ++ [w]).map al), .rows 6 ((cs ++ [(⟨1, 0, (ws.length : Int), [], dK w x, 0⟩ : Cell)]).map Cell.row), .rows 1 (is.map al)]) := by
 refine ak.of Try.func76 rfl rfl rfl (n := 19) ag (Nat.le_of_ble_eq_true rfl) (ab.sr ?_)
 refine .an ?_
 refine aa.nil (ab.sr ?_)
 refine .mv ?_
 refine .mv ?_
 refine aa.br [0, 1, 2, 3] [] FN (nh (w := w) (ws := ws) (cs := cs) (is := is) (nm := nm) (fz := fz) (dn := dn) om om) rfl (.named rfl rfl (.ao rfl rfl .nil)) ⟨rfl, rfl, rfl, rfl, trivial⟩ rfl ag (fun _ h => by cases h) (fun _ h => by cases h) ag ag ?_
 rintro r aE ⟨rfl, rfl⟩ _
 refine ⟨⟨rfl, (by intro ob aS; simp only [List.mem_cons, List.not_mem_nil, or_false] at aS; rcases aS with rfl | rfl | rfl | rfl <;> rfl), .inl rfl⟩, ?_⟩
 refine .an ?_
 refine aa.nil (ab.sr ?_)
 refine .mv ?_
 refine .mv ?_
 refine .mv ?_
 refine .mv ?_
 refine aa.aR qP (gZ (w := w) (x := x) (om)) rfl (.ao rfl rfl (.ao rfl rfl .nil)) ag rfl ?_
 refine .vl (Y.qh FQ oF rfl rfl rfl) (aa.sh (Sh.OS (d := 16) 1 3 rfl rfl) ?_)
 refine aa.br [0, 1, 2, 3] [] FO (lS (c := (⟨1, 0, (((ws).length : Nat) : Int), ([] : List Int), dK w x, 0⟩ : Cell)) (ws := ws ++ [w]) (cs := cs) (is := is) (nm := nm) (fz := fz) (dn := dn) aB aB (by simp)) rfl (.named rfl rfl (.ao rfl rfl .nil)) ⟨rfl, rfl, rfl, rfl, trivial⟩ rfl ag (fun _ h => by cases h) (fun _ h => by cases h) ag ag ?_
 rintro r aE ⟨rfl, rfl⟩ _
 refine ⟨⟨rfl, (by intro ob aS; simp only [List.mem_cons, List.not_mem_nil, or_false] at aS; rcases aS with rfl | rfl | rfl | rfl <;> rfl), .inl rfl⟩, ?_⟩
 refine aa.nil (ab.sr ?_)
 refine .mv ?_
 refine .an ?_
 refine aa.nil (ab.ret ?_)
 exact ⟨_, _, rfl, rfl, rfl, rfl⟩
set_option maxHeartbeats 1000000 in
theorem yn {nm : ByteArray} {ws is : List Int} {cs : List Cell} {fz dn : Int} (Km : ws.length ≤ 1048000) (tt : cs.length ≤ 1048000) {op w : Int} {args : List Int} (hx : args.length ≤ 17592186043904) : ak Try.prog 75 [.ptr 0 0 0 0, .v (.int .i64 op), .v (.int .i64 w), .fz 1 (args.map al)] [.cells [.v (.string nm), .aY 1 1 0 ws.length, .aY 2 6 0 cs.length, .aY 3 1 0 is.length, .v (.slice none 0 0), .v (.slice none 0 0), .v (.slice none 0 0), .v (.slice none 0 0), .v (.int .i64 fz), .v (.int .i64 dn), .v (.slice none 0 0)], .rows 1 (ws.map al), .rows 6 (cs.map Cell.row), .rows 1 (is.map al)] [0] (fun r o => r = .v (.int .i64 (ws.length : Int)) ∧ o = [.cells [.v (.string nm), .aY 1 1 0 ((ws ++ [w]).length), .aY 2 6 0 ((cs ++ [(⟨2, op, (ws.length : Int), args, 0, 0⟩ : Cell)]).length), .aY 3 1 0 is.length, .v (.slice none 0 0), .v (.slice none 0 0), .v (.slice none 0 0), .v (.slice none 0 0), .v (.int .i64 fz), .v (.int .i64 dn), .v (.slice none 0 0)], .rows 1 ((ws ++ [w]).map al), .rows 6 ((cs ++ [(⟨2, op, (ws.length : Int), args, 0, 0⟩ : Cell)]).map Cell.row), .rows 1 (is.map al)]) := by
 refine ak.of Try.func75 rfl rfl rfl (n := 20) ag (Nat.le_of_ble_eq_true rfl) (ab.sr ?_)
 refine .an ?_
 refine aa.nil (ab.sr ?_)
 refine .mv ?_
 refine .mv ?_
 refine aa.br [0, 1, 2, 3] [] FN (nh (w := w) (ws := ws) (cs := cs) (is := is) (nm := nm) (fz := fz) (dn := dn) om om) rfl (.named rfl rfl (.ao rfl rfl .nil)) ⟨rfl, rfl, rfl, rfl, trivial⟩ rfl ag (fun _ h => by cases h) (fun _ h => by cases h) ag ag ?_
 rintro r aE ⟨rfl, rfl⟩ _
 refine ⟨⟨rfl, (by intro ob aS; simp only [List.mem_cons, List.not_mem_nil, or_false] at aS; rcases aS with rfl | rfl | rfl | rfl <;> rfl), .inl rfl⟩, ?_⟩
 refine .an ?_
 refine aa.nil (ab.sr ?_)
 refine .mv ?_
 refine .mv ?_
 refine .mv ?_
 refine .mv ?_
 refine .vl (Y.qh FQ oF rfl rfl rfl) ?_
 refine aa.br [0, 1, 2, 3] [] FO (lS (c := (⟨2, op, (((ws).length : Nat) : Int), args, 0, 0⟩ : Cell)) (ws := ws ++ [w]) (cs := cs) (is := is) (nm := nm) (fz := fz) (dn := dn) aB aB aB) rfl (.named rfl rfl (.ao rfl rfl .nil)) ⟨rfl, rfl, rfl, rfl, trivial⟩ rfl ag (fun _ h => by cases h) (fun _ h => by cases h) ag ag ?_
 rintro r aE ⟨rfl, rfl⟩ _
 refine ⟨⟨rfl, (by intro ob aS; simp only [List.mem_cons, List.not_mem_nil, or_false] at aS; rcases aS with rfl | rfl | rfl | rfl <;> rfl), .inl rfl⟩, ?_⟩
 refine aa.nil (ab.sr ?_)
 refine .mv ?_
 refine .an ?_
 refine aa.nil (ab.ret ?_)
 exact ⟨_, _, rfl, rfl, rfl, rfl⟩
open Go Go.AW Go.Proofs
theorem Dy {op x : Int} (hp : Plain op) (h0 : 1 ≤ x) (h1 : x ≤ 64) : ak Try.prog 124 [vi op, vi x] [] [] (fun r o => ∃ c : Int, r = .tup [.agg [vi 0, vi x, vi (aU op x.toNat), vi 0, vi 0, vi c], vi 0] ∧ o = []) := by
 refine ak.of Try.func124 rfl rfl rfl (n := 184) ag (bN rfl) ?_
 have FY := hp; unfold Plain wP Seq Unary at FY; have vc := Bl (n := x.toNat) om; have Ka := Bl (n := (x + 1).toNat) om; have hle : (x + 1).toNat = x.toNat + 1 := om; have S5 := xy h0 h1 vc; have S6 := xy h0 h1 Ka
 refine .sr (.alloc 104 jL rfl rfl ag ?_)
 refine .an ?_
 refine .nil (.seq (.sr ?_))
 refine .mv ?_
 refine .vl (Y.qy rfl rfl) ?_
 refine .mv ?_
 refine .ax (d := 12) rfl (fun uS => ?_) (fun uS => ?_)
 refine .gz 12 (.gz 12 ?_)
 refine .pk ?_
 refine .nil (.aI rfl (.sr ?_))
 refine .vl (Y.qh oZ jL rfl rfl rfl) (.aw bQ rfl rfl rfl rfl rfl rfl (bN rfl) rfl ?_)
 refine .an ?_
 refine .nil (.ret ?_)
 first | (exfalso; omega) | exact ⟨_, _, rfl, rfl, 0, by rw [show aU op x.toNat = 0 by (try rw [hle]); unfold aU; (repeat' split) <;> omega]; rfl, rfl⟩
 refine .gw 12 (Y.zf rfl rfl) (.gw 12 (Y.qp rfl rfl) ?_)
 refine .pk ?_
 refine .nil ?_
 refine .ay rfl (fun pB => ?_) (fun pB => ?_)
 refine .sr (.vl (Y.qh oZ jL rfl rfl rfl) (.aw bQ rfl rfl rfl rfl rfl rfl (bN rfl) rfl ?_))
 refine .an ?_
 refine .nil (.ret ?_)
 first | (exfalso; omega) | exact ⟨_, _, rfl, rfl, 0, by rw [show aU op x.toNat = 0 by (try rw [hle]); unfold aU; (repeat' split) <;> omega]; rfl, rfl⟩
 refine .skip (.seq (.sr ?_))
 refine .mv ?_
 refine .vl (Y.zb rfl rfl) ?_
 refine .mv ?_
 refine .ax (d := 19) rfl (fun sP => ?_) (fun sP => ?_)
 refine .gz 19 (.gz 19 ?_)
 refine .pk ?_
 refine .nil (.aI rfl (.sr ?_))
 refine .vl (Y.qh oZ jL rfl rfl rfl) (.aw bQ rfl rfl rfl rfl rfl rfl (bN rfl) rfl ?_)
 refine .an ?_
 refine .nil (.ret ?_)
 first | (exfalso; omega) | exact ⟨_, _, rfl, rfl, 0, by rw [show aU op x.toNat = 0 by (try rw [hle]); unfold aU; (repeat' split) <;> omega]; rfl, rfl⟩
 refine .gw 19 (Y.zf rfl rfl) (.gw 19 (Y.qq rfl rfl) ?_)
 refine .pk ?_
 refine .nil ?_
 refine .ay rfl (fun mj => ?_) (fun mj => ?_)
 refine .sr (.vl (Y.qh oZ jL rfl rfl rfl) (.aw bQ rfl rfl rfl rfl rfl rfl (bN rfl) rfl ?_))
 refine .an ?_
 refine .nil (.ret ?_)
 first | (exfalso; omega) | exact ⟨_, _, rfl, rfl, 0, by rw [show aU op x.toNat = 0 by (try rw [hle]); unfold aU; (repeat' split) <;> omega]; rfl, rfl⟩
 refine .skip (.sr ?_)
 refine .mv ?_
 refine .mv ?_
 refine .aR uh (iD (x := x) (om) (om)) rfl (.ao rfl rfl .nil) ag rfl ?_
 refine .mv ?_
 refine .vl (Y.qb rfl rfl aB) (.aR uh (iD (x := (x + 1)) (om) (om)) rfl (.ao rfl rfl .nil) ag rfl ?_)
 refine .an ?_
 refine .an ?_
 refine .an ?_
 refine .nil (.sr ?_)
 refine .mv ?_
 refine .vl (Y.qh oZ jL rfl rfl rfl) (.alloc 109 jL rfl rfl ag (.aw bQ rfl rfl rfl rfl rfl rfl (bN rfl) rfl ?_))
 refine .nil (.seq (.sr ?_))
 refine .mv ?_
 refine .nil (.block (.seq ?_))
 refine .sr (.vl (Y.ql rfl rfl) ?_)
 refine .an ?_
 refine .nil ?_
 refine .bh rfl (fun vT => ?_) (fun vT => ?_)
 refine .skip (.aI rfl (.region ?_))
 refine .mv ?_
 refine .fa bT ?_
 refine .aw dh rfl rfl rfl rfl rfl rfl (bN rfl) rfl ?_
 refine .fa bz ?_
 refine .aw dh rfl rfl rfl rfl rfl rfl (bN rfl) rfl (.nil (.sr ?_))
 refine .vl (Y.za cA rfl rfl (bN rfl) rfl rfl) (.aw bQ rfl rfl rfl rfl rfl rfl (bN rfl) rfl ?_)
 refine .an ?_
 refine .nil (.ret ?_)
 first | (exfalso; omega) | exact ⟨_, _, rfl, rfl, x, by rw [show aU op x.toNat = 20 by (try rw [hle]); unfold aU; (repeat' split) <;> omega]; rfl, rfl⟩
 refine .sr (.vl (Y.ql rfl rfl) ?_)
 refine .an ?_
 refine .nil ?_
 refine .bh rfl (fun vT => ?_) (fun vT => ?_)
 refine .skip (.aI rfl (.region ?_))
 refine .mv ?_
 refine .fa bT ?_
 refine .aw dh rfl rfl rfl rfl rfl rfl (bN rfl) rfl ?_
 refine .fa bz ?_
 refine .aw dh rfl rfl rfl rfl rfl rfl (bN rfl) rfl (.nil (.sr ?_))
 refine .vl (Y.za cA rfl rfl (bN rfl) rfl rfl) (.aw bQ rfl rfl rfl rfl rfl rfl (bN rfl) rfl ?_)
 refine .an ?_
 refine .nil (.ret ?_)
 first | (exfalso; omega) | exact ⟨_, _, rfl, rfl, x, by rw [show aU op x.toNat = 20 by (try rw [hle]); unfold aU; (repeat' split) <;> omega]; rfl, rfl⟩
 refine .region (.vl (Y.ql rfl rfl) ?_)
 refine .an ?_
 refine .nil ?_
 refine .bh rfl (fun vT => ?_) (fun vT => ?_)
 refine .region ?_
 refine .mv ?_
 refine .fa bT ?_
 refine .aw dh rfl rfl rfl rfl rfl rfl (bN rfl) rfl ?_
 refine .fa bz ?_
 refine .aw dh rfl rfl rfl rfl rfl rfl (bN rfl) rfl (.nil (.sr ?_))
 refine .vl (Y.za cA rfl rfl (bN rfl) rfl rfl) (.aw bQ rfl rfl rfl rfl rfl rfl (bN rfl) rfl ?_)
 refine .an ?_
 refine .nil (.ret ?_)
 first | (exfalso; omega) | exact ⟨_, _, rfl, rfl, x, by rw [show aU op x.toNat = 20 by (try rw [hle]); unfold aU; (repeat' split) <;> omega]; rfl, rfl⟩
 refine .sr (.vl (Y.ql rfl rfl) ?_)
 refine .an ?_
 refine .nil ?_
 refine .ay rfl (fun vQ => ?_) (fun vQ => ?_)
 refine .region ?_
 refine .mv ?_
 refine .vl (Y.zh rfl rfl om) (.vl (Y.qb rfl rfl aB) ?_)
 refine .mv ?_
 refine .vl (Y.zh rfl rfl om) ?_
 refine .mv ?_
 refine .vl (Y.zh rfl rfl om) ?_
 refine .mv ?_
 refine .vl (Y.zh rfl rfl om) (.vl (Y.qb rfl rfl aB) ?_)
 refine .fa bT ?_
 refine .aw dh rfl rfl rfl rfl rfl rfl (bN rfl) rfl ?_
 refine .fa bz ?_
 refine .aw dh rfl rfl rfl rfl rfl rfl (bN rfl) rfl (.nil (.sr ?_))
 refine .vl (Y.za cA rfl rfl (bN rfl) rfl rfl) (.aw bQ rfl rfl rfl rfl rfl rfl (bN rfl) rfl ?_)
 refine .an ?_
 refine .nil (.ret ?_)
 first | (exfalso; omega) | exact ⟨_, _, rfl, rfl, (3 * x) + ((3 * x) * ((cD x.toNat : Nat) : Int)), by rw [show aU op x.toNat = 40 + (40 * ((cD x.toNat : Nat) : Int)) by (try rw [hle]); unfold aU; (repeat' split) <;> omega]; rfl, rfl⟩
 refine .sr (.vl (Y.ql rfl rfl) ?_)
 refine .an ?_
 refine .nil ?_
 refine .ay rfl (fun BL => ?_) (fun BL => ?_)
 refine .region ?_
 refine .mv ?_
 refine .vl (Y.zh rfl rfl om) (.vl (Y.qb rfl rfl aB) ?_)
 refine .mv ?_
 refine .vl (Y.zh rfl rfl om) ?_
 refine .mv ?_
 refine .vl (Y.zh rfl rfl om) ?_
 refine .mv ?_
 refine .vl (Y.zh rfl rfl om) (.vl (Y.qb rfl rfl aB) ?_)
 refine .fa bT ?_
 refine .aw dh rfl rfl rfl rfl rfl rfl (bN rfl) rfl ?_
 refine .fa bz ?_
 refine .aw dh rfl rfl rfl rfl rfl rfl (bN rfl) rfl (.nil (.sr ?_))
 refine .vl (Y.za cA rfl rfl (bN rfl) rfl rfl) (.aw bQ rfl rfl rfl rfl rfl rfl (bN rfl) rfl ?_)
 refine .an ?_
 refine .nil (.ret ?_)
 first | (exfalso; omega) | exact ⟨_, _, rfl, rfl, (4 * x) + ((3 * x) * ((cD x.toNat : Nat) : Int)), by rw [show aU op x.toNat = 50 + (40 * ((cD x.toNat : Nat) : Int)) by (try rw [hle]); unfold aU; (repeat' split) <;> omega]; rfl, rfl⟩
 refine .seq (.sr (.vl (Y.ql rfl rfl) ?_))
 refine .an ?_
 refine .nil ?_
 refine .bh rfl (fun xt => ?_) (fun xt => ?_)
 refine .skip (.aI rfl (.region ?_))
 refine .mv ?_
 refine .vl (Y.zh rfl rfl om) (.vl (Y.qb rfl rfl aB) ?_)
 refine .mv ?_
 refine .vl (Y.zh rfl rfl om) ?_
 refine .fa bT ?_
 refine .aw dh rfl rfl rfl rfl rfl rfl (bN rfl) rfl ?_
 refine .fa bz ?_
 refine .aw dh rfl rfl rfl rfl rfl rfl (bN rfl) rfl (.nil (.sr ?_))
 refine .vl (Y.za cA rfl rfl (bN rfl) rfl rfl) (.aw bQ rfl rfl rfl rfl rfl rfl (bN rfl) rfl ?_)
 refine .an ?_
 refine .nil (.ret ?_)
 first | (exfalso; omega) | exact ⟨_, _, rfl, rfl, 2 * x, by rw [show aU op x.toNat = 30 + (20 * ((cD x.toNat : Nat) : Int)) by (try rw [hle]); unfold aU; (repeat' split) <;> omega]; rfl, rfl⟩
 refine .region (.vl (Y.ql rfl rfl) ?_)
 refine .an ?_
 refine .nil ?_
 refine .bh rfl (fun xt => ?_) (fun xt => ?_)
 refine .region ?_
 refine .mv ?_
 refine .vl (Y.zh rfl rfl om) (.vl (Y.qb rfl rfl aB) ?_)
 refine .mv ?_
 refine .vl (Y.zh rfl rfl om) ?_
 refine .fa bT ?_
 refine .aw dh rfl rfl rfl rfl rfl rfl (bN rfl) rfl ?_
 refine .fa bz ?_
 refine .aw dh rfl rfl rfl rfl rfl rfl (bN rfl) rfl (.nil (.sr ?_))
 refine .vl (Y.za cA rfl rfl (bN rfl) rfl rfl) (.aw bQ rfl rfl rfl rfl rfl rfl (bN rfl) rfl ?_)
 refine .an ?_
 refine .nil (.ret ?_)
 first | (exfalso; omega) | exact ⟨_, _, rfl, rfl, 2 * x, by rw [show aU op x.toNat = 30 + (20 * ((cD x.toNat : Nat) : Int)) by (try rw [hle]); unfold aU; (repeat' split) <;> omega]; rfl, rfl⟩
 refine .seq (.sr (.vl (Y.ql rfl rfl) ?_))
 refine .an ?_
 refine .nil ?_
 refine .bh rfl (fun Dm => ?_) (fun Dm => ?_)
 refine .skip (.aI rfl (.region ?_))
 refine .mv ?_
 refine .vl (Y.zh rfl rfl om) (.vl (Y.qb rfl rfl aB) ?_)
 refine .mv ?_
 refine .vl (Y.zh rfl rfl om) ?_
 refine .mv ?_
 refine .vl (Y.zh rfl rfl om) ?_
 refine .mv ?_
 refine .vl (Y.zh rfl rfl om) (.vl (Y.qb rfl rfl aB) ?_)
 refine .fa bT ?_
 refine .aw dh rfl rfl rfl rfl rfl rfl (bN rfl) rfl ?_
 refine .fa bz ?_
 refine .aw dh rfl rfl rfl rfl rfl rfl (bN rfl) rfl (.nil (.sr ?_))
 refine .vl (Y.za cA rfl rfl (bN rfl) rfl rfl) (.aw bQ rfl rfl rfl rfl rfl rfl (bN rfl) rfl ?_)
 refine .an ?_
 refine .nil (.ret ?_)
 first | (exfalso; omega) | exact ⟨_, _, rfl, rfl, (4 * x) + ((3 * x) * ((cD (x + 1).toNat : Nat) : Int)), by rw [show aU op x.toNat = 40 + (40 * ((cD (x + 1).toNat : Nat) : Int)) by (try rw [hle]); unfold aU; (repeat' split) <;> omega]; rfl, rfl⟩
 refine .region (.vl (Y.ql rfl rfl) ?_)
 refine .an ?_
 refine .nil ?_
 refine .bh rfl (fun Dm => ?_) (fun Dm => ?_)
 refine .region ?_
 refine .mv ?_
 refine .vl (Y.zh rfl rfl om) (.vl (Y.qb rfl rfl aB) ?_)
 refine .mv ?_
 refine .vl (Y.zh rfl rfl om) ?_
 refine .mv ?_
 refine .vl (Y.zh rfl rfl om) ?_
 refine .mv ?_
 refine .vl (Y.zh rfl rfl om) (.vl (Y.qb rfl rfl aB) ?_)
 refine .fa bT ?_
 refine .aw dh rfl rfl rfl rfl rfl rfl (bN rfl) rfl ?_
 refine .fa bz ?_
 refine .aw dh rfl rfl rfl rfl rfl rfl (bN rfl) rfl (.nil (.sr ?_))
 refine .vl (Y.za cA rfl rfl (bN rfl) rfl rfl) (.aw bQ rfl rfl rfl rfl rfl rfl (bN rfl) rfl ?_)
 refine .an ?_
 refine .nil (.ret ?_)
 first | (exfalso; omega) | exact ⟨_, _, rfl, rfl, (4 * x) + ((3 * x) * ((cD (x + 1).toNat : Nat) : Int)), by rw [show aU op x.toNat = 40 + (40 * ((cD (x + 1).toNat : Nat) : Int)) by (try rw [hle]); unfold aU; (repeat' split) <;> omega]; rfl, rfl⟩
 refine .seq (.sr (.vl (Y.ql rfl rfl) ?_))
 refine .an ?_
 refine .nil ?_
 refine .bh rfl (fun Ba => ?_) (fun Ba => ?_)
 refine .skip (.aI rfl (.region ?_))
 refine .mv ?_
 refine .vl (Y.zh rfl rfl om) (.vl (Y.qb rfl rfl aB) ?_)
 refine .mv ?_
 refine .vl (Y.zh rfl rfl om) ?_
 refine .mv ?_
 refine .vl (Y.zh rfl rfl om) ?_
 refine .mv ?_
 refine .vl (Y.zh rfl rfl om) (.vl (Y.qb rfl rfl aB) (.vl (Y.qb rfl rfl aB) ?_))
 refine .fa bT ?_
 refine .aw dh rfl rfl rfl rfl rfl rfl (bN rfl) rfl ?_
 refine .fa bz ?_
 refine .aw dh rfl rfl rfl rfl rfl rfl (bN rfl) rfl (.nil (.sr ?_))
 refine .vl (Y.za cA rfl rfl (bN rfl) rfl rfl) (.aw bQ rfl rfl rfl rfl rfl rfl (bN rfl) rfl ?_)
 refine .an ?_
 refine .nil (.ret ?_)
 first | (exfalso; omega) | exact ⟨_, _, rfl, rfl, ((4 * x) + ((3 * x) * ((cD (x + 1).toNat : Nat) : Int))) + 2, by rw [show aU op x.toNat = 50 + (40 * ((cD (x + 1).toNat : Nat) : Int)) by (try rw [hle]); unfold aU; (repeat' split) <;> omega]; rfl, rfl⟩
 refine .region (.vl (Y.ql rfl rfl) ?_)
 refine .an ?_
 refine .nil ?_
 refine .bh rfl (fun Ba => ?_) (fun Ba => ?_)
 refine .region ?_
 refine .mv ?_
 refine .vl (Y.zh rfl rfl om) (.vl (Y.qb rfl rfl aB) ?_)
 refine .mv ?_
 refine .vl (Y.zh rfl rfl om) ?_
 refine .mv ?_
 refine .vl (Y.zh rfl rfl om) ?_
 refine .mv ?_
 refine .vl (Y.zh rfl rfl om) (.vl (Y.qb rfl rfl aB) (.vl (Y.qb rfl rfl aB) ?_))
 refine .fa bT ?_
 refine .aw dh rfl rfl rfl rfl rfl rfl (bN rfl) rfl ?_
 refine .fa bz ?_
 refine .aw dh rfl rfl rfl rfl rfl rfl (bN rfl) rfl (.nil (.sr ?_))
 refine .vl (Y.za cA rfl rfl (bN rfl) rfl rfl) (.aw bQ rfl rfl rfl rfl rfl rfl (bN rfl) rfl ?_)
 refine .an ?_
 refine .nil (.ret ?_)
 first | (exfalso; omega) | exact ⟨_, _, rfl, rfl, ((4 * x) + ((3 * x) * ((cD (x + 1).toNat : Nat) : Int))) + 2, by rw [show aU op x.toNat = 50 + (40 * ((cD (x + 1).toNat : Nat) : Int)) by (try rw [hle]); unfold aU; (repeat' split) <;> omega]; rfl, rfl⟩
 refine .sr (.vl (Y.ql rfl rfl) ?_)
 refine .an ?_
 refine .nil ?_
 refine .ay rfl (fun Gz => ?_) (fun Gz => ?_)
 refine .region ?_
 refine .mv ?_
 refine .vl (Y.zh rfl rfl om) (.vl (Y.qb rfl rfl aB) ?_)
 refine .fa bT ?_
 refine .aw dh rfl rfl rfl rfl rfl rfl (bN rfl) rfl ?_
 refine .fa bz ?_
 refine .aw dh rfl rfl rfl rfl rfl rfl (bN rfl) rfl (.nil (.sr ?_))
 refine .vl (Y.za cA rfl rfl (bN rfl) rfl rfl) (.aw bQ rfl rfl rfl rfl rfl rfl (bN rfl) rfl ?_)
 refine .an ?_
 refine .nil (.ret ?_)
 first | (exfalso; omega) | exact ⟨_, _, rfl, rfl, (3 * x) + 1, by rw [show aU op x.toNat = 50 by (try rw [hle]); unfold aU; (repeat' split) <;> omega]; rfl, rfl⟩
 refine .seq (.sr (.vl (Y.ql rfl rfl) ?_))
 refine .an ?_
 refine .nil ?_
 refine .bh rfl (fun wx => ?_) (fun wx => ?_)
 refine .skip (.aI rfl (.region ?_))
 refine .mv ?_
 refine .vl (Y.zh rfl rfl om) (.vl (Y.qb rfl rfl aB) ?_)
 refine .mv ?_
 refine .vl (Y.zh rfl rfl om) ?_
 refine .mv ?_
 refine .vl (Y.zh rfl rfl om) ?_
 refine .mv ?_
 refine .vl (Y.zh rfl rfl om) (.vl (Y.qb rfl rfl aB) ?_)
 refine .fa bT ?_
 refine .aw dh rfl rfl rfl rfl rfl rfl (bN rfl) rfl ?_
 refine .fa bz ?_
 refine .aw dh rfl rfl rfl rfl rfl rfl (bN rfl) rfl (.nil (.sr ?_))
 refine .vl (Y.za cA rfl rfl (bN rfl) rfl rfl) (.aw bQ rfl rfl rfl rfl rfl rfl (bN rfl) rfl ?_)
 refine .an ?_
 refine .nil (.ret ?_)
 first | (exfalso; omega) | exact ⟨_, _, rfl, rfl, (2 * x) + ((3 * x) * ((cD x.toNat : Nat) : Int)), by rw [show aU op x.toNat = 30 + (40 * ((cD x.toNat : Nat) : Int)) by (try rw [hle]); unfold aU; (repeat' split) <;> omega]; rfl, rfl⟩
 refine .region (.vl (Y.ql rfl rfl) ?_)
 refine .an ?_
 refine .nil ?_
 refine .bh rfl (fun wx => ?_) (fun wx => ?_)
 refine .region ?_
 refine .mv ?_
 refine .vl (Y.zh rfl rfl om) (.vl (Y.qb rfl rfl aB) ?_)
 refine .mv ?_
 refine .vl (Y.zh rfl rfl om) ?_
 refine .mv ?_
 refine .vl (Y.zh rfl rfl om) ?_
 refine .mv ?_
 refine .vl (Y.zh rfl rfl om) (.vl (Y.qb rfl rfl aB) ?_)
 refine .fa bT ?_
 refine .aw dh rfl rfl rfl rfl rfl rfl (bN rfl) rfl ?_
 refine .fa bz ?_
 refine .aw dh rfl rfl rfl rfl rfl rfl (bN rfl) rfl (.nil (.sr ?_))
 refine .vl (Y.za cA rfl rfl (bN rfl) rfl rfl) (.aw bQ rfl rfl rfl rfl rfl rfl (bN rfl) rfl ?_)
 refine .an ?_
 refine .nil (.ret ?_)
 first | (exfalso; omega) | exact ⟨_, _, rfl, rfl, (2 * x) + ((3 * x) * ((cD x.toNat : Nat) : Int)), by rw [show aU op x.toNat = 30 + (40 * ((cD x.toNat : Nat) : Int)) by (try rw [hle]); unfold aU; (repeat' split) <;> omega]; rfl, rfl⟩
 refine .sr (.vl (Y.ql rfl rfl) ?_)
 refine .an ?_
 refine .nil ?_
 refine .ay rfl (fun sX => ?_) (fun sX => ?_)
 refine .region ?_
 refine .mv ?_
 refine .vl (Y.zh rfl rfl om) (.vl (Y.qb rfl rfl aB) ?_)
 refine .mv ?_
 refine .vl (Y.zh rfl rfl om) ?_
 refine .mv ?_
 refine .vl (Y.zh rfl rfl om) ?_
 refine .mv ?_
 refine .vl (Y.zh rfl rfl om) (.vl (Y.qb rfl rfl aB) ?_)
 refine .fa bT ?_
 refine .aw dh rfl rfl rfl rfl rfl rfl (bN rfl) rfl ?_
 refine .fa bz ?_
 refine .aw dh rfl rfl rfl rfl rfl rfl (bN rfl) rfl (.nil (.sr ?_))
 refine .vl (Y.za cA rfl rfl (bN rfl) rfl rfl) (.aw bQ rfl rfl rfl rfl rfl rfl (bN rfl) rfl ?_)
 refine .an ?_
 refine .nil (.ret ?_)
 first | (exfalso; omega) | exact ⟨_, _, rfl, rfl, (4 * x) + ((3 * x) * ((cD x.toNat : Nat) : Int)), by rw [show aU op x.toNat = 50 + (40 * ((cD x.toNat : Nat) : Int)) by (try rw [hle]); unfold aU; (repeat' split) <;> omega]; rfl, rfl⟩
 refine .sr (.vl (Y.ql rfl rfl) ?_)
 refine .an ?_
 refine .nil ?_
 refine .ay rfl (fun GA => ?_) (fun GA => ?_)
 refine .region ?_
 refine .mv ?_
 refine .vl (Y.qb rfl rfl aB) (.vl (Y.zr rfl rfl om) (.vl (Y.qb rfl rfl aB) ?_))
 refine .mv ?_
 refine .vl (Y.zh rfl rfl om) ?_
 refine .mv ?_
 refine .vl (Y.zh rfl rfl om) ?_
 refine .fa gf ?_
 refine .aw dh rfl rfl rfl rfl rfl rfl (bN rfl) rfl ?_
 refine .fa ij ?_
 refine .aw dh rfl rfl rfl rfl rfl rfl (bN rfl) rfl ?_
 refine .fa ik ?_
 refine .aw dh rfl rfl rfl rfl rfl rfl (bN rfl) rfl ?_
 refine .fa bz ?_
 refine .aw dh rfl rfl rfl rfl rfl rfl (bN rfl) rfl (.nil (.sr ?_))
 refine .vl (Y.za cA rfl rfl (bN rfl) rfl rfl) (.aw bQ rfl rfl rfl rfl rfl rfl (bN rfl) rfl ?_)
 refine .an ?_
 refine .nil (.ret ?_)
 first | (exfalso; omega) | exact ⟨_, _, rfl, rfl, (6 * x) * x, by rw [show aU op x.toNat = 0 by (try rw [hle]); unfold aU; (repeat' split) <;> omega]; rfl, rfl⟩
 refine .seq (.sr (.vl (Y.ql rfl rfl) ?_))
 refine .an ?_
 refine .nil ?_
 refine .bh rfl (fun ia => ?_) (fun ia => ?_)
 refine .skip (.aI rfl (.sr ?_))
 refine .mv ?_
 refine .vl (Y.qb rfl rfl aB) (.vl (Y.wd rfl rfl aB) ?_)
 refine .fa gf ?_
 refine .aw dh rfl rfl rfl rfl rfl rfl (bN rfl) rfl (.nil (.region ?_))
 refine .mv ?_
 refine .vl (Y.qb rfl rfl aB) (.vl (Y.zr rfl rfl om) (.vl (Y.qb rfl rfl aB) ?_))
 refine .mv ?_
 refine .vl (Y.qb rfl rfl aB) (.vl (Y.zr rfl rfl om) (.vl (Y.qb rfl rfl aB) ?_))
 refine .mv ?_
 refine .vl (Y.zh rfl rfl om) ?_
 refine .mv ?_
 refine .vl (Y.zh rfl rfl om) ?_
 refine .fa ij ?_
 refine .aw dh rfl rfl rfl rfl rfl rfl (bN rfl) rfl ?_
 refine .fa ik ?_
 refine .aw dh rfl rfl rfl rfl rfl rfl (bN rfl) rfl ?_
 refine .fa bz ?_
 refine .aw dh rfl rfl rfl rfl rfl rfl (bN rfl) rfl (.nil (.sr ?_))
 refine .vl (Y.za cA rfl rfl (bN rfl) rfl rfl) (.aw bQ rfl rfl rfl rfl rfl rfl (bN rfl) rfl ?_)
 refine .an ?_
 refine .nil (.ret ?_)
 first | (exfalso; omega) | exact ⟨_, _, rfl, rfl, (8 * x) * x, by rw [show aU op x.toNat = 0 by (try rw [hle]); unfold aU; (repeat' split) <;> omega]; rfl, rfl⟩
 refine .sr (.vl (Y.ql rfl rfl) ?_)
 refine .an ?_
 refine .nil ?_
 refine .bh rfl (fun ia => ?_) (fun ia => ?_)
 refine .skip (.aI rfl (.sr ?_))
 refine .mv ?_
 refine .vl (Y.qb rfl rfl aB) (.vl (Y.wd rfl rfl aB) ?_)
 refine .fa gf ?_
 refine .aw dh rfl rfl rfl rfl rfl rfl (bN rfl) rfl (.nil (.region ?_))
 refine .mv ?_
 refine .vl (Y.qb rfl rfl aB) (.vl (Y.zr rfl rfl om) (.vl (Y.qb rfl rfl aB) ?_))
 refine .mv ?_
 refine .vl (Y.qb rfl rfl aB) (.vl (Y.zr rfl rfl om) (.vl (Y.qb rfl rfl aB) ?_))
 refine .mv ?_
 refine .vl (Y.zh rfl rfl om) ?_
 refine .mv ?_
 refine .vl (Y.zh rfl rfl om) ?_
 refine .fa ij ?_
 refine .aw dh rfl rfl rfl rfl rfl rfl (bN rfl) rfl ?_
 refine .fa ik ?_
 refine .aw dh rfl rfl rfl rfl rfl rfl (bN rfl) rfl ?_
 refine .fa bz ?_
 refine .aw dh rfl rfl rfl rfl rfl rfl (bN rfl) rfl (.nil (.sr ?_))
 refine .vl (Y.za cA rfl rfl (bN rfl) rfl rfl) (.aw bQ rfl rfl rfl rfl rfl rfl (bN rfl) rfl ?_)
 refine .an ?_
 refine .nil (.ret ?_)
 first | (exfalso; omega) | exact ⟨_, _, rfl, rfl, (8 * x) * x, by rw [show aU op x.toNat = 0 by (try rw [hle]); unfold aU; (repeat' split) <;> omega]; rfl, rfl⟩
 refine .sr (.vl (Y.ql rfl rfl) ?_)
 refine .an ?_
 refine .nil ?_
 refine .bh rfl (fun ia => ?_) (fun ia => ?_)
 refine .skip (.aI rfl (.sr ?_))
 refine .mv ?_
 refine .vl (Y.qb rfl rfl aB) (.vl (Y.wd rfl rfl aB) ?_)
 refine .fa gf ?_
 refine .aw dh rfl rfl rfl rfl rfl rfl (bN rfl) rfl (.nil (.region ?_))
 refine .mv ?_
 refine .vl (Y.qb rfl rfl aB) (.vl (Y.zr rfl rfl om) (.vl (Y.qb rfl rfl aB) ?_))
 refine .mv ?_
 refine .vl (Y.qb rfl rfl aB) (.vl (Y.zr rfl rfl om) (.vl (Y.qb rfl rfl aB) ?_))
 refine .mv ?_
 refine .vl (Y.zh rfl rfl om) ?_
 refine .mv ?_
 refine .vl (Y.zh rfl rfl om) ?_
 refine .fa ij ?_
 refine .aw dh rfl rfl rfl rfl rfl rfl (bN rfl) rfl ?_
 refine .fa ik ?_
 refine .aw dh rfl rfl rfl rfl rfl rfl (bN rfl) rfl ?_
 refine .fa bz ?_
 refine .aw dh rfl rfl rfl rfl rfl rfl (bN rfl) rfl (.nil (.sr ?_))
 refine .vl (Y.za cA rfl rfl (bN rfl) rfl rfl) (.aw bQ rfl rfl rfl rfl rfl rfl (bN rfl) rfl ?_)
 refine .an ?_
 refine .nil (.ret ?_)
 first | (exfalso; omega) | exact ⟨_, _, rfl, rfl, (8 * x) * x, by rw [show aU op x.toNat = 0 by (try rw [hle]); unfold aU; (repeat' split) <;> omega]; rfl, rfl⟩
 refine .region (.vl (Y.ql rfl rfl) ?_)
 refine .an ?_
 refine .nil ?_
 refine .bh rfl (fun ia => ?_) (fun ia => ?_)
 refine .sr ?_
 refine .mv ?_
 refine .vl (Y.qb rfl rfl aB) (.vl (Y.wd rfl rfl aB) ?_)
 refine .fa gf ?_
 refine .aw dh rfl rfl rfl rfl rfl rfl (bN rfl) rfl (.nil (.region ?_))
 refine .mv ?_
 refine .vl (Y.qb rfl rfl aB) (.vl (Y.zr rfl rfl om) (.vl (Y.qb rfl rfl aB) ?_))
 refine .mv ?_
 refine .vl (Y.qb rfl rfl aB) (.vl (Y.zr rfl rfl om) (.vl (Y.qb rfl rfl aB) ?_))
 refine .mv ?_
 refine .vl (Y.zh rfl rfl om) ?_
 refine .mv ?_
 refine .vl (Y.zh rfl rfl om) ?_
 refine .fa ij ?_
 refine .aw dh rfl rfl rfl rfl rfl rfl (bN rfl) rfl ?_
 refine .fa ik ?_
 refine .aw dh rfl rfl rfl rfl rfl rfl (bN rfl) rfl ?_
 refine .fa bz ?_
 refine .aw dh rfl rfl rfl rfl rfl rfl (bN rfl) rfl (.nil (.sr ?_))
 refine .vl (Y.za cA rfl rfl (bN rfl) rfl rfl) (.aw bQ rfl rfl rfl rfl rfl rfl (bN rfl) rfl ?_)
 refine .an ?_
 refine .nil (.ret ?_)
 first | (exfalso; omega) | exact ⟨_, _, rfl, rfl, (8 * x) * x, by rw [show aU op x.toNat = 0 by (try rw [hle]); unfold aU; (repeat' split) <;> omega]; rfl, rfl⟩
 refine .skip (.sr (.vl (Y.za cA rfl rfl (bN rfl) rfl rfl) ?_))
 refine .aw bQ rfl rfl rfl rfl rfl rfl (bN rfl) rfl ?_
 refine .an ?_
 refine .nil (.ret ?_)
 first | (exfalso; omega) | exact ⟨_, _, rfl, rfl, 0, by rw [show aU op x.toNat = 0 by (try rw [hle]); unfold aU; (repeat' split) <;> omega]; rfl, rfl⟩
open Go Go.AW Go.Proofs
set_option maxRecDepth 4000 in
set_option maxHeartbeats 8000000 in
theorem Bt {op : Int} (hp : ¬ Plain op) : ak Try.prog 124 [.v (.int .i64 op), .v (.int .i64 1)] [] [] (fun r o => ∃ a b c d e f k : Int, (k ≠ 0 ∨ a ≠ 0) ∧ r = .tup [.agg [.v (.int .i64 a), .v (.int .i64 b), .v (.int .i64 c), .v (.int .i64 d), .v (.int .i64 e), .v (.int .i64 f)], .v (.int .i64 k)] ∧ o = []) := by
 refine ak.of Try.func124 rfl rfl rfl (n := 184) ag (Nat.le_of_ble_eq_true rfl) ?_
 have FY := hp; unfold Plain wP Seq Unary at FY; have vc : cD (Int.toNat 1) = 0 := rfl; have Ka : cD (Int.toNat 2) = 1 := rfl
 refine ab.sr (aa.alloc 104 jL rfl rfl ag ?_)
 refine .an ?_
 refine aa.nil (ab.seq (ab.sr ?_))
 refine .mv ?_
 refine .vl (Y.qy rfl rfl) ?_
 refine .mv ?_
 refine aa.ax (d := 12) rfl (fun uS => ?_) (fun uS => ?_)
 refine .gz 12 (.gz 12 ?_)
 refine .pk ?_
 refine aa.nil (ab.aI rfl (ab.sr ?_))
 refine .vl (Y.qh oZ jL rfl rfl rfl) (aa.aw bQ rfl rfl rfl rfl rfl rfl (Nat.le_of_ble_eq_true rfl) rfl ?_)
 refine .an ?_
 refine aa.nil (ab.ret ?_)
 first | (exfalso; omega) | exact ⟨_, _, rfl, rfl, _, _, _, _, _, _, _, om, rfl, rfl⟩
 refine .gw 12 (Y.zf rfl rfl) (.gw 12 (Y.qp rfl rfl) ?_)
 refine .pk ?_
 refine aa.nil ?_
 refine ab.ay rfl (fun pB => ?_) (fun pB => ?_)
 refine ab.sr (.vl (Y.qh oZ jL rfl rfl rfl) (aa.aw bQ rfl rfl rfl rfl rfl rfl (Nat.le_of_ble_eq_true rfl) rfl ?_))
 refine .an ?_
 refine aa.nil (ab.ret ?_)
 first | (exfalso; omega) | exact ⟨_, _, rfl, rfl, _, _, _, _, _, _, _, om, rfl, rfl⟩
 refine ab.skip (ab.seq (ab.sr ?_))
 refine .mv ?_
 refine .vl (Y.zb rfl rfl) ?_
 refine .mv ?_
 refine .gw 19 (Y.zf rfl rfl) (.gw 19 (Y.qq rfl rfl) ?_)
 refine .pk ?_
 refine aa.nil (ab.cj rfl (ab.skip ?_))
 refine ab.sr ?_
 refine .mv ?_
 refine .mv ?_
 refine aa.aR uh (iD (x := 1) (om) (om)) rfl (.ao rfl rfl .nil) ag rfl ?_
 refine .mv ?_
 refine .vl (Y.qb rfl rfl aB) ?_
 refine aa.aR uh (iD (x := (1 + 1)) (om) (om)) rfl (.ao rfl rfl .nil) ag rfl ?_
 refine .an ?_
 refine .an ?_
 refine .an ?_
 refine aa.nil (ab.sr ?_)
 refine .mv ?_
 refine .vl (Y.qh oZ jL rfl rfl rfl) (aa.alloc 109 jL rfl rfl ag (aa.aw bQ rfl rfl rfl rfl rfl rfl (Nat.le_of_ble_eq_true rfl) rfl ?_))
 refine aa.nil (ab.seq (ab.sr ?_))
 refine .mv ?_
 refine aa.nil (ab.block (ab.seq ?_))
 refine ab.sr (.vl (Y.ql rfl rfl) ?_)
 refine .an ?_
 refine aa.nil ?_
 refine ab.bh rfl (fun vT => ?_) (fun vT => ?_)
 refine ab.skip (ab.aI rfl (ab.region ?_))
 refine .mv ?_
 refine .fa bT ?_
 refine aa.aw dh rfl rfl rfl rfl rfl rfl (Nat.le_of_ble_eq_true rfl) rfl ?_
 refine .fa bz ?_
 refine aa.aw dh rfl rfl rfl rfl rfl rfl (Nat.le_of_ble_eq_true rfl) rfl (aa.nil (ab.sr ?_))
 refine .vl (Y.za cA rfl rfl (Nat.le_of_ble_eq_true rfl) rfl rfl) (aa.aw bQ rfl rfl rfl rfl rfl rfl (Nat.le_of_ble_eq_true rfl) rfl ?_)
 refine .an ?_
 refine aa.nil (ab.ret ?_)
 first | (exfalso; omega) | exact ⟨_, _, rfl, rfl, _, _, _, _, _, _, _, om, rfl, rfl⟩
 refine ab.sr (.vl (Y.ql rfl rfl) ?_)
 refine .an ?_
 refine aa.nil ?_
 refine ab.bh rfl (fun vT => ?_) (fun vT => ?_)
 refine ab.skip (ab.aI rfl (ab.region ?_))
 refine .mv ?_
 refine .fa bT ?_
 refine aa.aw dh rfl rfl rfl rfl rfl rfl (Nat.le_of_ble_eq_true rfl) rfl ?_
 refine .fa bz ?_
 refine aa.aw dh rfl rfl rfl rfl rfl rfl (Nat.le_of_ble_eq_true rfl) rfl (aa.nil (ab.sr ?_))
 refine .vl (Y.za cA rfl rfl (Nat.le_of_ble_eq_true rfl) rfl rfl) (aa.aw bQ rfl rfl rfl rfl rfl rfl (Nat.le_of_ble_eq_true rfl) rfl ?_)
 refine .an ?_
 refine aa.nil (ab.ret ?_)
 first | (exfalso; omega) | exact ⟨_, _, rfl, rfl, _, _, _, _, _, _, _, om, rfl, rfl⟩
 refine ab.region (.vl (Y.ql rfl rfl) ?_)
 refine .an ?_
 refine aa.nil ?_
 refine ab.bh rfl (fun vT => ?_) (fun vT => ?_)
 refine ab.region ?_
 refine .mv ?_
 refine .fa bT ?_
 refine aa.aw dh rfl rfl rfl rfl rfl rfl (Nat.le_of_ble_eq_true rfl) rfl ?_
 refine .fa bz ?_
 refine aa.aw dh rfl rfl rfl rfl rfl rfl (Nat.le_of_ble_eq_true rfl) rfl (aa.nil (ab.sr ?_))
 refine .vl (Y.za cA rfl rfl (Nat.le_of_ble_eq_true rfl) rfl rfl) (aa.aw bQ rfl rfl rfl rfl rfl rfl (Nat.le_of_ble_eq_true rfl) rfl ?_)
 refine .an ?_
 refine aa.nil (ab.ret ?_)
 first | (exfalso; omega) | exact ⟨_, _, rfl, rfl, _, _, _, _, _, _, _, om, rfl, rfl⟩
 refine ab.sr (.vl (Y.ql rfl rfl) ?_)
 refine .an ?_
 refine aa.nil ?_
 refine ab.ay rfl (fun vQ => ?_) (fun vQ => ?_)
 refine ab.region ?_
 refine .mv ?_
 refine .vl (Y.zh rfl rfl om) ?_
 refine .vl (Y.qb rfl rfl aB) ?_
 refine .mv ?_
 refine .vl (Y.zh rfl rfl om) ?_
 refine .mv ?_
 refine .vl (Y.zh rfl rfl om) ?_
 refine .mv ?_
 refine .vl (Y.zh rfl rfl om) ?_
 refine .vl (Y.qb rfl rfl aB) ?_
 refine .fa bT ?_
 refine aa.aw dh rfl rfl rfl rfl rfl rfl (Nat.le_of_ble_eq_true rfl) rfl ?_
 refine .fa bz ?_
 refine aa.aw dh rfl rfl rfl rfl rfl rfl (Nat.le_of_ble_eq_true rfl) rfl (aa.nil (ab.sr ?_))
 refine .vl (Y.za cA rfl rfl (Nat.le_of_ble_eq_true rfl) rfl rfl) (aa.aw bQ rfl rfl rfl rfl rfl rfl (Nat.le_of_ble_eq_true rfl) rfl ?_)
 refine .an ?_
 refine aa.nil (ab.ret ?_)
 first | (exfalso; omega) | exact ⟨_, _, rfl, rfl, _, _, _, _, _, _, _, om, rfl, rfl⟩
 refine ab.sr (.vl (Y.ql rfl rfl) ?_)
 refine .an ?_
 refine aa.nil ?_
 refine ab.ay rfl (fun BL => ?_) (fun BL => ?_)
 refine ab.region ?_
 refine .mv ?_
 refine .vl (Y.zh rfl rfl om) ?_
 refine .vl (Y.qb rfl rfl aB) ?_
 refine .mv ?_
 refine .vl (Y.zh rfl rfl om) ?_
 refine .mv ?_
 refine .vl (Y.zh rfl rfl om) ?_
 refine .mv ?_
 refine .vl (Y.zh rfl rfl om) ?_
 refine .vl (Y.qb rfl rfl aB) ?_
 refine .fa bT ?_
 refine aa.aw dh rfl rfl rfl rfl rfl rfl (Nat.le_of_ble_eq_true rfl) rfl ?_
 refine .fa bz ?_
 refine aa.aw dh rfl rfl rfl rfl rfl rfl (Nat.le_of_ble_eq_true rfl) rfl (aa.nil (ab.sr ?_))
 refine .vl (Y.za cA rfl rfl (Nat.le_of_ble_eq_true rfl) rfl rfl) (aa.aw bQ rfl rfl rfl rfl rfl rfl (Nat.le_of_ble_eq_true rfl) rfl ?_)
 refine .an ?_
 refine aa.nil (ab.ret ?_)
 first | (exfalso; omega) | exact ⟨_, _, rfl, rfl, _, _, _, _, _, _, _, om, rfl, rfl⟩
 refine ab.seq (ab.sr (.vl (Y.ql rfl rfl) ?_))
 refine .an ?_
 refine aa.nil ?_
 refine ab.bh rfl (fun xt => ?_) (fun xt => ?_)
 refine ab.skip (ab.aI rfl (ab.region ?_))
 refine .mv ?_
 refine .vl (Y.zh rfl rfl om) ?_
 refine .vl (Y.qb rfl rfl aB) ?_
 refine .mv ?_
 refine .vl (Y.zh rfl rfl om) ?_
 refine .fa bT ?_
 refine aa.aw dh rfl rfl rfl rfl rfl rfl (Nat.le_of_ble_eq_true rfl) rfl ?_
 refine .fa bz ?_
 refine aa.aw dh rfl rfl rfl rfl rfl rfl (Nat.le_of_ble_eq_true rfl) rfl (aa.nil (ab.sr ?_))
 refine .vl (Y.za cA rfl rfl (Nat.le_of_ble_eq_true rfl) rfl rfl) (aa.aw bQ rfl rfl rfl rfl rfl rfl (Nat.le_of_ble_eq_true rfl) rfl ?_)
 refine .an ?_
 refine aa.nil (ab.ret ?_)
 first | (exfalso; omega) | exact ⟨_, _, rfl, rfl, _, _, _, _, _, _, _, om, rfl, rfl⟩
 refine ab.region (.vl (Y.ql rfl rfl) ?_)
 refine .an ?_
 refine aa.nil ?_
 refine ab.bh rfl (fun xt => ?_) (fun xt => ?_)
 refine ab.region ?_
 refine .mv ?_
 refine .vl (Y.zh rfl rfl om) ?_
 refine .vl (Y.qb rfl rfl aB) ?_
 refine .mv ?_
 refine .vl (Y.zh rfl rfl om) ?_
 refine .fa bT ?_
 refine aa.aw dh rfl rfl rfl rfl rfl rfl (Nat.le_of_ble_eq_true rfl) rfl ?_
 refine .fa bz ?_
 refine aa.aw dh rfl rfl rfl rfl rfl rfl (Nat.le_of_ble_eq_true rfl) rfl (aa.nil (ab.sr ?_))
 refine .vl (Y.za cA rfl rfl (Nat.le_of_ble_eq_true rfl) rfl rfl) (aa.aw bQ rfl rfl rfl rfl rfl rfl (Nat.le_of_ble_eq_true rfl) rfl ?_)
 refine .an ?_
 refine aa.nil (ab.ret ?_)
 first | (exfalso; omega) | exact ⟨_, _, rfl, rfl, _, _, _, _, _, _, _, om, rfl, rfl⟩
 refine ab.seq (ab.sr (.vl (Y.ql rfl rfl) ?_))
 refine .an ?_
 refine aa.nil ?_
 refine ab.bh rfl (fun Dm => ?_) (fun Dm => ?_)
 refine ab.skip (ab.aI rfl (ab.region ?_))
 refine .mv ?_
 refine .vl (Y.zh rfl rfl om) ?_
 refine .vl (Y.qb rfl rfl aB) ?_
 refine .mv ?_
 refine .vl (Y.zh rfl rfl om) ?_
 refine .mv ?_
 refine .vl (Y.zh rfl rfl om) ?_
 refine .mv ?_
 refine .vl (Y.zh rfl rfl om) ?_
 refine .vl (Y.qb rfl rfl aB) ?_
 refine .fa bT ?_
 refine aa.aw dh rfl rfl rfl rfl rfl rfl (Nat.le_of_ble_eq_true rfl) rfl ?_
 refine .fa bz ?_
 refine aa.aw dh rfl rfl rfl rfl rfl rfl (Nat.le_of_ble_eq_true rfl) rfl (aa.nil (ab.sr ?_))
 refine .vl (Y.za cA rfl rfl (Nat.le_of_ble_eq_true rfl) rfl rfl) (aa.aw bQ rfl rfl rfl rfl rfl rfl (Nat.le_of_ble_eq_true rfl) rfl ?_)
 refine .an ?_
 refine aa.nil (ab.ret ?_)
 first | (exfalso; omega) | exact ⟨_, _, rfl, rfl, _, _, _, _, _, _, _, om, rfl, rfl⟩
 refine ab.region (.vl (Y.ql rfl rfl) ?_)
 refine .an ?_
 refine aa.nil ?_
 refine ab.bh rfl (fun Dm => ?_) (fun Dm => ?_)
 refine ab.region ?_
 refine .mv ?_
 refine .vl (Y.zh rfl rfl om) ?_
 refine .vl (Y.qb rfl rfl aB) ?_
 refine .mv ?_
 refine .vl (Y.zh rfl rfl om) ?_
 refine .mv ?_
 refine .vl (Y.zh rfl rfl om) ?_
 refine .mv ?_
 refine .vl (Y.zh rfl rfl om) ?_
 refine .vl (Y.qb rfl rfl aB) ?_
 refine .fa bT ?_
 refine aa.aw dh rfl rfl rfl rfl rfl rfl (Nat.le_of_ble_eq_true rfl) rfl ?_
 refine .fa bz ?_
 refine aa.aw dh rfl rfl rfl rfl rfl rfl (Nat.le_of_ble_eq_true rfl) rfl (aa.nil (ab.sr ?_))
 refine .vl (Y.za cA rfl rfl (Nat.le_of_ble_eq_true rfl) rfl rfl) (aa.aw bQ rfl rfl rfl rfl rfl rfl (Nat.le_of_ble_eq_true rfl) rfl ?_)
 refine .an ?_
 refine aa.nil (ab.ret ?_)
 first | (exfalso; omega) | exact ⟨_, _, rfl, rfl, _, _, _, _, _, _, _, om, rfl, rfl⟩
 refine ab.seq (ab.sr (.vl (Y.ql rfl rfl) ?_))
 refine .an ?_
 refine aa.nil ?_
 refine ab.bh rfl (fun Ba => ?_) (fun Ba => ?_)
 refine ab.skip (ab.aI rfl (ab.region ?_))
 refine .mv ?_
 refine .vl (Y.zh rfl rfl om) ?_
 refine .vl (Y.qb rfl rfl aB) ?_
 refine .mv ?_
 refine .vl (Y.zh rfl rfl om) ?_
 refine .mv ?_
 refine .vl (Y.zh rfl rfl om) ?_
 refine .mv ?_
 refine .vl (Y.zh rfl rfl om) ?_
 refine .vl (Y.qb rfl rfl aB) ?_
 refine .vl (Y.qb rfl rfl aB) ?_
 refine .fa bT ?_
 refine aa.aw dh rfl rfl rfl rfl rfl rfl (Nat.le_of_ble_eq_true rfl) rfl ?_
 refine .fa bz ?_
 refine aa.aw dh rfl rfl rfl rfl rfl rfl (Nat.le_of_ble_eq_true rfl) rfl (aa.nil (ab.sr ?_))
 refine .vl (Y.za cA rfl rfl (Nat.le_of_ble_eq_true rfl) rfl rfl) (aa.aw bQ rfl rfl rfl rfl rfl rfl (Nat.le_of_ble_eq_true rfl) rfl ?_)
 refine .an ?_
 refine aa.nil (ab.ret ?_)
 first | (exfalso; omega) | exact ⟨_, _, rfl, rfl, _, _, _, _, _, _, _, om, rfl, rfl⟩
 refine ab.region (.vl (Y.ql rfl rfl) ?_)
 refine .an ?_
 refine aa.nil ?_
 refine ab.bh rfl (fun Ba => ?_) (fun Ba => ?_)
 refine ab.region ?_
 refine .mv ?_
 refine .vl (Y.zh rfl rfl om) ?_
 refine .vl (Y.qb rfl rfl aB) ?_
 refine .mv ?_
 refine .vl (Y.zh rfl rfl om) ?_
 refine .mv ?_
 refine .vl (Y.zh rfl rfl om) ?_
 refine .mv ?_
 refine .vl (Y.zh rfl rfl om) ?_
 refine .vl (Y.qb rfl rfl aB) ?_
 refine .vl (Y.qb rfl rfl aB) ?_
 refine .fa bT ?_
 refine aa.aw dh rfl rfl rfl rfl rfl rfl (Nat.le_of_ble_eq_true rfl) rfl ?_
 refine .fa bz ?_
 refine aa.aw dh rfl rfl rfl rfl rfl rfl (Nat.le_of_ble_eq_true rfl) rfl (aa.nil (ab.sr ?_))
 refine .vl (Y.za cA rfl rfl (Nat.le_of_ble_eq_true rfl) rfl rfl) (aa.aw bQ rfl rfl rfl rfl rfl rfl (Nat.le_of_ble_eq_true rfl) rfl ?_)
 refine .an ?_
 refine aa.nil (ab.ret ?_)
 first | (exfalso; omega) | exact ⟨_, _, rfl, rfl, _, _, _, _, _, _, _, om, rfl, rfl⟩
 refine ab.sr (.vl (Y.ql rfl rfl) ?_)
 refine .an ?_
 refine aa.nil ?_
 refine ab.ay rfl (fun Gz => ?_) (fun Gz => ?_)
 refine ab.region ?_
 refine .mv ?_
 refine .vl (Y.zh rfl rfl om) ?_
 refine .vl (Y.qb rfl rfl aB) ?_
 refine .fa bT ?_
 refine aa.aw dh rfl rfl rfl rfl rfl rfl (Nat.le_of_ble_eq_true rfl) rfl ?_
 refine .fa bz ?_
 refine aa.aw dh rfl rfl rfl rfl rfl rfl (Nat.le_of_ble_eq_true rfl) rfl (aa.nil (ab.sr ?_))
 refine .vl (Y.za cA rfl rfl (Nat.le_of_ble_eq_true rfl) rfl rfl) (aa.aw bQ rfl rfl rfl rfl rfl rfl (Nat.le_of_ble_eq_true rfl) rfl ?_)
 refine .an ?_
 refine aa.nil (ab.ret ?_)
 first | (exfalso; omega) | exact ⟨_, _, rfl, rfl, _, _, _, _, _, _, _, om, rfl, rfl⟩
 refine ab.seq (ab.sr (.vl (Y.ql rfl rfl) ?_))
 refine .an ?_
 refine aa.nil ?_
 refine ab.bh rfl (fun wx => ?_) (fun wx => ?_)
 refine ab.skip (ab.aI rfl (ab.region ?_))
 refine .mv ?_
 refine .vl (Y.zh rfl rfl om) ?_
 refine .vl (Y.qb rfl rfl aB) ?_
 refine .mv ?_
 refine .vl (Y.zh rfl rfl om) ?_
 refine .mv ?_
 refine .vl (Y.zh rfl rfl om) ?_
 refine .mv ?_
 refine .vl (Y.zh rfl rfl om) ?_
 refine .vl (Y.qb rfl rfl aB) ?_
 refine .fa bT ?_
 refine aa.aw dh rfl rfl rfl rfl rfl rfl (Nat.le_of_ble_eq_true rfl) rfl ?_
 refine .fa bz ?_
 refine aa.aw dh rfl rfl rfl rfl rfl rfl (Nat.le_of_ble_eq_true rfl) rfl (aa.nil (ab.sr ?_))
 refine .vl (Y.za cA rfl rfl (Nat.le_of_ble_eq_true rfl) rfl rfl) (aa.aw bQ rfl rfl rfl rfl rfl rfl (Nat.le_of_ble_eq_true rfl) rfl ?_)
 refine .an ?_
 refine aa.nil (ab.ret ?_)
 first | (exfalso; omega) | exact ⟨_, _, rfl, rfl, _, _, _, _, _, _, _, om, rfl, rfl⟩
 refine ab.region (.vl (Y.ql rfl rfl) ?_)
 refine .an ?_
 refine aa.nil ?_
 refine ab.bh rfl (fun wx => ?_) (fun wx => ?_)
 refine ab.region ?_
 refine .mv ?_
 refine .vl (Y.zh rfl rfl om) ?_
 refine .vl (Y.qb rfl rfl aB) ?_
 refine .mv ?_
 refine .vl (Y.zh rfl rfl om) ?_
 refine .mv ?_
 refine .vl (Y.zh rfl rfl om) ?_
 refine .mv ?_
 refine .vl (Y.zh rfl rfl om) ?_
 refine .vl (Y.qb rfl rfl aB) ?_
 refine .fa bT ?_
 refine aa.aw dh rfl rfl rfl rfl rfl rfl (Nat.le_of_ble_eq_true rfl) rfl ?_
 refine .fa bz ?_
 refine aa.aw dh rfl rfl rfl rfl rfl rfl (Nat.le_of_ble_eq_true rfl) rfl (aa.nil (ab.sr ?_))
 refine .vl (Y.za cA rfl rfl (Nat.le_of_ble_eq_true rfl) rfl rfl) (aa.aw bQ rfl rfl rfl rfl rfl rfl (Nat.le_of_ble_eq_true rfl) rfl ?_)
 refine .an ?_
 refine aa.nil (ab.ret ?_)
 first | (exfalso; omega) | exact ⟨_, _, rfl, rfl, _, _, _, _, _, _, _, om, rfl, rfl⟩
 refine ab.sr (.vl (Y.ql rfl rfl) ?_)
 refine .an ?_
 refine aa.nil ?_
 refine ab.ay rfl (fun sX => ?_) (fun sX => ?_)
 refine ab.region ?_
 refine .mv ?_
 refine .vl (Y.zh rfl rfl om) ?_
 refine .vl (Y.qb rfl rfl aB) ?_
 refine .mv ?_
 refine .vl (Y.zh rfl rfl om) ?_
 refine .mv ?_
 refine .vl (Y.zh rfl rfl om) ?_
 refine .mv ?_
 refine .vl (Y.zh rfl rfl om) ?_
 refine .vl (Y.qb rfl rfl aB) ?_
 refine .fa bT ?_
 refine aa.aw dh rfl rfl rfl rfl rfl rfl (Nat.le_of_ble_eq_true rfl) rfl ?_
 refine .fa bz ?_
 refine aa.aw dh rfl rfl rfl rfl rfl rfl (Nat.le_of_ble_eq_true rfl) rfl (aa.nil (ab.sr ?_))
 refine .vl (Y.za cA rfl rfl (Nat.le_of_ble_eq_true rfl) rfl rfl) (aa.aw bQ rfl rfl rfl rfl rfl rfl (Nat.le_of_ble_eq_true rfl) rfl ?_)
 refine .an ?_
 refine aa.nil (ab.ret ?_)
 first | (exfalso; omega) | exact ⟨_, _, rfl, rfl, _, _, _, _, _, _, _, om, rfl, rfl⟩
 refine ab.sr (.vl (Y.ql rfl rfl) ?_)
 refine .an ?_
 refine aa.nil ?_
 refine ab.ay rfl (fun GA => ?_) (fun GA => ?_)
 refine ab.region ?_
 refine .mv ?_
 refine .vl (Y.qb rfl rfl aB) ?_
 refine .vl (Y.zr rfl rfl om) ?_
 refine .vl (Y.qb rfl rfl aB) ?_
 refine .mv ?_
 refine .vl (Y.zh rfl rfl om) ?_
 refine .mv ?_
 refine .vl (Y.zh rfl rfl om) ?_
 refine .fa gf ?_
 refine aa.aw dh rfl rfl rfl rfl rfl rfl (Nat.le_of_ble_eq_true rfl) rfl ?_
 refine .fa ij ?_
 refine aa.aw dh rfl rfl rfl rfl rfl rfl (Nat.le_of_ble_eq_true rfl) rfl ?_
 refine .fa ik ?_
 refine aa.aw dh rfl rfl rfl rfl rfl rfl (Nat.le_of_ble_eq_true rfl) rfl ?_
 refine .fa bz ?_
 refine aa.aw dh rfl rfl rfl rfl rfl rfl (Nat.le_of_ble_eq_true rfl) rfl (aa.nil (ab.sr ?_))
 refine .vl (Y.za cA rfl rfl (Nat.le_of_ble_eq_true rfl) rfl rfl) (aa.aw bQ rfl rfl rfl rfl rfl rfl (Nat.le_of_ble_eq_true rfl) rfl ?_)
 refine .an ?_
 refine aa.nil (ab.ret ?_)
 first | (exfalso; omega) | exact ⟨_, _, rfl, rfl, _, _, _, _, _, _, _, om, rfl, rfl⟩
 refine ab.seq (ab.sr (.vl (Y.ql rfl rfl) ?_))
 refine .an ?_
 refine aa.nil ?_
 refine ab.bh rfl (fun ia => ?_) (fun ia => ?_)
 refine ab.skip (ab.aI rfl (ab.sr ?_))
 refine .mv ?_
 refine .vl (Y.qb rfl rfl aB) ?_
 refine .vl (Y.wd rfl rfl aB) ?_
 refine .fa gf ?_
 refine aa.aw dh rfl rfl rfl rfl rfl rfl (Nat.le_of_ble_eq_true rfl) rfl (aa.nil (ab.region ?_))
 refine .mv ?_
 refine .vl (Y.qb rfl rfl aB) ?_
 refine .vl (Y.zr rfl rfl om) ?_
 refine .vl (Y.qb rfl rfl aB) ?_
 refine .mv ?_
 refine .vl (Y.qb rfl rfl aB) ?_
 refine .vl (Y.zr rfl rfl om) ?_
 refine .vl (Y.qb rfl rfl aB) ?_
 refine .mv ?_
 refine .vl (Y.zh rfl rfl om) ?_
 refine .mv ?_
 refine .vl (Y.zh rfl rfl om) ?_
 refine .fa ij ?_
 refine aa.aw dh rfl rfl rfl rfl rfl rfl (Nat.le_of_ble_eq_true rfl) rfl ?_
 refine .fa ik ?_
 refine aa.aw dh rfl rfl rfl rfl rfl rfl (Nat.le_of_ble_eq_true rfl) rfl ?_
 refine .fa bz ?_
 refine aa.aw dh rfl rfl rfl rfl rfl rfl (Nat.le_of_ble_eq_true rfl) rfl (aa.nil (ab.sr ?_))
 refine .vl (Y.za cA rfl rfl (Nat.le_of_ble_eq_true rfl) rfl rfl) (aa.aw bQ rfl rfl rfl rfl rfl rfl (Nat.le_of_ble_eq_true rfl) rfl ?_)
 refine .an ?_
 refine aa.nil (ab.ret ?_)
 first | (exfalso; omega) | exact ⟨_, _, rfl, rfl, _, _, _, _, _, _, _, om, rfl, rfl⟩
 refine ab.sr (.vl (Y.ql rfl rfl) ?_)
 refine .an ?_
 refine aa.nil ?_
 refine ab.bh rfl (fun ia => ?_) (fun ia => ?_)
 refine ab.skip (ab.aI rfl (ab.sr ?_))
 refine .mv ?_
 refine .vl (Y.qb rfl rfl aB) ?_
 refine .vl (Y.wd rfl rfl aB) ?_
 refine .fa gf ?_
 refine aa.aw dh rfl rfl rfl rfl rfl rfl (Nat.le_of_ble_eq_true rfl) rfl (aa.nil (ab.region ?_))
 refine .mv ?_
 refine .vl (Y.qb rfl rfl aB) ?_
 refine .vl (Y.zr rfl rfl om) ?_
 refine .vl (Y.qb rfl rfl aB) ?_
 refine .mv ?_
 refine .vl (Y.qb rfl rfl aB) ?_
 refine .vl (Y.zr rfl rfl om) ?_
 refine .vl (Y.qb rfl rfl aB) ?_
 refine .mv ?_
 refine .vl (Y.zh rfl rfl om) ?_
 refine .mv ?_
 refine .vl (Y.zh rfl rfl om) ?_
 refine .fa ij ?_
 refine aa.aw dh rfl rfl rfl rfl rfl rfl (Nat.le_of_ble_eq_true rfl) rfl ?_
 refine .fa ik ?_
 refine aa.aw dh rfl rfl rfl rfl rfl rfl (Nat.le_of_ble_eq_true rfl) rfl ?_
 refine .fa bz ?_
 refine aa.aw dh rfl rfl rfl rfl rfl rfl (Nat.le_of_ble_eq_true rfl) rfl (aa.nil (ab.sr ?_))
 refine .vl (Y.za cA rfl rfl (Nat.le_of_ble_eq_true rfl) rfl rfl) (aa.aw bQ rfl rfl rfl rfl rfl rfl (Nat.le_of_ble_eq_true rfl) rfl ?_)
 refine .an ?_
 refine aa.nil (ab.ret ?_)
 first | (exfalso; omega) | exact ⟨_, _, rfl, rfl, _, _, _, _, _, _, _, om, rfl, rfl⟩
 refine ab.sr (.vl (Y.ql rfl rfl) ?_)
 refine .an ?_
 refine aa.nil ?_
 refine ab.bh rfl (fun ia => ?_) (fun ia => ?_)
 refine ab.skip (ab.aI rfl (ab.sr ?_))
 refine .mv ?_
 refine .vl (Y.qb rfl rfl aB) ?_
 refine .vl (Y.wd rfl rfl aB) ?_
 refine .fa gf ?_
 refine aa.aw dh rfl rfl rfl rfl rfl rfl (Nat.le_of_ble_eq_true rfl) rfl (aa.nil (ab.region ?_))
 refine .mv ?_
 refine .vl (Y.qb rfl rfl aB) ?_
 refine .vl (Y.zr rfl rfl om) ?_
 refine .vl (Y.qb rfl rfl aB) ?_
 refine .mv ?_
 refine .vl (Y.qb rfl rfl aB) ?_
 refine .vl (Y.zr rfl rfl om) ?_
 refine .vl (Y.qb rfl rfl aB) ?_
 refine .mv ?_
 refine .vl (Y.zh rfl rfl om) ?_
 refine .mv ?_
 refine .vl (Y.zh rfl rfl om) ?_
 refine .fa ij ?_
 refine aa.aw dh rfl rfl rfl rfl rfl rfl (Nat.le_of_ble_eq_true rfl) rfl ?_
 refine .fa ik ?_
 refine aa.aw dh rfl rfl rfl rfl rfl rfl (Nat.le_of_ble_eq_true rfl) rfl ?_
 refine .fa bz ?_
 refine aa.aw dh rfl rfl rfl rfl rfl rfl (Nat.le_of_ble_eq_true rfl) rfl (aa.nil (ab.sr ?_))
 refine .vl (Y.za cA rfl rfl (Nat.le_of_ble_eq_true rfl) rfl rfl) (aa.aw bQ rfl rfl rfl rfl rfl rfl (Nat.le_of_ble_eq_true rfl) rfl ?_)
 refine .an ?_
 refine aa.nil (ab.ret ?_)
 first | (exfalso; omega) | exact ⟨_, _, rfl, rfl, _, _, _, _, _, _, _, om, rfl, rfl⟩
 refine ab.region (.vl (Y.ql rfl rfl) ?_)
 refine .an ?_
 refine aa.nil ?_
 refine ab.bh rfl (fun ia => ?_) (fun ia => ?_)
 refine ab.sr ?_
 refine .mv ?_
 refine .vl (Y.qb rfl rfl aB) ?_
 refine .vl (Y.wd rfl rfl aB) ?_
 refine .fa gf ?_
 refine aa.aw dh rfl rfl rfl rfl rfl rfl (Nat.le_of_ble_eq_true rfl) rfl (aa.nil (ab.region ?_))
 refine .mv ?_
 refine .vl (Y.qb rfl rfl aB) ?_
 refine .vl (Y.zr rfl rfl om) ?_
 refine .vl (Y.qb rfl rfl aB) ?_
 refine .mv ?_
 refine .vl (Y.qb rfl rfl aB) ?_
 refine .vl (Y.zr rfl rfl om) ?_
 refine .vl (Y.qb rfl rfl aB) ?_
 refine .mv ?_
 refine .vl (Y.zh rfl rfl om) ?_
 refine .mv ?_
 refine .vl (Y.zh rfl rfl om) ?_
 refine .fa ij ?_
 refine aa.aw dh rfl rfl rfl rfl rfl rfl (Nat.le_of_ble_eq_true rfl) rfl ?_
 refine .fa ik ?_
 refine aa.aw dh rfl rfl rfl rfl rfl rfl (Nat.le_of_ble_eq_true rfl) rfl ?_
 refine .fa bz ?_
 refine aa.aw dh rfl rfl rfl rfl rfl rfl (Nat.le_of_ble_eq_true rfl) rfl (aa.nil (ab.sr ?_))
 refine .vl (Y.za cA rfl rfl (Nat.le_of_ble_eq_true rfl) rfl rfl) (aa.aw bQ rfl rfl rfl rfl rfl rfl (Nat.le_of_ble_eq_true rfl) rfl ?_)
 refine .an ?_
 refine aa.nil (ab.ret ?_)
 first | (exfalso; omega) | exact ⟨_, _, rfl, rfl, _, _, _, _, _, _, _, om, rfl, rfl⟩
 refine ab.skip (ab.sr (.vl (Y.za cA rfl rfl (Nat.le_of_ble_eq_true rfl) rfl rfl) ?_))
 refine aa.aw bQ rfl rfl rfl rfl rfl rfl (Nat.le_of_ble_eq_true rfl) rfl ?_
 refine .an ?_
 refine aa.nil (ab.ret ?_)
 first | (exfalso; omega) | exact ⟨_, _, rfl, rfl, _, _, _, _, _, _, _, om, rfl, rfl⟩
open Go Go.AW Go.Proofs
set_option maxRecDepth 4000 in
set_option maxHeartbeats 1000000 in
theorem te {op : Int} (hp : Plain op) : ak Try.prog 74 [.v (.int .i64 op)] [] [] (fun r o => r = .v (.bool true) ∧ o = []) := by
 refine ak.of Try.func74 rfl rfl rfl (n := 17) ag (Nat.le_of_ble_eq_true rfl) (ab.sr ?_)
 refine .an ?_
 refine aa.nil (ab.sr ?_)
 refine .mv ?_
 refine aa.n8 Ef (Dy (op := op) (x := 1) hp ag ag) rfl (.ao rfl rfl (.ao rfl rfl .nil)) ag ?_
 rintro _ ⟨TL, rfl, _⟩
 refine ⟨rfl, ?_⟩
 refine .mv ?_
 refine .vl (Y.qn rfl rfl rfl) (.vl (Y.qn rfl rfl rfl) (aa.alloc 103 jL rfl rfl ag ?_))
 refine aa.aw bQ rfl rfl rfl rfl rfl rfl (Nat.le_of_ble_eq_true rfl) rfl ?_
 refine .an ?_
 refine aa.nil (ab.sr ?_)
 refine .mv ?_
 refine .vl (Y.ql rfl rfl) ?_
 refine .mv ?_
 refine .gw 12 (Y.qo gf rfl rfl) (.gw 12 (Y.qz bg rfl rfl rfl rfl) (.gw 12 (Y.ql rfl rfl) ?_))
 refine .pk ?_
 refine .an ?_
 refine aa.nil (ab.ret ?_)
 exact .rb rfl (rfl)
set_option maxRecDepth 4000 in
set_option maxHeartbeats 1000000 in
theorem uC {op : Int} (hp : ¬ Plain op) : ak Try.prog 74 [.v (.int .i64 op)] [] [] (fun r o => r = .v (.bool false) ∧ o = []) := by
 refine ak.of Try.func74 rfl rfl rfl (n := 17) ag (Nat.le_of_ble_eq_true rfl) (ab.sr ?_)
 refine .an ?_
 refine aa.nil (ab.sr ?_)
 refine .mv ?_
 refine aa.n8 Ef (Bt (op := op) hp) rfl (.ao rfl rfl (.ao rfl rfl .nil)) ag ?_
 rintro _ ⟨TM, TN, TO, TP, TQ, TR, TS, TT, rfl, _⟩
 refine ⟨rfl, ?_⟩
 refine .mv ?_
 refine .vl (Y.qn rfl rfl rfl) (.vl (Y.qn rfl rfl rfl) (aa.alloc 103 jL rfl rfl ag ?_))
 refine aa.aw bQ rfl rfl rfl rfl rfl rfl (Nat.le_of_ble_eq_true rfl) rfl ?_
 refine .an ?_
 refine aa.nil (ab.sr ?_)
 refine .mv ?_
 refine .vl (Y.ql rfl rfl) ?_
 refine .mv ?_
 refine aa.ax (d := 12) rfl (fun uS => ?_) (fun uS => ?_)
 refine .gw 12 (Y.qo gf rfl rfl) (.gw 12 (Y.qz bg rfl rfl rfl rfl) (.gw 12 (Y.ql rfl rfl) ?_))
 refine .pk ?_
 refine .an ?_
 refine aa.nil (ab.ret ?_)
 exact .rb rfl (decide_eq_false om)
 refine .gz 12 (.gz 12 (.gz 12 ?_))
 refine .pk ?_
 refine .an ?_
 refine aa.nil (ab.ret ?_)
 exact .rb rfl (rfl)
theorem rF {op : Int} : ak Try.prog 74 [.v (.int .i64 op)] [] [] (fun r o => r = .v (.bool (decide (Plain op))) ∧ o = []) := by
  by_cases h : Plain op
  · rw [decide_eq_true h]; exact te h
  · rw [decide_eq_false h]; exact uC h
end Go.Proofs.Ytlimckldnjmabaa
