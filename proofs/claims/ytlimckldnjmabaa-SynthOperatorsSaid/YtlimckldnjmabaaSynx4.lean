/- The walk of Operator. -/
import Derived.Test.YtlimckldnjmabaaAWx2
import Derived.Test.YtlimckldnjmabaaSynx3
import Derived.Test.YtlimckldnjmabaaSynx1
import Derived.Test.YtlimckldnjmabaaSynx2
set_option linter.unusedSimpArgs false
set_option linter.unusedVariables false
set_option linter.unusedSectionVars false
namespace Go.Proofs.Ytlimckldnjmabaa
open Go Go.AW Go.Proofs
theorem tf {gl : List Gate} (pD : gl.length ≤ 40000000) {x : Int} (hx : 0 ≤ x ∧ x ≤ 64) : ak Try.prog 78 [.ptr 0 0 0 0, .v (.int .i64 x)] [.cells [.aY 1 3 0 gl.length], .rows 3 (gl.map Gate.row)] [0] (fun r o => r = .cX 1 ((np gl.length x.toNat).map al) ∧ o = [.cells [.aY 1 3 0 (gl ++ od x.toNat).length], .rows 3 ((gl ++ od x.toNat).map Gate.row)]) := by
  obtain ⟨n, rfl⟩ : ∃ n : Nat, x = (n : Int) := ⟨x.toNat, om⟩
  rw [Int.toNat_natCast]; exact u7 pD om
theorem rm {c : Int} {gl : List Gate} (hg : Good gl) (pD : gl.length ≤ 20000000) {op : Int} {ws : List (List Int)} {w : Nat} {width : Int} {xN yN zN : List Bool → Nat} {t : Int} (hI : Fv c gl ws op w width.toNat xN yN zN t) (uJ : ws.length ≤ 100) (h0 : 0 ≤ width) :
    ak Try.prog 79 [.ptr 0 0 0 0, .v (.int .i64 op), .fz 1 (ws.map iX), .v (.int .i64 width)] [.cells [.aY 1 3 0 gl.length], .rows 3 (gl.map Gate.row)] [0] (fun r o => ∃ (l : List Gate) (out : List Int), Ext gl l ∧ l.length ≤ gl.length + 1600 ∧ xT c l out op w width.toNat xN yN zN t ∧ r = .cX 1 (out.map al) ∧ o = [.cells [.aY 1 3 0 l.length], .rows 3 (l.map Gate.row)]) := by
  have h := rE (c := c) hg pD hI uJ
  rwa [Int.toNat_of_nonneg h0] at h
set_option maxRecDepth 4000 in
set_option maxHeartbeats 8000000 in
theorem uD {op width : Int} {ws : List Int} (hk : ws.length ≤ 5) : ak Try.prog 32 [.v (.int .i64 op), .fz 1 (ws.map al), .v (.int .i64 width)] [] [] (fun r o => ∃ (l : List Gate) (out : List Int) (e : Int), jJ op ws width l out e ∧ r = .tup [.cX 3 (l.map Gate.row), .cX 1 (out.map al), .v (.int .i64 e)] ∧ o = []) := by
 refine ak.of Try.func32 rfl rfl rfl (n := 106) ag (Nat.le_of_ble_eq_true rfl) (ab.sr ?_)
 refine .an ?_
 refine .an ?_
 refine .an ?_
 refine aa.nil (ab.sr (.vl (Y.qh Jf Jh rfl rfl rfl) ?_))
 refine aa.box 119 rfl rfl rfl rfl rfl ag ?_
 refine .an ?_
 refine aa.nil (ab.seq (ab.sh (Sh.p4 119 301 1 1 rfl rfl rfl rfl ag) ?_))
 refine ab.sh (Sh.p4 119 302 6 2 rfl rfl rfl rfl ag) (ab.sh (Sh.p4 119 303 1 3 rfl rfl rfl rfl ag) (ab.region ?_))
 refine .an ?_
 refine aa.sh (Sh.nil (d := 10) 110 1 rfl ag) (aa.nil (ab.seq ?_))
 refine ab.sr ?_
 refine .mv ?_
 refine .vl (Y.qw (n := ws.length) a7 rfl (congrArg some (List.length_map ..))) ?_
 refine .mv ?_
 refine aa.nil (ab.block ?_)
 refine ab.HS (fun (ea : Nat) (bS : List Int) (bA : List Int) (dV : List Cell) (dE : List Int) => ⟨[(0, .v (.int .i64 op)), (1, .fz 1 (ws.map al)), (2, .v (.int .i64 width)), (9, .ptr 119 0 0 0), (10, .aY 110 1 0 bS.length), (20, .fz 1 (ws.map al)), (21, .v (.int .i64 (ws.length : Int))), (22, .v (.int .i64 (ea : Int)))], [(110, .rows 1 (bS.map al)), (119, .cells [.v (.string ByteArray.empty), .aY 301 1 0 bA.length, .aY 302 6 0 dV.length, .aY 303 1 0 dE.length, .v (.slice none 0 0), .v (.slice none 0 0), .v (.slice none 0 0), .v (.slice none 0 0), .v (.int .i64 0), .v (.int .i64 0), .v (.slice none 0 0)]), (301, .rows 1 (bA.map al)), (302, .rows 6 (dV.map Cell.row)), (303, .rows 1 (dE.map al))]⟩) (fun (ea : Nat) (bS : List Int) (bA : List Int) (dV : List Cell) (dE : List Int) => ((ea : Int) ≤ (ws.length : Int)) ∧ (bA = ws.take ea ∧ dV = y4 ea ∧ dE = ws.take ea ∧ bS = np 0 ea)) (fun (ea : Nat) (bS : List Int) (bA : List Int) (dV : List Cell) (dE : List Int) => ((ws.length : Int) - (ea : Int)).toNat) 0 ([] : List Int) ([] : List Int) ([] : List Cell) ([] : List Int) (⟨ni, ⟨rfl, rfl, rfl, rfl⟩⟩) (Le.mk (.c (.c (.c (.c (.cons (a8 rfl aB) (.c (.c (.cons (ai rfl aZ) (.nil))))))))) (.c (.cons (aJ rfl jf) (.c (.c (.c (.nil))))))) (fun ea bS bA dV dE um => ?_)
 obtain ⟨y7, hP⟩ := um
 refine ab.sr (.vl (Y.zb rfl rfl) (aa.nil ?_))
 refine ab.seq ?_
 refine ab.ay rfl (fun Ew => ?_) (fun Ew => ?_)
 refine ab.skip (ab.seq (ab.block ?_))
 refine ab.seq ?_
 obtain ⟨PT, PU, PV, PW⟩ := hP; have Ox : bA.length = ea := (by rw [PT, List.length_take]; omega); have S7 : dV.length = ea := (by rw [PU, iZ]); have S8 : dE.length = ea := (by rw [PV, List.length_take]; omega); have PX : bS.length = ea := (by rw [PW, jH])
 refine ab.region ?_
 refine .mv ?_
 refine .vl (Y.qr (m := ea) a7 rfl rfl aZ (aq (d := 0) om)) ?_
 refine .ld bg ?_
 refine .an ?_
 refine .an ?_
 refine aa.nil (ab.sr ?_)
 refine .mv ?_
 refine .mv ?_
 refine .mv ?_
 refine aa.br [119, 301, 302, 303] [] FN (nh (w := ws.getD ea 0) (ws := bA) (cs := dV) (is := dE) (nm := ByteArray.empty) (fz := 0) (dn := 0) om om) rfl (.named rfl rfl (.ao rfl rfl .nil)) ⟨rfl, rfl, rfl, rfl, trivial⟩ rfl ag (fun _ h => by cases h) (fun _ h => by cases h) ag ag ?_
 rintro r aE ⟨rfl, rfl⟩ _
 refine ⟨⟨rfl, (by intro ob aS; simp only [List.mem_cons, List.not_mem_nil, or_false] at aS; rcases aS with rfl | rfl | rfl | rfl <;> rfl), .inl rfl⟩, ?_⟩
 refine aa.buildSlice (([(((bA).length : Nat) : Int)] : List Int).map al) a7 er rfl rfl rfl rfl rfl (az (s := 1) (f := al) (fun _ => rfl)) rfl rfl rfl ag ?_
 refine aa.bx ((bS ++ ([(((bA).length : Nat) : Int)] : List Int)).map al) (bS ++ ([(((bA).length : Nat) : Int)] : List Int)).length a7 er rfl rfl rfl rfl (b8 aB) (bm aB) (cb aB) aB aB ag ag ?_
 refine .an ?_
 refine aa.nil (ab.sr ?_)
 refine .mv ?_
 refine .mv ?_
 refine .mv ?_
 refine .vl (Y.qs (m := ea) a7 rfl rfl aZ aB) ?_
 refine .vl (Y.qz bg rfl (aV (d := 0) aB) rfl rfl) ?_
 refine .mv ?_
 refine .vl (Y.qk y5 sK rfl (by first | rfl | exact IntWalk.u64_in _ om)) ?_
 refine .vl (Y.qh FQ oF rfl rfl rfl) (aa.sh (Sh.OS (d := 40) 1 3 rfl rfl) ?_)
 refine aa.br [119, 301, 302, 303] [] FO (lS (c := (⟨8, 0, (bS ++ ([(((bA).length : Nat) : Int)] : List Int)).getD ea 0, ([] : List Int), ea, 0⟩ : Cell)) (ws := bA ++ [ws.getD ea 0]) (cs := dV) (is := dE) (nm := ByteArray.empty) (fz := 0) (dn := 0) aB aB (by simp)) rfl (.named rfl rfl (.ao rfl rfl .nil)) ⟨rfl, rfl, rfl, rfl, trivial⟩ rfl ag (fun _ h => by cases h) (fun _ h => by cases h) ag ag ?_
 rintro r aE ⟨rfl, rfl⟩ _
 refine ⟨⟨rfl, (by intro ob aS; simp only [List.mem_cons, List.not_mem_nil, or_false] at aS; rcases aS with rfl | rfl | rfl | rfl <;> rfl), .inl rfl⟩, ?_⟩
 refine aa.nil (ab.region ?_)
 refine .mv ?_
 refine .mv ?_
 refine .vl (Y.zn rfl rfl) ?_
 refine .fa gg ?_
 refine .fa qN ?_
 refine .ld dr ?_
 refine .mv ?_
 refine aa.buildSlice (([ws.getD ea 0] : List Int).map al) a7 er rfl rfl rfl rfl rfl (az (s := 1) (f := al) (fun _ => rfl)) rfl rfl rfl ag ?_
 refine aa.bx ((dE ++ ([ws.getD ea 0] : List Int)).map al) (dE ++ ([ws.getD ea 0] : List Int)).length a7 er rfl rfl rfl rfl (b8 aB) (bm aB) (cb aB) aB aB ag ag ?_
 refine .vl (Y.zn rfl rfl) ?_
 refine .fa gg ?_
 refine .fa qN ?_
 refine aa.aw Dg rfl rfl rfl rfl rfl rfl (Nat.le_of_ble_eq_true rfl) rfl (aa.nil (ab.region ?_))
 refine .vl (Y.qb rfl rfl aB) ?_
 refine .mv ?_
 refine aa.nil ?_
 exact ⟨ea + 1, bS ++ ([(((bA).length : Nat) : Int)] : List Int), (bA ++ [ws.getD ea 0]), dV ++ [(⟨8, 0, (bS ++ ([(((bA).length : Nat) : Int)] : List Int)).getD ea 0, ([] : List Int), ea, 0⟩ : Cell)], dE ++ ([ws.getD ea 0] : List Int), ⟨om, ⟨by rw [PT]; exact (take_one om).symm, by rw [ub, jg PX.symm, Ox, ← PU], by rw [PV]; exact (take_one om).symm, by rw [tZ, ← PW, Ox, Nat.zero_add]⟩⟩, om, Le.mk (.c (.c (.c (.c (.cons (a8 rfl om) (.c (.c (.cons (ai rfl aZ) (.nil))))))))) (.c (.cons (aJ rfl jf) (.c (.c (.c (.nil))))))⟩
 refine ab.exit ?_
 refine ab.le (bc := ⟨[(0, .v (.int .i64 op)), (1, .fz 1 (ws.map al)), (2, .v (.int .i64 width)), (9, .ptr 119 0 0 0), (10, .aY 110 1 0 bS.length)], [(110, .rows 1 (bS.map al)), (119, .cells [.v (.string ByteArray.empty), .aY 301 1 0 bA.length, .aY 302 6 0 dV.length, .aY 303 1 0 dE.length, .v (.slice none 0 0), .v (.slice none 0 0), .v (.slice none 0 0), .v (.slice none 0 0), .v (.int .i64 0), .v (.int .i64 0), .v (.slice none 0 0)]), (301, .rows 1 (bA.map al)), (302, .rows 6 (dV.map Cell.row)), (303, .rows 1 (dE.map al))]⟩) (Le.mk (.c (.c (.c (.c (.c (.nil)))))) (.c (.c (.c (.c (.c (.nil))))))) ?_
 refine ab.seq (ab.seq ?_)
 have Ox : bA.length = ws.length := (by rw [hP.1, List.length_take]; omega); have S7 : dV.length = ws.length := (by rw [hP.2.1, iZ]; omega); have S8 : dE.length = ws.length := (by rw [hP.2.2.1, List.length_take]; omega); have PX : bS.length = ws.length := (by rw [hP.2.2.2, jH]; omega)
 refine ab.region ?_
 refine .mv ?_
 refine aa.aR Mb (rF (op := op)) rfl (.ao rfl rfl .nil) ag rfl (.vl (Y.zo rfl) (aa.nil ?_))
 refine ab.cond rfl (fun xw => ?_) (fun xw => ?_)
 replace xw : ¬ (Plain op) := by simpa using xw
 refine ab.sr ?_
 refine .an ?_
 refine .an ?_
 refine .an ?_
 refine aa.nil (ab.sh (Sh.r4 (d := 6) 3 rfl) (ab.sh (Sh.r4 (d := 7) 1 rfl) ?_))
 refine ab.ret ?_
 exact ⟨_, _, rfl, rfl, [], [], 1, .inl ⟨by simpa using xw, rfl⟩, rfl, rfl⟩
 replace xw : Plain op := by simpa using xw
 refine ab.skip ?_
 refine ab.le (bc := ⟨[(0, .v (.int .i64 op)), (1, .fz 1 (ws.map al)), (2, .v (.int .i64 width)), (9, .ptr 119 0 0 0), (10, .aY 110 1 0 bS.length)], [(110, .rows 1 (bS.map al)), (119, .cells [.v (.string ByteArray.empty), .aY 301 1 0 bA.length, .aY 302 6 0 dV.length, .aY 303 1 0 dE.length, .v (.slice none 0 0), .v (.slice none 0 0), .v (.slice none 0 0), .v (.slice none 0 0), .v (.int .i64 0), .v (.int .i64 0), .v (.slice none 0 0)]), (301, .rows 1 (bA.map al)), (302, .rows 6 (dV.map Cell.row)), (303, .rows 1 (dE.map al))]⟩) (Le.mk (.c (.c (.c (.c (.c (.nil)))))) (.c (.c (.c (.c (.c (.nil))))))) ?_
 refine ab.seq ?_
 refine ab.sh (Sh.cK (d := 10) (o := 110) rfl rfl (bn om) ag) ?_
 refine ab.sh (Sh.bB (d := 10) (bS.map al) rfl iW (cp.map bf)) (ab.region ?_)
 refine .mv ?_
 refine .mv ?_
 refine .mv ?_
 refine .mv ?_
 refine aa.br [119, 301, 302, 303] [] Mc (yn (op := op) (w := width) (args := bS) (ws := bA) (cs := dV) (is := dE) (nm := ByteArray.empty) (fz := 0) (dn := 0) om om om) rfl (.named rfl rfl (.ao rfl rfl (.ao rfl rfl (.ao rfl rfl .nil)))) ⟨rfl, rfl, rfl, rfl, trivial⟩ rfl ag (fun _ h => by cases h) (fun _ h => by cases h) ag ag ?_
 rintro r aE ⟨rfl, rfl⟩ _
 refine ⟨⟨rfl, (by intro ob aS; simp only [List.mem_cons, List.not_mem_nil, or_false] at aS; rcases aS with rfl | rfl | rfl | rfl <;> rfl), .inl rfl⟩, ?_⟩
 refine aa.nil (ab.sr ?_)
 refine .mv ?_
 refine aa.br [119, 301, 302, 303] [] Md (uB (w := 1) (x := 0) (ws := bA ++ [width]) (cs := dV ++ [(⟨2, op, ((bA).length : Int), bS, 0, 0⟩ : Cell)]) (is := dE) (nm := ByteArray.empty) (fz := 0) (dn := 0) aB aB ag) rfl (.named rfl rfl (.ao rfl rfl (.ao rfl rfl .nil))) ⟨rfl, rfl, rfl, rfl, trivial⟩ rfl ag (fun _ h => by cases h) (fun _ h => by cases h) ag ag ?_
 rintro r aE ⟨rfl, rfl⟩ _
 refine ⟨⟨rfl, (by intro ob aS; simp only [List.mem_cons, List.not_mem_nil, or_false] at aS; rcases aS with rfl | rfl | rfl | rfl <;> rfl), .inl rfl⟩, ?_⟩
 refine .an ?_
 refine aa.nil (ab.sr ?_)
 refine .mv ?_
 refine .mv ?_
 refine .mv ?_
 refine .mv ?_
 refine .vl (Y.zn rfl rfl) ?_
 refine .fa gg ?_
 refine .fa vJ ?_
 refine aa.aw dh rfl rfl rfl rfl rfl rfl (Nat.le_of_ble_eq_true rfl) rfl (.vl (Y.zn rfl rfl) ?_)
 refine .fa gg ?_
 refine .fa vK ?_
 refine aa.aw dh rfl rfl rfl rfl rfl rfl (Nat.le_of_ble_eq_true rfl) rfl (aa.nil ?_)
 refine ab.le (bc := ⟨[(0, .v (.int .i64 op)), (1, .fz 1 (ws.map al)), (2, .v (.int .i64 width)), (9, .ptr 119 0 0 0)], [(119, .cells [.v (.string ByteArray.empty), .aY 301 1 0 (((bA ++ [width]) ++ [1]).length), .aY 302 6 0 (((dV ++ [(⟨2, op, ((bA).length : Int), bS, 0, 0⟩ : Cell)]) ++ [(⟨1, 0, (((bA ++ [width])).length : Int), [], dK 1 0, 0⟩ : Cell)]).length), .aY 303 1 0 dE.length, .v (.slice none 0 0), .v (.slice none 0 0), .v (.slice none 0 0), .v (.slice none 0 0), .v (.int .i64 (((bA ++ [width]).length : Nat) : Int)), .v (.int .i64 (((bA ++ [width]).length : Nat) : Int)), .v (.slice none 0 0)]), (301, .rows 1 (((bA ++ [width]) ++ [1]).map al)), (302, .rows 6 (((dV ++ [(⟨2, op, ((bA).length : Int), bS, 0, 0⟩ : Cell)]) ++ [(⟨1, 0, (((bA ++ [width])).length : Int), [], dK 1 0, 0⟩ : Cell)]).map Cell.row)), (303, .rows 1 (dE.map al))]⟩) (Le.mk (.c (.c (.c (.c (.nil))))) (.c (.c (.c (.c (.nil)))))) ?_
 refine ab.seq (ab.seq ?_)
 refine ab.sh (Sh.AO 119 301 1 rfl rfl rfl (bn aB) (cp.map bf) ag rfl rfl rfl) ?_
 refine ab.sh (Sh.AO 119 302 2 rfl rfl rfl (bn om) (cp.map Cell.cN) ag rfl rfl rfl) ?_
 refine ab.sh (Sh.AO 119 303 3 rfl rfl rfl (bn om) (cp.map bf) ag rfl rfl rfl) ?_
 refine ab.sh (Sh.pX 119 5 4 rfl rfl rfl) (ab.sh (Sh.pX 119 3 5 rfl rfl rfl) (ab.sh (Sh.pX 119 1 6 rfl rfl rfl) ?_))
 refine ab.sh (Sh.pX 119 1 7 rfl rfl rfl) (ab.sh (Sh.pX 119 1 10 rfl rfl rfl) ?_)
 have hN : (⟨ByteArray.empty, (bA ++ [width]) ++ [1], (dV ++ [(⟨2, op, ((bA).length : Int), bS, 0, 0⟩ : Cell)]) ++ [(⟨1, 0, (((bA ++ [width])).length : Int), [], dK 1 0, 0⟩ : Cell)], dE, ([] : List rr), ([] : List iY), ([] : List Int), ([] : List Int), (((bA ++ [width]).length : Nat) : Int), (((bA ++ [width]).length : Nat) : Int), ([] : List Int)⟩ : ae) = gq op ws width := by obtain ⟨h1, h2, h3, h4⟩ := hP; rw [h1, h2, h3, h4, show ea = ws.length by omega, List.take_length]; simp [gq, qI, iZ, dK]
 refine ab.region ?_
 refine .mv ?_
 refine .vl (Y.zn rfl rfl) ?_
 refine .fa gg ?_
 refine .vl (Y.za xW rfl rfl (Nat.le_of_ble_eq_true rfl) rfl rfl) ?_
 refine aa.aR Me (wh (n := (⟨ByteArray.empty, (bA ++ [width]) ++ [1], (dV ++ [(⟨2, op, ((bA).length : Int), bS, 0, 0⟩ : Cell)]) ++ [(⟨1, 0, (((bA ++ [width])).length : Int), [], dK 1 0, 0⟩ : Cell)], dE, ([] : List rr), ([] : List iY), ([] : List Int), ([] : List Int), (((bA ++ [width]).length : Nat) : Int), (((bA ++ [width]).length : Nat) : Int), ([] : List Int)⟩ : ae)) (by rw [hN]; exact Am hk) (by rw [hN]; simp [gq]; omega)) rfl (.ao rfl rfl .nil) ag rfl ?_
 refine .vl (Y.zl rfl rfl) (aa.nil ?_)
 refine ab.le (bc := ⟨[(0, .v (.int .i64 op)), (1, .fz 1 (ws.map al)), (2, .v (.int .i64 width)), (80, .v (.bool (decide ((nH (⟨ByteArray.empty, (bA ++ [width]) ++ [1], (dV ++ [(⟨2, op, ((bA).length : Int), bS, 0, 0⟩ : Cell)]) ++ [(⟨1, 0, (((bA ++ [width])).length : Int), [], dK 1 0, 0⟩ : Cell)], dE, ([] : List rr), ([] : List iY), ([] : List Int), ([] : List Int), (((bA ++ [width]).length : Nat) : Int), (((bA ++ [width]).length : Nat) : Int), ([] : List Int)⟩ : ae)) ≠ 0))))], []⟩) (Le.mk (.c (.c (.c (.c (.nil))))) (.nil)) ?_
 refine ab.ay rfl (fun GU => ?_) (fun GU => ?_)
 have hC : ¬ uQ op ws width := fun h => GU (by rw [hN]; exact Iy hk h)
 refine ab.sr ?_
 refine .an ?_
 refine .an ?_
 refine .an ?_
 refine aa.nil (ab.sh (Sh.r4 (d := 6) 3 rfl) (ab.sh (Sh.r4 (d := 7) 1 rfl) ?_))
 refine ab.ret ?_
 exact ⟨_, _, rfl, rfl, [], [], 13, .inr (.inl ⟨by simpa using xw, hC, rfl⟩), rfl, rfl⟩
 have hC : uQ op ws width := CN (by rw [hN] at GU; exact Classical.not_not.1 GU)
 refine ab.skip (ab.le (bc := ⟨[(0, .v (.int .i64 op)), (1, .fz 1 (ws.map al)), (2, .v (.int .i64 width))], []⟩) (Le.mk (.c (.c (.c (.nil)))) (.nil)) (ab.sr ?_))
 refine .vl (Y.qh Jg Ji rfl rfl rfl) (aa.box 182 rfl rfl rfl rfl rfl ag ?_)
 refine .an ?_
 refine aa.nil (ab.seq (ab.sh (Sh.p4 182 401 3 0 rfl rfl rfl rfl ag) ?_))
 refine ab.region ?_
 refine .an ?_
 refine aa.sh (Sh.nil (d := 15) 115 1 rfl ag) (aa.nil ?_)
 refine ab.le (bc := ⟨[(0, .v (.int .i64 op)), (1, .fz 1 (ws.map al)), (2, .v (.int .i64 width)), (14, .ptr 182 0 0 0), (15, .aY 115 1 0 0)], [(115, .rows 1 (([] : List (List Int)).map iX)), (182, .cells [.aY 401 3 0 0]), (401, .rows 3 (([] : List Gate).map Gate.row))]⟩) (Le.mk (.c (.c (.c (.c (.c (.nil)))))) (.c (.c (.c (.nil))))) ?_
 refine ab.seq (ab.sr ?_)
 refine .mv ?_
 refine .vl (Y.qw (n := ws.length) a7 rfl (congrArg some (List.length_map ..))) ?_
 refine .mv ?_
 refine aa.nil (ab.block ?_)
 refine ab.eP (fun (dW : Nat) (cu : List (List Int)) (dF : List Gate) => ⟨[(0, .v (.int .i64 op)), (2, .v (.int .i64 width)), (14, .ptr 182 0 0 0), (15, .aY 115 1 0 cu.length), (83, .fz 1 (ws.map al)), (84, .v (.int .i64 (ws.length : Int))), (85, .v (.int .i64 (dW : Int)))], [(115, .rows 1 (cu.map iX)), (182, .cells [.aY 401 3 0 dF.length]), (401, .rows 3 (dF.map Gate.row))]⟩) (fun (dW : Nat) (cu : List (List Int)) (dF : List Gate) => ((dW : Int) ≤ (ws.length : Int)) ∧ (dF = od (fh ws dW) ∧ cu = wL ws dW)) (fun (dW : Nat) (cu : List (List Int)) (dF : List Gate) => ((ws.length : Int) - (dW : Int)).toNat) 0 ([] : List (List Int)) ([] : List Gate) (⟨ni, ⟨rfl, rfl⟩⟩) (Le.mk (.c (.c (.c (.cons (a8 rfl aB) (.c (.c (.cons (ai rfl aZ) (.nil)))))))) (.c (.cons (aJ rfl jf) (.c (.nil))))) (fun dW cu dF Oy => ?_)
 obtain ⟨S9, hQ⟩ := Oy
 refine ab.sr (.vl (Y.zb rfl rfl) (aa.nil ?_))
 refine ab.seq ?_
 refine ab.ay rfl (fun Nm => ?_) (fun Nm => ?_)
 refine ab.skip (ab.seq (ab.block ?_))
 refine ab.sr ?_
 refine .vl (Y.qr (m := dW) a7 rfl rfl aZ (aq (d := 0) om)) ?_
 refine .ld bg ?_
 refine .an ?_
 refine aa.nil ?_
 have Kz := hC.1 (ws.getD dW 0) (getD_in om); unfold cw at Kz; have uZ := Ao hC; have SA := km (ws := ws) (i := dW) (j := ws.length) om; have PY : dF.length = fh ws dW := (by rw [hQ.1, jI]); have SB : cu.length = dW := (by rw [hQ.2, qJ])
 refine ab.region ?_
 refine .mv ?_
 refine .mv ?_
 refine .mv ?_
 refine aa.br [182, 401] [] Mf (tf (gl := dF) (x := ws.getD dW 0) om om) rfl (.named rfl rfl (.ao rfl rfl .nil)) ⟨rfl, rfl, trivial⟩ rfl ag (fun _ h => by cases h) (fun _ h => by cases h) ag ag ?_
 rintro r aE ⟨rfl, rfl⟩ _
 refine ⟨⟨rfl, (by intro ob aS; simp only [List.mem_cons, List.not_mem_nil, or_false] at aS; rcases aS with rfl | rfl <;> rfl), .inl rfl⟩, ?_⟩
 refine aa.sh (Sh.bB (d := 92) ((np dF.length (ws.getD dW 0).toNat).map al) rfl iW (cp.map bf)) ?_
 refine aa.buildSlice (([np dF.length (ws.getD dW 0).toNat] : List (List Int)).map iX) jy Di rfl rfl rfl rfl rfl (az (s := 1) (f := iX) (fun _ => rfl)) rfl rfl rfl ag ?_
 refine aa.bx ((cu ++ ([np dF.length (ws.getD dW 0).toNat] : List (List Int))).map iX) (cu ++ ([np dF.length (ws.getD dW 0).toNat] : List (List Int))).length jy Di rfl rfl rfl rfl (b8 aB) (bm aB) (cb aB) aB aB ag ag ?_
 refine .an ?_
 refine aa.nil (ab.region ?_)
 refine .vl (Y.qb rfl rfl aB) ?_
 refine .mv ?_
 refine aa.nil ?_
 exact ⟨dW + 1, cu ++ ([np dF.length (ws.getD dW 0).toNat] : List (List Int)), dF ++ od (ws.getD dW 0).toNat, ⟨om, ⟨by rw [hQ.1, CG]; rfl, by rw [CO, ← hQ.2, PY]⟩⟩, om, Le.mk (.c (.c (.c (.cons (a8 rfl om) (.c (.c (.cons (ai rfl aZ) (.nil)))))))) (.c (.cons (aJ rfl jf) (.c (.nil))))⟩
 refine ab.exit ?_
 refine ab.le (bc := ⟨[(0, .v (.int .i64 op)), (2, .v (.int .i64 width)), (14, .ptr 182 0 0 0), (15, .aY 115 1 0 cu.length)], [(115, .rows 1 (cu.map iX)), (182, .cells [.aY 401 3 0 dF.length]), (401, .rows 3 (dF.map Gate.row))]⟩) (Le.mk (.c (.c (.c (.c (.nil))))) (.c (.c (.c (.nil))))) ?_
 refine ab.seq ?_
 refine ab.sh (Sh.cK (d := 15) (o := 115) rfl rfl (bn om) ag) ?_
 refine ab.sh (Sh.bB (d := 15) (cu.map iX) rfl iW (cp.map pY)) ?_
 have Kk : dW = ws.length := om; have K9 : dF = od (fh ws ws.length) := (by rw [hQ.1, Kk]); have LG : cu = wL ws ws.length := (by rw [hQ.2, Kk]); have hIn := Iz (c := 0) hC ag; rw [← K9, ← LG] at hIn; have uP := hC.2.1; unfold cw at uP; have uZ := Ao hC; have PY : dF.length = fh ws ws.length := (by rw [K9, jI]); have SB : cu.length = ws.length := (by rw [LG, qJ])
 refine ab.region ?_
 refine .mv ?_
 refine .mv ?_
 refine .mv ?_
 refine .mv ?_
 refine aa.br [182, 401] [] Mg (rm (c := 0) (gl := dF) (op := op) (ws := cu) (width := width) (by rw [K9]; exact ua _) om hIn om om) rfl (.named rfl rfl (.ao rfl rfl (.ao rfl rfl (.ao rfl rfl .nil)))) ⟨rfl, rfl, trivial⟩ rfl ag (fun _ h => by cases h) (fun _ h => by cases h) ag ag ?_
 rintro r aE ⟨Oz, GB, Kb, O0, Kc, rfl, rfl⟩ _
 refine ⟨⟨rfl, (by intro ob aS; simp only [List.mem_cons, List.not_mem_nil, or_false] at aS; rcases aS with rfl | rfl <;> rfl), .inl rfl⟩, ?_⟩
 refine aa.bd rfl ag (aa.nil (ab.sr ?_))
 refine .mv ?_
 refine .vl (Y.zn rfl rfl) ?_
 refine .fa pA ?_
 refine .ld FX ?_
 refine aa.oV rfl ag ?_
 refine .an ?_
 refine aa.sh (Sh.cK (d := 6) (o := 401) rfl rfl (bn om) ag) ?_
 refine aa.bd rfl ag ?_
 refine .an ?_
 refine aa.nil (ab.ret ?_)
 exact ⟨_, _, rfl, rfl, Oz, GB, 0, .inr (.inr ⟨by simpa using xw, hC, rfl, by rw [← K9]; exact Kb, om, Kc⟩), rfl, rfl⟩
open Go Go.AW Go.Proofs
set_option maxRecDepth 4000 in
set_option maxHeartbeats 1000000 in
theorem sj {l : List Gate} (hl : l.length ≤ 1000000) : ak Try.prog 37 [.fz 3 (l.map Gate.row)] [] [] (fun r o => r = .v (.int .i64 ((iO l : Nat) : Int)) ∧ o = []) := by
 refine ak.of Try.func37 rfl rfl rfl (n := 20) ag (Nat.le_of_ble_eq_true rfl) (ab.sr ?_)
 refine .an ?_
 refine aa.nil (ab.sr ?_)
 refine .an ?_
 refine aa.nil (ab.seq (ab.sr ?_))
 refine .an ?_
 refine aa.nil (ab.block ?_)
 refine ab.ir (fun (wy : Nat) (eS : Nat) => ⟨[(0, .fz 3 (l.map Gate.row)), (3, .v (.int .i64 (wy : Int))), (4, .v (.int .i64 (eS : Int)))], []⟩) (fun (wy : Nat) (eS : Nat) => ((eS : Int) ≤ (l.length : Int)) ∧ (wy = iO (l.take eS))) (fun (wy : Nat) (eS : Nat) => ((l.length : Int) - (eS : Int)).toNat) 0 0 (⟨om, rfl⟩) (Le.mk (.c (.cons (ai rfl aZ) (.cons (ai rfl aZ) (.nil)))) (.nil)) (fun wy eS nW => ?_)
 obtain ⟨AL, hn⟩ := nW
 refine ab.seq (ab.sr ?_)
 refine .mv ?_
 refine .mv ?_
 refine .vl (Y.qw (n := l.length) qS rfl (congrArg some (List.length_map ..))) (.vl (Y.zb rfl rfl) (aa.nil ?_))
 refine ab.ay rfl (fun c8 => ?_) (fun c8 => ?_)
 refine ab.skip ?_
 refine ab.gO (fun (uE : Nat) => ⟨[(0, .fz 3 (l.map Gate.row)), (3, .v (.int .i64 (uE : Int))), (4, .v (.int .i64 (eS : Int)))], []⟩) (fun (uE : Nat) => uE = iO (l.take (eS + 1))) ?_ (fun uE yh => ?_)
 refine ab.block (ab.seq ?_)
 have wG := vx (l.take eS); rw [List.length_take] at wG
 refine ab.region ?_
 refine .mv ?_
 refine .mv ?_
 refine .vl (Y.qr (m := eS) qS rfl rfl aZ (aq (d := default) om)) ?_
 refine .fa dD ?_
 refine .ld bg ?_
 refine .vl (Y.ql rfl rfl) (aa.nil ?_)
 refine ab.ay rfl (fun sQ => ?_) (fun sQ => ?_)
 refine ab.region ?_
 refine .mv ?_
 refine .vl (Y.qb rfl rfl aB) ?_
 refine .an ?_
 refine aa.nil ?_
 exact ⟨wy + 1, by rw [eR om, if_pos k0, hn], Le.mk (.c (.cons (ai rfl aZ) (.c (.nil)))) (.nil)⟩
 refine ab.skip ?_
 exact ⟨wy, by rw [eR om, if_neg k0, hn, Nat.add_zero], Le.mk (.c (.cons (ai rfl aZ) (.c (.nil)))) (.nil)⟩
 refine ab.region ?_
 refine .mv ?_
 refine .vl (Y.qb rfl rfl aB) ?_
 refine .an ?_
 refine aa.nil ?_
 exact ⟨uE, eS + 1, ⟨om, yh⟩, om, Le.mk (.c (.cons (ai rfl aZ) (.cons (ai rfl aZ) (.nil)))) (.nil)⟩
 refine ab.exit (ab.sr ?_)
 refine .mv ?_
 refine .an ?_
 refine aa.nil (ab.ret ?_)
 exact ⟨_, _, rfl, rfl, by rw [hn, show eS = l.length by omega, List.take_length]; rfl, rfl⟩
set_option maxRecDepth 4000 in
set_option maxHeartbeats 1000000 in
theorem tg  : ak Try.prog 30 [] [] [] (fun r o => r = .v (.bool true) ∧ o = []) := by
 refine ak.of Try.func30 rfl rfl rfl (n := 36) ag (Nat.zero_le _) (ab.sr ?_)
 refine .an ?_
 refine aa.nil (ab.sr ?_)
 refine aa.buildSlice (([1, 1] : List Int).map al) a7 er rfl rfl rfl rfl rfl (az (s := 1) (f := al) (fun _ => rfl)) rfl rfl rfl ag ?_
 refine aa.sh (Sh.bB (d := 5) (([1, 1] : List Int).map al) rfl iW (cp.map bf)) (aa.n8 Jb (uD (op := 11) (ws := ([1, 1] : List Int)) (width := 1) ag) rfl (.ao rfl rfl (.ao rfl rfl (.ao rfl rfl .nil))) ag ?_)
 rintro _ ⟨l6, Kd, e6, SC, rfl, _⟩
 refine ⟨rfl, ?_⟩
 refine aa.oV rfl ag (aa.kh rfl rfl ag (aa.kh rfl rfl ag ?_))
 refine .vl (Y.qn rfl rfl rfl) (aa.bd rfl ag (aa.sh (Sh.bB (d := 1) (l6.map Gate.row) rfl iW (cp.map Gate.cN)) ?_))
 refine aa.bd rfl ag (aa.sh (Sh.bB (d := 2) (Kd.map al) rfl iW (cp.map bf)) ?_)
 refine .an ?_
 refine aa.nil (ab.seq ?_)
 have hw := Ap SC; have PZ := hw.2.2.1; have uJ := hw.2.2.2.2
 refine ab.region ?_
 refine .mv ?_
 refine .vl (Y.ql rfl rfl) ?_
 refine .mv ?_
 refine aa.ax (d := 12) rfl (fun uS => ?_) (fun uS => ?_)
 refine .gw 12 (Y.zf rfl rfl) (.gw 12 (Y.qw (n := Kd.length) a7 rfl (congrArg some (List.length_map ..))) (.gw 12 (Y.ql rfl rfl) ?_))
 refine .pk ?_
 refine .mv ?_
 refine aa.ax (d := 17) rfl (fun GS => ?_) (fun GS => ?_)
 refine .gw 17 (Y.zf rfl rfl) ?_
 refine .gw 17 (Y.qr (m := 0) a7 rfl rfl aZ (aq (d := 0) om)) ?_
 refine .gw 17 (Y.qz bg rfl rfl rfl rfl) (.gw 17 (Y.qp rfl rfl) ?_)
 refine .pk ?_
 refine .mv ?_
 refine aa.ax (d := 23) rfl (fun Ew => ?_) (fun Ew => ?_)
 refine .gw 23 (Y.zf rfl rfl) ?_
 refine .gw 23 (Y.qr (m := 0) a7 rfl rfl aZ (aq (d := 0) om)) ?_
 refine .gw 23 (Y.qz bg rfl rfl rfl rfl) (.gw 23 (Y.zf rfl rfl) (.gw 23 (Y.qw (n := l6.length) qS rfl (congrArg some (List.length_map ..))) ?_))
 refine .gw 23 (Y.zb rfl rfl) ?_
 refine .pk ?_
 refine .mv ?_
 refine aa.ax (d := 31) rfl (fun Er => ?_) (fun Er => ?_)
 refine .gw 31 (Y.zf rfl rfl) (aa.aQ (d := 31) rfl ag rfl ?_)
 refine aa.aR Jd (sj (l := l6) (om)) rfl (.ao rfl rfl .nil) ag rfl ?_
 refine .gw 31 (Y.ql rfl rfl) ?_
 refine .pk ?_
 refine .an ?_
 refine aa.nil (ab.ret ?_)
 exact .rb rfl (decide_eq_true (by rw [hw.2.2.2.1]; rfl))
 exact absurd PZ.2 Er
 exact absurd PZ.1 Ew
 exact absurd (by rw [hw.2.1]; rfl) GS
 exact absurd hw.1 uS
open Go Go.AW Go.Proofs
set_option maxRecDepth 4000 in
set_option maxHeartbeats 1000000 in
theorem th {l : List Gate} (hl : l.length ≤ 1000000) : ak Try.prog 33 [.fz 3 (l.map Gate.row)] [] [] (fun r o => r = .v (.bool (decide (xh l))) ∧ o = []) := by
 refine ak.of Try.func33 rfl rfl rfl (n := 71) ag (Nat.le_of_ble_eq_true rfl) (ab.sr ?_)
 refine .an ?_
 refine aa.nil (ab.seq (ab.sr ?_))
 refine .an ?_
 refine aa.nil (ab.block ?_)
 refine ab.jD (fun (bW : Nat) => ⟨[(0, .fz 3 (l.map Gate.row)), (3, .v (.int .i64 (bW : Int)))], []⟩) (fun (bW : Nat) => ((bW : Int) ≤ (l.length : Int)) ∧ (∀ j, j < bW → jx j (l.getD j default))) (fun (bW : Nat) => ((l.length : Int) - (bW : Int)).toNat) 0 (⟨om, fun j hj => by omega⟩) (Le.mk (.c (.cons (ai rfl aZ) (.nil))) (.nil)) (fun bW xC => ?_)
 obtain ⟨yv, hG⟩ := xC
 refine ab.seq (ab.sr ?_)
 refine .mv ?_
 refine .mv ?_
 refine .vl (Y.qw (n := l.length) qS rfl (congrArg some (List.length_map ..))) (.vl (Y.zb rfl rfl) (aa.nil ?_))
 refine ab.ay rfl (fun c8 => ?_) (fun c8 => ?_)
 refine ab.skip ?_
 refine ab.yY (fun (wz : Bool) (w4 : Bool) (w5 : Bool) (w6 : Bool) => ⟨[(0, .fz 3 (l.map Gate.row)), (3, .v (.int .i64 (bW : Int))), (19, .ptr 104 0 0 0), (20, .v (.int .i64 ((l.getD bW default).kind))), (21, .v (.bool (decide (7 < ((l.getD bW default).kind))))), (32, .ptr 104 0 0 0), (33, .v (.int .i64 ((l.getD bW default).kind))), (34, .v (.bool (decide (((l.getD bW default).kind) < 5)))), (35, .v (.bool wz)), (39, .v (.bool w4)), (56, .ptr 104 0 0 0), (57, .v (.int .i64 ((l.getD bW default).kind))), (58, .v (.bool (decide (5 ≤ ((l.getD bW default).kind))))), (59, .v (.bool w5)), (69, .v (.bool w6))], [(104, .cells [.v (.int .i64 ((l.getD bW default).kind)), .v (.int .i64 ((l.getD bW default).a)), .v (.int .i64 ((l.getD bW default).b))])]⟩) (fun (wz : Bool) (w4 : Bool) (w5 : Bool) (w6 : Bool) => jx bW (l.getD bW default)) ?_ (fun wz w4 w5 w6 SD => ?_)
 refine ab.block (ab.sr ?_)
 refine .mv ?_
 refine .mv ?_
 refine .vl (Y.qr (m := bW) qS rfl rfl aZ (aq (d := default) om)) ?_
 refine .vl (Y.za Em rfl rfl (Nat.le_of_ble_eq_true rfl) rfl rfl) (aa.alloc 104 uj rfl rfl ag (aa.aw En rfl rfl rfl rfl rfl rfl (Nat.le_of_ble_eq_true rfl) rfl ?_))
 refine aa.nil (ab.seq (ab.sr ?_))
 refine .fa dD ?_
 refine .ld bg ?_
 refine .vl (Y.zb rfl rfl) ?_
 refine .mv ?_
 refine aa.ax (d := 18) rfl (fun Jl => ?_) (fun Jl => ?_)
 refine .gz 18 (.gz 18 (.gz 18 ?_))
 refine .pk ?_
 refine aa.nil (ab.aI rfl (ab.sr ?_))
 refine .an ?_
 refine aa.nil (ab.ret ?_)
 exact .rb rfl (df (fun h => by have h1 := aN.1 (h bW om); omega))
 refine .gw 18 (Y.qo dD rfl rfl) (.gw 18 (Y.qz bg rfl rfl rfl rfl) (.gw 18 (Y.qq rfl rfl) ?_))
 refine .pk ?_
 refine aa.nil ?_
 refine ab.ay rfl (fun mj => ?_) (fun mj => ?_)
 refine ab.sr ?_
 refine .an ?_
 refine aa.nil (ab.ret ?_)
 exact .rb rfl (df (fun h => by have h1 := aN.1 (h bW om); omega))
 refine ab.skip (ab.seq (ab.sr ?_))
 refine .fa dD ?_
 refine .ld bg ?_
 refine .vl (Y.zb rfl rfl) ?_
 refine .mv ?_
 refine aa.ax (d := 26) rfl (fun yb => ?_) (fun yb => ?_)
 refine .gw 26 (Y.qo fE rfl rfl) (.gw 26 (Y.qz bg rfl rfl rfl rfl) (.gw 26 (Y.zl rfl rfl) ?_))
 refine .pk ?_
 refine .mv ?_
 refine aa.ax (d := 31) rfl (fun Er => ?_) (fun Er => ?_)
 refine .gz 31 (.gz 31 (.gz 31 ?_))
 refine .gz 31 (.gz 35 (.gz 35 ?_))
 refine .gz 35 (.gz 31 ?_)
 refine .pk ?_
 refine aa.nil (ab.aI rfl (ab.sr ?_))
 refine .an ?_
 refine aa.nil (ab.ret ?_)
 exact .rb rfl (df (fun h => by have h1 := aN.1 (h bW om); omega))
 refine .gw 31 (Y.qo dD rfl rfl) (.gw 31 (Y.qz bg rfl rfl rfl rfl) (.gw 31 (Y.zb rfl rfl) ?_))
 refine .gw 31 (Y.zf rfl rfl) ?_
 refine aa.ax (d := 35) rfl (fun qT => ?_) (fun qT => ?_)
 refine .gw 35 (Y.qo dg rfl rfl) (.gw 35 (Y.qz bg rfl rfl rfl rfl) (.gw 35 (Y.zl rfl rfl) ?_))
 refine .gw 31 (Y.zp rfl rfl rfl) ?_
 refine .pk ?_
 refine aa.nil ?_
 refine ab.ay rfl (fun vQ => ?_) (fun vQ => ?_)
 refine ab.sr ?_
 refine .an ?_
 refine aa.nil (ab.ret ?_)
 exact .rb rfl (df (fun h => by have h1 := aN.1 (h bW om); omega))
 refine ab.skip (ab.sr ?_)
 refine .fa dD ?_
 refine .ld bg ?_
 refine .vl (Y.qp rfl rfl) ?_
 refine .mv ?_
 refine aa.ax (d := 44) rfl (fun GC => ?_) (fun GC => ?_)
 refine .gw 44 (Y.qo fE rfl rfl) (.gw 44 (Y.qz bg rfl rfl rfl rfl) (.gw 44 (Y.zb rfl rfl) ?_))
 refine .gw 44 (Y.zf rfl rfl) ?_
 refine aa.ax (d := 48) rfl (fun uw => ?_) (fun uw => ?_)
 refine .gz 48 (.gz 48 (.gz 48 ?_))
 refine .gz 48 (.gw 44 (Y.zp rfl rfl rfl) ?_)
 refine .pk ?_
 refine .mv ?_
 refine .gz 55 (.gz 55 (.gz 55 ?_))
 refine .gz 55 (.gz 59 (.gz 59 ?_))
 refine .gz 59 (.gz 59 (.gz 63 ?_))
 refine .gz 63 (.gz 63 (.gz 63 ?_))
 refine .gz 59 (.gz 55 ?_)
 refine .pk ?_
 refine aa.nil (ab.aI rfl (ab.sr ?_))
 refine .an ?_
 refine aa.nil (ab.ret ?_)
 exact .rb rfl (df (fun h => by have h1 := aN.1 (h bW om); omega))
 refine .gw 48 (Y.qo fE rfl rfl) (.gw 48 (Y.qz bg rfl rfl rfl rfl) (.gw 48 (Y.zf rfl rfl) ?_))
 refine .gw 48 (Y.qp rfl rfl) (.gw 44 (Y.zp rfl rfl rfl) ?_)
 refine .pk ?_
 refine .mv ?_
 refine aa.ax (d := 55) rfl (fun GD => ?_) (fun GD => ?_)
 refine .gz 55 (.gz 55 (.gz 55 ?_))
 refine .gz 55 (.gz 59 (.gz 59 ?_))
 refine .gz 59 (.gz 59 (.gz 63 ?_))
 refine .gz 63 (.gz 63 (.gz 63 ?_))
 refine .gz 59 (.gz 55 ?_)
 refine .pk ?_
 refine aa.nil (ab.aI rfl (ab.sr ?_))
 refine .an ?_
 refine aa.nil (ab.ret ?_)
 exact .rb rfl (df (fun h => by have h1 := aN.1 (h bW om); omega))
 refine .gw 55 (Y.qo dD rfl rfl) (.gw 55 (Y.qz bg rfl rfl rfl rfl) (.gw 55 (Y.qp rfl rfl) ?_))
 refine .gw 55 (Y.zf rfl rfl) ?_
 refine aa.ax (d := 59) rfl (fun td => ?_) (fun td => ?_)
 refine .gw 59 (Y.qo dg rfl rfl) (.gw 59 (Y.qz bg rfl rfl rfl rfl) (.gw 59 (Y.zb rfl rfl) ?_))
 refine .gw 59 (Y.zf rfl rfl) ?_
 refine aa.ax (d := 63) rfl (fun ru => ?_) (fun ru => ?_)
 refine .gz 63 (.gz 63 (.gz 63 ?_))
 refine .gz 63 (.gw 59 (Y.zp rfl rfl rfl) (.gw 55 (Y.zp rfl rfl rfl) ?_))
 refine .pk ?_
 refine aa.nil (ab.aI rfl (ab.sr ?_))
 refine .an ?_
 refine aa.nil (ab.ret ?_)
 exact .rb rfl (df (fun h => by have h1 := aN.1 (h bW om); omega))
 refine .gw 63 (Y.qo dg rfl rfl) (.gw 63 (Y.qz bg rfl rfl rfl rfl) (.gw 63 (Y.zf rfl rfl) ?_))
 refine .gw 63 (Y.qp rfl rfl) (.gw 59 (Y.zp rfl rfl rfl) (.gw 55 (Y.zp rfl rfl rfl) ?_))
 refine .pk ?_
 refine aa.nil ?_
 refine ab.ay rfl (fun w7 => ?_) (fun w7 => ?_)
 refine ab.sr ?_
 refine .an ?_
 refine aa.nil (ab.ret ?_)
 exact .rb rfl (df (fun h => by have h1 := aN.1 (h bW om); omega))
 refine ab.skip ?_
 exact ⟨true, decide (((l.getD bW default).b) ≠ 0), true, decide ((bW : Int) ≤ ((l.getD bW default).b)), aN.2 (by refine ⟨om, ?_, ?_, ?_, ?_⟩ <;> intros <;> omega), Le.mk (.c (.c (.c (.c (.c (.c (.c (.c (.cons (au rfl dz) (.cons (au rfl dz) (.c (.c (.c (.cons (au rfl dz) (.cons (au rfl dz) (.nil)))))))))))))))) (.c (.nil))⟩
 refine .gz 59 (.gz 59 (.gz 59 ?_))
 refine .gz 59 (.gz 63 (.gz 63 ?_))
 refine .gz 63 (.gz 63 (.gz 59 ?_))
 refine .gw 55 (Y.zp rfl rfl rfl) ?_
 refine .pk ?_
 refine aa.nil (ab.cj rfl (ab.skip ?_))
 exact ⟨true, decide (((l.getD bW default).b) ≠ 0), false, false, aN.2 (by refine ⟨om, ?_, ?_, ?_, ?_⟩ <;> intros <;> omega), Le.mk (.c (.c (.c (.c (.c (.c (.c (.c (.cons (au rfl dz) (.cons (au rfl dz) (.c (.c (.c (.cons (au rfl dz) (.cons (au rfl dz) (.nil)))))))))))))))) (.c (.nil))⟩
 refine .gz 44 (.gz 44 (.gz 44 ?_))
 refine .gz 44 (.gz 48 (.gz 48 ?_))
 refine .gz 48 (.gz 48 (.gz 44 ?_))
 refine .pk ?_
 refine .mv ?_
 refine .gw 55 (Y.qo dD rfl rfl) (.gw 55 (Y.qz bg rfl rfl rfl rfl) (.gw 55 (Y.qp rfl rfl) ?_))
 refine .gw 55 (Y.zf rfl rfl) ?_
 refine aa.ax (d := 59) rfl (fun td => ?_) (fun td => ?_)
 refine .gw 59 (Y.qo dg rfl rfl) (.gw 59 (Y.qz bg rfl rfl rfl rfl) (.gw 59 (Y.zb rfl rfl) ?_))
 refine .gw 59 (Y.zf rfl rfl) ?_
 refine aa.ax (d := 63) rfl (fun ru => ?_) (fun ru => ?_)
 refine .gz 63 (.gz 63 (.gz 63 ?_))
 refine .gz 63 (.gw 59 (Y.zp rfl rfl rfl) (.gw 55 (Y.zp rfl rfl rfl) ?_))
 refine .pk ?_
 refine aa.nil (ab.aI rfl (ab.sr ?_))
 refine .an ?_
 refine aa.nil (ab.ret ?_)
 exact .rb rfl (df (fun h => by have h1 := aN.1 (h bW om); omega))
 refine .gw 63 (Y.qo dg rfl rfl) (.gw 63 (Y.qz bg rfl rfl rfl rfl) (.gw 63 (Y.zf rfl rfl) ?_))
 refine .gw 63 (Y.qp rfl rfl) (.gw 59 (Y.zp rfl rfl rfl) (.gw 55 (Y.zp rfl rfl rfl) ?_))
 refine .pk ?_
 refine aa.nil ?_
 refine ab.ay rfl (fun w7 => ?_) (fun w7 => ?_)
 refine ab.sr ?_
 refine .an ?_
 refine aa.nil (ab.ret ?_)
 exact .rb rfl (df (fun h => by have h1 := aN.1 (h bW om); omega))
 refine ab.skip ?_
 exact ⟨true, decide (((l.getD bW default).b) ≠ 0), true, decide ((bW : Int) ≤ ((l.getD bW default).b)), aN.2 (by refine ⟨om, ?_, ?_, ?_, ?_⟩ <;> intros <;> omega), Le.mk (.c (.c (.c (.c (.c (.c (.c (.c (.cons (au rfl dz) (.cons (au rfl dz) (.c (.c (.c (.cons (au rfl dz) (.cons (au rfl dz) (.nil)))))))))))))))) (.c (.nil))⟩
 refine .gz 59 (.gz 59 (.gz 59 ?_))
 refine .gz 59 (.gz 63 (.gz 63 ?_))
 refine .gz 63 (.gz 63 (.gz 59 ?_))
 refine .gw 55 (Y.zp rfl rfl rfl) ?_
 refine .pk ?_
 refine aa.nil (ab.cj rfl (ab.skip ?_))
 exact ⟨true, decide (((l.getD bW default).b) ≠ 0), false, false, aN.2 (by refine ⟨om, ?_, ?_, ?_, ?_⟩ <;> intros <;> omega), Le.mk (.c (.c (.c (.c (.c (.c (.c (.c (.cons (au rfl dz) (.cons (au rfl dz) (.c (.c (.c (.cons (au rfl dz) (.cons (au rfl dz) (.nil)))))))))))))))) (.c (.nil))⟩
 refine .gz 35 (.gz 35 (.gz 35 ?_))
 refine .gw 31 (Y.zp rfl rfl rfl) ?_
 refine .pk ?_
 refine aa.nil (ab.cj rfl (ab.skip ?_))
 refine ab.sr ?_
 refine .fa dD ?_
 refine .ld bg ?_
 refine .vl (Y.qp rfl rfl) ?_
 refine .mv ?_
 refine aa.ax (d := 44) rfl (fun GC => ?_) (fun GC => ?_)
 refine .gw 44 (Y.qo fE rfl rfl) (.gw 44 (Y.qz bg rfl rfl rfl rfl) (.gw 44 (Y.zb rfl rfl) ?_))
 refine .gw 44 (Y.zf rfl rfl) ?_
 refine aa.ax (d := 48) rfl (fun uw => ?_) (fun uw => ?_)
 refine .gz 48 (.gz 48 (.gz 48 ?_))
 refine .gz 48 (.gw 44 (Y.zp rfl rfl rfl) ?_)
 refine .pk ?_
 refine .mv ?_
 refine .gz 55 (.gz 55 (.gz 55 ?_))
 refine .gz 55 (.gz 59 (.gz 59 ?_))
 refine .gz 59 (.gz 59 (.gz 63 ?_))
 refine .gz 63 (.gz 63 (.gz 63 ?_))
 refine .gz 59 (.gz 55 ?_)
 refine .pk ?_
 refine aa.nil (ab.aI rfl (ab.sr ?_))
 refine .an ?_
 refine aa.nil (ab.ret ?_)
 exact .rb rfl (df (fun h => by have h1 := aN.1 (h bW om); omega))
 refine .gw 48 (Y.qo fE rfl rfl) (.gw 48 (Y.qz bg rfl rfl rfl rfl) (.gw 48 (Y.zf rfl rfl) ?_))
 refine .gw 48 (Y.qp rfl rfl) (.gw 44 (Y.zp rfl rfl rfl) ?_)
 refine .pk ?_
 refine .mv ?_
 refine aa.ax (d := 55) rfl (fun GD => ?_) (fun GD => ?_)
 refine .gz 55 (.gz 55 (.gz 55 ?_))
 refine .gz 55 (.gz 59 (.gz 59 ?_))
 refine .gz 59 (.gz 59 (.gz 63 ?_))
 refine .gz 63 (.gz 63 (.gz 63 ?_))
 refine .gz 59 (.gz 55 ?_)
 refine .pk ?_
 refine aa.nil (ab.aI rfl (ab.sr ?_))
 refine .an ?_
 refine aa.nil (ab.ret ?_)
 exact .rb rfl (df (fun h => by have h1 := aN.1 (h bW om); omega))
 refine .gw 55 (Y.qo dD rfl rfl) (.gw 55 (Y.qz bg rfl rfl rfl rfl) (.gw 55 (Y.qp rfl rfl) ?_))
 refine .gw 55 (Y.zf rfl rfl) ?_
 refine aa.ax (d := 59) rfl (fun td => ?_) (fun td => ?_)
 refine .gw 59 (Y.qo dg rfl rfl) (.gw 59 (Y.qz bg rfl rfl rfl rfl) (.gw 59 (Y.zb rfl rfl) ?_))
 refine .gw 59 (Y.zf rfl rfl) ?_
 refine aa.ax (d := 63) rfl (fun ru => ?_) (fun ru => ?_)
 refine .gz 63 (.gz 63 (.gz 63 ?_))
 refine .gz 63 (.gw 59 (Y.zp rfl rfl rfl) (.gw 55 (Y.zp rfl rfl rfl) ?_))
 refine .pk ?_
 refine aa.nil (ab.aI rfl (ab.sr ?_))
 refine .an ?_
 refine aa.nil (ab.ret ?_)
 exact .rb rfl (df (fun h => by have h1 := aN.1 (h bW om); omega))
 refine .gw 63 (Y.qo dg rfl rfl) (.gw 63 (Y.qz bg rfl rfl rfl rfl) (.gw 63 (Y.zf rfl rfl) ?_))
 refine .gw 63 (Y.qp rfl rfl) (.gw 59 (Y.zp rfl rfl rfl) (.gw 55 (Y.zp rfl rfl rfl) ?_))
 refine .pk ?_
 refine aa.nil ?_
 refine ab.ay rfl (fun w7 => ?_) (fun w7 => ?_)
 refine ab.sr ?_
 refine .an ?_
 refine aa.nil (ab.ret ?_)
 exact .rb rfl (df (fun h => by have h1 := aN.1 (h bW om); omega))
 refine ab.skip ?_
 exact ⟨false, false, true, decide ((bW : Int) ≤ ((l.getD bW default).b)), aN.2 (by refine ⟨om, ?_, ?_, ?_, ?_⟩ <;> intros <;> omega), Le.mk (.c (.c (.c (.c (.c (.c (.c (.c (.cons (au rfl dz) (.cons (au rfl dz) (.c (.c (.c (.cons (au rfl dz) (.cons (au rfl dz) (.nil)))))))))))))))) (.c (.nil))⟩
 refine .gz 59 (.gz 59 (.gz 59 ?_))
 refine .gz 59 (.gz 63 (.gz 63 ?_))
 refine .gz 63 (.gz 63 (.gz 59 ?_))
 refine .gw 55 (Y.zp rfl rfl rfl) ?_
 refine .pk ?_
 refine aa.nil (ab.cj rfl (ab.skip ?_))
 exact ⟨false, false, false, false, aN.2 (by refine ⟨om, ?_, ?_, ?_, ?_⟩ <;> intros <;> omega), Le.mk (.c (.c (.c (.c (.c (.c (.c (.c (.cons (au rfl dz) (.cons (au rfl dz) (.c (.c (.c (.cons (au rfl dz) (.cons (au rfl dz) (.nil)))))))))))))))) (.c (.nil))⟩
 refine .gz 44 (.gz 44 (.gz 44 ?_))
 refine .gz 44 (.gz 48 (.gz 48 ?_))
 refine .gz 48 (.gz 48 (.gz 44 ?_))
 refine .pk ?_
 refine .mv ?_
 refine .gw 55 (Y.qo dD rfl rfl) (.gw 55 (Y.qz bg rfl rfl rfl rfl) (.gw 55 (Y.qp rfl rfl) ?_))
 refine .gw 55 (Y.zf rfl rfl) ?_
 refine aa.ax (d := 59) rfl (fun td => ?_) (fun td => ?_)
 refine .gw 59 (Y.qo dg rfl rfl) (.gw 59 (Y.qz bg rfl rfl rfl rfl) (.gw 59 (Y.zb rfl rfl) ?_))
 refine .gw 59 (Y.zf rfl rfl) ?_
 refine aa.ax (d := 63) rfl (fun ru => ?_) (fun ru => ?_)
 refine .gz 63 (.gz 63 (.gz 63 ?_))
 refine .gz 63 (.gw 59 (Y.zp rfl rfl rfl) (.gw 55 (Y.zp rfl rfl rfl) ?_))
 refine .pk ?_
 refine aa.nil (ab.aI rfl (ab.sr ?_))
 refine .an ?_
 refine aa.nil (ab.ret ?_)
 exact .rb rfl (df (fun h => by have h1 := aN.1 (h bW om); omega))
 refine .gw 63 (Y.qo dg rfl rfl) (.gw 63 (Y.qz bg rfl rfl rfl rfl) (.gw 63 (Y.zf rfl rfl) ?_))
 refine .gw 63 (Y.qp rfl rfl) (.gw 59 (Y.zp rfl rfl rfl) (.gw 55 (Y.zp rfl rfl rfl) ?_))
 refine .pk ?_
 refine aa.nil ?_
 refine ab.ay rfl (fun w7 => ?_) (fun w7 => ?_)
 refine ab.sr ?_
 refine .an ?_
 refine aa.nil (ab.ret ?_)
 exact .rb rfl (df (fun h => by have h1 := aN.1 (h bW om); omega))
 refine ab.skip ?_
 exact ⟨false, false, true, decide ((bW : Int) ≤ ((l.getD bW default).b)), aN.2 (by refine ⟨om, ?_, ?_, ?_, ?_⟩ <;> intros <;> omega), Le.mk (.c (.c (.c (.c (.c (.c (.c (.c (.cons (au rfl dz) (.cons (au rfl dz) (.c (.c (.c (.cons (au rfl dz) (.cons (au rfl dz) (.nil)))))))))))))))) (.c (.nil))⟩
 refine .gz 59 (.gz 59 (.gz 59 ?_))
 refine .gz 59 (.gz 63 (.gz 63 ?_))
 refine .gz 63 (.gz 63 (.gz 59 ?_))
 refine .gw 55 (Y.zp rfl rfl rfl) ?_
 refine .pk ?_
 refine aa.nil (ab.cj rfl (ab.skip ?_))
 exact ⟨false, false, false, false, aN.2 (by refine ⟨om, ?_, ?_, ?_, ?_⟩ <;> intros <;> omega), Le.mk (.c (.c (.c (.c (.c (.c (.c (.c (.cons (au rfl dz) (.cons (au rfl dz) (.c (.c (.c (.cons (au rfl dz) (.cons (au rfl dz) (.nil)))))))))))))))) (.c (.nil))⟩
 refine .gz 26 (.gz 26 (.gz 26 ?_))
 refine .pk ?_
 refine .mv ?_
 refine .gw 31 (Y.qo dD rfl rfl) (.gw 31 (Y.qz bg rfl rfl rfl rfl) (.gw 31 (Y.zb rfl rfl) ?_))
 refine .gw 31 (Y.zf rfl rfl) ?_
 refine aa.ax (d := 35) rfl (fun qT => ?_) (fun qT => ?_)
 refine .gw 35 (Y.qo dg rfl rfl) (.gw 35 (Y.qz bg rfl rfl rfl rfl) (.gw 35 (Y.zl rfl rfl) ?_))
 refine .gw 31 (Y.zp rfl rfl rfl) ?_
 refine .pk ?_
 refine aa.nil ?_
 refine ab.ay rfl (fun vQ => ?_) (fun vQ => ?_)
 refine ab.sr ?_
 refine .an ?_
 refine aa.nil (ab.ret ?_)
 exact .rb rfl (df (fun h => by have h1 := aN.1 (h bW om); omega))
 refine ab.skip (ab.sr ?_)
 refine .fa dD ?_
 refine .ld bg ?_
 refine .vl (Y.qp rfl rfl) ?_
 refine .mv ?_
 refine aa.ax (d := 44) rfl (fun GC => ?_) (fun GC => ?_)
 refine .gw 44 (Y.qo fE rfl rfl) (.gw 44 (Y.qz bg rfl rfl rfl rfl) (.gw 44 (Y.zb rfl rfl) ?_))
 refine .gw 44 (Y.zf rfl rfl) ?_
 refine aa.ax (d := 48) rfl (fun uw => ?_) (fun uw => ?_)
 refine .gz 48 (.gz 48 (.gz 48 ?_))
 refine .gz 48 (.gw 44 (Y.zp rfl rfl rfl) ?_)
 refine .pk ?_
 refine .mv ?_
 refine .gz 55 (.gz 55 (.gz 55 ?_))
 refine .gz 55 (.gz 59 (.gz 59 ?_))
 refine .gz 59 (.gz 59 (.gz 63 ?_))
 refine .gz 63 (.gz 63 (.gz 63 ?_))
 refine .gz 59 (.gz 55 ?_)
 refine .pk ?_
 refine aa.nil (ab.aI rfl (ab.sr ?_))
 refine .an ?_
 refine aa.nil (ab.ret ?_)
 exact .rb rfl (df (fun h => by have h1 := aN.1 (h bW om); omega))
 refine .gw 48 (Y.qo fE rfl rfl) (.gw 48 (Y.qz bg rfl rfl rfl rfl) (.gw 48 (Y.zf rfl rfl) ?_))
 refine .gw 48 (Y.qp rfl rfl) (.gw 44 (Y.zp rfl rfl rfl) ?_)
 refine .pk ?_
 refine .mv ?_
 refine aa.ax (d := 55) rfl (fun GD => ?_) (fun GD => ?_)
 refine .gz 55 (.gz 55 (.gz 55 ?_))
 refine .gz 55 (.gz 59 (.gz 59 ?_))
 refine .gz 59 (.gz 59 (.gz 63 ?_))
 refine .gz 63 (.gz 63 (.gz 63 ?_))
 refine .gz 59 (.gz 55 ?_)
 refine .pk ?_
 refine aa.nil (ab.aI rfl (ab.sr ?_))
 refine .an ?_
 refine aa.nil (ab.ret ?_)
 exact .rb rfl (df (fun h => by have h1 := aN.1 (h bW om); omega))
 refine .gw 55 (Y.qo dD rfl rfl) (.gw 55 (Y.qz bg rfl rfl rfl rfl) (.gw 55 (Y.qp rfl rfl) ?_))
 refine .gw 55 (Y.zf rfl rfl) ?_
 refine aa.ax (d := 59) rfl (fun td => ?_) (fun td => ?_)
 refine .gw 59 (Y.qo dg rfl rfl) (.gw 59 (Y.qz bg rfl rfl rfl rfl) (.gw 59 (Y.zb rfl rfl) ?_))
 refine .gw 59 (Y.zf rfl rfl) ?_
 refine aa.ax (d := 63) rfl (fun ru => ?_) (fun ru => ?_)
 refine .gz 63 (.gz 63 (.gz 63 ?_))
 refine .gz 63 (.gw 59 (Y.zp rfl rfl rfl) (.gw 55 (Y.zp rfl rfl rfl) ?_))
 refine .pk ?_
 refine aa.nil (ab.aI rfl (ab.sr ?_))
 refine .an ?_
 refine aa.nil (ab.ret ?_)
 exact .rb rfl (df (fun h => by have h1 := aN.1 (h bW om); omega))
 refine .gw 63 (Y.qo dg rfl rfl) (.gw 63 (Y.qz bg rfl rfl rfl rfl) (.gw 63 (Y.zf rfl rfl) ?_))
 refine .gw 63 (Y.qp rfl rfl) (.gw 59 (Y.zp rfl rfl rfl) (.gw 55 (Y.zp rfl rfl rfl) ?_))
 refine .pk ?_
 refine aa.nil ?_
 refine ab.ay rfl (fun w7 => ?_) (fun w7 => ?_)
 refine ab.sr ?_
 refine .an ?_
 refine aa.nil (ab.ret ?_)
 exact .rb rfl (df (fun h => by have h1 := aN.1 (h bW om); omega))
 refine ab.skip ?_
 exact ⟨true, decide (((l.getD bW default).b) ≠ 0), true, decide ((bW : Int) ≤ ((l.getD bW default).b)), aN.2 (by refine ⟨om, ?_, ?_, ?_, ?_⟩ <;> intros <;> omega), Le.mk (.c (.c (.c (.c (.c (.c (.c (.c (.cons (au rfl dz) (.cons (au rfl dz) (.c (.c (.c (.cons (au rfl dz) (.cons (au rfl dz) (.nil)))))))))))))))) (.c (.nil))⟩
 refine .gz 59 (.gz 59 (.gz 59 ?_))
 refine .gz 59 (.gz 63 (.gz 63 ?_))
 refine .gz 63 (.gz 63 (.gz 59 ?_))
 refine .gw 55 (Y.zp rfl rfl rfl) ?_
 refine .pk ?_
 refine aa.nil (ab.cj rfl (ab.skip ?_))
 exact ⟨true, decide (((l.getD bW default).b) ≠ 0), false, false, aN.2 (by refine ⟨om, ?_, ?_, ?_, ?_⟩ <;> intros <;> omega), Le.mk (.c (.c (.c (.c (.c (.c (.c (.c (.cons (au rfl dz) (.cons (au rfl dz) (.c (.c (.c (.cons (au rfl dz) (.cons (au rfl dz) (.nil)))))))))))))))) (.c (.nil))⟩
 refine .gz 44 (.gz 44 (.gz 44 ?_))
 refine .gz 44 (.gz 48 (.gz 48 ?_))
 refine .gz 48 (.gz 48 (.gz 44 ?_))
 refine .pk ?_
 refine .mv ?_
 refine .gw 55 (Y.qo dD rfl rfl) (.gw 55 (Y.qz bg rfl rfl rfl rfl) (.gw 55 (Y.qp rfl rfl) ?_))
 refine .gw 55 (Y.zf rfl rfl) ?_
 refine aa.ax (d := 59) rfl (fun td => ?_) (fun td => ?_)
 refine .gw 59 (Y.qo dg rfl rfl) (.gw 59 (Y.qz bg rfl rfl rfl rfl) (.gw 59 (Y.zb rfl rfl) ?_))
 refine .gw 59 (Y.zf rfl rfl) ?_
 refine aa.ax (d := 63) rfl (fun ru => ?_) (fun ru => ?_)
 refine .gz 63 (.gz 63 (.gz 63 ?_))
 refine .gz 63 (.gw 59 (Y.zp rfl rfl rfl) (.gw 55 (Y.zp rfl rfl rfl) ?_))
 refine .pk ?_
 refine aa.nil (ab.aI rfl (ab.sr ?_))
 refine .an ?_
 refine aa.nil (ab.ret ?_)
 exact .rb rfl (df (fun h => by have h1 := aN.1 (h bW om); omega))
 refine .gw 63 (Y.qo dg rfl rfl) (.gw 63 (Y.qz bg rfl rfl rfl rfl) (.gw 63 (Y.zf rfl rfl) ?_))
 refine .gw 63 (Y.qp rfl rfl) (.gw 59 (Y.zp rfl rfl rfl) (.gw 55 (Y.zp rfl rfl rfl) ?_))
 refine .pk ?_
 refine aa.nil ?_
 refine ab.ay rfl (fun w7 => ?_) (fun w7 => ?_)
 refine ab.sr ?_
 refine .an ?_
 refine aa.nil (ab.ret ?_)
 exact .rb rfl (df (fun h => by have h1 := aN.1 (h bW om); omega))
 refine ab.skip ?_
 exact ⟨true, decide (((l.getD bW default).b) ≠ 0), true, decide ((bW : Int) ≤ ((l.getD bW default).b)), aN.2 (by refine ⟨om, ?_, ?_, ?_, ?_⟩ <;> intros <;> omega), Le.mk (.c (.c (.c (.c (.c (.c (.c (.c (.cons (au rfl dz) (.cons (au rfl dz) (.c (.c (.c (.cons (au rfl dz) (.cons (au rfl dz) (.nil)))))))))))))))) (.c (.nil))⟩
 refine .gz 59 (.gz 59 (.gz 59 ?_))
 refine .gz 59 (.gz 63 (.gz 63 ?_))
 refine .gz 63 (.gz 63 (.gz 59 ?_))
 refine .gw 55 (Y.zp rfl rfl rfl) ?_
 refine .pk ?_
 refine aa.nil (ab.cj rfl (ab.skip ?_))
 exact ⟨true, decide (((l.getD bW default).b) ≠ 0), false, false, aN.2 (by refine ⟨om, ?_, ?_, ?_, ?_⟩ <;> intros <;> omega), Le.mk (.c (.c (.c (.c (.c (.c (.c (.c (.cons (au rfl dz) (.cons (au rfl dz) (.c (.c (.c (.cons (au rfl dz) (.cons (au rfl dz) (.nil)))))))))))))))) (.c (.nil))⟩
 refine .gz 35 (.gz 35 (.gz 35 ?_))
 refine .gw 31 (Y.zp rfl rfl rfl) ?_
 refine .pk ?_
 refine aa.nil (ab.cj rfl (ab.skip ?_))
 refine ab.sr ?_
 refine .fa dD ?_
 refine .ld bg ?_
 refine .vl (Y.qp rfl rfl) ?_
 refine .mv ?_
 refine aa.ax (d := 44) rfl (fun GC => ?_) (fun GC => ?_)
 refine .gw 44 (Y.qo fE rfl rfl) (.gw 44 (Y.qz bg rfl rfl rfl rfl) (.gw 44 (Y.zb rfl rfl) ?_))
 refine .gw 44 (Y.zf rfl rfl) ?_
 refine aa.ax (d := 48) rfl (fun uw => ?_) (fun uw => ?_)
 refine .gz 48 (.gz 48 (.gz 48 ?_))
 refine .gz 48 (.gw 44 (Y.zp rfl rfl rfl) ?_)
 refine .pk ?_
 refine .mv ?_
 refine .gz 55 (.gz 55 (.gz 55 ?_))
 refine .gz 55 (.gz 59 (.gz 59 ?_))
 refine .gz 59 (.gz 59 (.gz 63 ?_))
 refine .gz 63 (.gz 63 (.gz 63 ?_))
 refine .gz 59 (.gz 55 ?_)
 refine .pk ?_
 refine aa.nil (ab.aI rfl (ab.sr ?_))
 refine .an ?_
 refine aa.nil (ab.ret ?_)
 exact .rb rfl (df (fun h => by have h1 := aN.1 (h bW om); omega))
 refine .gw 48 (Y.qo fE rfl rfl) (.gw 48 (Y.qz bg rfl rfl rfl rfl) (.gw 48 (Y.zf rfl rfl) ?_))
 refine .gw 48 (Y.qp rfl rfl) (.gw 44 (Y.zp rfl rfl rfl) ?_)
 refine .pk ?_
 refine .mv ?_
 refine aa.ax (d := 55) rfl (fun GD => ?_) (fun GD => ?_)
 refine .gz 55 (.gz 55 (.gz 55 ?_))
 refine .gz 55 (.gz 59 (.gz 59 ?_))
 refine .gz 59 (.gz 59 (.gz 63 ?_))
 refine .gz 63 (.gz 63 (.gz 63 ?_))
 refine .gz 59 (.gz 55 ?_)
 refine .pk ?_
 refine aa.nil (ab.aI rfl (ab.sr ?_))
 refine .an ?_
 refine aa.nil (ab.ret ?_)
 exact .rb rfl (df (fun h => by have h1 := aN.1 (h bW om); omega))
 refine .gw 55 (Y.qo dD rfl rfl) (.gw 55 (Y.qz bg rfl rfl rfl rfl) (.gw 55 (Y.qp rfl rfl) ?_))
 refine .gw 55 (Y.zf rfl rfl) ?_
 refine aa.ax (d := 59) rfl (fun td => ?_) (fun td => ?_)
 refine .gw 59 (Y.qo dg rfl rfl) (.gw 59 (Y.qz bg rfl rfl rfl rfl) (.gw 59 (Y.zb rfl rfl) ?_))
 refine .gw 59 (Y.zf rfl rfl) ?_
 refine aa.ax (d := 63) rfl (fun ru => ?_) (fun ru => ?_)
 refine .gz 63 (.gz 63 (.gz 63 ?_))
 refine .gz 63 (.gw 59 (Y.zp rfl rfl rfl) (.gw 55 (Y.zp rfl rfl rfl) ?_))
 refine .pk ?_
 refine aa.nil (ab.aI rfl (ab.sr ?_))
 refine .an ?_
 refine aa.nil (ab.ret ?_)
 exact .rb rfl (df (fun h => by have h1 := aN.1 (h bW om); omega))
 refine .gw 63 (Y.qo dg rfl rfl) (.gw 63 (Y.qz bg rfl rfl rfl rfl) (.gw 63 (Y.zf rfl rfl) ?_))
 refine .gw 63 (Y.qp rfl rfl) (.gw 59 (Y.zp rfl rfl rfl) (.gw 55 (Y.zp rfl rfl rfl) ?_))
 refine .pk ?_
 refine aa.nil ?_
 refine ab.ay rfl (fun w7 => ?_) (fun w7 => ?_)
 refine ab.sr ?_
 refine .an ?_
 refine aa.nil (ab.ret ?_)
 exact .rb rfl (df (fun h => by have h1 := aN.1 (h bW om); omega))
 refine ab.skip ?_
 exact ⟨false, false, true, decide ((bW : Int) ≤ ((l.getD bW default).b)), aN.2 (by refine ⟨om, ?_, ?_, ?_, ?_⟩ <;> intros <;> omega), Le.mk (.c (.c (.c (.c (.c (.c (.c (.c (.cons (au rfl dz) (.cons (au rfl dz) (.c (.c (.c (.cons (au rfl dz) (.cons (au rfl dz) (.nil)))))))))))))))) (.c (.nil))⟩
 refine .gz 59 (.gz 59 (.gz 59 ?_))
 refine .gz 59 (.gz 63 (.gz 63 ?_))
 refine .gz 63 (.gz 63 (.gz 59 ?_))
 refine .gw 55 (Y.zp rfl rfl rfl) ?_
 refine .pk ?_
 refine aa.nil (ab.cj rfl (ab.skip ?_))
 exact ⟨false, false, false, false, aN.2 (by refine ⟨om, ?_, ?_, ?_, ?_⟩ <;> intros <;> omega), Le.mk (.c (.c (.c (.c (.c (.c (.c (.c (.cons (au rfl dz) (.cons (au rfl dz) (.c (.c (.c (.cons (au rfl dz) (.cons (au rfl dz) (.nil)))))))))))))))) (.c (.nil))⟩
 refine .gz 44 (.gz 44 (.gz 44 ?_))
 refine .gz 44 (.gz 48 (.gz 48 ?_))
 refine .gz 48 (.gz 48 (.gz 44 ?_))
 refine .pk ?_
 refine .mv ?_
 refine .gw 55 (Y.qo dD rfl rfl) (.gw 55 (Y.qz bg rfl rfl rfl rfl) (.gw 55 (Y.qp rfl rfl) ?_))
 refine .gw 55 (Y.zf rfl rfl) ?_
 refine aa.ax (d := 59) rfl (fun td => ?_) (fun td => ?_)
 refine .gw 59 (Y.qo dg rfl rfl) (.gw 59 (Y.qz bg rfl rfl rfl rfl) (.gw 59 (Y.zb rfl rfl) ?_))
 refine .gw 59 (Y.zf rfl rfl) ?_
 refine aa.ax (d := 63) rfl (fun ru => ?_) (fun ru => ?_)
 refine .gz 63 (.gz 63 (.gz 63 ?_))
 refine .gz 63 (.gw 59 (Y.zp rfl rfl rfl) (.gw 55 (Y.zp rfl rfl rfl) ?_))
 refine .pk ?_
 refine aa.nil (ab.aI rfl (ab.sr ?_))
 refine .an ?_
 refine aa.nil (ab.ret ?_)
 exact .rb rfl (df (fun h => by have h1 := aN.1 (h bW om); omega))
 refine .gw 63 (Y.qo dg rfl rfl) (.gw 63 (Y.qz bg rfl rfl rfl rfl) (.gw 63 (Y.zf rfl rfl) ?_))
 refine .gw 63 (Y.qp rfl rfl) (.gw 59 (Y.zp rfl rfl rfl) (.gw 55 (Y.zp rfl rfl rfl) ?_))
 refine .pk ?_
 refine aa.nil ?_
 refine ab.ay rfl (fun w7 => ?_) (fun w7 => ?_)
 refine ab.sr ?_
 refine .an ?_
 refine aa.nil (ab.ret ?_)
 exact .rb rfl (df (fun h => by have h1 := aN.1 (h bW om); omega))
 refine ab.skip ?_
 exact ⟨false, false, true, decide ((bW : Int) ≤ ((l.getD bW default).b)), aN.2 (by refine ⟨om, ?_, ?_, ?_, ?_⟩ <;> intros <;> omega), Le.mk (.c (.c (.c (.c (.c (.c (.c (.c (.cons (au rfl dz) (.cons (au rfl dz) (.c (.c (.c (.cons (au rfl dz) (.cons (au rfl dz) (.nil)))))))))))))))) (.c (.nil))⟩
 refine .gz 59 (.gz 59 (.gz 59 ?_))
 refine .gz 59 (.gz 63 (.gz 63 ?_))
 refine .gz 63 (.gz 63 (.gz 59 ?_))
 refine .gw 55 (Y.zp rfl rfl rfl) ?_
 refine .pk ?_
 refine aa.nil (ab.cj rfl (ab.skip ?_))
 exact ⟨false, false, false, false, aN.2 (by refine ⟨om, ?_, ?_, ?_, ?_⟩ <;> intros <;> omega), Le.mk (.c (.c (.c (.c (.c (.c (.c (.c (.cons (au rfl dz) (.cons (au rfl dz) (.c (.c (.c (.cons (au rfl dz) (.cons (au rfl dz) (.nil)))))))))))))))) (.c (.nil))⟩
 refine ab.region ?_
 refine .mv ?_
 refine .vl (Y.qb rfl rfl aB) ?_
 refine .an ?_
 refine aa.nil ?_
 exact ⟨bW + 1, ⟨om, e8 hG SD⟩, om, Le.mk (.c (.cons (ai rfl aZ) (.nil))) (.nil)⟩
 refine ab.exit (ab.sr ?_)
 refine .an ?_
 refine aa.nil (ab.ret ?_)
 exact .rb rfl (dt (fun j hj => hG j om))
set_option maxRecDepth 4000 in
set_option maxHeartbeats 1000000 in
theorem uF {a : List Int} {w n : Int} (ha : a.length ≤ 1000000) : ak Try.prog 34 [.fz 1 (a.map al), .v (.int .i64 w), .v (.int .i64 n)] [] [] (fun r o => r = .v (.bool (decide (p7 a w n))) ∧ o = []) := by
 refine ak.of Try.func34 rfl rfl rfl (n := 31) ag (Nat.le_of_ble_eq_true rfl) (ab.sr ?_)
 refine .an ?_
 refine aa.nil (ab.seq (ab.sr ?_))
 refine .an ?_
 refine aa.nil (ab.block ?_)
 refine ab.jD (fun (pt : Nat) => ⟨[(0, .fz 1 (a.map al)), (1, .v (.int .i64 w)), (2, .v (.int .i64 n)), (7, .v (.int .i64 (pt : Int)))], []⟩) (fun (pt : Nat) => ((pt : Int) ≤ (a.length : Int)) ∧ (∀ j, j < pt → 0 ≤ a.getD j 0 ∧ a.getD j 0 < n)) (fun (pt : Nat) => ((a.length : Int) - (pt : Int)).toNat) 0 (⟨om, fun j hj => by omega⟩) (Le.mk (.c (.c (.c (.cons (ai rfl aZ) (.nil))))) (.nil)) (fun pt xC => ?_)
 obtain ⟨yv, hP⟩ := xC
 refine ab.seq (ab.sr ?_)
 refine .mv ?_
 refine .mv ?_
 refine .vl (Y.qw (n := a.length) a7 rfl (congrArg some (List.length_map ..))) (.vl (Y.zb rfl rfl) (aa.nil ?_))
 refine ab.ay rfl (fun GW => ?_) (fun GW => ?_)
 refine ab.skip (ab.seq (ab.block ?_))
 refine ab.sr ?_
 refine .mv ?_
 refine .mv ?_
 refine .vl (Y.qr (m := pt) a7 rfl rfl aZ (aq (d := 0) om)) ?_
 refine .ld bg ?_
 refine .vl (Y.zb rfl rfl) ?_
 refine .mv ?_
 refine aa.ax (d := 19) rfl (fun sP => ?_) (fun sP => ?_)
 refine .gz 19 (.gz 19 (.gz 19 ?_))
 refine .gz 19 (.gz 19 (.gz 19 ?_))
 refine .pk ?_
 refine aa.nil (ab.aI rfl (ab.sr ?_))
 refine .an ?_
 refine aa.nil (ab.ret ?_)
 exact .rb rfl (df (fun h => by have h1 := h.1 pt om; omega))
 refine .gw 19 (Y.zf rfl rfl) (.gw 19 (Y.zf rfl rfl) ?_)
 refine .gw 19 (Y.qr (m := pt) a7 rfl rfl aZ (aq (d := 0) om)) ?_
 refine .gw 19 (Y.qz bg rfl rfl rfl rfl) (.gw 19 (Y.zf rfl rfl) (.gw 19 (Y.qp rfl rfl) ?_))
 refine .pk ?_
 refine aa.nil ?_
 refine ab.ay rfl (fun yb => ?_) (fun yb => ?_)
 refine ab.sr ?_
 refine .an ?_
 refine aa.nil (ab.ret ?_)
 exact .rb rfl (df (fun h => by have h1 := h.1 pt om; omega))
 refine ab.skip (ab.region ?_)
 refine .mv ?_
 refine .vl (Y.qb rfl rfl aB) ?_
 refine .an ?_
 refine aa.nil ?_
 exact ⟨pt + 1, ⟨om, e8 hP ⟨om, om⟩⟩, om, Le.mk (.c (.c (.c (.cons (ai rfl aZ) (.nil))))) (.nil)⟩
 refine ab.exit (ab.sr ?_)
 refine .mv ?_
 refine .vl (Y.qw (n := a.length) a7 rfl (congrArg some (List.length_map ..))) ?_
 refine .mv ?_
 refine .vl (Y.ql rfl rfl) ?_
 refine .an ?_
 refine aa.nil (ab.ret ?_)
 exact .rb rfl (dd ⟨fun h => ⟨fun j hj => hP j om, h⟩, fun h => h.2⟩)
open Go Go.AW Go.Proofs
set_option maxRecDepth 4000 in
set_option maxHeartbeats 1000000 in
theorem w8 {k : Nat} {u : U2} (hk : k < 256) (hu : u.a < 256 ∧ u.b < 256) : ak Try.prog 31 [.v (.int .u8 (k : Int)), .agg (U2.row u)] [] [] (fun r o => ∃ (op : Int) (ws : List Int) (width : Int), ko op ws width ∧ r = .tup [.v (.int .i64 op), .cX 1 (ws.map al), .v (.int .i64 width)] ∧ o = []) := by
 refine ak.of Try.func31 rfl rfl rfl (n := 78) ag (Nat.le_of_ble_eq_true rfl) ?_
 have GZ : cw (1 + ((u.a : Int) % 64)) := (by unfold cw; omega); have TU := hu.1; have TV := hu.2
 refine ab.sr (aa.box 103 rfl rfl rfl rfl rfl ag ?_)
 refine .an ?_
 refine .an ?_
 refine .an ?_
 refine aa.nil (ab.seq (ab.sh (Sh.lY 103 rfl rfl) ?_))
 refine ab.gC rfl ba (a9.val (Y.qt IT rfl rfl (m := 0) rfl om rfl) ag (a9.val (Y.qz Pg rfl rfl rfl rfl) ag ?_))
 refine a9.val (Y.qk I2 y5 rfl GM) ag ?_
 refine a9.val (Y.zu rfl rfl om) ag ?_
 refine a9.val (Y.qb rfl rfl om) ag ?_
 refine a9.val (Y.qt IT rfl rfl (m := 1) rfl om rfl) ag (a9.val (Y.qz Pg rfl rfl rfl rfl) ag ?_)
 refine a9.val (Y.qk I2 y5 rfl GM) ag ?_
 refine a9.val (Y.zu rfl rfl om) ag ?_
 refine a9.val (Y.qb rfl rfl om) ag ?_
 refine a9.val (Y.qf rfl rfl) ag (a9.val (Y.qf rfl rfl) ag (a9.nil ?_))
 refine ab.sr ?_
 refine .mv ?_
 refine .vl (Y.qk I2 y5 rfl GM) ?_
 refine .vl (Y.zu rfl rfl om) ?_
 refine .vl (Y.qb rfl rfl aB) ?_
 refine .an ?_
 refine aa.nil (ab.seq (ab.block ?_))
 refine ab.sr ?_
 refine .mv ?_
 refine aa.aR LK (vO (w := (2 + ((k : Int) % 23)))) rfl (.ao rfl rfl .nil) ag rfl (.vl (Y.zo rfl) ?_)
 refine .an ?_
 refine aa.nil ?_
 refine ab.cond rfl (fun yd => ?_) (fun yd => ?_)
 replace yd : ¬ (Plain (2 + ((k : Int) % 23))) := by simpa using yd
 refine ab.sr ?_
 refine .mv ?_
 refine .mv ?_
 refine aa.buildSlice (([1 + ((u.a : Int) % 64), 1 + ((u.a : Int) % 64)] : List Int).map al) a7 er rfl rfl rfl rfl rfl (az (s := 1) (f := al) (fun _ => rfl)) rfl rfl rfl ag ?_
 refine .mv ?_
 refine .an ?_
 refine aa.bd rfl ag ?_
 refine .an ?_
 refine aa.nil (ab.ret ?_)
 exact ⟨_, _, rfl, rfl, 2, ([1 + ((u.a : Int) % 64), 1 + ((u.a : Int) % 64)] : List Int), (1 + ((u.a : Int) % 64)), ⟨by unfold Plain wP Seq Unary; omega, sE GZ GZ rfl (by unfold cx gK; omega)⟩, rfl, rfl⟩
 replace yd : Plain (2 + ((k : Int) % 23)) := by simpa using yd
 have uZ : Plain (2 + ((k : Int) % 23)) := by simpa using yd
 refine ab.sr ?_
 refine .mv ?_
 refine .vl (Y.ql rfl rfl) ?_
 refine .an ?_
 refine aa.nil ?_
 refine ab.ay rfl (fun Ju => ?_) (fun Ju => ?_)
 refine ab.sr ?_
 refine .mv ?_
 refine .mv ?_
 refine .mv ?_
 refine aa.buildSlice (([1, 1 + ((u.a : Int) % 64), 1 + ((u.a : Int) % 64)] : List Int).map al) a7 er rfl rfl rfl rfl rfl (az (s := 1) (f := al) (fun _ => rfl)) rfl rfl rfl ag ?_
 refine .mv ?_
 refine .an ?_
 refine aa.bd rfl ag ?_
 refine .an ?_
 refine aa.nil (ab.ret ?_)
 exact ⟨_, _, rfl, rfl, (2 + ((k : Int) % 23)), ([1, 1 + ((u.a : Int) % 64), 1 + ((u.a : Int) % 64)] : List Int), (1 + ((u.a : Int) % 64)), FB Ju GZ, rfl, rfl⟩
 refine ab.sr ?_
 refine .mv ?_
 refine .vl (Y.ql rfl rfl) ?_
 refine .an ?_
 refine aa.nil ?_
 refine ab.ay rfl (fun vQ => ?_) (fun vQ => ?_)
 refine ab.sr ?_
 refine .mv ?_
 refine .mv ?_
 refine .mv ?_
 refine .vl (Y.zd rfl rfl rfl) ?_
 refine aa.buildSlice (([if (1 + ((u.b : Int) % 64)) > (1 + ((u.a : Int) % 64)) then (1 + ((u.b : Int) % 64)) else (1 + ((u.a : Int) % 64))] : List Int).map al) a7 er rfl rfl rfl rfl rfl (az (s := 1) (f := al) (fun _ => rfl)) rfl rfl rfl ag ?_
 refine .mv ?_
 refine .mv ?_
 refine .vl (Y.ze rfl rfl rfl) ?_
 refine .an ?_
 refine aa.bd rfl ag ?_
 refine .an ?_
 refine aa.nil (ab.ret ?_)
 exact ⟨_, _, rfl, rfl, (2 + ((k : Int) % 23)), ([if (1 + ((u.b : Int) % 64)) > (1 + ((u.a : Int) % 64)) then (1 + ((u.b : Int) % 64)) else (1 + ((u.a : Int) % 64))] : List Int), (if (1 + ((u.b : Int) % 64)) < (1 + ((u.a : Int) % 64)) then (1 + ((u.b : Int) % 64)) else (1 + ((u.a : Int) % 64))), Aq vQ (by unfold cw; first | omega | (split <;> omega)) (by unfold cw; first | omega | (split <;> omega)) (by first | omega | (split <;> split <;> omega)), rfl, rfl⟩
 refine ab.sr ?_
 refine .mv ?_
 refine .vl (Y.ql rfl rfl) ?_
 refine .mv ?_
 refine aa.ax (d := 54) rfl (fun BL => ?_) (fun BL => ?_)
 refine .gz 54 (.gz 54 ?_)
 refine .pk ?_
 refine .an ?_
 refine aa.nil (ab.aI rfl (ab.sr ?_))
 refine .mv ?_
 refine .mv ?_
 refine .mv ?_
 refine .vl (Y.ze rfl rfl rfl) ?_
 refine aa.buildSlice (([if (1 + ((u.b : Int) % 64)) < (1 + ((u.a : Int) % 64)) then (1 + ((u.b : Int) % 64)) else (1 + ((u.a : Int) % 64))] : List Int).map al) a7 er rfl rfl rfl rfl rfl (az (s := 1) (f := al) (fun _ => rfl)) rfl rfl rfl ag ?_
 refine .mv ?_
 refine .mv ?_
 refine .vl (Y.zd rfl rfl rfl) ?_
 refine .an ?_
 refine aa.bd rfl ag ?_
 refine .an ?_
 refine aa.nil (ab.ret ?_)
 exact ⟨_, _, rfl, rfl, (2 + ((k : Int) % 23)), ([if (1 + ((u.b : Int) % 64)) < (1 + ((u.a : Int) % 64)) then (1 + ((u.b : Int) % 64)) else (1 + ((u.a : Int) % 64))] : List Int), (if (1 + ((u.b : Int) % 64)) > (1 + ((u.a : Int) % 64)) then (1 + ((u.b : Int) % 64)) else (1 + ((u.a : Int) % 64))), Ar om (by unfold cw; first | omega | (split <;> omega)) (by unfold cw; first | omega | (split <;> omega)) (by first | omega | (split <;> split <;> omega)), rfl, rfl⟩
 refine .gw 54 (Y.zf rfl rfl) (.gw 54 (Y.ql rfl rfl) ?_)
 refine .pk ?_
 refine .an ?_
 refine aa.nil ?_
 refine ab.ay rfl (fun Qa => ?_) (fun Qa => ?_)
 refine ab.sr ?_
 refine .mv ?_
 refine .mv ?_
 refine .mv ?_
 refine .vl (Y.ze rfl rfl rfl) ?_
 refine aa.buildSlice (([if (1 + ((u.b : Int) % 64)) < (1 + ((u.a : Int) % 64)) then (1 + ((u.b : Int) % 64)) else (1 + ((u.a : Int) % 64))] : List Int).map al) a7 er rfl rfl rfl rfl rfl (az (s := 1) (f := al) (fun _ => rfl)) rfl rfl rfl ag ?_
 refine .mv ?_
 refine .mv ?_
 refine .vl (Y.zd rfl rfl rfl) ?_
 refine .an ?_
 refine aa.bd rfl ag ?_
 refine .an ?_
 refine aa.nil (ab.ret ?_)
 exact ⟨_, _, rfl, rfl, (2 + ((k : Int) % 23)), ([if (1 + ((u.b : Int) % 64)) < (1 + ((u.a : Int) % 64)) then (1 + ((u.b : Int) % 64)) else (1 + ((u.a : Int) % 64))] : List Int), (if (1 + ((u.b : Int) % 64)) > (1 + ((u.a : Int) % 64)) then (1 + ((u.b : Int) % 64)) else (1 + ((u.a : Int) % 64))), Ar om (by unfold cw; first | omega | (split <;> omega)) (by unfold cw; first | omega | (split <;> omega)) (by first | omega | (split <;> split <;> omega)), rfl, rfl⟩
 refine ab.sr ?_
 refine .mv ?_
 refine aa.aR LJ (nV (w := (2 + ((k : Int) % 23)))) rfl (.ao rfl rfl .nil) ag rfl ?_
 refine .an ?_
 refine aa.nil ?_
 refine ab.ay rfl (fun JU => ?_) (fun JU => ?_)
 refine ab.sr ?_
 refine .mv ?_
 refine .mv ?_
 refine .mv ?_
 refine aa.buildSlice (([1 + ((u.a : Int) % 64), 1 + ((u.a : Int) % 64)] : List Int).map al) a7 er rfl rfl rfl rfl rfl (az (s := 1) (f := al) (fun _ => rfl)) rfl rfl rfl ag ?_
 refine .an ?_
 refine aa.bd rfl ag ?_
 refine .an ?_
 refine aa.nil (ab.ret ?_)
 exact ⟨_, _, rfl, rfl, (2 + ((k : Int) % 23)), ([1 + ((u.a : Int) % 64), 1 + ((u.a : Int) % 64)] : List Int), 1, FC uZ JU GZ, rfl, rfl⟩
 refine ab.skip (ab.sr ?_)
 refine .mv ?_
 refine .mv ?_
 refine .mv ?_
 refine aa.buildSlice (([1 + ((u.a : Int) % 64), 1 + ((u.a : Int) % 64)] : List Int).map al) a7 er rfl rfl rfl rfl rfl (az (s := 1) (f := al) (fun _ => rfl)) rfl rfl rfl ag ?_
 refine .mv ?_
 refine .an ?_
 refine aa.bd rfl ag ?_
 refine .an ?_
 refine aa.nil (ab.ret ?_)
 exact ⟨_, _, rfl, rfl, (2 + ((k : Int) % 23)), ([1 + ((u.a : Int) % 64), 1 + ((u.a : Int) % 64)] : List Int), (1 + ((u.a : Int) % 64)), FD uZ Ju BL Qa vQ JU GZ, rfl, rfl⟩
open Go Go.AW Go.Proofs
set_option maxRecDepth 4000 in
set_option maxHeartbeats 1000000 in
theorem m0 {k : Nat} {u : U2} {v : U3} (hk : k < 256) (hu : u.a < 256 ∧ u.b < 256) (hv : v.Ok) : ak Try.prog 7 [.v (.int .u8 (k : Int)), .agg (U2.row u), .agg (U3.row v)] [] [] (fun r o => r = .v (.bool true) ∧ o = []) := by
 refine ak.of Try.func7 rfl rfl rfl (n := 90) ag (Nat.le_of_ble_eq_true rfl) (ab.sr (aa.box 104 rfl rfl rfl rfl rfl ag ?_))
 refine aa.box 105 rfl rfl rfl rfl rfl ag ?_
 refine .an ?_
 refine aa.nil (ab.seq (ab.seq ?_))
 refine ab.sh (Sh.lY 104 rfl rfl) (ab.sh (Sh.lY 105 rfl rfl) (ab.region ?_))
 refine aa.aR LU (tg) rfl .nil ag rfl (.vl (Y.zo rfl) (aa.nil ?_))
 refine ab.cj rfl (ab.skip (ab.sr ?_))
 refine .mv ?_
 refine .vl (Y.za Mi rfl rfl (Nat.le_of_ble_eq_true rfl) rfl rfl) (aa.n8 LV (w8 (k := k) (u := u) hk hu) rfl (.ao rfl rfl (.ao rfl rfl .nil)) ag ?_)
 rintro _ ⟨Dz, fK, yo, pv, rfl, _⟩
 refine ⟨rfl, ?_⟩
 refine aa.oV rfl ag (.vl (Y.qn rfl rfl rfl) (aa.kh rfl rfl ag ?_))
 refine .vl (Y.qn rfl rfl rfl) ?_
 refine .an ?_
 refine aa.bd rfl ag (aa.sh (Sh.bB (d := 8) (fK.map al) rfl iW (cp.map bf)) ?_)
 refine .an ?_
 refine aa.nil (ab.sr ?_)
 refine .mv ?_
 refine .mv ?_
 refine .mv ?_
 refine aa.n8 Jb (uD (op := Dz) (ws := fK) (width := yo) (by have := pv.len; omega)) rfl (.ao rfl rfl (.ao rfl rfl (.ao rfl rfl .nil))) ag ?_
 rintro _ ⟨wi, uG, TW, GF, rfl, _⟩
 refine ⟨rfl, ?_⟩
 refine aa.oV rfl ag (aa.kh rfl rfl ag (aa.kh rfl rfl ag ?_))
 refine .vl (Y.qn rfl rfl rfl) (aa.bd rfl ag (aa.sh (Sh.bB (d := 10) (wi.map Gate.row) rfl iW (cp.map Gate.cN)) ?_))
 refine aa.bd rfl ag (aa.sh (Sh.bB (d := 11) (uG.map al) rfl iW (cp.map bf)) ?_)
 refine .an ?_
 refine aa.nil (ab.seq (ab.seq ?_))
 obtain ⟨Ir, Qb, O1, pD, TX, TZ⟩ := GF.dM pv; have wG := vx wi; have nq := pv.len; have O2 := O1.2; have SE := pv.2.1 (fK.getD 0 0) (getD_in om); have uP := pv.2.2.1; unfold cw at SE uP; have SA := sD pv.2.1 fK.length (Nat.le_refl _)
 refine ab.region ?_
 refine .mv ?_
 refine .vl (Y.zl rfl rfl) ?_
 refine .mv ?_
 refine aa.ax (d := 36) rfl (fun Gd => ?_) (fun Gd => ?_)
 exact absurd Ir Gd
 refine .gw 36 (Y.zf rfl rfl) (aa.aQ (d := 36) rfl ag rfl ?_)
 refine aa.aR LW (th (l := wi) (om)) rfl (.ao rfl rfl .nil) ag rfl ?_
 refine .gw 36 (Y.zo rfl) ?_
 refine .pk ?_
 refine .mv ?_
 refine aa.split (d := 41) rfl (fun Dl => ?_) (fun Dl => ?_)
 exfalso; simp at Dl; exact Dl Qb.d
 replace Dl : xh wi := by simpa using Dl
 refine .gw 41 (Y.zf rfl rfl) (.gw 41 (Y.zf rfl rfl) (.gw 41 (Y.zf rfl rfl) ?_))
 refine .gw 41 (Y.qw (n := wi.length) qS rfl (congrArg some (List.length_map ..))) (aa.aQ (d := 41) rfl ag rfl ?_)
 refine aa.aR LX (uF (a := uG) (w := yo) (n := (wi.length : Int)) (om)) rfl (.ao rfl rfl (.ao rfl rfl (.ao rfl rfl .nil))) ag rfl ?_
 refine .gw 41 (Y.zo rfl) ?_
 refine .pk ?_
 refine aa.nil ?_
 refine ab.cond rfl (fun uw => ?_) (fun uw => ?_)
 exfalso; simp at uw; exact uw O1
 replace uw : p7 uG yo (wi.length : Int) := by simpa using uw
 refine ab.skip (ab.sr ?_)
 refine .an ?_
 refine aa.sh (Sh.nil (d := 13) 113 1 rfl ag) (aa.nil (ab.sr ?_))
 refine .an ?_
 refine aa.sh (Sh.nil (d := 14) 114 1 rfl ag) (aa.nil (ab.seq ?_))
 refine ab.sr ?_
 refine .mv ?_
 refine .vl (Y.qw (n := fK.length) a7 rfl (congrArg some (List.length_map ..))) ?_
 refine .mv ?_
 refine aa.nil (ab.block ?_)
 refine ab.eP (fun (bI : Nat) (fL : List Bool) (j3 : List Nat) => ⟨[(5, .fp (U3.row v) 0), (7, .v (.int .i64 Dz)), (8, .fz 1 (fK.map al)), (9, .v (.int .i64 yo)), (10, .fz 3 (wi.map Gate.row)), (11, .fz 1 (uG.map al)), (13, .aY 113 1 0 fL.length), (14, .aY 114 1 0 j3.length), (50, .v (.int .i64 (fK.length : Int))), (51, .v (.int .i64 (bI : Int)))], [(113, .rows 1 (fL.map eb)), (114, .rows 1 (j3.map mS))]⟩) (fun (bI : Nat) (fL : List Bool) (j3 : List Nat) => ((bI : Int) ≤ (fK.length : Int)) ∧ (j3 = xj fK v bI ∧ fL = xk fK v bI)) (fun (bI : Nat) (fL : List Bool) (j3 : List Nat) => ((fK.length : Int) - (bI : Int)).toNat) 0 ([] : List Bool) ([] : List Nat) (⟨ni, ⟨rfl, rfl⟩⟩) (Le.mk (.c (.c (.c (.c (.c (.c (.cons (a8 rfl aB) (.cons (a8 rfl aB) (.c (.cons (ai rfl aZ) (.nil))))))))))) (.c (.c (.nil)))) (fun bI fL j3 AS => ?_)
 obtain ⟨J3, hA⟩ := AS
 refine ab.sr (.vl (Y.zb rfl rfl) (aa.nil ?_))
 refine ab.seq ?_
 refine ab.ay rfl (fun xx => ?_) (fun xx => ?_)
 refine ab.skip (ab.seq (ab.block ?_))
 refine ab.seq ?_
 have tj := sH fK v bI; rw [← hA.1] at tj; have uR := p9 (u := v) pv.2.1 bI om; rw [← hA.2] at uR; have Ua := km (ws := fK) (i := bI) (j := fK.length) om; have SF := eC (fK.getD bI 0); have yv := qM (Nat.testBit (dK (fK.getD bI 0) (v.get bI))) (aM (fK.getD bI 0))
 refine ab.region ?_
 refine .mv ?_
 refine .an ?_
 refine aa.nil (ab.seq (ab.iT 7 rfl ba ?_))
 refine a9.val (Y.zf rfl rfl) ag (a9.val (Y.zf rfl rfl) ag ?_)
 refine a9.val (Y.qr (m := bI) a7 rfl rfl aZ (aq (d := 0) om)) ag ?_
 refine a9.val (Y.qz bg rfl rfl rfl rfl) ag (a9.val (Y.zf rfl rfl) ag (a9.val (Y.qt LS rfl rfl (m := bI) aZ om rfl) ag ?_))
 refine a9.val (Y.qz fo rfl rfl (FK om) rfl) ag (a9.nil (aa.aR xX (kr (w := (fK.getD bI 0)) (x := (v.get bI)) (hv.get _)) rfl (.ao rfl rfl (.ao rfl rfl .nil)) ag rfl ?_))
 refine .an ?_
 refine aa.nil (ab.sr ?_)
 refine .mv ?_
 refine .mv ?_
 refine aa.buildSlice (([dK (fK.getD bI 0) (v.get bI)] : List Nat).map mS) rB Jj rfl rfl rfl rfl rfl (az (s := 1) (f := mS) (fun _ => rfl)) rfl rfl rfl ag ?_
 refine aa.bx ((j3 ++ ([dK (fK.getD bI 0) (v.get bI)] : List Nat)).map mS) (j3 ++ ([dK (fK.getD bI 0) (v.get bI)] : List Nat)).length rB Jj rfl rfl rfl rfl (b8 aB) (bm aB) (cb aB) aB aB ag ag ?_
 refine .an ?_
 refine aa.nil (ab.region ?_)
 refine .mv ?_
 refine .mv ?_
 refine .mv ?_
 refine .vl (Y.qr (m := bI) a7 rfl rfl aZ (aq (d := 0) om)) ?_
 refine .ld bg ?_
 refine .mv ?_
 refine aa.aR Jc (pa (w := (fK.getD bI 0)) (x := (dK (fK.getD bI 0) (v.get bI))) (xH _ _)) rfl (.ao rfl rfl (.ao rfl rfl .nil)) ag rfl ?_
 refine aa.bx ((fL ++ (bL (Nat.testBit (dK (fK.getD bI 0) (v.get bI))) (aM (fK.getD bI 0)))).map eb) (fL ++ (bL (Nat.testBit (dK (fK.getD bI 0) (v.get bI))) (aM (fK.getD bI 0)))).length ja FU rfl rfl rfl rfl (b8 aB) (bm aB) (cb aB) aB aB ag ag ?_
 refine .an ?_
 refine aa.nil (ab.region ?_)
 refine .vl (Y.qb rfl rfl aB) ?_
 refine .mv ?_
 refine aa.nil ?_
 exact ⟨bI + 1, fL ++ (bL (Nat.testBit (dK (fK.getD bI 0) (v.get bI))) (aM (fK.getD bI 0))), j3 ++ ([dK (fK.getD bI 0) (v.get bI)] : List Nat), ⟨om, ⟨by rw [hA.1, Ay], by rw [hA.2]; rfl⟩⟩, om, Le.mk (.c (.c (.c (.c (.c (.c (.cons (a8 rfl om) (.cons (a8 rfl om) (.c (.cons (ai rfl aZ) (.nil))))))))))) (.c (.c (.nil)))⟩
 refine ab.exit (ab.seq (ab.seq ?_))
 obtain rfl : bI = fK.length := om
 have uR := p9 (u := v) pv.2.1 fK.length (Nat.le_refl _); have O3 := uR; rw [← hA.2] at O3
 refine ab.region ?_
 refine .mv ?_
 refine .vl (Y.qw (n := fL.length) ja rfl rfl) ?_
 refine .mv ?_
 refine aa.aR Jd (sj (l := wi) (om)) rfl (.ao rfl rfl .nil) ag rfl ?_
 refine .vl (Y.zl rfl rfl) (aa.nil ?_)
 refine ab.ay rfl (fun SH => ?_) (fun SH => ?_)
 exfalso; omega
 refine ab.skip (ab.sr ?_)
 refine .mv ?_
 refine .mv ?_
 refine aa.kG [113] LZ (yc (l := wi) (ins := fL) Qb (by rw [hA.2]; omega) om) rfl (.ao rfl rfl (.en rfl rfl (iU om) (iV om) .nil)) (n9 rfl (gB kK)) ag rfl (pO tJ _) ?_
 refine .mv ?_
 refine .mv ?_
 refine .mv ?_
 refine .mv ?_
 refine .mv ?_
 refine aa.kG [114] Ma (vS (op := Dz) (width := yo) (a := j3) (ws := fK) pv (by rw [hA.1, sH]) (by rw [hA.1]; exact FL pv.2.1)) rfl (.ao rfl rfl (.ao rfl rfl (.en rfl rfl (iU om) (iV om) (.ao rfl rfl .nil)))) (n9 rfl (gB sy)) ag rfl trivial ?_
 refine aa.sh (Sh.bB (d := 82) ((outs wi fL wi.length).map eb) rfl iW (cp.map kK)) ?_
 refine aa.aR LY (vR (kB := (outs wi fL wi.length)) (cO := uG) (x := (BK Dz yo fK j3)) (by rw [hA.1]; exact GF.small pv O2) om (by rw [uf (Nat.le_refl _)]; exact O1.1)) rfl (.ao rfl rfl (.ao rfl rfl (.ao rfl rfl .nil))) ag rfl ?_
 refine .an ?_
 refine aa.nil (ab.ret ?_)
 exact .rb rfl (decide_eq_true (by rw [hA.1, hA.2]; exact GF.shown pv))
end Go.Proofs.Ytlimckldnjmabaa
