/- The walk of operator. -/
import Derived.Test.YtlimckldnjmabaaSynx2
import Derived.Test.YtlimckldnjmabaaSynx0
import Derived.Test.YtlimckldnjmabaaSynx1
import Derived.Test.YtlimckldnjmabaaAWx2
set_option linter.unusedSimpArgs false
set_option linter.unusedVariables false
set_option linter.unusedSectionVars false
set_option maxRecDepth 4000
set_option maxHeartbeats 8000000
namespace Go.Proofs.Ytlimckldnjmabaa
open Go Go.AW Go.Proofs
set_option maxRecDepth 4000 in
set_option maxHeartbeats 1000000 in
theorem po {c : Int} {gl : List Gate} (hg : Good gl) (oL : gl.length ≤ 20000000) {op : Int} {ws : List (List Int)} {w width : Nat} {xN yN zN : List Bool → Nat} {t : Int} (hI : CA c gl ws op w width xN yN zN t) (sv : ws.length ≤ 100) : ak Try.prog 79 [.ptr 0 0 0 0, .v (.int .i64 op), .fz 1 (ws.map gy), .v (.int .i64 (width : Int))] [.cells [.aR 1 3 0 gl.length], .rows 3 (gl.map Gate.row)] [0] (fun r o => ∃ (l : List Gate) (out : List Int), Ext gl l ∧ l.length ≤ gl.length + 1600 ∧ vd c l out op w width xN yN zN t ∧ r = .cX 1 (out.map al) ∧ o = [.cells [.aR 1 3 0 l.length], .rows 3 (l.map Gate.row)]) := by
 refine ak.of Try.func79 rfl rfl rfl (n := 149) ag (Nat.le_of_ble_eq_true rfl) ?_
 have hX := hI.x; have mX := hI.ok; have GM := hI.hw; have FC := hI.hd; have Pm := hX.len
 refine ah.sr ?_
 refine .an ?_
 refine aa.nil (ah.sr ?_)
 refine .mv ?_
 refine .vl (Y.qq (m := 0) gX rfl rfl bj (ao (d := []) aF)) ?_
 refine .ld cQ ?_
 refine .an ?_
 refine aa.nil (ah.sr ?_)
 refine .an ?_
 refine aa.nil ?_
 refine ah.iA (fun (cz : List Int) => ⟨[(0, .ptr 0 0 0 0), (1, .v (.int .i64 op)), (2, .fz 1 (ws.map gy)), (3, .v (.int .i64 (width : Int))), (9, .fz 1 ((ws.getD 0 []).map al)), (10, .fz 1 (cz.map al))], [(0, .cells [.aR 1 3 0 gl.length]), (1, .rows 3 (gl.map Gate.row))]⟩) (fun (cz : List Int) => 1 < ws.length → cz = ws.getD 1 []) ?_ (fun cz Lo => ?_)
 refine ah.seq (ah.sh (Sh.Ht (d := 10) 1 rfl) (ah.region ?_))
 refine .mv ?_
 refine .vl (Y.qu (n := ws.length) gX rfl (congrArg some (List.length_map ..))) (.vl (Y.qp rfl rfl) (aa.nil ?_))
 refine ah.a9 rfl (fun rL => ?_) (fun rL => ?_)
 refine ah.region ?_
 refine .mv ?_
 refine .vl (Y.qq (m := 1) gX rfl rfl bj (ao (d := []) om)) ?_
 refine .ld cQ ?_
 refine .an ?_
 refine aa.nil ?_
 exact ⟨ws.getD 1 [], fun _ => rfl, Le.mk (.c (.c (.c (.c (.c (.c (.nil))))))) (.c (.c (.nil)))⟩
 refine ah.skip ?_
 exact ⟨([] : List Int), fun h => absurd h om, Le.mk (.c (.c (.c (.c (.c (.c (.nil))))))) (.c (.c (.nil)))⟩
 refine ah.seq (ah.sr ?_)
 refine .mv ?_
 refine aa.nil (ah.block (ah.seq ?_))
 have lA : op < 21 → Wk c gl cz w yN t := fun h => (by rw [Lo om]; have := hI.y om; rwa [if_neg om] at this)
 have Pn : op < 21 → cz.length = w := fun h => (lA h).len
 refine ah.region (.vl (Y.qk rfl rfl) ?_)
 refine .an ?_
 refine aa.nil ?_
 refine ah.a9 rfl (fun Cx => ?_) (fun Cx => ?_)
 refine ah.sr ?_
 refine .mv ?_
 refine .mv ?_
 refine .mv ?_
 refine aa.bc [0, 1] [] EE (xt (gl := gl) (a := ws.getD 0 []) (b := cz) hg om hX.wd (lA om).wd hI.hw hI.t0) rfl (.named rfl rfl (.au rfl rfl (.au rfl rfl .nil))) ⟨rfl, rfl, trivial⟩ rfl ag (fun _ h => by cases h) (fun _ h => by cases h) ag ag ?_
 rintro r a8 ⟨Po, Lp, JG, Lq, JH, rfl, rfl⟩ _
 refine ⟨⟨rfl, (by intro ob aL; simp only [List.mem_cons, List.not_mem_nil, or_false] at aL; rcases aL with rfl | rfl <;> rfl), .inl rfl⟩, ?_⟩
 refine aa.bx rfl ag (aa.nil (ah.ret ?_))
 exact ⟨_, _, rfl, rfl, _, _, JG, by have := hX.len; omega, zL JH om om, rfl, rfl⟩
 refine ah.sr (.vl (Y.qk rfl rfl) ?_)
 refine .an ?_
 refine aa.nil ?_
 refine ah.a9 rfl (fun nu => ?_) (fun nu => ?_)
 refine ah.sr ?_
 refine .mv ?_
 refine .mv ?_
 refine .mv ?_
 refine aa.bc [0, 1] [] EF (xu (gl := gl) (a := ws.getD 0 []) (b := cz) hg om hX.wd (lA om).wd hI.hw hI.t0) rfl (.named rfl rfl (.au rfl rfl (.au rfl rfl .nil))) ⟨rfl, rfl, trivial⟩ rfl ag (fun _ h => by cases h) (fun _ h => by cases h) ag ag ?_
 rintro r a8 ⟨Pp, Lr, JI, Ls, JJ, rfl, rfl⟩ _
 refine ⟨⟨rfl, (by intro ob aL; simp only [List.mem_cons, List.not_mem_nil, or_false] at aL; rcases aL with rfl | rfl <;> rfl), .inl rfl⟩, ?_⟩
 refine aa.bx rfl ag (aa.nil (ah.ret ?_))
 exact ⟨_, _, rfl, rfl, _, _, JI, by have := hX.len; omega, zM JJ om om, rfl, rfl⟩
 refine ah.sr (.vl (Y.qk rfl rfl) ?_)
 refine .an ?_
 refine aa.nil ?_
 refine ah.a9 rfl (fun CZ => ?_) (fun CZ => ?_)
 refine ah.sr ?_
 refine .mv ?_
 refine .mv ?_
 refine .mv ?_
 refine aa.bc [0, 1] [] wz (mI (gl := gl) (k := 5) (a := ws.getD 0 []) (b := cz) (f := fun k ins => (xN ins).testBit k) (h := fun k ins => (yN ins).testBit k) (e := fun i ins => (if (5 : Int) = 5 then xN ins &&& yN ins else if (5 : Int) = 6 then xN ins ||| yN ins else xN ins ^^^ yN ins).testBit i) (t := t) (u := t + 20) hg om ag hX.ws (lA om).ws (by have := hX.len; have := (lA om).len; omega) (by have := hX.len; omega) (Int.le_refl _) (fun i ins => by simp)) rfl (.named rfl rfl (.au rfl rfl (.au rfl rfl (.au rfl rfl .nil)))) ⟨rfl, rfl, trivial⟩ rfl ag (fun _ h => by cases h) (fun _ h => by cases h) ag ag ?_
 rintro r a8 ⟨Pq, Lt, JK, Lu, Lv, JL, rfl, rfl⟩ _
 refine ⟨⟨rfl, (by intro ob aL; simp only [List.mem_cons, List.not_mem_nil, or_false] at aL; rcases aL with rfl | rfl <;> rfl), .inl rfl⟩, ?_⟩
 refine aa.bx rfl ag (aa.nil (ah.ret ?_))
 exact ⟨_, _, rfl, rfl, _, _, JK, by have := hX.len; omega, qQ JL (by have := hX.len; omega) hX.lt (lA om).lt om om, rfl, rfl⟩
 refine ah.sr (.vl (Y.qk rfl rfl) ?_)
 refine .an ?_
 refine aa.nil ?_
 refine ah.a9 rfl (fun FD => ?_) (fun FD => ?_)
 refine ah.sr ?_
 refine .mv ?_
 refine .mv ?_
 refine .mv ?_
 refine aa.bc [0, 1] [] wz (mI (gl := gl) (k := 6) (a := ws.getD 0 []) (b := cz) (f := fun k ins => (xN ins).testBit k) (h := fun k ins => (yN ins).testBit k) (e := fun i ins => (if (6 : Int) = 5 then xN ins &&& yN ins else if (6 : Int) = 6 then xN ins ||| yN ins else xN ins ^^^ yN ins).testBit i) (t := t) (u := t + 20) hg om ag hX.ws (lA om).ws (by have := hX.len; have := (lA om).len; omega) (by have := hX.len; omega) (Int.le_refl _) (fun i ins => by simp)) rfl (.named rfl rfl (.au rfl rfl (.au rfl rfl (.au rfl rfl .nil)))) ⟨rfl, rfl, trivial⟩ rfl ag (fun _ h => by cases h) (fun _ h => by cases h) ag ag ?_
 rintro r a8 ⟨ND, FN, Cy, FO, FP, Cz, rfl, rfl⟩ _
 refine ⟨⟨rfl, (by intro ob aL; simp only [List.mem_cons, List.not_mem_nil, or_false] at aL; rcases aL with rfl | rfl <;> rfl), .inl rfl⟩, ?_⟩
 refine aa.bx rfl ag (aa.nil (ah.ret ?_))
 exact ⟨_, _, rfl, rfl, _, _, Cy, by have := hX.len; omega, qQ Cz (by have := hX.len; omega) hX.lt (lA om).lt om om, rfl, rfl⟩
 refine ah.sr (.vl (Y.qk rfl rfl) ?_)
 refine .an ?_
 refine aa.nil ?_
 refine ah.a9 rfl (fun I5 => ?_) (fun I5 => ?_)
 refine ah.sr ?_
 refine .mv ?_
 refine .mv ?_
 refine .mv ?_
 refine aa.bc [0, 1] [] wz (mI (gl := gl) (k := 7) (a := ws.getD 0 []) (b := cz) (f := fun k ins => (xN ins).testBit k) (h := fun k ins => (yN ins).testBit k) (e := fun i ins => (if (7 : Int) = 5 then xN ins &&& yN ins else if (7 : Int) = 6 then xN ins ||| yN ins else xN ins ^^^ yN ins).testBit i) (t := t) (u := t + 20) hg om ag hX.ws (lA om).ws (by have := hX.len; have := (lA om).len; omega) (by have := hX.len; omega) (Int.le_refl _) (fun i ins => by simp)) rfl (.named rfl rfl (.au rfl rfl (.au rfl rfl (.au rfl rfl .nil)))) ⟨rfl, rfl, trivial⟩ rfl ag (fun _ h => by cases h) (fun _ h => by cases h) ag ag ?_
 rintro r a8 ⟨Pr, Lw, JM, Lx, Ly, JN, rfl, rfl⟩ _
 refine ⟨⟨rfl, (by intro ob aL; simp only [List.mem_cons, List.not_mem_nil, or_false] at aL; rcases aL with rfl | rfl <;> rfl), .inl rfl⟩, ?_⟩
 refine aa.bx rfl ag (aa.nil (ah.ret ?_))
 exact ⟨_, _, rfl, rfl, _, _, JM, by have := hX.len; omega, qQ JN (by have := hX.len; omega) hX.lt (lA om).lt om om, rfl, rfl⟩
 refine ah.sr (.vl (Y.qk rfl rfl) ?_)
 refine .an ?_
 refine aa.nil ?_
 refine ah.a9 rfl (fun Ch => ?_) (fun Ch => ?_)
 refine ah.sr ?_
 refine .mv ?_
 refine .mv ?_
 refine .mv ?_
 refine aa.bc [0, 1] [] w4 (lz (gl := gl) (left := true) (ar := false) (a := ws.getD 0 []) (b := cz) hg om ag hX.wd (lA om).wd hI.hw hI.t0) rfl (.named rfl rfl (.au rfl rfl (.au rfl rfl (.au rfl rfl (.au rfl rfl .nil))))) ⟨rfl, rfl, trivial⟩ rfl ag (fun _ h => by cases h) (fun _ h => by cases h) ag ag ?_
 rintro r a8 ⟨Ps, Lz, JO, L0, JP, rfl, rfl⟩ _
 refine ⟨⟨rfl, (by intro ob aL; simp only [List.mem_cons, List.not_mem_nil, or_false] at aL; rcases aL with rfl | rfl <;> rfl), .inl rfl⟩, ?_⟩
 refine aa.bx rfl ag (aa.nil (ah.ret ?_))
 exact ⟨_, _, rfl, rfl, _, _, JO, by have := hX.len; omega, tz JP (lA om).lt (by simp; omega) om, rfl, rfl⟩
 refine ah.sr (.vl (Y.qk rfl rfl) ?_)
 refine .an ?_
 refine aa.nil ?_
 refine ah.a9 rfl (fun NZ => ?_) (fun NZ => ?_)
 refine ah.sr ?_
 refine .mv ?_
 refine .mv ?_
 refine .mv ?_
 refine aa.bc [0, 1] [] w4 (lz (gl := gl) (left := false) (ar := false) (a := ws.getD 0 []) (b := cz) hg om ag hX.wd (lA om).wd hI.hw hI.t0) rfl (.named rfl rfl (.au rfl rfl (.au rfl rfl (.au rfl rfl (.au rfl rfl .nil))))) ⟨rfl, rfl, trivial⟩ rfl ag (fun _ h => by cases h) (fun _ h => by cases h) ag ag ?_
 rintro r a8 ⟨Pt, L1, JQ, L2, JR, rfl, rfl⟩ _
 refine ⟨⟨rfl, (by intro ob aL; simp only [List.mem_cons, List.not_mem_nil, or_false] at aL; rcases aL with rfl | rfl <;> rfl), .inl rfl⟩, ?_⟩
 refine aa.bx rfl ag (aa.nil (ah.ret ?_))
 exact ⟨_, _, rfl, rfl, _, _, JQ, by have := hX.len; omega, tz JR (lA om).lt (by simp; omega) om, rfl, rfl⟩
 refine ah.sr (.vl (Y.qk rfl rfl) ?_)
 refine .an ?_
 refine aa.nil ?_
 refine ah.a9 rfl (fun Oa => ?_) (fun Oa => ?_)
 refine ah.sr ?_
 refine .mv ?_
 refine .mv ?_
 refine .mv ?_
 refine aa.bc [0, 1] [] w4 (lz (gl := gl) (left := false) (ar := true) (a := ws.getD 0 []) (b := cz) hg om ag hX.wd (lA om).wd hI.hw hI.t0) rfl (.named rfl rfl (.au rfl rfl (.au rfl rfl (.au rfl rfl (.au rfl rfl .nil))))) ⟨rfl, rfl, trivial⟩ rfl ag (fun _ h => by cases h) (fun _ h => by cases h) ag ag ?_
 rintro r a8 ⟨Pu, L3, JS, L4, JT, rfl, rfl⟩ _
 refine ⟨⟨rfl, (by intro ob aL; simp only [List.mem_cons, List.not_mem_nil, or_false] at aL; rcases aL with rfl | rfl <;> rfl), .inl rfl⟩, ?_⟩
 refine aa.bx rfl ag (aa.nil (ah.ret ?_))
 exact ⟨_, _, rfl, rfl, _, _, JS, by have := hX.len; omega, tz JT (lA om).lt (by simp; omega) om, rfl, rfl⟩
 refine ah.sr (.vl (Y.qk rfl rfl) ?_)
 refine .an ?_
 refine aa.nil ?_
 refine ah.a9 rfl (fun I9 => ?_) (fun I9 => ?_)
 refine ah.sr ?_
 refine .mv ?_
 refine .mv ?_
 refine .mv ?_
 refine .mv ?_
 refine aa.bc [0, 1] [] Av (nj (gl := gl) (a := ws.getD 0 []) (b := cz) hg om hX.wd (lA om).wd hI.hw hI.t0) rfl (.named rfl rfl (.au rfl rfl (.au rfl rfl .nil))) ⟨rfl, rfl, trivial⟩ rfl ag (fun _ h => by cases h) (fun _ h => by cases h) ag ag ?_
 rintro r a8 ⟨L5, Ob, Gd, L6, Ge, rfl, rfl⟩ _
 refine ⟨⟨rfl, (by intro ob aL; simp only [List.mem_cons, List.not_mem_nil, or_false] at aL; rcases aL with rfl | rfl <;> rfl), .inl rfl⟩, ?_⟩
 refine aa.bc [0, 1] [] q3 (fC (gl := L5) (a := Ob) om) rfl (.named rfl rfl (.au rfl rfl .nil)) ⟨rfl, rfl, trivial⟩ rfl ag (fun _ h => by cases h) (fun _ h => by cases h) ag ag ?_
 rintro r a8 ⟨rfl, rfl⟩ _
 refine ⟨⟨rfl, (by intro ob aL; simp only [List.mem_cons, List.not_mem_nil, or_false] at aL; rcases aL with rfl | rfl <;> rfl), .inl rfl⟩, ?_⟩
 refine aa.buildSlice (([(L5.length : Int)] : List Int).map al) az fX rfl rfl rfl rfl rfl (aD (s := 1) (f := al) (fun _ => rfl)) rfl rfl rfl ag ?_
 refine aa.bx rfl ag (aa.nil (ah.ret ?_))
 exact ⟨_, _, rfl, rfl, _, _, Gd.trans (Ext.not Gd.dz Ge), by rw [List.length_append, List.length_singleton]; omega, CD (Ge.not om) hX.lt (lA om).lt om om, rfl, rfl⟩
 refine ah.sr (.vl (Y.qk rfl rfl) ?_)
 refine .an ?_
 refine aa.nil ?_
 refine ah.a9 rfl (fun Dg => ?_) (fun Dg => ?_)
 refine ah.sr ?_
 refine .mv ?_
 refine .mv ?_
 refine .mv ?_
 refine aa.bc [0, 1] [] Av (nj (gl := gl) (a := ws.getD 0 []) (b := cz) hg om hX.wd (lA om).wd hI.hw hI.t0) rfl (.named rfl rfl (.au rfl rfl (.au rfl rfl .nil))) ⟨rfl, rfl, trivial⟩ rfl ag (fun _ h => by cases h) (fun _ h => by cases h) ag ag ?_
 rintro r a8 ⟨Pv, Oc, JU, L7, JV, rfl, rfl⟩ _
 refine ⟨⟨rfl, (by intro ob aL; simp only [List.mem_cons, List.not_mem_nil, or_false] at aL; rcases aL with rfl | rfl <;> rfl), .inl rfl⟩, ?_⟩
 refine aa.buildSlice (([Oc] : List Int).map al) az fX rfl rfl rfl rfl rfl (aD (s := 1) (f := al) (fun _ => rfl)) rfl rfl rfl ag ?_
 refine aa.bx rfl ag (aa.nil (ah.ret ?_))
 exact ⟨_, _, rfl, rfl, _, _, JU, om, CC JV hX.lt (lA om).lt om om, rfl, rfl⟩
 refine ah.seq (ah.sr (.vl (Y.qk rfl rfl) ?_))
 refine .an ?_
 refine aa.nil ?_
 refine ah.aZ rfl (fun kf => ?_) (fun kf => ?_)
 refine ah.skip (ah.aK rfl (ah.sr ?_))
 refine .mv ?_
 refine .mv ?_
 refine .mv ?_
 refine .mv ?_
 refine .vl (Y.qk rfl rfl) ?_
 refine aa.bc [0, 1] [] tS (k9 (gl := gl) (s := decide (op = 19)) (a := ws.getD 0 []) (b := cz) hg om hX.wd (lA om).wd hI.hw hI.t0) rfl (.named rfl rfl (.au rfl rfl (.au rfl rfl (.au rfl rfl .nil)))) ⟨rfl, rfl, trivial⟩ rfl ag (fun _ h => by cases h) (fun _ h => by cases h) ag ag ?_
 rintro r a8 ⟨Od, JW, CE, Gf, CF, rfl, rfl⟩ _
 refine ⟨⟨rfl, (by intro ob aL; simp only [List.mem_cons, List.not_mem_nil, or_false] at aL; rcases aL with rfl | rfl <;> rfl), .inl rfl⟩, ?_⟩
 refine aa.buildSlice (([JW] : List Int).map al) az fX rfl rfl rfl rfl rfl (aD (s := 1) (f := al) (fun _ => rfl)) rfl rfl rfl ag ?_
 refine aa.bx rfl ag (aa.nil (ah.ret ?_))
 exact ⟨_, _, rfl, rfl, _, _, CE, om, xF CF hX.lt (lA om).lt (by simp; omega) om, rfl, rfl⟩
 refine ah.region (.vl (Y.qk rfl rfl) ?_)
 refine .an ?_
 refine aa.nil ?_
 refine ah.aZ rfl (fun kf => ?_) (fun kf => ?_)
 refine ah.sr ?_
 refine .mv ?_
 refine .mv ?_
 refine .mv ?_
 refine .mv ?_
 refine .vl (Y.qk rfl rfl) ?_
 refine aa.bc [0, 1] [] tS (k9 (gl := gl) (s := decide (op = 19)) (a := ws.getD 0 []) (b := cz) hg om hX.wd (lA om).wd hI.hw hI.t0) rfl (.named rfl rfl (.au rfl rfl (.au rfl rfl (.au rfl rfl .nil)))) ⟨rfl, rfl, trivial⟩ rfl ag (fun _ h => by cases h) (fun _ h => by cases h) ag ag ?_
 rintro r a8 ⟨Od, JW, CE, Gf, CF, rfl, rfl⟩ _
 refine ⟨⟨rfl, (by intro ob aL; simp only [List.mem_cons, List.not_mem_nil, or_false] at aL; rcases aL with rfl | rfl <;> rfl), .inl rfl⟩, ?_⟩
 refine aa.buildSlice (([JW] : List Int).map al) az fX rfl rfl rfl rfl rfl (aD (s := 1) (f := al) (fun _ => rfl)) rfl rfl rfl ag ?_
 refine aa.bx rfl ag (aa.nil (ah.ret ?_))
 exact ⟨_, _, rfl, rfl, _, _, CE, om, xF CF hX.lt (lA om).lt (by simp; omega) om, rfl, rfl⟩
 refine ah.seq (ah.sr (.vl (Y.qk rfl rfl) ?_))
 refine .an ?_
 refine aa.nil ?_
 refine ah.aZ rfl (fun kg => ?_) (fun kg => ?_)
 refine ah.skip (ah.aK rfl (ah.sr ?_))
 refine .mv ?_
 refine .mv ?_
 refine .mv ?_
 refine .mv ?_
 refine .mv ?_
 refine .vl (Y.qk rfl rfl) ?_
 refine aa.bc [0, 1] [] tS (k9 (gl := gl) (s := decide (op = 20)) (a := cz) (b := ws.getD 0 []) hg om (lA om).wd hX.wd hI.hw hI.t0) rfl (.named rfl rfl (.au rfl rfl (.au rfl rfl (.au rfl rfl .nil)))) ⟨rfl, rfl, trivial⟩ rfl ag (fun _ h => by cases h) (fun _ h => by cases h) ag ag ?_
 rintro r a8 ⟨xH, CG, sc, CH, sd, rfl, rfl⟩ _
 refine ⟨⟨rfl, (by intro ob aL; simp only [List.mem_cons, List.not_mem_nil, or_false] at aL; rcases aL with rfl | rfl <;> rfl), .inl rfl⟩, ?_⟩
 refine aa.bc [0, 1] [] q3 (fC (gl := xH) (a := CG) om) rfl (.named rfl rfl (.au rfl rfl .nil)) ⟨rfl, rfl, trivial⟩ rfl ag (fun _ h => by cases h) (fun _ h => by cases h) ag ag ?_
 rintro r a8 ⟨rfl, rfl⟩ _
 refine ⟨⟨rfl, (by intro ob aL; simp only [List.mem_cons, List.not_mem_nil, or_false] at aL; rcases aL with rfl | rfl <;> rfl), .inl rfl⟩, ?_⟩
 refine aa.buildSlice (([(xH.length : Int)] : List Int).map al) az fX rfl rfl rfl rfl rfl (aD (s := 1) (f := al) (fun _ => rfl)) rfl rfl rfl ag ?_
 refine aa.bx rfl ag (aa.nil (ah.ret ?_))
 exact ⟨_, _, rfl, rfl, _, _, sc.trans (Ext.not sc.dz sd), by rw [List.length_append, List.length_singleton]; omega, xG (sd.not om) hX.lt (lA om).lt (by simp; omega) om, rfl, rfl⟩
 refine ah.region (.vl (Y.qk rfl rfl) ?_)
 refine .an ?_
 refine aa.nil ?_
 refine ah.aZ rfl (fun kg => ?_) (fun kg => ?_)
 refine ah.sr ?_
 refine .mv ?_
 refine .mv ?_
 refine .mv ?_
 refine .mv ?_
 refine .mv ?_
 refine .vl (Y.qk rfl rfl) ?_
 refine aa.bc [0, 1] [] tS (k9 (gl := gl) (s := decide (op = 20)) (a := cz) (b := ws.getD 0 []) hg om (lA om).wd hX.wd hI.hw hI.t0) rfl (.named rfl rfl (.au rfl rfl (.au rfl rfl (.au rfl rfl .nil)))) ⟨rfl, rfl, trivial⟩ rfl ag (fun _ h => by cases h) (fun _ h => by cases h) ag ag ?_
 rintro r a8 ⟨xH, CG, sc, CH, sd, rfl, rfl⟩ _
 refine ⟨⟨rfl, (by intro ob aL; simp only [List.mem_cons, List.not_mem_nil, or_false] at aL; rcases aL with rfl | rfl <;> rfl), .inl rfl⟩, ?_⟩
 refine aa.bc [0, 1] [] q3 (fC (gl := xH) (a := CG) om) rfl (.named rfl rfl (.au rfl rfl .nil)) ⟨rfl, rfl, trivial⟩ rfl ag (fun _ h => by cases h) (fun _ h => by cases h) ag ag ?_
 rintro r a8 ⟨rfl, rfl⟩ _
 refine ⟨⟨rfl, (by intro ob aL; simp only [List.mem_cons, List.not_mem_nil, or_false] at aL; rcases aL with rfl | rfl <;> rfl), .inl rfl⟩, ?_⟩
 refine aa.buildSlice (([(xH.length : Int)] : List Int).map al) az fX rfl rfl rfl rfl rfl (aD (s := 1) (f := al) (fun _ => rfl)) rfl rfl rfl ag ?_
 refine aa.bx rfl ag (aa.nil (ah.ret ?_))
 exact ⟨_, _, rfl, rfl, _, _, sc.trans (Ext.not sc.dz sd), by rw [List.length_append, List.length_singleton]; omega, xG (sd.not om) hX.lt (lA om).lt (by simp; omega) om, rfl, rfl⟩
 refine ah.sr (.vl (Y.qk rfl rfl) ?_)
 refine .an ?_
 refine aa.nil ?_
 refine ah.a9 rfl (fun xg => ?_) (fun xg => ?_)
 refine ah.seq ?_
 have JX : Wk c gl cz width yN t := (by rw [Lo om]; have := hI.y om; rwa [if_pos om] at this)
 have JY := hI.z om; have Oe := JX.len; have Og := JY.len; have JZ := hX.bit 0 om; have eN := Ext.not hg JZ; have nN := JZ.not (u := t + 10) (Int.le_refl _)
 refine ah.region ?_
 refine .mv ?_
 refine .mv ?_
 refine .vl (Y.qq (m := 0) az rfl rfl bj (ao (d := 0) om)) ?_
 refine .ld bw ?_
 refine aa.bc [0, 1] [] q3 (fC (gl := gl) (a := (ws.getD 0 []).getD 0 0) om) rfl (.named rfl rfl (.au rfl rfl .nil)) ⟨rfl, rfl, trivial⟩ rfl ag (fun _ h => by cases h) (fun _ h => by cases h) ag ag ?_
 rintro r a8 ⟨rfl, rfl⟩ _
 refine ⟨⟨rfl, (by intro ob aL; simp only [List.mem_cons, List.not_mem_nil, or_false] at aL; rcases aL with rfl | rfl <;> rfl), .inl rfl⟩, ?_⟩
 refine .an ?_
 refine aa.nil (ah.sr ?_)
 refine .an ?_
 refine aa.sh (Sh.nil (d := 12) 112 1 rfl ag) (aa.nil (ah.seq ?_))
 refine ah.sr ?_
 refine .mv ?_
 refine .vl (Y.qu (n := cz.length) az rfl (congrArg some (List.length_map ..))) ?_
 refine .mv ?_
 refine aa.nil (ah.block ?_)
 refine ah.eS (fun (dO : Nat) (g8 : List Gate) (fE : List Int) => ⟨[(0, .ptr 0 0 0 0), (2, .fz 1 (ws.map gy)), (9, .fz 1 ((ws.getD 0 []).map al)), (10, .fz 1 (cz.map al)), (11, .v (.int .i64 (gl.length : Int))), (12, .aR 112 1 0 fE.length), (118, .v (.int .i64 (cz.length : Int))), (119, .v (.int .i64 (dO : Int)))], [(0, .cells [.aR 1 3 0 g8.length]), (1, .rows 3 (g8.map Gate.row)), (112, .rows 1 (fE.map al))]⟩) (fun (dO : Nat) (g8 : List Gate) (fE : List Int) => ((dO : Int) ≤ (cz.length : Int)) ∧ (yd c (gl ++ [(⟨4, (ws.getD 0 []).getD 0 0, 0⟩ : Gate)]) g8 fE (fun i ins => if (xN ins).testBit 0 then (yN ins).testBit i else (zN ins).testBit i) (t + 50) dO)) (fun (dO : Nat) (g8 : List Gate) (fE : List Int) => ((cz.length : Int) - (dO : Int)).toNat) 0 (gl ++ [(⟨4, (ws.getD 0 []).getD 0 0, 0⟩ : Gate)]) ([] : List Int) (⟨pt, yd.init eN.dz⟩) (Le.mk (.c (.c (.c (.c (.c (.cons (aI rfl aF) (.c (.cons (aq rfl bj) (.nil))))))))) (.cons (aB rfl gL) (.c (.c (.nil))))) (fun dO g8 fE Cw => ?_)
 obtain ⟨Oh, hM⟩ := Cw
 refine ah.sr (.vl (Y.qz rfl rfl) (aa.nil ?_))
 refine ah.seq ?_
 refine ah.a9 rfl (fun Ka => ?_) (fun Ka => ?_)
 refine ah.skip (ah.seq (ah.block ?_))
 refine ah.sr ?_
 refine .mv ?_
 refine .an ?_
 refine aa.nil ?_
 have Ga := hM.len; have Ln := hM.ol; rw [List.length_append, List.length_singleton] at Ga; have Kb := (JX.bit dO om).ext eN; have Kc := (JY.bit dO om).ext eN
 refine ah.cC rfl (aS.blind 0 rfl aU (aE.move rfl rfl) ag (aS.bl (n := 4) [1, 2, 3, 4, 5, 6, 7, 8, 9, 10, 11, 12, 13, 14, 15] [16, 17, 18, 19] 16 rfl aU ?_))
 refine .cn 1 rfl (Y.zd rfl rfl) (.cn 2 rfl (Y.zd rfl rfl) ?_)
 refine .cn 3 rfl (Y.qq (m := 0) az rfl rfl bj (ao (d := 0) om)) ?_
 refine .cn 4 rfl (Y.qx bw rfl rfl rfl rfl) (.cn 5 rfl (Y.zd rfl rfl) (.cn 6 rfl (Y.zd rfl rfl) ?_))
 refine .cn 7 rfl (Y.zd rfl rfl) ?_
 refine .cn 8 rfl (Y.qq (m := dO) az rfl rfl bj (ao (d := 0) om)) ?_
 refine .cn 9 rfl (Y.qx bw rfl rfl rfl rfl) (.cn 10 rfl (Y.zd rfl rfl) ?_)
 refine .cn 11 rfl (Y.qq (m := 2) gX rfl rfl bj (ao (d := []) om)) ?_
 refine .cn 12 rfl (Y.qx cQ rfl rfl rfl rfl) (.cn 13 rfl (Y.zd rfl rfl) ?_)
 refine .cn 14 rfl (Y.qq (m := dO) az rfl rfl bj (ao (d := 0) om)) ?_
 refine .cn 15 rfl (Y.qx bw rfl rfl rfl rfl) (AQ.nil (aS.one 16 rfl aU ?_))
 refine aa.bc [0, 1] [] BD (choose_spec (gl := g8) (s := (ws.getD 0 []).getD 0 0) (v := (gl.length : Int)) (y := cz.getD dO 0) (n := (ws.getD 2 []).getD dO 0) om) rfl (.named rfl rfl (.au rfl rfl (.au rfl rfl (.au rfl rfl (.au rfl rfl .nil))))) ⟨rfl, rfl, trivial⟩ rfl ag (fun _ h => by cases h) (fun _ h => by cases h) ag ag ?_
 rintro r a8 ⟨rfl, rfl⟩ _
 refine ⟨⟨rfl, (by intro ob aL; simp only [List.mem_cons, List.not_mem_nil, or_false] at aL; rcases aL with rfl | rfl <;> rfl), .inl rfl⟩, ?_⟩
 refine aa.nil ⟨rfl, ?_⟩
 refine aS.one 17 rfl aU ?_
 refine aa.buildSlice (([((g8.length : Int) + 2)] : List Int).map al) az fX rfl rfl rfl rfl rfl (aD (s := 1) (f := al) (fun _ => rfl)) rfl rfl rfl ag ?_
 refine aa.nil ⟨rfl, ?_⟩
 refine aS.one 18 rfl aU ?_
 refine aa.bY ((fE ++ ([((g8.length : Int) + 2)] : List Int)).map al) (fE ++ ([((g8.length : Int) + 2)] : List Int)).length az fX rfl rfl rfl rfl (bU aF) (bB aF) (da aF) aF aF ag ag ?_
 refine aa.nil ⟨rfl, ?_⟩
 refine aS.bl (n := 0) [19] [] 0 rfl aU (.cn 19 rfl (Y.qe rfl rfl) (AQ.nil ?_))
 refine aS.done aU (ah.region ?_)
 refine .vl (Y.qb rfl rfl aF) ?_
 refine .mv ?_
 refine aa.nil ?_
 exact ⟨dO + 1, ta g8 ((ws.getD 0 []).getD 0 0) (gl.length : Int) (cz.getD dO 0) ((ws.getD 2 []).getD dO 0), fE ++ ([((g8.length : Int) + 2)] : List Int), ⟨om, hM.step (JZ.ext eN) nN Kb Kc om om om om (fun ins => rfl)⟩, om, Le.mk (.c (.c (.c (.c (.c (.cons (aI rfl om) (.c (.cons (aq rfl bj) (.nil))))))))) (.cons (aB rfl gL) (.c (.c (.nil))))⟩
 refine ah.exit (ah.sr ?_)
 refine .mv ?_
 refine .an ?_
 refine aa.sh (Sh.cV (d := 8) (o := 112) rfl rfl (bf om) ag) ?_
 refine aa.nil (ah.ret ?_)
 obtain rfl : w = 1 := om; exact ⟨_, _, rfl, rfl, _, _, eN.trans hM.ext, by have := hM.len; rw [List.length_append, List.length_singleton] at this; omega, zO hM.ws (by have := hM.ol; omega) hX.lt JX.lt JY.lt om, rfl, rfl⟩
 refine ah.skip (ah.sr ?_)
 refine .mv ?_
 refine .mv ?_
 refine .mv ?_
 refine .mv ?_
 refine .vl (Y.qk rfl rfl) ?_
 refine aa.bc [0, 1] [] EG (sa (gl := gl) (a := ws.getD 0 []) (n := width) (sg := decide (op = 23)) hg om hX.wd hI.hw hI.hd hI.t0) rfl (.named rfl rfl (.au rfl rfl (.au rfl rfl (.au rfl rfl .nil)))) ⟨rfl, rfl, trivial⟩ rfl ag (fun _ h => by cases h) (fun _ h => by cases h) ag ag ?_
 rintro r a8 ⟨Oi, Kd, Gg, Ke, Gh, rfl, rfl⟩ _
 refine ⟨⟨rfl, (by intro ob aL; simp only [List.mem_cons, List.not_mem_nil, or_false] at aL; rcases aL with rfl | rfl <;> rfl), .inl rfl⟩, ?_⟩
 refine aa.bx rfl ag (aa.nil (ah.ret ?_))
 exact ⟨_, _, rfl, rfl, _, _, Gg, om, zP Gh hX.lt (by simp; omega), rfl, rfl⟩
open Go Go.AW Go.Proofs
set_option maxRecDepth 4000 in
set_option maxHeartbeats 1000000 in
theorem l3 {nm : ByteArray} {ws is : List Int} {cs : List Cell} {fz dn : Int} (Fa : ws.length ≤ 1048576) (re : cs.length ≤ 1048576) {w : Int} : ak Try.prog 72 [.ptr 0 0 0 0, .v (.int .i64 w)] [.cells [.v (.string nm), .aR 1 1 0 ws.length, .aR 2 6 0 cs.length, .aR 3 1 0 is.length, .v (.slice none 0 0), .v (.slice none 0 0), .v (.slice none 0 0), .v (.slice none 0 0), .v (.int .i64 fz), .v (.int .i64 dn), .v (.slice none 0 0)], .rows 1 (ws.map al), .rows 6 (cs.map Cell.row), .rows 1 (is.map al)] [0] (fun r o => r = .v (.int .i64 (ws.length : Int)) ∧ o = [.cells [.v (.string nm), .aR 1 1 0 ((ws ++ [w]).length), .aR 2 6 0 cs.length, .aR 3 1 0 is.length, .v (.slice none 0 0), .v (.slice none 0 0), .v (.slice none 0 0), .v (.slice none 0 0), .v (.int .i64 fz), .v (.int .i64 dn), .v (.slice none 0 0)], .rows 1 ((ws ++ [w]).map al), .rows 6 (cs.map Cell.row), .rows 1 (is.map al)]) := by
 refine ak.of Try.func72 rfl rfl rfl (n := 24) ag (Nat.le_of_ble_eq_true rfl) (ah.sr ?_)
 refine .an ?_
 refine aa.nil (ah.sr ?_)
 refine .mv ?_
 refine .mv ?_
 refine .vl (Y.zh rfl rfl) ?_
 refine .fa eX ?_
 refine .fa eY ?_
 refine .ld cQ ?_
 refine .mv ?_
 refine aa.buildSlice (([w] : List Int).map al) az fX rfl rfl rfl rfl rfl (aD (s := 1) (f := al) (fun _ => rfl)) rfl rfl rfl ag ?_
 refine aa.bY ((ws ++ ([w] : List Int)).map al) (ws ++ ([w] : List Int)).length az fX rfl rfl rfl rfl (bU aF) (bB aF) (da aF) aF aF ag ag ?_
 refine .vl (Y.zh rfl rfl) ?_
 refine .fa eX ?_
 refine .fa eY ?_
 refine aa.aj yH rfl rfl rfl rfl rfl rfl (Nat.le_of_ble_eq_true rfl) rfl (aa.nil (ah.sr ?_))
 refine .mv ?_
 refine .vl (Y.zh rfl rfl) ?_
 refine .fa eX ?_
 refine .fa eY ?_
 refine .ld cQ ?_
 refine .vl (Y.qu (n := (ws ++ ([w] : List Int)).length) az rfl rfl) ?_
 refine .vl (Y.zv rfl rfl aF) ?_
 refine .an ?_
 refine aa.nil (ah.ret ?_)
 exact ⟨_, _, rfl, rfl, xW (fun (z0 : Int) => X.v (.int .i64 z0)) (by simp : (((ws ++ ([w] : List Int)).length : Nat) : Int) - 1 = (ws.length : Int)), rfl⟩
set_option maxHeartbeats 1000000 in
theorem kq {nm : ByteArray} {ws is : List Int} {cs : List Cell} {fz dn : Int} (Fa : ws.length ≤ 1048576) (re : cs.length ≤ 1048576) {c : Cell} (hc : c.args.length ≤ 17592186043904) : ak Try.prog 73 [.ptr 0 0 0 0, .agg (Cell.row c)] [.cells [.v (.string nm), .aR 1 1 0 ws.length, .aR 2 6 0 cs.length, .aR 3 1 0 is.length, .v (.slice none 0 0), .v (.slice none 0 0), .v (.slice none 0 0), .v (.slice none 0 0), .v (.int .i64 fz), .v (.int .i64 dn), .v (.slice none 0 0)], .rows 1 (ws.map al), .rows 6 (cs.map Cell.row), .rows 1 (is.map al)] [0] (fun r o => r = .tup [] ∧ o = [.cells [.v (.string nm), .aR 1 1 0 ws.length, .aR 2 6 0 ((cs ++ [c]).length), .aR 3 1 0 is.length, .v (.slice none 0 0), .v (.slice none 0 0), .v (.slice none 0 0), .v (.slice none 0 0), .v (.int .i64 fz), .v (.int .i64 dn), .v (.slice none 0 0)], .rows 1 (ws.map al), .rows 6 ((cs ++ [c]).map Cell.row), .rows 1 (is.map al)]) := by
 refine ak.of Try.func73 rfl rfl rfl (n := 20) ag (Nat.le_of_ble_eq_true rfl) (ah.sr (aa.box 103 rfl rfl rfl rfl rfl ag ?_))
 refine aa.nil (ah.sr ?_)
 refine .fa dZ ?_
 refine .ld cQ ?_
 refine aa.br wm (iR (l := c.args) (om)) rfl (.au rfl rfl .nil) ag rfl ?_
 refine .fa dZ ?_
 refine aa.sh (Sh.c1 (d := 6) (c.args.map al) rfl jV (du.map cv)) (aa.aj yH rfl rfl rfl rfl rfl rfl (Nat.le_of_ble_eq_true rfl) rfl (aa.nil ?_))
 refine ah.cC rfl (aS.blind 0 rfl aU (aE.move rfl rfl) ag (aS.blind 1 rfl aU (aE.move rfl rfl) ag ?_))
 refine aS.blind 2 rfl aU (aE.nilCheck rfl rfl) ag (aS.blind 3 rfl aU (aE.fieldAddr eX rfl rfl) ag (aS.blind 4 rfl aU (aE.fieldAddr fM rfl rfl) ag ?_))
 refine aS.two 5 6 rfl rfl aU ?_ ?_
 refine .ld nq ?_
 refine aa.nil ⟨rfl, ?_⟩
 refine aS.bl (n := 6) [6] [7, 8, 9, 10, 11, 12] 7 rfl aU (.cn 6 rfl (Y.qy pZ rfl rfl (Nat.le_of_ble_eq_true rfl) rfl rfl) (AQ.nil ?_))
 refine aS.one 7 rfl aU ?_
 refine aa.buildSlice (([c] : List Cell).map Cell.row) iZ m6 rfl rfl rfl rfl rfl (aD (s := 6) (f := Cell.row) (fun _ => rfl)) rfl rfl rfl ag ?_
 refine aa.nil ⟨rfl, ?_⟩
 refine aS.one 8 rfl aU ?_
 refine aa.bY ((cs ++ ([c] : List Cell)).map Cell.row) (cs ++ ([c] : List Cell)).length iZ m6 rfl rfl rfl rfl (bU aF) (bB aF) (da aF) aF aF ag ag ?_
 refine aa.nil ⟨rfl, ?_⟩
 refine aS.bl (n := 1) [9, 10, 11] [12] 12 rfl aU (.cn 9 rfl (Y.zh rfl rfl) (.cn 10 rfl (Y.qn eX rfl rfl) ?_))
 refine .cn 11 rfl (Y.qn fM rfl rfl) (AQ.nil (aS.one 12 rfl aU ?_))
 refine aa.aj BC rfl rfl rfl rfl rfl rfl (Nat.le_of_ble_eq_true rfl) rfl ?_
 refine aa.nil ⟨rfl, ?_⟩
 refine aS.done aU ?_
 exact ⟨_, _, rfl, rfl, rfl, rfl⟩
 refine .vl (Y.qy pZ rfl rfl (Nat.le_of_ble_eq_true rfl) rfl rfl) ?_
 refine aa.nil ⟨rfl, ?_⟩
 refine aS.two 5 7 rfl rfl aU ?_ ?_
 refine .ld nq ?_
 refine aa.nil ⟨rfl, ?_⟩
 refine aS.one 7 rfl aU ?_
 refine aa.buildSlice (([c] : List Cell).map Cell.row) iZ m6 rfl rfl rfl rfl rfl (aD (s := 6) (f := Cell.row) (fun _ => rfl)) rfl rfl rfl ag ?_
 refine aa.nil ⟨rfl, ?_⟩
 refine aS.one 8 rfl aU ?_
 refine aa.bY ((cs ++ ([c] : List Cell)).map Cell.row) (cs ++ ([c] : List Cell)).length iZ m6 rfl rfl rfl rfl (bU aF) (bB aF) (da aF) aF aF ag ag ?_
 refine aa.nil ⟨rfl, ?_⟩
 refine aS.bl (n := 1) [9, 10, 11] [12] 12 rfl aU (.cn 9 rfl (Y.zh rfl rfl) (.cn 10 rfl (Y.qn eX rfl rfl) ?_))
 refine .cn 11 rfl (Y.qn fM rfl rfl) (AQ.nil (aS.one 12 rfl aU ?_))
 refine aa.aj BC rfl rfl rfl rfl rfl rfl (Nat.le_of_ble_eq_true rfl) rfl ?_
 refine aa.nil ⟨rfl, ?_⟩
 refine aS.done aU ?_
 exact ⟨_, _, rfl, rfl, rfl, rfl⟩
 refine aa.buildSlice (([c] : List Cell).map Cell.row) iZ m6 rfl rfl rfl rfl rfl (aD (s := 6) (f := Cell.row) (fun _ => rfl)) rfl rfl rfl ag ?_
 refine aa.nil ⟨rfl, ?_⟩
 refine aS.bl (n := 5) [5] [8, 9, 10, 11, 12] 8 rfl aU (.cn 5 rfl (Y.qx nq rfl rfl rfl rfl) (AQ.nil ?_))
 refine aS.one 8 rfl aU ?_
 refine aa.bY ((cs ++ ([c] : List Cell)).map Cell.row) (cs ++ ([c] : List Cell)).length iZ m6 rfl rfl rfl rfl (bU aF) (bB aF) (da aF) aF aF ag ag ?_
 refine aa.nil ⟨rfl, ?_⟩
 refine aS.bl (n := 1) [9, 10, 11] [12] 12 rfl aU (.cn 9 rfl (Y.zh rfl rfl) (.cn 10 rfl (Y.qn eX rfl rfl) ?_))
 refine .cn 11 rfl (Y.qn fM rfl rfl) (AQ.nil (aS.one 12 rfl aU ?_))
 refine aa.aj BC rfl rfl rfl rfl rfl rfl (Nat.le_of_ble_eq_true rfl) rfl ?_
 refine aa.nil ⟨rfl, ?_⟩
 refine aS.done aU ?_
 exact ⟨_, _, rfl, rfl, rfl, rfl⟩
set_option maxHeartbeats 1000000 in
theorem se {nm : ByteArray} {ws is : List Int} {cs : List Cell} {fz dn : Int} (Fa : ws.length ≤ 1048000) (re : cs.length ≤ 1048000) {w : Int} {x : Nat} (hx : x < 18446744073709551616) : ak Try.prog 76 [.ptr 0 0 0 0, .v (.int .i64 w), .v (.int .u64 (x : Int))] [.cells [.v (.string nm), .aR 1 1 0 ws.length, .aR 2 6 0 cs.length, .aR 3 1 0 is.length, .v (.slice none 0 0), .v (.slice none 0 0), .v (.slice none 0 0), .v (.slice none 0 0), .v (.int .i64 fz), .v (.int .i64 dn), .v (.slice none 0 0)], .rows 1 (ws.map al), .rows 6 (cs.map Cell.row), .rows 1 (is.map al)] [0] (fun r o => r = .v (.int .i64 (ws.length : Int)) ∧ o = [.cells [.v (.string nm), .aR 1 1 0 ((ws ++ [w]).length), .aR 2 6 0 ((cs ++ [(⟨1, 0, (ws.length : Int), [], kE w x, 0⟩ : Cell)]).length), .aR 3 1 0 is.length, .v (.slice none 0 0), .v (.slice none 0 0), .v (.slice none 0 0), .v (.slice none 0 0), .v (.int .i64 fz), .v (.int .i64 dn), .v (.slice none 0 0)], .rows 1 ((ws ++ [w]).map al), .rows 6 ((cs ++ [(⟨1, 0, (ws.length : Int), [], kE w x, 0⟩ : Cell)]).map Cell.row), .rows 1 (is.map al)]) := by
 refine ak.of Try.func76 rfl rfl rfl (n := 19) ag (Nat.le_of_ble_eq_true rfl) (ah.sr ?_)
 refine .an ?_
 refine aa.nil (ah.sr ?_)
 refine .mv ?_
 refine .mv ?_
 refine aa.bc [0, 1, 2, 3] [] By (l3 (w := w) (ws := ws) (cs := cs) (is := is) (nm := nm) (fz := fz) (dn := dn) om om) rfl (.named rfl rfl (.au rfl rfl .nil)) ⟨rfl, rfl, rfl, rfl, trivial⟩ rfl ag (fun _ h => by cases h) (fun _ h => by cases h) ag ag ?_
 rintro r a8 ⟨rfl, rfl⟩ _
 refine ⟨⟨rfl, (by intro ob aL; simp only [List.mem_cons, List.not_mem_nil, or_false] at aL; rcases aL with rfl | rfl | rfl | rfl <;> rfl), .inl rfl⟩, ?_⟩
 refine .an ?_
 refine aa.nil (ah.sr ?_)
 refine .mv ?_
 refine .mv ?_
 refine .mv ?_
 refine .mv ?_
 refine aa.br oq (fQ (w := w) (x := x) (om)) rfl (.au rfl rfl (.au rfl rfl .nil)) ag rfl ?_
 refine .vl (Y.qg BB m6 rfl rfl rfl) (aa.sh (Sh.KC (d := 16) 1 3 rfl rfl) ?_)
 refine aa.bc [0, 1, 2, 3] [] Bz (kq (c := (⟨1, 0, (((ws).length : Nat) : Int), ([] : List Int), kE w x, 0⟩ : Cell)) (ws := ws ++ [w]) (cs := cs) (is := is) (nm := nm) (fz := fz) (dn := dn) aF aF (by simp)) rfl (.named rfl rfl (.au rfl rfl .nil)) ⟨rfl, rfl, rfl, rfl, trivial⟩ rfl ag (fun _ h => by cases h) (fun _ h => by cases h) ag ag ?_
 rintro r a8 ⟨rfl, rfl⟩ _
 refine ⟨⟨rfl, (by intro ob aL; simp only [List.mem_cons, List.not_mem_nil, or_false] at aL; rcases aL with rfl | rfl | rfl | rfl <;> rfl), .inl rfl⟩, ?_⟩
 refine aa.nil (ah.sr ?_)
 refine .mv ?_
 refine .an ?_
 refine aa.nil (ah.ret ?_)
 exact ⟨_, _, rfl, rfl, rfl, rfl⟩
set_option maxHeartbeats 1000000 in
theorem ve {nm : ByteArray} {ws is : List Int} {cs : List Cell} {fz dn : Int} (Fa : ws.length ≤ 1048000) (re : cs.length ≤ 1048000) {op w : Int} {args : List Int} (hx : args.length ≤ 17592186043904) : ak Try.prog 75 [.ptr 0 0 0 0, .v (.int .i64 op), .v (.int .i64 w), .fz 1 (args.map al)] [.cells [.v (.string nm), .aR 1 1 0 ws.length, .aR 2 6 0 cs.length, .aR 3 1 0 is.length, .v (.slice none 0 0), .v (.slice none 0 0), .v (.slice none 0 0), .v (.slice none 0 0), .v (.int .i64 fz), .v (.int .i64 dn), .v (.slice none 0 0)], .rows 1 (ws.map al), .rows 6 (cs.map Cell.row), .rows 1 (is.map al)] [0] (fun r o => r = .v (.int .i64 (ws.length : Int)) ∧ o = [.cells [.v (.string nm), .aR 1 1 0 ((ws ++ [w]).length), .aR 2 6 0 ((cs ++ [(⟨2, op, (ws.length : Int), args, 0, 0⟩ : Cell)]).length), .aR 3 1 0 is.length, .v (.slice none 0 0), .v (.slice none 0 0), .v (.slice none 0 0), .v (.slice none 0 0), .v (.int .i64 fz), .v (.int .i64 dn), .v (.slice none 0 0)], .rows 1 ((ws ++ [w]).map al), .rows 6 ((cs ++ [(⟨2, op, (ws.length : Int), args, 0, 0⟩ : Cell)]).map Cell.row), .rows 1 (is.map al)]) := by
 refine ak.of Try.func75 rfl rfl rfl (n := 20) ag (Nat.le_of_ble_eq_true rfl) (ah.sr ?_)
 refine .an ?_
 refine aa.nil (ah.sr ?_)
 refine .mv ?_
 refine .mv ?_
 refine aa.bc [0, 1, 2, 3] [] By (l3 (w := w) (ws := ws) (cs := cs) (is := is) (nm := nm) (fz := fz) (dn := dn) om om) rfl (.named rfl rfl (.au rfl rfl .nil)) ⟨rfl, rfl, rfl, rfl, trivial⟩ rfl ag (fun _ h => by cases h) (fun _ h => by cases h) ag ag ?_
 rintro r a8 ⟨rfl, rfl⟩ _
 refine ⟨⟨rfl, (by intro ob aL; simp only [List.mem_cons, List.not_mem_nil, or_false] at aL; rcases aL with rfl | rfl | rfl | rfl <;> rfl), .inl rfl⟩, ?_⟩
 refine .an ?_
 refine aa.nil (ah.sr ?_)
 refine .mv ?_
 refine .mv ?_
 refine .mv ?_
 refine .mv ?_
 refine .vl (Y.qg BB m6 rfl rfl rfl) ?_
 refine aa.bc [0, 1, 2, 3] [] Bz (kq (c := (⟨2, op, (((ws).length : Nat) : Int), args, 0, 0⟩ : Cell)) (ws := ws ++ [w]) (cs := cs) (is := is) (nm := nm) (fz := fz) (dn := dn) aF aF aF) rfl (.named rfl rfl (.au rfl rfl .nil)) ⟨rfl, rfl, rfl, rfl, trivial⟩ rfl ag (fun _ h => by cases h) (fun _ h => by cases h) ag ag ?_
 rintro r a8 ⟨rfl, rfl⟩ _
 refine ⟨⟨rfl, (by intro ob aL; simp only [List.mem_cons, List.not_mem_nil, or_false] at aL; rcases aL with rfl | rfl | rfl | rfl <;> rfl), .inl rfl⟩, ?_⟩
 refine aa.nil (ah.sr ?_)
 refine .mv ?_
 refine .an ?_
 refine aa.nil (ah.ret ?_)
 exact ⟨_, _, rfl, rfl, rfl, rfl⟩
open Go Go.AW Go.Proofs
theorem zQ {op x : Int} (hp : Plain op) (h0 : 1 ≤ x) (h1 : x ≤ 64) : ak Try.prog 124 [vi op, vi x] [] [] (fun r o => ∃ c : Int, r = .tup [.agg [vi 0, vi x, vi (aO op x.toNat), vi 0, vi 0, vi c], vi 0] ∧ o = []) := by
 refine ak.of Try.func124 rfl rfl rfl (n := 184) ag (bE rfl) ?_
 have Kf := hp; unfold Plain uM Seq Unary at Kf; have sB := xz (n := x.toNat) om; have Gi := xz (n := (x + 1).toNat) om; have hle : (x + 1).toNat = x.toNat + 1 := om; have Oj := uo h0 h1 sB; have Pw := uo h0 h1 Gi
 refine .sr (.alloc 104 iC rfl rfl ag ?_)
 refine .an ?_
 refine .nil (.seq (.sr ?_))
 refine .mv ?_
 refine .vl (Y.qw rfl rfl) ?_
 refine .mv ?_
 refine .aw (d := 12) rfl (fun uk => ?_) (fun uk => ?_)
 refine .gz 12 (.gz 12 ?_)
 refine .pk ?_
 refine .nil (.aK rfl (.sr ?_))
 refine .vl (Y.qg mZ iC rfl rfl rfl) (.aj bG rfl rfl rfl rfl rfl rfl (bE rfl) rfl ?_)
 refine .an ?_
 refine .nil (.ret ?_)
 first | (exfalso; omega) | exact ⟨_, _, rfl, rfl, 0, by rw [show aO op x.toNat = 0 by (try rw [hle]); unfold aO; (repeat' split) <;> omega]; rfl, rfl⟩
 refine .gw 12 (Y.zd rfl rfl) (.gw 12 (Y.qo rfl rfl) ?_)
 refine .pk ?_
 refine .nil ?_
 refine .a9 rfl (fun nG => ?_) (fun nG => ?_)
 refine .sr (.vl (Y.qg mZ iC rfl rfl rfl) (.aj bG rfl rfl rfl rfl rfl rfl (bE rfl) rfl ?_))
 refine .an ?_
 refine .nil (.ret ?_)
 first | (exfalso; omega) | exact ⟨_, _, rfl, rfl, 0, by rw [show aO op x.toNat = 0 by (try rw [hle]); unfold aO; (repeat' split) <;> omega]; rfl, rfl⟩
 refine .skip (.seq (.sr ?_))
 refine .mv ?_
 refine .vl (Y.qz rfl rfl) ?_
 refine .mv ?_
 refine .aw (d := 19) rfl (fun rL => ?_) (fun rL => ?_)
 refine .gz 19 (.gz 19 ?_)
 refine .pk ?_
 refine .nil (.aK rfl (.sr ?_))
 refine .vl (Y.qg mZ iC rfl rfl rfl) (.aj bG rfl rfl rfl rfl rfl rfl (bE rfl) rfl ?_)
 refine .an ?_
 refine .nil (.ret ?_)
 first | (exfalso; omega) | exact ⟨_, _, rfl, rfl, 0, by rw [show aO op x.toNat = 0 by (try rw [hle]); unfold aO; (repeat' split) <;> omega]; rfl, rfl⟩
 refine .gw 19 (Y.zd rfl rfl) (.gw 19 (Y.qp rfl rfl) ?_)
 refine .pk ?_
 refine .nil ?_
 refine .a9 rfl (fun ni => ?_) (fun ni => ?_)
 refine .sr (.vl (Y.qg mZ iC rfl rfl rfl) (.aj bG rfl rfl rfl rfl rfl rfl (bE rfl) rfl ?_))
 refine .an ?_
 refine .nil (.ret ?_)
 first | (exfalso; omega) | exact ⟨_, _, rfl, rfl, 0, by rw [show aO op x.toNat = 0 by (try rw [hle]); unfold aO; (repeat' split) <;> omega]; rfl, rfl⟩
 refine .skip (.sr ?_)
 refine .mv ?_
 refine .mv ?_
 refine .br r3 (gk (x := x) (om) (om)) rfl (.au rfl rfl .nil) ag rfl ?_
 refine .mv ?_
 refine .vl (Y.qb rfl rfl aF) (.br r3 (gk (x := (x + 1)) (om) (om)) rfl (.au rfl rfl .nil) ag rfl ?_)
 refine .an ?_
 refine .an ?_
 refine .an ?_
 refine .nil (.sr ?_)
 refine .mv ?_
 refine .vl (Y.qg mZ iC rfl rfl rfl) (.alloc 109 iC rfl rfl ag (.aj bG rfl rfl rfl rfl rfl rfl (bE rfl) rfl ?_))
 refine .nil (.seq (.sr ?_))
 refine .mv ?_
 refine .nil (.block (.seq ?_))
 refine .sr (.vl (Y.qk rfl rfl) ?_)
 refine .an ?_
 refine .nil ?_
 refine .aZ rfl (fun uV => ?_) (fun uV => ?_)
 refine .skip (.aK rfl (.region ?_))
 refine .mv ?_
 refine .fa bJ ?_
 refine .aj cJ rfl rfl rfl rfl rfl rfl (bE rfl) rfl ?_
 refine .fa bm ?_
 refine .aj cJ rfl rfl rfl rfl rfl rfl (bE rfl) rfl (.nil (.sr ?_))
 refine .vl (Y.qy cd rfl rfl (bE rfl) rfl rfl) (.aj bG rfl rfl rfl rfl rfl rfl (bE rfl) rfl ?_)
 refine .an ?_
 refine .nil (.ret ?_)
 first | (exfalso; omega) | exact ⟨_, _, rfl, rfl, x, by rw [show aO op x.toNat = 20 by (try rw [hle]); unfold aO; (repeat' split) <;> omega]; rfl, rfl⟩
 refine .sr (.vl (Y.qk rfl rfl) ?_)
 refine .an ?_
 refine .nil ?_
 refine .aZ rfl (fun uV => ?_) (fun uV => ?_)
 refine .skip (.aK rfl (.region ?_))
 refine .mv ?_
 refine .fa bJ ?_
 refine .aj cJ rfl rfl rfl rfl rfl rfl (bE rfl) rfl ?_
 refine .fa bm ?_
 refine .aj cJ rfl rfl rfl rfl rfl rfl (bE rfl) rfl (.nil (.sr ?_))
 refine .vl (Y.qy cd rfl rfl (bE rfl) rfl rfl) (.aj bG rfl rfl rfl rfl rfl rfl (bE rfl) rfl ?_)
 refine .an ?_
 refine .nil (.ret ?_)
 first | (exfalso; omega) | exact ⟨_, _, rfl, rfl, x, by rw [show aO op x.toNat = 20 by (try rw [hle]); unfold aO; (repeat' split) <;> omega]; rfl, rfl⟩
 refine .region (.vl (Y.qk rfl rfl) ?_)
 refine .an ?_
 refine .nil ?_
 refine .aZ rfl (fun uV => ?_) (fun uV => ?_)
 refine .region ?_
 refine .mv ?_
 refine .fa bJ ?_
 refine .aj cJ rfl rfl rfl rfl rfl rfl (bE rfl) rfl ?_
 refine .fa bm ?_
 refine .aj cJ rfl rfl rfl rfl rfl rfl (bE rfl) rfl (.nil (.sr ?_))
 refine .vl (Y.qy cd rfl rfl (bE rfl) rfl rfl) (.aj bG rfl rfl rfl rfl rfl rfl (bE rfl) rfl ?_)
 refine .an ?_
 refine .nil (.ret ?_)
 first | (exfalso; omega) | exact ⟨_, _, rfl, rfl, x, by rw [show aO op x.toNat = 20 by (try rw [hle]); unfold aO; (repeat' split) <;> omega]; rfl, rfl⟩
 refine .sr (.vl (Y.qk rfl rfl) ?_)
 refine .an ?_
 refine .nil ?_
 refine .a9 rfl (fun FV => ?_) (fun FV => ?_)
 refine .region ?_
 refine .mv ?_
 refine .vl (Y.zf rfl rfl om) (.vl (Y.qb rfl rfl aF) ?_)
 refine .mv ?_
 refine .vl (Y.zf rfl rfl om) ?_
 refine .mv ?_
 refine .vl (Y.zf rfl rfl om) ?_
 refine .mv ?_
 refine .vl (Y.zf rfl rfl om) (.vl (Y.qb rfl rfl aF) ?_)
 refine .fa bJ ?_
 refine .aj cJ rfl rfl rfl rfl rfl rfl (bE rfl) rfl ?_
 refine .fa bm ?_
 refine .aj cJ rfl rfl rfl rfl rfl rfl (bE rfl) rfl (.nil (.sr ?_))
 refine .vl (Y.qy cd rfl rfl (bE rfl) rfl rfl) (.aj bG rfl rfl rfl rfl rfl rfl (bE rfl) rfl ?_)
 refine .an ?_
 refine .nil (.ret ?_)
 first | (exfalso; omega) | exact ⟨_, _, rfl, rfl, (3 * x) + ((3 * x) * ((cg x.toNat : Nat) : Int)), by rw [show aO op x.toNat = 40 + (40 * ((cg x.toNat : Nat) : Int)) by (try rw [hle]); unfold aO; (repeat' split) <;> omega]; rfl, rfl⟩
 refine .sr (.vl (Y.qk rfl rfl) ?_)
 refine .an ?_
 refine .nil ?_
 refine .a9 rfl (fun Ch => ?_) (fun Ch => ?_)
 refine .region ?_
 refine .mv ?_
 refine .vl (Y.zf rfl rfl om) (.vl (Y.qb rfl rfl aF) ?_)
 refine .mv ?_
 refine .vl (Y.zf rfl rfl om) ?_
 refine .mv ?_
 refine .vl (Y.zf rfl rfl om) ?_
 refine .mv ?_
 refine .vl (Y.zf rfl rfl om) (.vl (Y.qb rfl rfl aF) ?_)
 refine .fa bJ ?_
 refine .aj cJ rfl rfl rfl rfl rfl rfl (bE rfl) rfl ?_
 refine .fa bm ?_
 refine .aj cJ rfl rfl rfl rfl rfl rfl (bE rfl) rfl (.nil (.sr ?_))
 refine .vl (Y.qy cd rfl rfl (bE rfl) rfl rfl) (.aj bG rfl rfl rfl rfl rfl rfl (bE rfl) rfl ?_)
 refine .an ?_
 refine .nil (.ret ?_)
 first | (exfalso; omega) | exact ⟨_, _, rfl, rfl, (4 * x) + ((3 * x) * ((cg x.toNat : Nat) : Int)), by rw [show aO op x.toNat = 50 + (40 * ((cg x.toNat : Nat) : Int)) by (try rw [hle]); unfold aO; (repeat' split) <;> omega]; rfl, rfl⟩
 refine .seq (.sr (.vl (Y.qk rfl rfl) ?_))
 refine .an ?_
 refine .nil ?_
 refine .aZ rfl (fun vx => ?_) (fun vx => ?_)
 refine .skip (.aK rfl (.region ?_))
 refine .mv ?_
 refine .vl (Y.zf rfl rfl om) (.vl (Y.qb rfl rfl aF) ?_)
 refine .mv ?_
 refine .vl (Y.zf rfl rfl om) ?_
 refine .fa bJ ?_
 refine .aj cJ rfl rfl rfl rfl rfl rfl (bE rfl) rfl ?_
 refine .fa bm ?_
 refine .aj cJ rfl rfl rfl rfl rfl rfl (bE rfl) rfl (.nil (.sr ?_))
 refine .vl (Y.qy cd rfl rfl (bE rfl) rfl rfl) (.aj bG rfl rfl rfl rfl rfl rfl (bE rfl) rfl ?_)
 refine .an ?_
 refine .nil (.ret ?_)
 first | (exfalso; omega) | exact ⟨_, _, rfl, rfl, 2 * x, by rw [show aO op x.toNat = 30 + (20 * ((cg x.toNat : Nat) : Int)) by (try rw [hle]); unfold aO; (repeat' split) <;> omega]; rfl, rfl⟩
 refine .region (.vl (Y.qk rfl rfl) ?_)
 refine .an ?_
 refine .nil ?_
 refine .aZ rfl (fun vx => ?_) (fun vx => ?_)
 refine .region ?_
 refine .mv ?_
 refine .vl (Y.zf rfl rfl om) (.vl (Y.qb rfl rfl aF) ?_)
 refine .mv ?_
 refine .vl (Y.zf rfl rfl om) ?_
 refine .fa bJ ?_
 refine .aj cJ rfl rfl rfl rfl rfl rfl (bE rfl) rfl ?_
 refine .fa bm ?_
 refine .aj cJ rfl rfl rfl rfl rfl rfl (bE rfl) rfl (.nil (.sr ?_))
 refine .vl (Y.qy cd rfl rfl (bE rfl) rfl rfl) (.aj bG rfl rfl rfl rfl rfl rfl (bE rfl) rfl ?_)
 refine .an ?_
 refine .nil (.ret ?_)
 first | (exfalso; omega) | exact ⟨_, _, rfl, rfl, 2 * x, by rw [show aO op x.toNat = 30 + (20 * ((cg x.toNat : Nat) : Int)) by (try rw [hle]); unfold aO; (repeat' split) <;> omega]; rfl, rfl⟩
 refine .seq (.sr (.vl (Y.qk rfl rfl) ?_))
 refine .an ?_
 refine .nil ?_
 refine .aZ rfl (fun z6 => ?_) (fun z6 => ?_)
 refine .skip (.aK rfl (.region ?_))
 refine .mv ?_
 refine .vl (Y.zf rfl rfl om) (.vl (Y.qb rfl rfl aF) ?_)
 refine .mv ?_
 refine .vl (Y.zf rfl rfl om) ?_
 refine .mv ?_
 refine .vl (Y.zf rfl rfl om) ?_
 refine .mv ?_
 refine .vl (Y.zf rfl rfl om) (.vl (Y.qb rfl rfl aF) ?_)
 refine .fa bJ ?_
 refine .aj cJ rfl rfl rfl rfl rfl rfl (bE rfl) rfl ?_
 refine .fa bm ?_
 refine .aj cJ rfl rfl rfl rfl rfl rfl (bE rfl) rfl (.nil (.sr ?_))
 refine .vl (Y.qy cd rfl rfl (bE rfl) rfl rfl) (.aj bG rfl rfl rfl rfl rfl rfl (bE rfl) rfl ?_)
 refine .an ?_
 refine .nil (.ret ?_)
 first | (exfalso; omega) | exact ⟨_, _, rfl, rfl, (4 * x) + ((3 * x) * ((cg (x + 1).toNat : Nat) : Int)), by rw [show aO op x.toNat = 40 + (40 * ((cg (x + 1).toNat : Nat) : Int)) by (try rw [hle]); unfold aO; (repeat' split) <;> omega]; rfl, rfl⟩
 refine .region (.vl (Y.qk rfl rfl) ?_)
 refine .an ?_
 refine .nil ?_
 refine .aZ rfl (fun z6 => ?_) (fun z6 => ?_)
 refine .region ?_
 refine .mv ?_
 refine .vl (Y.zf rfl rfl om) (.vl (Y.qb rfl rfl aF) ?_)
 refine .mv ?_
 refine .vl (Y.zf rfl rfl om) ?_
 refine .mv ?_
 refine .vl (Y.zf rfl rfl om) ?_
 refine .mv ?_
 refine .vl (Y.zf rfl rfl om) (.vl (Y.qb rfl rfl aF) ?_)
 refine .fa bJ ?_
 refine .aj cJ rfl rfl rfl rfl rfl rfl (bE rfl) rfl ?_
 refine .fa bm ?_
 refine .aj cJ rfl rfl rfl rfl rfl rfl (bE rfl) rfl (.nil (.sr ?_))
 refine .vl (Y.qy cd rfl rfl (bE rfl) rfl rfl) (.aj bG rfl rfl rfl rfl rfl rfl (bE rfl) rfl ?_)
 refine .an ?_
 refine .nil (.ret ?_)
 first | (exfalso; omega) | exact ⟨_, _, rfl, rfl, (4 * x) + ((3 * x) * ((cg (x + 1).toNat : Nat) : Int)), by rw [show aO op x.toNat = 40 + (40 * ((cg (x + 1).toNat : Nat) : Int)) by (try rw [hle]); unfold aO; (repeat' split) <;> omega]; rfl, rfl⟩
 refine .seq (.sr (.vl (Y.qk rfl rfl) ?_))
 refine .an ?_
 refine .nil ?_
 refine .aZ rfl (fun xn => ?_) (fun xn => ?_)
 refine .skip (.aK rfl (.region ?_))
 refine .mv ?_
 refine .vl (Y.zf rfl rfl om) (.vl (Y.qb rfl rfl aF) ?_)
 refine .mv ?_
 refine .vl (Y.zf rfl rfl om) ?_
 refine .mv ?_
 refine .vl (Y.zf rfl rfl om) ?_
 refine .mv ?_
 refine .vl (Y.zf rfl rfl om) (.vl (Y.qb rfl rfl aF) (.vl (Y.qb rfl rfl aF) ?_))
 refine .fa bJ ?_
 refine .aj cJ rfl rfl rfl rfl rfl rfl (bE rfl) rfl ?_
 refine .fa bm ?_
 refine .aj cJ rfl rfl rfl rfl rfl rfl (bE rfl) rfl (.nil (.sr ?_))
 refine .vl (Y.qy cd rfl rfl (bE rfl) rfl rfl) (.aj bG rfl rfl rfl rfl rfl rfl (bE rfl) rfl ?_)
 refine .an ?_
 refine .nil (.ret ?_)
 first | (exfalso; omega) | exact ⟨_, _, rfl, rfl, ((4 * x) + ((3 * x) * ((cg (x + 1).toNat : Nat) : Int))) + 2, by rw [show aO op x.toNat = 50 + (40 * ((cg (x + 1).toNat : Nat) : Int)) by (try rw [hle]); unfold aO; (repeat' split) <;> omega]; rfl, rfl⟩
 refine .region (.vl (Y.qk rfl rfl) ?_)
 refine .an ?_
 refine .nil ?_
 refine .aZ rfl (fun xn => ?_) (fun xn => ?_)
 refine .region ?_
 refine .mv ?_
 refine .vl (Y.zf rfl rfl om) (.vl (Y.qb rfl rfl aF) ?_)
 refine .mv ?_
 refine .vl (Y.zf rfl rfl om) ?_
 refine .mv ?_
 refine .vl (Y.zf rfl rfl om) ?_
 refine .mv ?_
 refine .vl (Y.zf rfl rfl om) (.vl (Y.qb rfl rfl aF) (.vl (Y.qb rfl rfl aF) ?_))
 refine .fa bJ ?_
 refine .aj cJ rfl rfl rfl rfl rfl rfl (bE rfl) rfl ?_
 refine .fa bm ?_
 refine .aj cJ rfl rfl rfl rfl rfl rfl (bE rfl) rfl (.nil (.sr ?_))
 refine .vl (Y.qy cd rfl rfl (bE rfl) rfl rfl) (.aj bG rfl rfl rfl rfl rfl rfl (bE rfl) rfl ?_)
 refine .an ?_
 refine .nil (.ret ?_)
 first | (exfalso; omega) | exact ⟨_, _, rfl, rfl, ((4 * x) + ((3 * x) * ((cg (x + 1).toNat : Nat) : Int))) + 2, by rw [show aO op x.toNat = 50 + (40 * ((cg (x + 1).toNat : Nat) : Int)) by (try rw [hle]); unfold aO; (repeat' split) <;> omega]; rfl, rfl⟩
 refine .sr (.vl (Y.qk rfl rfl) ?_)
 refine .an ?_
 refine .nil ?_
 refine .a9 rfl (fun CI => ?_) (fun CI => ?_)
 refine .region ?_
 refine .mv ?_
 refine .vl (Y.zf rfl rfl om) (.vl (Y.qb rfl rfl aF) ?_)
 refine .fa bJ ?_
 refine .aj cJ rfl rfl rfl rfl rfl rfl (bE rfl) rfl ?_
 refine .fa bm ?_
 refine .aj cJ rfl rfl rfl rfl rfl rfl (bE rfl) rfl (.nil (.sr ?_))
 refine .vl (Y.qy cd rfl rfl (bE rfl) rfl rfl) (.aj bG rfl rfl rfl rfl rfl rfl (bE rfl) rfl ?_)
 refine .an ?_
 refine .nil (.ret ?_)
 first | (exfalso; omega) | exact ⟨_, _, rfl, rfl, (3 * x) + 1, by rw [show aO op x.toNat = 50 by (try rw [hle]); unfold aO; (repeat' split) <;> omega]; rfl, rfl⟩
 refine .seq (.sr (.vl (Y.qk rfl rfl) ?_))
 refine .an ?_
 refine .nil ?_
 refine .aZ rfl (fun tA => ?_) (fun tA => ?_)
 refine .skip (.aK rfl (.region ?_))
 refine .mv ?_
 refine .vl (Y.zf rfl rfl om) (.vl (Y.qb rfl rfl aF) ?_)
 refine .mv ?_
 refine .vl (Y.zf rfl rfl om) ?_
 refine .mv ?_
 refine .vl (Y.zf rfl rfl om) ?_
 refine .mv ?_
 refine .vl (Y.zf rfl rfl om) (.vl (Y.qb rfl rfl aF) ?_)
 refine .fa bJ ?_
 refine .aj cJ rfl rfl rfl rfl rfl rfl (bE rfl) rfl ?_
 refine .fa bm ?_
 refine .aj cJ rfl rfl rfl rfl rfl rfl (bE rfl) rfl (.nil (.sr ?_))
 refine .vl (Y.qy cd rfl rfl (bE rfl) rfl rfl) (.aj bG rfl rfl rfl rfl rfl rfl (bE rfl) rfl ?_)
 refine .an ?_
 refine .nil (.ret ?_)
 first | (exfalso; omega) | exact ⟨_, _, rfl, rfl, (2 * x) + ((3 * x) * ((cg x.toNat : Nat) : Int)), by rw [show aO op x.toNat = 30 + (40 * ((cg x.toNat : Nat) : Int)) by (try rw [hle]); unfold aO; (repeat' split) <;> omega]; rfl, rfl⟩
 refine .region (.vl (Y.qk rfl rfl) ?_)
 refine .an ?_
 refine .nil ?_
 refine .aZ rfl (fun tA => ?_) (fun tA => ?_)
 refine .region ?_
 refine .mv ?_
 refine .vl (Y.zf rfl rfl om) (.vl (Y.qb rfl rfl aF) ?_)
 refine .mv ?_
 refine .vl (Y.zf rfl rfl om) ?_
 refine .mv ?_
 refine .vl (Y.zf rfl rfl om) ?_
 refine .mv ?_
 refine .vl (Y.zf rfl rfl om) (.vl (Y.qb rfl rfl aF) ?_)
 refine .fa bJ ?_
 refine .aj cJ rfl rfl rfl rfl rfl rfl (bE rfl) rfl ?_
 refine .fa bm ?_
 refine .aj cJ rfl rfl rfl rfl rfl rfl (bE rfl) rfl (.nil (.sr ?_))
 refine .vl (Y.qy cd rfl rfl (bE rfl) rfl rfl) (.aj bG rfl rfl rfl rfl rfl rfl (bE rfl) rfl ?_)
 refine .an ?_
 refine .nil (.ret ?_)
 first | (exfalso; omega) | exact ⟨_, _, rfl, rfl, (2 * x) + ((3 * x) * ((cg x.toNat : Nat) : Int)), by rw [show aO op x.toNat = 30 + (40 * ((cg x.toNat : Nat) : Int)) by (try rw [hle]); unfold aO; (repeat' split) <;> omega]; rfl, rfl⟩
 refine .sr (.vl (Y.qk rfl rfl) ?_)
 refine .an ?_
 refine .nil ?_
 refine .a9 rfl (fun qK => ?_) (fun qK => ?_)
 refine .region ?_
 refine .mv ?_
 refine .vl (Y.zf rfl rfl om) (.vl (Y.qb rfl rfl aF) ?_)
 refine .mv ?_
 refine .vl (Y.zf rfl rfl om) ?_
 refine .mv ?_
 refine .vl (Y.zf rfl rfl om) ?_
 refine .mv ?_
 refine .vl (Y.zf rfl rfl om) (.vl (Y.qb rfl rfl aF) ?_)
 refine .fa bJ ?_
 refine .aj cJ rfl rfl rfl rfl rfl rfl (bE rfl) rfl ?_
 refine .fa bm ?_
 refine .aj cJ rfl rfl rfl rfl rfl rfl (bE rfl) rfl (.nil (.sr ?_))
 refine .vl (Y.qy cd rfl rfl (bE rfl) rfl rfl) (.aj bG rfl rfl rfl rfl rfl rfl (bE rfl) rfl ?_)
 refine .an ?_
 refine .nil (.ret ?_)
 first | (exfalso; omega) | exact ⟨_, _, rfl, rfl, (4 * x) + ((3 * x) * ((cg x.toNat : Nat) : Int)), by rw [show aO op x.toNat = 50 + (40 * ((cg x.toNat : Nat) : Int)) by (try rw [hle]); unfold aO; (repeat' split) <;> omega]; rfl, rfl⟩
 refine .sr (.vl (Y.qk rfl rfl) ?_)
 refine .an ?_
 refine .nil ?_
 refine .a9 rfl (fun CJ => ?_) (fun CJ => ?_)
 refine .region ?_
 refine .mv ?_
 refine .vl (Y.qb rfl rfl aF) (.vl (Y.zl rfl rfl om) (.vl (Y.qb rfl rfl aF) ?_))
 refine .mv ?_
 refine .vl (Y.zf rfl rfl om) ?_
 refine .mv ?_
 refine .vl (Y.zf rfl rfl om) ?_
 refine .fa eW ?_
 refine .aj cJ rfl rfl rfl rfl rfl rfl (bE rfl) rfl ?_
 refine .fa fV ?_
 refine .aj cJ rfl rfl rfl rfl rfl rfl (bE rfl) rfl ?_
 refine .fa fW ?_
 refine .aj cJ rfl rfl rfl rfl rfl rfl (bE rfl) rfl ?_
 refine .fa bm ?_
 refine .aj cJ rfl rfl rfl rfl rfl rfl (bE rfl) rfl (.nil (.sr ?_))
 refine .vl (Y.qy cd rfl rfl (bE rfl) rfl rfl) (.aj bG rfl rfl rfl rfl rfl rfl (bE rfl) rfl ?_)
 refine .an ?_
 refine .nil (.ret ?_)
 first | (exfalso; omega) | exact ⟨_, _, rfl, rfl, (6 * x) * x, by rw [show aO op x.toNat = 0 by (try rw [hle]); unfold aO; (repeat' split) <;> omega]; rfl, rfl⟩
 refine .seq (.sr (.vl (Y.qk rfl rfl) ?_))
 refine .an ?_
 refine .nil ?_
 refine .aZ rfl (fun fR => ?_) (fun fR => ?_)
 refine .skip (.aK rfl (.sr ?_))
 refine .mv ?_
 refine .vl (Y.qb rfl rfl aF) (.vl (Y.zv rfl rfl aF) ?_)
 refine .fa eW ?_
 refine .aj cJ rfl rfl rfl rfl rfl rfl (bE rfl) rfl (.nil (.region ?_))
 refine .mv ?_
 refine .vl (Y.qb rfl rfl aF) (.vl (Y.zl rfl rfl om) (.vl (Y.qb rfl rfl aF) ?_))
 refine .mv ?_
 refine .vl (Y.qb rfl rfl aF) (.vl (Y.zl rfl rfl om) (.vl (Y.qb rfl rfl aF) ?_))
 refine .mv ?_
 refine .vl (Y.zf rfl rfl om) ?_
 refine .mv ?_
 refine .vl (Y.zf rfl rfl om) ?_
 refine .fa fV ?_
 refine .aj cJ rfl rfl rfl rfl rfl rfl (bE rfl) rfl ?_
 refine .fa fW ?_
 refine .aj cJ rfl rfl rfl rfl rfl rfl (bE rfl) rfl ?_
 refine .fa bm ?_
 refine .aj cJ rfl rfl rfl rfl rfl rfl (bE rfl) rfl (.nil (.sr ?_))
 refine .vl (Y.qy cd rfl rfl (bE rfl) rfl rfl) (.aj bG rfl rfl rfl rfl rfl rfl (bE rfl) rfl ?_)
 refine .an ?_
 refine .nil (.ret ?_)
 first | (exfalso; omega) | exact ⟨_, _, rfl, rfl, (8 * x) * x, by rw [show aO op x.toNat = 0 by (try rw [hle]); unfold aO; (repeat' split) <;> omega]; rfl, rfl⟩
 refine .sr (.vl (Y.qk rfl rfl) ?_)
 refine .an ?_
 refine .nil ?_
 refine .aZ rfl (fun fR => ?_) (fun fR => ?_)
 refine .skip (.aK rfl (.sr ?_))
 refine .mv ?_
 refine .vl (Y.qb rfl rfl aF) (.vl (Y.zv rfl rfl aF) ?_)
 refine .fa eW ?_
 refine .aj cJ rfl rfl rfl rfl rfl rfl (bE rfl) rfl (.nil (.region ?_))
 refine .mv ?_
 refine .vl (Y.qb rfl rfl aF) (.vl (Y.zl rfl rfl om) (.vl (Y.qb rfl rfl aF) ?_))
 refine .mv ?_
 refine .vl (Y.qb rfl rfl aF) (.vl (Y.zl rfl rfl om) (.vl (Y.qb rfl rfl aF) ?_))
 refine .mv ?_
 refine .vl (Y.zf rfl rfl om) ?_
 refine .mv ?_
 refine .vl (Y.zf rfl rfl om) ?_
 refine .fa fV ?_
 refine .aj cJ rfl rfl rfl rfl rfl rfl (bE rfl) rfl ?_
 refine .fa fW ?_
 refine .aj cJ rfl rfl rfl rfl rfl rfl (bE rfl) rfl ?_
 refine .fa bm ?_
 refine .aj cJ rfl rfl rfl rfl rfl rfl (bE rfl) rfl (.nil (.sr ?_))
 refine .vl (Y.qy cd rfl rfl (bE rfl) rfl rfl) (.aj bG rfl rfl rfl rfl rfl rfl (bE rfl) rfl ?_)
 refine .an ?_
 refine .nil (.ret ?_)
 first | (exfalso; omega) | exact ⟨_, _, rfl, rfl, (8 * x) * x, by rw [show aO op x.toNat = 0 by (try rw [hle]); unfold aO; (repeat' split) <;> omega]; rfl, rfl⟩
 refine .sr (.vl (Y.qk rfl rfl) ?_)
 refine .an ?_
 refine .nil ?_
 refine .aZ rfl (fun fR => ?_) (fun fR => ?_)
 refine .skip (.aK rfl (.sr ?_))
 refine .mv ?_
 refine .vl (Y.qb rfl rfl aF) (.vl (Y.zv rfl rfl aF) ?_)
 refine .fa eW ?_
 refine .aj cJ rfl rfl rfl rfl rfl rfl (bE rfl) rfl (.nil (.region ?_))
 refine .mv ?_
 refine .vl (Y.qb rfl rfl aF) (.vl (Y.zl rfl rfl om) (.vl (Y.qb rfl rfl aF) ?_))
 refine .mv ?_
 refine .vl (Y.qb rfl rfl aF) (.vl (Y.zl rfl rfl om) (.vl (Y.qb rfl rfl aF) ?_))
 refine .mv ?_
 refine .vl (Y.zf rfl rfl om) ?_
 refine .mv ?_
 refine .vl (Y.zf rfl rfl om) ?_
 refine .fa fV ?_
 refine .aj cJ rfl rfl rfl rfl rfl rfl (bE rfl) rfl ?_
 refine .fa fW ?_
 refine .aj cJ rfl rfl rfl rfl rfl rfl (bE rfl) rfl ?_
 refine .fa bm ?_
 refine .aj cJ rfl rfl rfl rfl rfl rfl (bE rfl) rfl (.nil (.sr ?_))
 refine .vl (Y.qy cd rfl rfl (bE rfl) rfl rfl) (.aj bG rfl rfl rfl rfl rfl rfl (bE rfl) rfl ?_)
 refine .an ?_
 refine .nil (.ret ?_)
 first | (exfalso; omega) | exact ⟨_, _, rfl, rfl, (8 * x) * x, by rw [show aO op x.toNat = 0 by (try rw [hle]); unfold aO; (repeat' split) <;> omega]; rfl, rfl⟩
 refine .region (.vl (Y.qk rfl rfl) ?_)
 refine .an ?_
 refine .nil ?_
 refine .aZ rfl (fun fR => ?_) (fun fR => ?_)
 refine .sr ?_
 refine .mv ?_
 refine .vl (Y.qb rfl rfl aF) (.vl (Y.zv rfl rfl aF) ?_)
 refine .fa eW ?_
 refine .aj cJ rfl rfl rfl rfl rfl rfl (bE rfl) rfl (.nil (.region ?_))
 refine .mv ?_
 refine .vl (Y.qb rfl rfl aF) (.vl (Y.zl rfl rfl om) (.vl (Y.qb rfl rfl aF) ?_))
 refine .mv ?_
 refine .vl (Y.qb rfl rfl aF) (.vl (Y.zl rfl rfl om) (.vl (Y.qb rfl rfl aF) ?_))
 refine .mv ?_
 refine .vl (Y.zf rfl rfl om) ?_
 refine .mv ?_
 refine .vl (Y.zf rfl rfl om) ?_
 refine .fa fV ?_
 refine .aj cJ rfl rfl rfl rfl rfl rfl (bE rfl) rfl ?_
 refine .fa fW ?_
 refine .aj cJ rfl rfl rfl rfl rfl rfl (bE rfl) rfl ?_
 refine .fa bm ?_
 refine .aj cJ rfl rfl rfl rfl rfl rfl (bE rfl) rfl (.nil (.sr ?_))
 refine .vl (Y.qy cd rfl rfl (bE rfl) rfl rfl) (.aj bG rfl rfl rfl rfl rfl rfl (bE rfl) rfl ?_)
 refine .an ?_
 refine .nil (.ret ?_)
 first | (exfalso; omega) | exact ⟨_, _, rfl, rfl, (8 * x) * x, by rw [show aO op x.toNat = 0 by (try rw [hle]); unfold aO; (repeat' split) <;> omega]; rfl, rfl⟩
 refine .skip (.sr (.vl (Y.qy cd rfl rfl (bE rfl) rfl rfl) ?_))
 refine .aj bG rfl rfl rfl rfl rfl rfl (bE rfl) rfl ?_
 refine .an ?_
 refine .nil (.ret ?_)
 first | (exfalso; omega) | exact ⟨_, _, rfl, rfl, 0, by rw [show aO op x.toNat = 0 by (try rw [hle]); unfold aO; (repeat' split) <;> omega]; rfl, rfl⟩
open Go Go.AW Go.Proofs
set_option maxRecDepth 4000 in
set_option maxHeartbeats 8000000 in
theorem xI {op : Int} (hp : ¬ Plain op) : ak Try.prog 124 [.v (.int .i64 op), .v (.int .i64 1)] [] [] (fun r o => ∃ a b c d e f k : Int, (k ≠ 0 ∨ a ≠ 0) ∧ r = .tup [.agg [.v (.int .i64 a), .v (.int .i64 b), .v (.int .i64 c), .v (.int .i64 d), .v (.int .i64 e), .v (.int .i64 f)], .v (.int .i64 k)] ∧ o = []) := by
 refine ak.of Try.func124 rfl rfl rfl (n := 184) ag (Nat.le_of_ble_eq_true rfl) ?_
 have Kf := hp; unfold Plain uM Seq Unary at Kf; have sB : cg (Int.toNat 1) = 0 := rfl; have Gi : cg (Int.toNat 2) = 1 := rfl
 refine ah.sr (aa.alloc 104 iC rfl rfl ag ?_)
 refine .an ?_
 refine aa.nil (ah.seq (ah.sr ?_))
 refine .mv ?_
 refine .vl (Y.qw rfl rfl) ?_
 refine .mv ?_
 refine aa.aw (d := 12) rfl (fun uk => ?_) (fun uk => ?_)
 refine .gz 12 (.gz 12 ?_)
 refine .pk ?_
 refine aa.nil (ah.aK rfl (ah.sr ?_))
 refine .vl (Y.qg mZ iC rfl rfl rfl) (aa.aj bG rfl rfl rfl rfl rfl rfl (Nat.le_of_ble_eq_true rfl) rfl ?_)
 refine .an ?_
 refine aa.nil (ah.ret ?_)
 first | (exfalso; omega) | exact ⟨_, _, rfl, rfl, _, _, _, _, _, _, _, om, rfl, rfl⟩
 refine .gw 12 (Y.zd rfl rfl) (.gw 12 (Y.qo rfl rfl) ?_)
 refine .pk ?_
 refine aa.nil ?_
 refine ah.a9 rfl (fun nG => ?_) (fun nG => ?_)
 refine ah.sr (.vl (Y.qg mZ iC rfl rfl rfl) (aa.aj bG rfl rfl rfl rfl rfl rfl (Nat.le_of_ble_eq_true rfl) rfl ?_))
 refine .an ?_
 refine aa.nil (ah.ret ?_)
 first | (exfalso; omega) | exact ⟨_, _, rfl, rfl, _, _, _, _, _, _, _, om, rfl, rfl⟩
 refine ah.skip (ah.seq (ah.sr ?_))
 refine .mv ?_
 refine .vl (Y.qz rfl rfl) ?_
 refine .mv ?_
 refine .gw 19 (Y.zd rfl rfl) (.gw 19 (Y.qp rfl rfl) ?_)
 refine .pk ?_
 refine aa.nil (ah.cT rfl (ah.skip ?_))
 refine ah.sr ?_
 refine .mv ?_
 refine .mv ?_
 refine aa.br r3 (gk (x := 1) (om) (om)) rfl (.au rfl rfl .nil) ag rfl ?_
 refine .mv ?_
 refine .vl (Y.qb rfl rfl aF) ?_
 refine aa.br r3 (gk (x := (1 + 1)) (om) (om)) rfl (.au rfl rfl .nil) ag rfl ?_
 refine .an ?_
 refine .an ?_
 refine .an ?_
 refine aa.nil (ah.sr ?_)
 refine .mv ?_
 refine .vl (Y.qg mZ iC rfl rfl rfl) (aa.alloc 109 iC rfl rfl ag (aa.aj bG rfl rfl rfl rfl rfl rfl (Nat.le_of_ble_eq_true rfl) rfl ?_))
 refine aa.nil (ah.seq (ah.sr ?_))
 refine .mv ?_
 refine aa.nil (ah.block (ah.seq ?_))
 refine ah.sr (.vl (Y.qk rfl rfl) ?_)
 refine .an ?_
 refine aa.nil ?_
 refine ah.aZ rfl (fun uV => ?_) (fun uV => ?_)
 refine ah.skip (ah.aK rfl (ah.region ?_))
 refine .mv ?_
 refine .fa bJ ?_
 refine aa.aj cJ rfl rfl rfl rfl rfl rfl (Nat.le_of_ble_eq_true rfl) rfl ?_
 refine .fa bm ?_
 refine aa.aj cJ rfl rfl rfl rfl rfl rfl (Nat.le_of_ble_eq_true rfl) rfl (aa.nil (ah.sr ?_))
 refine .vl (Y.qy cd rfl rfl (Nat.le_of_ble_eq_true rfl) rfl rfl) (aa.aj bG rfl rfl rfl rfl rfl rfl (Nat.le_of_ble_eq_true rfl) rfl ?_)
 refine .an ?_
 refine aa.nil (ah.ret ?_)
 first | (exfalso; omega) | exact ⟨_, _, rfl, rfl, _, _, _, _, _, _, _, om, rfl, rfl⟩
 refine ah.sr (.vl (Y.qk rfl rfl) ?_)
 refine .an ?_
 refine aa.nil ?_
 refine ah.aZ rfl (fun uV => ?_) (fun uV => ?_)
 refine ah.skip (ah.aK rfl (ah.region ?_))
 refine .mv ?_
 refine .fa bJ ?_
 refine aa.aj cJ rfl rfl rfl rfl rfl rfl (Nat.le_of_ble_eq_true rfl) rfl ?_
 refine .fa bm ?_
 refine aa.aj cJ rfl rfl rfl rfl rfl rfl (Nat.le_of_ble_eq_true rfl) rfl (aa.nil (ah.sr ?_))
 refine .vl (Y.qy cd rfl rfl (Nat.le_of_ble_eq_true rfl) rfl rfl) (aa.aj bG rfl rfl rfl rfl rfl rfl (Nat.le_of_ble_eq_true rfl) rfl ?_)
 refine .an ?_
 refine aa.nil (ah.ret ?_)
 first | (exfalso; omega) | exact ⟨_, _, rfl, rfl, _, _, _, _, _, _, _, om, rfl, rfl⟩
 refine ah.region (.vl (Y.qk rfl rfl) ?_)
 refine .an ?_
 refine aa.nil ?_
 refine ah.aZ rfl (fun uV => ?_) (fun uV => ?_)
 refine ah.region ?_
 refine .mv ?_
 refine .fa bJ ?_
 refine aa.aj cJ rfl rfl rfl rfl rfl rfl (Nat.le_of_ble_eq_true rfl) rfl ?_
 refine .fa bm ?_
 refine aa.aj cJ rfl rfl rfl rfl rfl rfl (Nat.le_of_ble_eq_true rfl) rfl (aa.nil (ah.sr ?_))
 refine .vl (Y.qy cd rfl rfl (Nat.le_of_ble_eq_true rfl) rfl rfl) (aa.aj bG rfl rfl rfl rfl rfl rfl (Nat.le_of_ble_eq_true rfl) rfl ?_)
 refine .an ?_
 refine aa.nil (ah.ret ?_)
 first | (exfalso; omega) | exact ⟨_, _, rfl, rfl, _, _, _, _, _, _, _, om, rfl, rfl⟩
 refine ah.sr (.vl (Y.qk rfl rfl) ?_)
 refine .an ?_
 refine aa.nil ?_
 refine ah.a9 rfl (fun FV => ?_) (fun FV => ?_)
 refine ah.region ?_
 refine .mv ?_
 refine .vl (Y.zf rfl rfl om) ?_
 refine .vl (Y.qb rfl rfl aF) ?_
 refine .mv ?_
 refine .vl (Y.zf rfl rfl om) ?_
 refine .mv ?_
 refine .vl (Y.zf rfl rfl om) ?_
 refine .mv ?_
 refine .vl (Y.zf rfl rfl om) ?_
 refine .vl (Y.qb rfl rfl aF) ?_
 refine .fa bJ ?_
 refine aa.aj cJ rfl rfl rfl rfl rfl rfl (Nat.le_of_ble_eq_true rfl) rfl ?_
 refine .fa bm ?_
 refine aa.aj cJ rfl rfl rfl rfl rfl rfl (Nat.le_of_ble_eq_true rfl) rfl (aa.nil (ah.sr ?_))
 refine .vl (Y.qy cd rfl rfl (Nat.le_of_ble_eq_true rfl) rfl rfl) (aa.aj bG rfl rfl rfl rfl rfl rfl (Nat.le_of_ble_eq_true rfl) rfl ?_)
 refine .an ?_
 refine aa.nil (ah.ret ?_)
 first | (exfalso; omega) | exact ⟨_, _, rfl, rfl, _, _, _, _, _, _, _, om, rfl, rfl⟩
 refine ah.sr (.vl (Y.qk rfl rfl) ?_)
 refine .an ?_
 refine aa.nil ?_
 refine ah.a9 rfl (fun Ch => ?_) (fun Ch => ?_)
 refine ah.region ?_
 refine .mv ?_
 refine .vl (Y.zf rfl rfl om) ?_
 refine .vl (Y.qb rfl rfl aF) ?_
 refine .mv ?_
 refine .vl (Y.zf rfl rfl om) ?_
 refine .mv ?_
 refine .vl (Y.zf rfl rfl om) ?_
 refine .mv ?_
 refine .vl (Y.zf rfl rfl om) ?_
 refine .vl (Y.qb rfl rfl aF) ?_
 refine .fa bJ ?_
 refine aa.aj cJ rfl rfl rfl rfl rfl rfl (Nat.le_of_ble_eq_true rfl) rfl ?_
 refine .fa bm ?_
 refine aa.aj cJ rfl rfl rfl rfl rfl rfl (Nat.le_of_ble_eq_true rfl) rfl (aa.nil (ah.sr ?_))
 refine .vl (Y.qy cd rfl rfl (Nat.le_of_ble_eq_true rfl) rfl rfl) (aa.aj bG rfl rfl rfl rfl rfl rfl (Nat.le_of_ble_eq_true rfl) rfl ?_)
 refine .an ?_
 refine aa.nil (ah.ret ?_)
 first | (exfalso; omega) | exact ⟨_, _, rfl, rfl, _, _, _, _, _, _, _, om, rfl, rfl⟩
 refine ah.seq (ah.sr (.vl (Y.qk rfl rfl) ?_))
 refine .an ?_
 refine aa.nil ?_
 refine ah.aZ rfl (fun vx => ?_) (fun vx => ?_)
 refine ah.skip (ah.aK rfl (ah.region ?_))
 refine .mv ?_
 refine .vl (Y.zf rfl rfl om) ?_
 refine .vl (Y.qb rfl rfl aF) ?_
 refine .mv ?_
 refine .vl (Y.zf rfl rfl om) ?_
 refine .fa bJ ?_
 refine aa.aj cJ rfl rfl rfl rfl rfl rfl (Nat.le_of_ble_eq_true rfl) rfl ?_
 refine .fa bm ?_
 refine aa.aj cJ rfl rfl rfl rfl rfl rfl (Nat.le_of_ble_eq_true rfl) rfl (aa.nil (ah.sr ?_))
 refine .vl (Y.qy cd rfl rfl (Nat.le_of_ble_eq_true rfl) rfl rfl) (aa.aj bG rfl rfl rfl rfl rfl rfl (Nat.le_of_ble_eq_true rfl) rfl ?_)
 refine .an ?_
 refine aa.nil (ah.ret ?_)
 first | (exfalso; omega) | exact ⟨_, _, rfl, rfl, _, _, _, _, _, _, _, om, rfl, rfl⟩
 refine ah.region (.vl (Y.qk rfl rfl) ?_)
 refine .an ?_
 refine aa.nil ?_
 refine ah.aZ rfl (fun vx => ?_) (fun vx => ?_)
 refine ah.region ?_
 refine .mv ?_
 refine .vl (Y.zf rfl rfl om) ?_
 refine .vl (Y.qb rfl rfl aF) ?_
 refine .mv ?_
 refine .vl (Y.zf rfl rfl om) ?_
 refine .fa bJ ?_
 refine aa.aj cJ rfl rfl rfl rfl rfl rfl (Nat.le_of_ble_eq_true rfl) rfl ?_
 refine .fa bm ?_
 refine aa.aj cJ rfl rfl rfl rfl rfl rfl (Nat.le_of_ble_eq_true rfl) rfl (aa.nil (ah.sr ?_))
 refine .vl (Y.qy cd rfl rfl (Nat.le_of_ble_eq_true rfl) rfl rfl) (aa.aj bG rfl rfl rfl rfl rfl rfl (Nat.le_of_ble_eq_true rfl) rfl ?_)
 refine .an ?_
 refine aa.nil (ah.ret ?_)
 first | (exfalso; omega) | exact ⟨_, _, rfl, rfl, _, _, _, _, _, _, _, om, rfl, rfl⟩
 refine ah.seq (ah.sr (.vl (Y.qk rfl rfl) ?_))
 refine .an ?_
 refine aa.nil ?_
 refine ah.aZ rfl (fun z6 => ?_) (fun z6 => ?_)
 refine ah.skip (ah.aK rfl (ah.region ?_))
 refine .mv ?_
 refine .vl (Y.zf rfl rfl om) ?_
 refine .vl (Y.qb rfl rfl aF) ?_
 refine .mv ?_
 refine .vl (Y.zf rfl rfl om) ?_
 refine .mv ?_
 refine .vl (Y.zf rfl rfl om) ?_
 refine .mv ?_
 refine .vl (Y.zf rfl rfl om) ?_
 refine .vl (Y.qb rfl rfl aF) ?_
 refine .fa bJ ?_
 refine aa.aj cJ rfl rfl rfl rfl rfl rfl (Nat.le_of_ble_eq_true rfl) rfl ?_
 refine .fa bm ?_
 refine aa.aj cJ rfl rfl rfl rfl rfl rfl (Nat.le_of_ble_eq_true rfl) rfl (aa.nil (ah.sr ?_))
 refine .vl (Y.qy cd rfl rfl (Nat.le_of_ble_eq_true rfl) rfl rfl) (aa.aj bG rfl rfl rfl rfl rfl rfl (Nat.le_of_ble_eq_true rfl) rfl ?_)
 refine .an ?_
 refine aa.nil (ah.ret ?_)
 first | (exfalso; omega) | exact ⟨_, _, rfl, rfl, _, _, _, _, _, _, _, om, rfl, rfl⟩
 refine ah.region (.vl (Y.qk rfl rfl) ?_)
 refine .an ?_
 refine aa.nil ?_
 refine ah.aZ rfl (fun z6 => ?_) (fun z6 => ?_)
 refine ah.region ?_
 refine .mv ?_
 refine .vl (Y.zf rfl rfl om) ?_
 refine .vl (Y.qb rfl rfl aF) ?_
 refine .mv ?_
 refine .vl (Y.zf rfl rfl om) ?_
 refine .mv ?_
 refine .vl (Y.zf rfl rfl om) ?_
 refine .mv ?_
 refine .vl (Y.zf rfl rfl om) ?_
 refine .vl (Y.qb rfl rfl aF) ?_
 refine .fa bJ ?_
 refine aa.aj cJ rfl rfl rfl rfl rfl rfl (Nat.le_of_ble_eq_true rfl) rfl ?_
 refine .fa bm ?_
 refine aa.aj cJ rfl rfl rfl rfl rfl rfl (Nat.le_of_ble_eq_true rfl) rfl (aa.nil (ah.sr ?_))
 refine .vl (Y.qy cd rfl rfl (Nat.le_of_ble_eq_true rfl) rfl rfl) (aa.aj bG rfl rfl rfl rfl rfl rfl (Nat.le_of_ble_eq_true rfl) rfl ?_)
 refine .an ?_
 refine aa.nil (ah.ret ?_)
 first | (exfalso; omega) | exact ⟨_, _, rfl, rfl, _, _, _, _, _, _, _, om, rfl, rfl⟩
 refine ah.seq (ah.sr (.vl (Y.qk rfl rfl) ?_))
 refine .an ?_
 refine aa.nil ?_
 refine ah.aZ rfl (fun xn => ?_) (fun xn => ?_)
 refine ah.skip (ah.aK rfl (ah.region ?_))
 refine .mv ?_
 refine .vl (Y.zf rfl rfl om) ?_
 refine .vl (Y.qb rfl rfl aF) ?_
 refine .mv ?_
 refine .vl (Y.zf rfl rfl om) ?_
 refine .mv ?_
 refine .vl (Y.zf rfl rfl om) ?_
 refine .mv ?_
 refine .vl (Y.zf rfl rfl om) ?_
 refine .vl (Y.qb rfl rfl aF) ?_
 refine .vl (Y.qb rfl rfl aF) ?_
 refine .fa bJ ?_
 refine aa.aj cJ rfl rfl rfl rfl rfl rfl (Nat.le_of_ble_eq_true rfl) rfl ?_
 refine .fa bm ?_
 refine aa.aj cJ rfl rfl rfl rfl rfl rfl (Nat.le_of_ble_eq_true rfl) rfl (aa.nil (ah.sr ?_))
 refine .vl (Y.qy cd rfl rfl (Nat.le_of_ble_eq_true rfl) rfl rfl) (aa.aj bG rfl rfl rfl rfl rfl rfl (Nat.le_of_ble_eq_true rfl) rfl ?_)
 refine .an ?_
 refine aa.nil (ah.ret ?_)
 first | (exfalso; omega) | exact ⟨_, _, rfl, rfl, _, _, _, _, _, _, _, om, rfl, rfl⟩
 refine ah.region (.vl (Y.qk rfl rfl) ?_)
 refine .an ?_
 refine aa.nil ?_
 refine ah.aZ rfl (fun xn => ?_) (fun xn => ?_)
 refine ah.region ?_
 refine .mv ?_
 refine .vl (Y.zf rfl rfl om) ?_
 refine .vl (Y.qb rfl rfl aF) ?_
 refine .mv ?_
 refine .vl (Y.zf rfl rfl om) ?_
 refine .mv ?_
 refine .vl (Y.zf rfl rfl om) ?_
 refine .mv ?_
 refine .vl (Y.zf rfl rfl om) ?_
 refine .vl (Y.qb rfl rfl aF) ?_
 refine .vl (Y.qb rfl rfl aF) ?_
 refine .fa bJ ?_
 refine aa.aj cJ rfl rfl rfl rfl rfl rfl (Nat.le_of_ble_eq_true rfl) rfl ?_
 refine .fa bm ?_
 refine aa.aj cJ rfl rfl rfl rfl rfl rfl (Nat.le_of_ble_eq_true rfl) rfl (aa.nil (ah.sr ?_))
 refine .vl (Y.qy cd rfl rfl (Nat.le_of_ble_eq_true rfl) rfl rfl) (aa.aj bG rfl rfl rfl rfl rfl rfl (Nat.le_of_ble_eq_true rfl) rfl ?_)
 refine .an ?_
 refine aa.nil (ah.ret ?_)
 first | (exfalso; omega) | exact ⟨_, _, rfl, rfl, _, _, _, _, _, _, _, om, rfl, rfl⟩
 refine ah.sr (.vl (Y.qk rfl rfl) ?_)
 refine .an ?_
 refine aa.nil ?_
 refine ah.a9 rfl (fun CI => ?_) (fun CI => ?_)
 refine ah.region ?_
 refine .mv ?_
 refine .vl (Y.zf rfl rfl om) ?_
 refine .vl (Y.qb rfl rfl aF) ?_
 refine .fa bJ ?_
 refine aa.aj cJ rfl rfl rfl rfl rfl rfl (Nat.le_of_ble_eq_true rfl) rfl ?_
 refine .fa bm ?_
 refine aa.aj cJ rfl rfl rfl rfl rfl rfl (Nat.le_of_ble_eq_true rfl) rfl (aa.nil (ah.sr ?_))
 refine .vl (Y.qy cd rfl rfl (Nat.le_of_ble_eq_true rfl) rfl rfl) (aa.aj bG rfl rfl rfl rfl rfl rfl (Nat.le_of_ble_eq_true rfl) rfl ?_)
 refine .an ?_
 refine aa.nil (ah.ret ?_)
 first | (exfalso; omega) | exact ⟨_, _, rfl, rfl, _, _, _, _, _, _, _, om, rfl, rfl⟩
 refine ah.seq (ah.sr (.vl (Y.qk rfl rfl) ?_))
 refine .an ?_
 refine aa.nil ?_
 refine ah.aZ rfl (fun tA => ?_) (fun tA => ?_)
 refine ah.skip (ah.aK rfl (ah.region ?_))
 refine .mv ?_
 refine .vl (Y.zf rfl rfl om) ?_
 refine .vl (Y.qb rfl rfl aF) ?_
 refine .mv ?_
 refine .vl (Y.zf rfl rfl om) ?_
 refine .mv ?_
 refine .vl (Y.zf rfl rfl om) ?_
 refine .mv ?_
 refine .vl (Y.zf rfl rfl om) ?_
 refine .vl (Y.qb rfl rfl aF) ?_
 refine .fa bJ ?_
 refine aa.aj cJ rfl rfl rfl rfl rfl rfl (Nat.le_of_ble_eq_true rfl) rfl ?_
 refine .fa bm ?_
 refine aa.aj cJ rfl rfl rfl rfl rfl rfl (Nat.le_of_ble_eq_true rfl) rfl (aa.nil (ah.sr ?_))
 refine .vl (Y.qy cd rfl rfl (Nat.le_of_ble_eq_true rfl) rfl rfl) (aa.aj bG rfl rfl rfl rfl rfl rfl (Nat.le_of_ble_eq_true rfl) rfl ?_)
 refine .an ?_
 refine aa.nil (ah.ret ?_)
 first | (exfalso; omega) | exact ⟨_, _, rfl, rfl, _, _, _, _, _, _, _, om, rfl, rfl⟩
 refine ah.region (.vl (Y.qk rfl rfl) ?_)
 refine .an ?_
 refine aa.nil ?_
 refine ah.aZ rfl (fun tA => ?_) (fun tA => ?_)
 refine ah.region ?_
 refine .mv ?_
 refine .vl (Y.zf rfl rfl om) ?_
 refine .vl (Y.qb rfl rfl aF) ?_
 refine .mv ?_
 refine .vl (Y.zf rfl rfl om) ?_
 refine .mv ?_
 refine .vl (Y.zf rfl rfl om) ?_
 refine .mv ?_
 refine .vl (Y.zf rfl rfl om) ?_
 refine .vl (Y.qb rfl rfl aF) ?_
 refine .fa bJ ?_
 refine aa.aj cJ rfl rfl rfl rfl rfl rfl (Nat.le_of_ble_eq_true rfl) rfl ?_
 refine .fa bm ?_
 refine aa.aj cJ rfl rfl rfl rfl rfl rfl (Nat.le_of_ble_eq_true rfl) rfl (aa.nil (ah.sr ?_))
 refine .vl (Y.qy cd rfl rfl (Nat.le_of_ble_eq_true rfl) rfl rfl) (aa.aj bG rfl rfl rfl rfl rfl rfl (Nat.le_of_ble_eq_true rfl) rfl ?_)
 refine .an ?_
 refine aa.nil (ah.ret ?_)
 first | (exfalso; omega) | exact ⟨_, _, rfl, rfl, _, _, _, _, _, _, _, om, rfl, rfl⟩
 refine ah.sr (.vl (Y.qk rfl rfl) ?_)
 refine .an ?_
 refine aa.nil ?_
 refine ah.a9 rfl (fun qK => ?_) (fun qK => ?_)
 refine ah.region ?_
 refine .mv ?_
 refine .vl (Y.zf rfl rfl om) ?_
 refine .vl (Y.qb rfl rfl aF) ?_
 refine .mv ?_
 refine .vl (Y.zf rfl rfl om) ?_
 refine .mv ?_
 refine .vl (Y.zf rfl rfl om) ?_
 refine .mv ?_
 refine .vl (Y.zf rfl rfl om) ?_
 refine .vl (Y.qb rfl rfl aF) ?_
 refine .fa bJ ?_
 refine aa.aj cJ rfl rfl rfl rfl rfl rfl (Nat.le_of_ble_eq_true rfl) rfl ?_
 refine .fa bm ?_
 refine aa.aj cJ rfl rfl rfl rfl rfl rfl (Nat.le_of_ble_eq_true rfl) rfl (aa.nil (ah.sr ?_))
 refine .vl (Y.qy cd rfl rfl (Nat.le_of_ble_eq_true rfl) rfl rfl) (aa.aj bG rfl rfl rfl rfl rfl rfl (Nat.le_of_ble_eq_true rfl) rfl ?_)
 refine .an ?_
 refine aa.nil (ah.ret ?_)
 first | (exfalso; omega) | exact ⟨_, _, rfl, rfl, _, _, _, _, _, _, _, om, rfl, rfl⟩
 refine ah.sr (.vl (Y.qk rfl rfl) ?_)
 refine .an ?_
 refine aa.nil ?_
 refine ah.a9 rfl (fun CJ => ?_) (fun CJ => ?_)
 refine ah.region ?_
 refine .mv ?_
 refine .vl (Y.qb rfl rfl aF) ?_
 refine .vl (Y.zl rfl rfl om) ?_
 refine .vl (Y.qb rfl rfl aF) ?_
 refine .mv ?_
 refine .vl (Y.zf rfl rfl om) ?_
 refine .mv ?_
 refine .vl (Y.zf rfl rfl om) ?_
 refine .fa eW ?_
 refine aa.aj cJ rfl rfl rfl rfl rfl rfl (Nat.le_of_ble_eq_true rfl) rfl ?_
 refine .fa fV ?_
 refine aa.aj cJ rfl rfl rfl rfl rfl rfl (Nat.le_of_ble_eq_true rfl) rfl ?_
 refine .fa fW ?_
 refine aa.aj cJ rfl rfl rfl rfl rfl rfl (Nat.le_of_ble_eq_true rfl) rfl ?_
 refine .fa bm ?_
 refine aa.aj cJ rfl rfl rfl rfl rfl rfl (Nat.le_of_ble_eq_true rfl) rfl (aa.nil (ah.sr ?_))
 refine .vl (Y.qy cd rfl rfl (Nat.le_of_ble_eq_true rfl) rfl rfl) (aa.aj bG rfl rfl rfl rfl rfl rfl (Nat.le_of_ble_eq_true rfl) rfl ?_)
 refine .an ?_
 refine aa.nil (ah.ret ?_)
 first | (exfalso; omega) | exact ⟨_, _, rfl, rfl, _, _, _, _, _, _, _, om, rfl, rfl⟩
 refine ah.seq (ah.sr (.vl (Y.qk rfl rfl) ?_))
 refine .an ?_
 refine aa.nil ?_
 refine ah.aZ rfl (fun fR => ?_) (fun fR => ?_)
 refine ah.skip (ah.aK rfl (ah.sr ?_))
 refine .mv ?_
 refine .vl (Y.qb rfl rfl aF) ?_
 refine .vl (Y.zv rfl rfl aF) ?_
 refine .fa eW ?_
 refine aa.aj cJ rfl rfl rfl rfl rfl rfl (Nat.le_of_ble_eq_true rfl) rfl (aa.nil (ah.region ?_))
 refine .mv ?_
 refine .vl (Y.qb rfl rfl aF) ?_
 refine .vl (Y.zl rfl rfl om) ?_
 refine .vl (Y.qb rfl rfl aF) ?_
 refine .mv ?_
 refine .vl (Y.qb rfl rfl aF) ?_
 refine .vl (Y.zl rfl rfl om) ?_
 refine .vl (Y.qb rfl rfl aF) ?_
 refine .mv ?_
 refine .vl (Y.zf rfl rfl om) ?_
 refine .mv ?_
 refine .vl (Y.zf rfl rfl om) ?_
 refine .fa fV ?_
 refine aa.aj cJ rfl rfl rfl rfl rfl rfl (Nat.le_of_ble_eq_true rfl) rfl ?_
 refine .fa fW ?_
 refine aa.aj cJ rfl rfl rfl rfl rfl rfl (Nat.le_of_ble_eq_true rfl) rfl ?_
 refine .fa bm ?_
 refine aa.aj cJ rfl rfl rfl rfl rfl rfl (Nat.le_of_ble_eq_true rfl) rfl (aa.nil (ah.sr ?_))
 refine .vl (Y.qy cd rfl rfl (Nat.le_of_ble_eq_true rfl) rfl rfl) (aa.aj bG rfl rfl rfl rfl rfl rfl (Nat.le_of_ble_eq_true rfl) rfl ?_)
 refine .an ?_
 refine aa.nil (ah.ret ?_)
 first | (exfalso; omega) | exact ⟨_, _, rfl, rfl, _, _, _, _, _, _, _, om, rfl, rfl⟩
 refine ah.sr (.vl (Y.qk rfl rfl) ?_)
 refine .an ?_
 refine aa.nil ?_
 refine ah.aZ rfl (fun fR => ?_) (fun fR => ?_)
 refine ah.skip (ah.aK rfl (ah.sr ?_))
 refine .mv ?_
 refine .vl (Y.qb rfl rfl aF) ?_
 refine .vl (Y.zv rfl rfl aF) ?_
 refine .fa eW ?_
 refine aa.aj cJ rfl rfl rfl rfl rfl rfl (Nat.le_of_ble_eq_true rfl) rfl (aa.nil (ah.region ?_))
 refine .mv ?_
 refine .vl (Y.qb rfl rfl aF) ?_
 refine .vl (Y.zl rfl rfl om) ?_
 refine .vl (Y.qb rfl rfl aF) ?_
 refine .mv ?_
 refine .vl (Y.qb rfl rfl aF) ?_
 refine .vl (Y.zl rfl rfl om) ?_
 refine .vl (Y.qb rfl rfl aF) ?_
 refine .mv ?_
 refine .vl (Y.zf rfl rfl om) ?_
 refine .mv ?_
 refine .vl (Y.zf rfl rfl om) ?_
 refine .fa fV ?_
 refine aa.aj cJ rfl rfl rfl rfl rfl rfl (Nat.le_of_ble_eq_true rfl) rfl ?_
 refine .fa fW ?_
 refine aa.aj cJ rfl rfl rfl rfl rfl rfl (Nat.le_of_ble_eq_true rfl) rfl ?_
 refine .fa bm ?_
 refine aa.aj cJ rfl rfl rfl rfl rfl rfl (Nat.le_of_ble_eq_true rfl) rfl (aa.nil (ah.sr ?_))
 refine .vl (Y.qy cd rfl rfl (Nat.le_of_ble_eq_true rfl) rfl rfl) (aa.aj bG rfl rfl rfl rfl rfl rfl (Nat.le_of_ble_eq_true rfl) rfl ?_)
 refine .an ?_
 refine aa.nil (ah.ret ?_)
 first | (exfalso; omega) | exact ⟨_, _, rfl, rfl, _, _, _, _, _, _, _, om, rfl, rfl⟩
 refine ah.sr (.vl (Y.qk rfl rfl) ?_)
 refine .an ?_
 refine aa.nil ?_
 refine ah.aZ rfl (fun fR => ?_) (fun fR => ?_)
 refine ah.skip (ah.aK rfl (ah.sr ?_))
 refine .mv ?_
 refine .vl (Y.qb rfl rfl aF) ?_
 refine .vl (Y.zv rfl rfl aF) ?_
 refine .fa eW ?_
 refine aa.aj cJ rfl rfl rfl rfl rfl rfl (Nat.le_of_ble_eq_true rfl) rfl (aa.nil (ah.region ?_))
 refine .mv ?_
 refine .vl (Y.qb rfl rfl aF) ?_
 refine .vl (Y.zl rfl rfl om) ?_
 refine .vl (Y.qb rfl rfl aF) ?_
 refine .mv ?_
 refine .vl (Y.qb rfl rfl aF) ?_
 refine .vl (Y.zl rfl rfl om) ?_
 refine .vl (Y.qb rfl rfl aF) ?_
 refine .mv ?_
 refine .vl (Y.zf rfl rfl om) ?_
 refine .mv ?_
 refine .vl (Y.zf rfl rfl om) ?_
 refine .fa fV ?_
 refine aa.aj cJ rfl rfl rfl rfl rfl rfl (Nat.le_of_ble_eq_true rfl) rfl ?_
 refine .fa fW ?_
 refine aa.aj cJ rfl rfl rfl rfl rfl rfl (Nat.le_of_ble_eq_true rfl) rfl ?_
 refine .fa bm ?_
 refine aa.aj cJ rfl rfl rfl rfl rfl rfl (Nat.le_of_ble_eq_true rfl) rfl (aa.nil (ah.sr ?_))
 refine .vl (Y.qy cd rfl rfl (Nat.le_of_ble_eq_true rfl) rfl rfl) (aa.aj bG rfl rfl rfl rfl rfl rfl (Nat.le_of_ble_eq_true rfl) rfl ?_)
 refine .an ?_
 refine aa.nil (ah.ret ?_)
 first | (exfalso; omega) | exact ⟨_, _, rfl, rfl, _, _, _, _, _, _, _, om, rfl, rfl⟩
 refine ah.region (.vl (Y.qk rfl rfl) ?_)
 refine .an ?_
 refine aa.nil ?_
 refine ah.aZ rfl (fun fR => ?_) (fun fR => ?_)
 refine ah.sr ?_
 refine .mv ?_
 refine .vl (Y.qb rfl rfl aF) ?_
 refine .vl (Y.zv rfl rfl aF) ?_
 refine .fa eW ?_
 refine aa.aj cJ rfl rfl rfl rfl rfl rfl (Nat.le_of_ble_eq_true rfl) rfl (aa.nil (ah.region ?_))
 refine .mv ?_
 refine .vl (Y.qb rfl rfl aF) ?_
 refine .vl (Y.zl rfl rfl om) ?_
 refine .vl (Y.qb rfl rfl aF) ?_
 refine .mv ?_
 refine .vl (Y.qb rfl rfl aF) ?_
 refine .vl (Y.zl rfl rfl om) ?_
 refine .vl (Y.qb rfl rfl aF) ?_
 refine .mv ?_
 refine .vl (Y.zf rfl rfl om) ?_
 refine .mv ?_
 refine .vl (Y.zf rfl rfl om) ?_
 refine .fa fV ?_
 refine aa.aj cJ rfl rfl rfl rfl rfl rfl (Nat.le_of_ble_eq_true rfl) rfl ?_
 refine .fa fW ?_
 refine aa.aj cJ rfl rfl rfl rfl rfl rfl (Nat.le_of_ble_eq_true rfl) rfl ?_
 refine .fa bm ?_
 refine aa.aj cJ rfl rfl rfl rfl rfl rfl (Nat.le_of_ble_eq_true rfl) rfl (aa.nil (ah.sr ?_))
 refine .vl (Y.qy cd rfl rfl (Nat.le_of_ble_eq_true rfl) rfl rfl) (aa.aj bG rfl rfl rfl rfl rfl rfl (Nat.le_of_ble_eq_true rfl) rfl ?_)
 refine .an ?_
 refine aa.nil (ah.ret ?_)
 first | (exfalso; omega) | exact ⟨_, _, rfl, rfl, _, _, _, _, _, _, _, om, rfl, rfl⟩
 refine ah.skip (ah.sr (.vl (Y.qy cd rfl rfl (Nat.le_of_ble_eq_true rfl) rfl rfl) ?_))
 refine aa.aj bG rfl rfl rfl rfl rfl rfl (Nat.le_of_ble_eq_true rfl) rfl ?_
 refine .an ?_
 refine aa.nil (ah.ret ?_)
 first | (exfalso; omega) | exact ⟨_, _, rfl, rfl, _, _, _, _, _, _, _, om, rfl, rfl⟩
open Go Go.AW Go.Proofs
set_option maxRecDepth 4000 in
set_option maxHeartbeats 1000000 in
theorem qR {op : Int} (hp : Plain op) : ak Try.prog 74 [.v (.int .i64 op)] [] [] (fun r o => r = .v (.bool true) ∧ o = []) := by
 refine ak.of Try.func74 rfl rfl rfl (n := 17) ag (Nat.le_of_ble_eq_true rfl) (ah.sr ?_)
 refine .an ?_
 refine aa.nil (ah.sr ?_)
 refine .mv ?_
 refine aa.p5 Au (zQ (op := op) (x := 1) hp ag ag) rfl (.au rfl rfl (.au rfl rfl .nil)) ag ?_
 rintro _ ⟨Px, rfl, _⟩
 refine ⟨rfl, ?_⟩
 refine .mv ?_
 refine .vl (Y.qm rfl rfl rfl) (.vl (Y.qm rfl rfl rfl) (aa.alloc 103 iC rfl rfl ag ?_))
 refine aa.aj bG rfl rfl rfl rfl rfl rfl (Nat.le_of_ble_eq_true rfl) rfl ?_
 refine .an ?_
 refine aa.nil (ah.sr ?_)
 refine .mv ?_
 refine .vl (Y.qk rfl rfl) ?_
 refine .mv ?_
 refine .gw 12 (Y.qn eW rfl rfl) (.gw 12 (Y.qx bw rfl rfl rfl rfl) (.gw 12 (Y.qk rfl rfl) ?_))
 refine .pk ?_
 refine .an ?_
 refine aa.nil (ah.ret ?_)
 exact .rb rfl (rfl)
set_option maxRecDepth 4000 in
set_option maxHeartbeats 1000000 in
theorem sf {op : Int} (hp : ¬ Plain op) : ak Try.prog 74 [.v (.int .i64 op)] [] [] (fun r o => r = .v (.bool false) ∧ o = []) := by
 refine ak.of Try.func74 rfl rfl rfl (n := 17) ag (Nat.le_of_ble_eq_true rfl) (ah.sr ?_)
 refine .an ?_
 refine aa.nil (ah.sr ?_)
 refine .mv ?_
 refine aa.p5 Au (xI (op := op) hp) rfl (.au rfl rfl (.au rfl rfl .nil)) ag ?_
 rintro _ ⟨Py, Pz, P2, P3, P4, P5, P6, P7, rfl, _⟩
 refine ⟨rfl, ?_⟩
 refine .mv ?_
 refine .vl (Y.qm rfl rfl rfl) (.vl (Y.qm rfl rfl rfl) (aa.alloc 103 iC rfl rfl ag ?_))
 refine aa.aj bG rfl rfl rfl rfl rfl rfl (Nat.le_of_ble_eq_true rfl) rfl ?_
 refine .an ?_
 refine aa.nil (ah.sr ?_)
 refine .mv ?_
 refine .vl (Y.qk rfl rfl) ?_
 refine .mv ?_
 refine aa.aw (d := 12) rfl (fun uk => ?_) (fun uk => ?_)
 refine .gw 12 (Y.qn eW rfl rfl) (.gw 12 (Y.qx bw rfl rfl rfl rfl) (.gw 12 (Y.qk rfl rfl) ?_))
 refine .pk ?_
 refine .an ?_
 refine aa.nil (ah.ret ?_)
 exact .rb rfl (decide_eq_false om)
 refine .gz 12 (.gz 12 (.gz 12 ?_))
 refine .pk ?_
 refine .an ?_
 refine aa.nil (ah.ret ?_)
 exact .rb rfl (rfl)
theorem pq {op : Int} : ak Try.prog 74 [.v (.int .i64 op)] [] [] (fun r o => r = .v (.bool (decide (Plain op))) ∧ o = []) := by
  by_cases h : Plain op
  · rw [decide_eq_true h]; exact qR h
  · rw [decide_eq_false h]; exact sf h
open Go Go.AW
def vz (k : Nat) : List Cell := (List.range k).map (fun (j : Nat) => (⟨8, 0, (j : Int), [], j, 0⟩ : Cell))
theorem si (k : Nat) : vz (k + 1) = vz k ++ [(⟨8, 0, (k : Int), [], k, 0⟩ : Cell)] := by simp [vz, List.range_succ]
theorem gJ (k : Nat) : (vz k).length = k := by simp [vz]
theorem zR {k j : Nat} (h : j < k) : (vz k).getD j default = ⟨8, 0, (j : Int), [], j, 0⟩ := by
 unfold vz
 rw [List.getD_eq_getElem?_getD, List.getElem?_map, List.getElem?_range h]; rfl
def oQ (op : Int) (k : Nat) : List Cell := (vz k ++ [(⟨2, op, (k : Int), l9 0 k, 0, 0⟩ : Cell)]) ++ [(⟨1, 0, (k : Int) + 1, [], 0, 0⟩ : Cell)]
def fj (op : Int) (ws : List Int) (width : Int) : ab := ⟨ByteArray.empty, (ws ++ [width]) ++ [1], oQ op ws.length, ws, [], [], [], [], (ws.length : Int) + 1, (ws.length : Int) + 1, []⟩
theorem kC (op : Int) (k : Nat) : (oQ op k).length = k + 2 := by simp [oQ, gJ]
theorem mN {op : Int} {k j : Nat} (h : j < k) : (oQ op k).getD j default = ⟨8, 0, (j : Int), [], j, 0⟩ := by
 unfold oQ
 rw [eb (by simp [gJ]; omega), eb (by rw [gJ]; exact h), zR h]
theorem mO {op : Int} {k : Nat} : (oQ op k).getD k default = ⟨2, op, (k : Int), l9 0 k, 0, 0⟩ := by
 unfold oQ
 rw [eb (by simp [gJ]), fP (gJ k).symm]
theorem mb {op : Int} {k : Nat} : (oQ op k).getD (k + 1) default = ⟨1, 0, (k : Int) + 1, [], 0, 0⟩ := by
 unfold oQ
 rw [fP (by simp [gJ])]
theorem nH {op : Int} {k j : Nat} (h : j < k + 2) : ((oQ op k).getD j default).out = (j : Int) ∧ ((oQ op k).getD j default).kind ≠ 7 := by
 rcases (show j < k ∨ j = k ∨ j = k + 1 by omega) with h1 | rfl | rfl
 ·rw [mN h1]; exact ⟨rfl, by simp⟩
 ·rw [mO]; exact ⟨rfl, by simp⟩
 ·rw [mb]; exact ⟨by simp, by simp⟩
theorem pM {op : Int} {k w : Nat} : ∀ {i : Nat}, i ≤ k + 2 → bV ((oQ op k).take i) w = if w < i then 1 else 0
 | 0, _ => by simp [bV]
 | i + 1, h => by
  rw [dV (by rw [kC]; omega), pM om]
  obtain ⟨h1, h2⟩ := nH (op := op) (k := k) (j := i) om
  rw [h1]
  by_cases hw : w = i
  ·subst hw; rw [if_neg om, if_pos ⟨h2, rfl⟩, if_pos om]
  ·rw [if_neg (show ¬ (((oQ op k).getD i default).kind ≠ 7 ∧ (i : Int) = (w : Int)) from fun h => hw om)]
   by_cases h3 : w < i
   ·rw [if_pos h3, if_pos om]
   ·rw [if_neg h3, if_neg om]
def ux (op : Int) (ws : List Int) (width : Int) : Prop :=
 (∀ w ∈ ws, dL w) ∧ dL width ∧ b5 op ≠ 0 ∧ (ws.length : Int) = b5 op ∧ bR op (ws.getD 0 0) (ws.getD 1 0) (ws.getD 2 0) width
section
variable {op width : Int} {ws : List Int}
theorem mc {op : Int} : b5 op ≤ 3 ∧ 0 ≤ b5 op := by unfold b5; (repeat' split) <;> omega
theorem AS {j : Nat} (h : j < ws.length) : (fj op ws width).wd (j : Int) = ws.getD j 0 := by
 unfold ab.wd fj
 rw [Int.toNat_natCast]
 show ((ws ++ [width]) ++ [1]).getD j 0 = _
 rw [eb (by simp; omega), eb h]
theorem Gj : (fj op ws width).wd (ws.length : Int) = width := by
 unfold ab.wd fj
 rw [Int.toNat_natCast]
 show ((ws ++ [width]) ++ [1]).getD ws.length 0 = _
 rw [eb (by simp), fP rfl]
theorem AT : (fj op ws width).wd ((ws.length : Int) + 1) = 1 := by
 unfold ab.wd fj
 show ((ws ++ [width]) ++ [1]).getD ((ws.length : Int) + 1).toNat 0 = _
 rw [fP (by simp)]
theorem xJ {j : Nat} (h : j < ws.length) : (fj op ws width).av ⟨2, op, (ws.length : Int), l9 0 ws.length, 0, 0⟩ j = ws.getD j 0 := by
 unfold ab.av
 show (fj op ws width).wd ((l9 0 ws.length).getD j 0) = _
 rw [uu h, Nat.zero_add, AS h]
theorem AU : (fj op ws width).ow ⟨2, op, (ws.length : Int), l9 0 ws.length, 0, 0⟩ = width := by
 unfold ab.ow
 show (if 0 ≤ (ws.length : Int) then (fj op ws width).wd (ws.length : Int) else 0) = width
 rw [if_pos om, Gj]
theorem uy (hl : (ws.length : Int) = b5 op) (h0 : b5 op ≠ 0) : bR op ((fj op ws width).av ⟨2, op, (ws.length : Int), l9 0 ws.length, 0, 0⟩ 0) ((fj op ws width).av ⟨2, op, (ws.length : Int), l9 0 ws.length, 0, 0⟩ 1) ((fj op ws width).av ⟨2, op, (ws.length : Int), l9 0 ws.length, 0, 0⟩ 2) width ↔ bR op (ws.getD 0 0) (ws.getD 1 0) (ws.getD 2 0) width := by
 have h3 := mc (op := op)
 refine qE (xJ om) (fun h => xJ ?_) (fun h => xJ ?_)
 ·unfold b5 at hl h0; (repeat' split at hl) <;> (repeat' split at h0) <;> omega
 ·unfold b5 at hl; (repeat' split at hl) <;> omega
theorem Gk (hk : ws.length ≤ 5) (h : ux op ws width) : lO (fj op ws width) = 0 := by
 obtain ⟨hw, wU, h0, hl, hf⟩ := h
 have hlen : (fj op ws width).ai.length = ws.length + 2 := by simp [fj]
 have pO : (fj op ws width).cells.length = ws.length + 2 := kC op ws.length
 have vq : ∀ x ∈ l9 0 ws.length, In x (fj op ws width).ai.length := fun x hx => by
  obtain ⟨i, hi, rfl⟩ := List.mem_map.1 hx
  have := List.mem_range.1 hi
  rw [hlen]; unfold In; omega
 refine wR ⟨⟨fun i hi => by simp [fj] at hi, by simp [fj]⟩, by rw [pO]; omega, by rw [hlen]; omega, by simp [fj], by simp [fj], rfl, rfl, fun j hj => ?_, fun j hj => by simp [fj] at hj, fun j hj => by simp [fj] at hj, ?_, ?_, fun r hr => by simp [fj] at hr, fun j hj => ?_, fun w hw => ?_⟩ ⟨AT, AT, fun j hj => by simp [fj] at hj, fun j hj => ?_⟩ ⟨fun _ => 0, fun i j hi hj hm => ?_⟩
 ·have : ∀ x ∈ (fj op ws width).ai ++ (fj op ws width).ins, dL x := fun x hx => by
   simp only [fj, List.mem_append, List.mem_singleton] at hx
   rcases hx with ((h | rfl) | rfl) | h
   ·exact hw x h
   ·exact wU
   ·exact wP
   ·exact hw x h
  exact this _ (getD_in hj)
 ·show In ((ws.length : Int) + 1) (fj op ws width).ai.length
  rw [hlen]; unfold In; omega
 ·show In ((ws.length : Int) + 1) (fj op ws width).ai.length
  rw [hlen]; unfold In; omega
 ·rw [pO] at hj
  show ia (fj op ws width) ((oQ op ws.length).getD j default)
  refine ⟨?_, ?_, fun h => absurd h (nH hj).2, fun _ => by rw [(nH hj).1, hlen]; unfold In; omega⟩
  ·rcases (show j < ws.length ∨ j = ws.length ∨ j = ws.length + 1 by omega) with h1 | rfl | rfl
   ·rw [mN h1]; exact fun x hx => by cases hx
   ·rw [mO]; exact vq
   ·rw [mb]; exact fun x hx => by cases hx
  ·rcases (show j < ws.length ∨ j = ws.length ∨ j = ws.length + 1 by omega) with h1 | rfl | rfl
   ·rw [mN h1]; exact .inr (.inr (.inr (.inr (.inr (.inr (.inr (.inl ⟨rfl, rfl, rfl, h1, rfl⟩)))))))
   ·rw [mO]; exact .inr (.inl ⟨rfl, h0, by rw [iJ]; exact hl, rfl, rfl⟩)
   ·rw [mb]; exact .inl ⟨rfl, rfl, rfl, rfl⟩
 ·rw [hlen] at hw
  have := pM (op := op) (k := ws.length) (w := w) (Nat.le_refl _)
  rw [← kC op ws.length, List.take_length, kC, if_pos hw] at this
  exact this
 ·rw [pO] at hj
  show Fits (fj op ws width) ((oQ op ws.length).getD j default)
  rcases (show j < ws.length ∨ j = ws.length ∨ j = ws.length + 1 by omega) with h1 | rfl | rfl
  ·rw [mN h1]
   refine .inr (.inr (.inr (.inr (.inr (.inr (.inr (.inl ⟨rfl, ?_⟩)))))))
   show ws.getD j 0 = (if 0 ≤ (j : Int) then (fj op ws width).wd (j : Int) else 0)
   rw [if_pos om, AS h1]
  ·rw [mO]
   refine .inr (.inl ⟨rfl, ?_⟩)
   rw [AU]; exact (uy hl h0).2 hf
  ·rw [mb]
   refine .inl ⟨rfl, ?_⟩
   show kE _ 0 = 0
   exact Nat.zero_mod _
 ·exfalso
  have EZ := hi.1.2; have Ol := hj.1.2; have l4 := hi.1.1; have P8 := hj.1.1
  rw [pO] at EZ Ol
  have e1 : (fj op ws width).cell i = (oQ op ws.length).getD i.toNat default := rfl
  have e2 : (fj op ws width).cell j = (oQ op ws.length).getD j.toNat default := rfl
  have ho := (nH (op := op) (k := ws.length) (j := j.toNat) om).1
  rw [e1, e2, ho] at hm
  have BN := hj.2
  rw [e2] at BN
  rcases (show i.toNat < ws.length ∨ i.toNat = ws.length ∨ i.toNat = ws.length + 1 by omega) with h1 | h1 | h1
  ·rw [mN h1] at hm; cases hm
  ·rw [h1, mO] at hm
   obtain ⟨q, hq, Kg⟩ := List.mem_map.1 hm
   have := List.mem_range.1 hq
   rw [mN om] at BN
   unfold cM at BN; simp only at BN; omega
  ·rw [h1, mb] at hm; cases hm
theorem zS (h : lO (fj op ws width) = 0) : ux op ws width := by
 have hlen : (fj op ws width).ai.length = ws.length + 2 := by simp [fj]
 have pO : (fj op ws width).cells.length = ws.length + 2 := kC op ws.length
 unfold lO at h
 by_cases h1 : bn (fj op ws width)
 ·rw [if_pos h1] at h
  by_cases h2 : Fit (fj op ws width)
  ·have hc := h1.cells ws.length (by rw [pO]; omega)
   have Cr := h2.cells ws.length (by rw [pO]; omega)
   have e1 : (fj op ws width).cells.getD ws.length default = ⟨2, op, (ws.length : Int), l9 0 ws.length, 0, 0⟩ := mO
   rw [e1] at hc Cr
   have hs := hc.2.1
   simp only [Shaped, Int.reduceEq, false_and, true_and, false_or, or_false, iJ] at hs
   simp only [Fits, Int.reduceEq, false_and, true_and, false_or, or_false] at Cr
   rw [AU] at Cr
   have wU : ∀ x ∈ (fj op ws width).ai ++ (fj op ws width).ins, dL x := fun x hx => by
    obtain ⟨i, hi, rfl⟩ := List.mem_iff_getElem.1 hx
    have := h1.wide i hi
    rwa [List.getD_eq_getElem?_getD, List.getElem?_eq_getElem hi] at this
   refine ⟨fun w hw => wU w (by simp [fj, hw]), wU width (by simp [fj]), hs.1, hs.2.1, (uy hs.2.1 hs.1).1 Cr⟩
  ·rw [if_neg h2] at h; omega
 ·rw [if_neg h1] at h; omega
theorem xK (hk : ws.length ≤ 5) : (fj op ws width).Small := by
 refine ⟨by simp [fj], by simp [fj]; omega, by show (oQ op ws.length).length ≤ _; rw [kC]; omega, fun c hc => ?_, ?_, fun c hc => ?_, fun m hm => by simp [fj] at hm, fun m hm => by simp [fj] at hm, by show ws.length ≤ _; omega, by simp [fj], by simp [fj], by simp [fj], by simp [fj], by simp [fj]⟩
 ·simp only [fj, oQ, vz, List.mem_append, List.mem_map, List.mem_range, List.mem_singleton] at hc
  rcases hc with (⟨j, _, rfl⟩ | rfl) | rfl
  ·simp
  ·simp only [iJ]; omega
  ·simp
 ·show ((oQ op ws.length).map (fun c => c.args.length)).sum ≤ _
  have h1 : ∀ k, ((vz k).map (fun c => c.args.length)).sum = 0 := fun k => by
   induction k with
   | zero => rfl
   | succ k ih => rw [si, List.map_append, List.sum_append, ih]; rfl
  simp only [oQ, List.map_append, List.sum_append, h1, List.map_cons, List.map_nil, List.sum_cons, List.sum_nil, iJ, List.length_nil]; omega
 ·simp only [fj, oQ, vz, List.mem_append, List.mem_map, List.mem_range, List.mem_singleton] at hc
  rcases hc with (⟨j, _, rfl⟩ | rfl) | rfl
  ·simp only; omega
  ·simp
  ·simp
end
open Go Go.AW
def g9 (ws : List Int) : Nat → Nat
  | 0 => 0
  | i + 1 => g9 ws i + (ws.getD i 0).toNat
theorem uz {ws : List Int} (h : ∀ w ∈ ws, dL w) : ∀ i, i ≤ ws.length → g9 ws i ≤ 64 * i
  | 0, _ => by simp [g9]
  | i + 1, hi => by
    have h1 := uz h i om
    have h2 := h (ws.getD i 0) (getD_in om)
    unfold dL at h2
    simp only [g9]; omega
theorem mP {ws : List Int} {i : Nat} : ∀ {j}, i ≤ j → g9 ws i ≤ g9 ws j
  | 0, h => by have : i = 0 := by omega
               subst this; exact Nat.le_refl _
  | j + 1, h => by
    rcases Nat.lt_or_ge j i with h1 | h1
    · have : i = j + 1 := by omega
      subst this; exact Nat.le_refl _
    · have := mP (ws := ws) h1
      simp only [g9]; omega
def wL (ws : List Int) (i : Nat) : List (List Int) := (List.range i).map (fun j => l9 (g9 ws j) (ws.getD j 0).toNat)
theorem zT (ws : List Int) (i : Nat) : wL ws (i + 1) = wL ws i ++ [l9 (g9 ws i) (ws.getD i 0).toNat] := by simp [wL, List.range_succ]
theorem oR (ws : List Int) (i : Nat) : (wL ws i).length = i := by simp [wL]
theorem CK {ws : List Int} {i j : Nat} (h : j < i) : (wL ws i).getD j [] = l9 (g9 ws j) (ws.getD j 0).toNat := by
  unfold wL
  rw [List.getD_eq_getElem?_getD, List.getElem?_map, List.getElem?_range h]; rfl
theorem sj {op : Int} {k : Nat} (h0 : b5 op ≠ 0) (hl : (k : Int) = b5 op) : (((2 ≤ op ∧ op ≤ 3) ∨ (9 ≤ op ∧ op ≤ 20)) ∧ k = 2) ∨ (op = 21 ∧ k = 3) ∨ ((22 ≤ op ∧ op ≤ 24) ∧ k = 1) := by
  unfold b5 at h0 hl
  by_cases h1 : (2 ≤ op ∧ op ≤ 3) ∨ (9 ≤ op ∧ op ≤ 20)
  · rw [if_pos h1] at hl; exact .inl ⟨h1, om⟩
  · rw [if_neg h1] at hl h0
    by_cases h2 : op = 21
    · rw [if_pos h2] at hl; exact .inr (.inl ⟨h2, om⟩)
    · rw [if_neg h2] at hl h0
      by_cases h3 : 22 ≤ op ∧ op ≤ 24
      · rw [if_pos h3] at hl; exact .inr (.inr ⟨h3, om⟩)
      · rw [if_neg h3] at h0; exact absurd rfl h0
section
variable {op width c : Int} {ws : List Int}
theorem Gl (h : ux op ws width) (hc : 0 ≤ c) :
    CA c (mj (g9 ws ws.length)) (wL ws ws.length) op (ws.getD 0 0).toNat width.toNat (AR 0 (ws.getD 0 0).toNat) (AR (g9 ws 1) (ws.getD 1 0).toNat) (AR (g9 ws 2) (ws.getD 2 0).toNat) c := by
  obtain ⟨hw, wU, h0, hl, hf⟩ := h
  have um := sj h0 hl
  have hg : ∀ {j}, j < ws.length → dL (ws.getD j 0) := fun hj => hw _ (getD_in hj)
  have xL : ∀ {j}, j < ws.length → Wk c (mj (g9 ws ws.length)) ((wL ws ws.length).getD j []) (ws.getD j 0).toNat (AR (g9 ws j) (ws.getD j 0).toNat) c := fun {j} hj => by
    rw [CK hj]
    refine Gc ?_
    have := mP (ws := ws) (i := j + 1) (j := ws.length) om
    simpa [g9] using this
  have w0 := hg (j := 0) om
  have hx := xL (j := 0) om
  unfold dL at w0 wU
  unfold bR eo at hf
  rw [show g9 ws 0 = 0 from rfl] at hx
  refine ⟨hx, fun h2 => ?_, fun h3 => ?_, ?_, om, om, hc⟩
  · rw [oR] at h2
    have hy := xL (j := 1) om
    have e : (ws.getD 1 0).toNat = if op = 21 then width.toNat else (ws.getD 0 0).toNat := by
      by_cases L8 : op = 21
      · rw [if_pos L8]; omega
      · rw [if_neg L8]; omega
    rw [← e]; exact hy
  · rw [oR] at h3
    have hz := xL (j := 2) om
    have e : (ws.getD 2 0).toNat = width.toNat := by omega
    rw [e] at hz ⊢; exact hz
  · rw [oR]; omega
theorem xM (h : ux op ws width) : ws.length ≤ 3 ∧ g9 ws ws.length ≤ 192 := by
  have h3 := mc (op := op)
  have h1 := uz h.1 ws.length (Nat.le_refl _)
  have h2 := h.2.2.2.1
  omega
noncomputable instance : Decidable (ux op ws width) := Classical.propDecidable _
def u0 (op : Int) (ws : List Int) (width : Int) : Prop := Plain op ∧ ux op ws width
noncomputable instance : Decidable (u0 op ws width) := Classical.propDecidable _
def nk (op : Int) (ws : List Int) (width : Int) (l : List Gate) (out : List Int) (e : Int) : Prop :=
  (¬ Plain op ∧ e = 1) ∨ (Plain op ∧ ¬ ux op ws width ∧ e = 13) ∨
  (Plain op ∧ ux op ws width ∧ e = 0 ∧ Ext (mj (g9 ws ws.length)) l ∧ l.length ≤ 1800 ∧
    vd 0 l out op (ws.getD 0 0).toNat width.toNat (AR 0 (ws.getD 0 0).toNat) (AR (g9 ws 1) (ws.getD 1 0).toNat) (AR (g9 ws 2) (ws.getD 2 0).toNat) 0)
end
open Go Go.AW Go.Proofs
theorem qS {gl : List Gate} (oL : gl.length ≤ 40000000) {x : Int} (hx : 0 ≤ x ∧ x ≤ 64) : ak Try.prog 78 [.ptr 0 0 0 0, .v (.int .i64 x)] [.cells [.aR 1 3 0 gl.length], .rows 3 (gl.map Gate.row)] [0] (fun r o => r = .cX 1 ((l9 gl.length x.toNat).map al) ∧ o = [.cells [.aR 1 3 0 (gl ++ mj x.toNat).length], .rows 3 ((gl ++ mj x.toNat).map Gate.row)]) := by
  obtain ⟨n, rfl⟩ : ∃ n : Nat, x = (n : Int) := ⟨x.toNat, om⟩
  rw [Int.toNat_natCast]; exact sb oL om
theorem oS {c : Int} {gl : List Gate} (hg : Good gl) (oL : gl.length ≤ 20000000) {op : Int} {ws : List (List Int)} {w : Nat} {width : Int} {xN yN zN : List Bool → Nat} {t : Int} (hI : CA c gl ws op w width.toNat xN yN zN t) (sv : ws.length ≤ 100) (h0 : 0 ≤ width) :
    ak Try.prog 79 [.ptr 0 0 0 0, .v (.int .i64 op), .fz 1 (ws.map gy), .v (.int .i64 width)] [.cells [.aR 1 3 0 gl.length], .rows 3 (gl.map Gate.row)] [0] (fun r o => ∃ (l : List Gate) (out : List Int), Ext gl l ∧ l.length ≤ gl.length + 1600 ∧ vd c l out op w width.toNat xN yN zN t ∧ r = .cX 1 (out.map al) ∧ o = [.cells [.aR 1 3 0 l.length], .rows 3 (l.map Gate.row)]) := by
  have h := po (c := c) hg oL hI sv
  rwa [Int.toNat_of_nonneg h0] at h
set_option maxRecDepth 4000 in
set_option maxHeartbeats 8000000 in
theorem sm {op width : Int} {ws : List Int} (hk : ws.length ≤ 5) : ak Try.prog 32 [.v (.int .i64 op), .fz 1 (ws.map al), .v (.int .i64 width)] [] [] (fun r o => ∃ (l : List Gate) (out : List Int) (e : Int), nk op ws width l out e ∧ r = .tup [.cX 3 (l.map Gate.row), .cX 1 (out.map al), .v (.int .i64 e)] ∧ o = []) := by
 refine ak.of Try.func32 rfl rfl rfl (n := 106) ag (Nat.le_of_ble_eq_true rfl) (ah.sr ?_)
 refine .an ?_
 refine .an ?_
 refine .an ?_
 refine aa.nil (ah.sr (.vl (Y.qg EM EO rfl rfl rfl) ?_))
 refine aa.box 119 rfl rfl rfl rfl rfl ag ?_
 refine .an ?_
 refine aa.nil (ah.seq (ah.sh (Sh.nA 119 301 1 1 rfl rfl rfl rfl ag) ?_))
 refine ah.sh (Sh.nA 119 302 6 2 rfl rfl rfl rfl ag) (ah.sh (Sh.nA 119 303 1 3 rfl rfl rfl rfl ag) (ah.region ?_))
 refine .an ?_
 refine aa.sh (Sh.nil (d := 10) 110 1 rfl ag) (aa.nil (ah.seq ?_))
 refine ah.sr ?_
 refine .mv ?_
 refine .vl (Y.qu (n := ws.length) az rfl (congrArg some (List.length_map ..))) ?_
 refine .mv ?_
 refine aa.nil (ah.block ?_)
 refine ah.Ea (fun (dE : Nat) (bI : List Int) (bt : List Int) (dA : List Cell) (dg : List Int) => ⟨[(0, .v (.int .i64 op)), (1, .fz 1 (ws.map al)), (2, .v (.int .i64 width)), (9, .ptr 119 0 0 0), (10, .aR 110 1 0 bI.length), (20, .fz 1 (ws.map al)), (21, .v (.int .i64 (ws.length : Int))), (22, .v (.int .i64 (dE : Int)))], [(110, .rows 1 (bI.map al)), (119, .cells [.v (.string ByteArray.empty), .aR 301 1 0 bt.length, .aR 302 6 0 dA.length, .aR 303 1 0 dg.length, .v (.slice none 0 0), .v (.slice none 0 0), .v (.slice none 0 0), .v (.slice none 0 0), .v (.int .i64 0), .v (.int .i64 0), .v (.slice none 0 0)]), (301, .rows 1 (bt.map al)), (302, .rows 6 (dA.map Cell.row)), (303, .rows 1 (dg.map al))]⟩) (fun (dE : Nat) (bI : List Int) (bt : List Int) (dA : List Cell) (dg : List Int) => ((dE : Int) ≤ (ws.length : Int)) ∧ (bt = ws.take dE ∧ dA = vz dE ∧ dg = ws.take dE ∧ bI = l9 0 dE)) (fun (dE : Nat) (bI : List Int) (bt : List Int) (dA : List Cell) (dg : List Int) => ((ws.length : Int) - (dE : Int)).toNat) 0 ([] : List Int) ([] : List Int) ([] : List Cell) ([] : List Int) (⟨pt, ⟨rfl, rfl, rfl, rfl⟩⟩) (Le.mk (.c (.c (.c (.c (.cons (aI rfl aF) (.c (.c (.cons (aq rfl bj) (.nil))))))))) (.c (.cons (aB rfl gL) (.c (.c (.c (.nil))))))) (fun dE bI bt dA dg z5 => ?_)
 obtain ⟨AK, hP⟩ := z5
 refine ah.sr (.vl (Y.qz rfl rfl) (aa.nil ?_))
 refine ah.seq ?_
 refine ah.a9 rfl (fun AJ => ?_) (fun AJ => ?_)
 refine ah.skip (ah.seq (ah.block ?_))
 refine ah.seq ?_
 obtain ⟨L9, LA, LC, LF⟩ := hP; have Kh : bt.length = dE := (by rw [L9, List.length_take]; omega); have Om : dA.length = dE := (by rw [LA, gJ]); have Oo : dg.length = dE := (by rw [LC, List.length_take]; omega); have LG : bI.length = dE := (by rw [LF, iJ])
 refine ah.region ?_
 refine .mv ?_
 refine .vl (Y.qq (m := dE) az rfl rfl bj (ao (d := 0) om)) ?_
 refine .ld bw ?_
 refine .an ?_
 refine .an ?_
 refine aa.nil (ah.sr ?_)
 refine .mv ?_
 refine .mv ?_
 refine .mv ?_
 refine aa.bc [119, 301, 302, 303] [] By (l3 (w := ws.getD dE 0) (ws := bt) (cs := dA) (is := dg) (nm := ByteArray.empty) (fz := 0) (dn := 0) om om) rfl (.named rfl rfl (.au rfl rfl .nil)) ⟨rfl, rfl, rfl, rfl, trivial⟩ rfl ag (fun _ h => by cases h) (fun _ h => by cases h) ag ag ?_
 rintro r a8 ⟨rfl, rfl⟩ _
 refine ⟨⟨rfl, (by intro ob aL; simp only [List.mem_cons, List.not_mem_nil, or_false] at aL; rcases aL with rfl | rfl | rfl | rfl <;> rfl), .inl rfl⟩, ?_⟩
 refine aa.buildSlice (([(((bt).length : Nat) : Int)] : List Int).map al) az fX rfl rfl rfl rfl rfl (aD (s := 1) (f := al) (fun _ => rfl)) rfl rfl rfl ag ?_
 refine aa.bY ((bI ++ ([(((bt).length : Nat) : Int)] : List Int)).map al) (bI ++ ([(((bt).length : Nat) : Int)] : List Int)).length az fX rfl rfl rfl rfl (bU aF) (bB aF) (da aF) aF aF ag ag ?_
 refine .an ?_
 refine aa.nil (ah.sr ?_)
 refine .mv ?_
 refine .mv ?_
 refine .mv ?_
 refine .vl (Y.qr (m := dE) az rfl rfl bj aF) ?_
 refine .vl (Y.qx bw rfl (aT (d := 0) aF) rfl rfl) ?_
 refine .mv ?_
 refine .vl (Y.qj Ej Bx rfl (by first | rfl | exact IntWalk.u64_in _ om)) ?_
 refine .vl (Y.qg BB m6 rfl rfl rfl) (aa.sh (Sh.KC (d := 40) 1 3 rfl rfl) ?_)
 refine aa.bc [119, 301, 302, 303] [] Bz (kq (c := (⟨8, 0, (bI ++ ([(((bt).length : Nat) : Int)] : List Int)).getD dE 0, ([] : List Int), dE, 0⟩ : Cell)) (ws := bt ++ [ws.getD dE 0]) (cs := dA) (is := dg) (nm := ByteArray.empty) (fz := 0) (dn := 0) aF aF (by simp)) rfl (.named rfl rfl (.au rfl rfl .nil)) ⟨rfl, rfl, rfl, rfl, trivial⟩ rfl ag (fun _ h => by cases h) (fun _ h => by cases h) ag ag ?_
 rintro r a8 ⟨rfl, rfl⟩ _
 refine ⟨⟨rfl, (by intro ob aL; simp only [List.mem_cons, List.not_mem_nil, or_false] at aL; rcases aL with rfl | rfl | rfl | rfl <;> rfl), .inl rfl⟩, ?_⟩
 refine aa.nil (ah.region ?_)
 refine .mv ?_
 refine .mv ?_
 refine .vl (Y.zh rfl rfl) ?_
 refine .fa eX ?_
 refine .fa oh ?_
 refine .ld cQ ?_
 refine .mv ?_
 refine aa.buildSlice (([ws.getD dE 0] : List Int).map al) az fX rfl rfl rfl rfl rfl (aD (s := 1) (f := al) (fun _ => rfl)) rfl rfl rfl ag ?_
 refine aa.bY ((dg ++ ([ws.getD dE 0] : List Int)).map al) (dg ++ ([ws.getD dE 0] : List Int)).length az fX rfl rfl rfl rfl (bU aF) (bB aF) (da aF) aF aF ag ag ?_
 refine .vl (Y.zh rfl rfl) ?_
 refine .fa eX ?_
 refine .fa oh ?_
 refine aa.aj yH rfl rfl rfl rfl rfl rfl (Nat.le_of_ble_eq_true rfl) rfl (aa.nil (ah.region ?_))
 refine .vl (Y.qb rfl rfl aF) ?_
 refine .mv ?_
 refine aa.nil ?_
 exact ⟨dE + 1, bI ++ ([(((bt).length : Nat) : Int)] : List Int), (bt ++ [ws.getD dE 0]), dA ++ [(⟨8, 0, (bI ++ ([(((bt).length : Nat) : Int)] : List Int)).getD dE 0, ([] : List Int), dE, 0⟩ : Cell)], dg ++ ([ws.getD dE 0] : List Int), ⟨om, ⟨by rw [L9]; exact (take_one om).symm, by rw [si, gM LG.symm, Kh, ← LA], by rw [LC]; exact (take_one om).symm, by rw [rY, ← LF, Kh, Nat.zero_add]⟩⟩, om, Le.mk (.c (.c (.c (.c (.cons (aI rfl om) (.c (.c (.cons (aq rfl bj) (.nil))))))))) (.c (.cons (aB rfl gL) (.c (.c (.c (.nil))))))⟩
 refine ah.exit ?_
 refine ah.le (aQ := ⟨[(0, .v (.int .i64 op)), (1, .fz 1 (ws.map al)), (2, .v (.int .i64 width)), (9, .ptr 119 0 0 0), (10, .aR 110 1 0 bI.length)], [(110, .rows 1 (bI.map al)), (119, .cells [.v (.string ByteArray.empty), .aR 301 1 0 bt.length, .aR 302 6 0 dA.length, .aR 303 1 0 dg.length, .v (.slice none 0 0), .v (.slice none 0 0), .v (.slice none 0 0), .v (.slice none 0 0), .v (.int .i64 0), .v (.int .i64 0), .v (.slice none 0 0)]), (301, .rows 1 (bt.map al)), (302, .rows 6 (dA.map Cell.row)), (303, .rows 1 (dg.map al))]⟩) (Le.mk (.c (.c (.c (.c (.c (.nil)))))) (.c (.c (.c (.c (.c (.nil))))))) ?_
 refine ah.seq (ah.seq ?_)
 have Kh : bt.length = ws.length := (by rw [hP.1, List.length_take]; omega); have Om : dA.length = ws.length := (by rw [hP.2.1, gJ]; omega); have Oo : dg.length = ws.length := (by rw [hP.2.2.1, List.length_take]; omega); have LG : bI.length = ws.length := (by rw [hP.2.2.2, iJ]; omega)
 refine ah.region ?_
 refine .mv ?_
 refine aa.br Ic (pq (op := op)) rfl (.au rfl rfl .nil) ag rfl (.vl (Y.zi rfl) (aa.nil ?_))
 refine ah.cond rfl (fun uj => ?_) (fun uj => ?_)
 replace uj : ¬ (Plain op) := by simpa using uj
 refine ah.sr ?_
 refine .an ?_
 refine .an ?_
 refine .an ?_
 refine aa.nil (ah.sh (Sh.pb (d := 6) 3 rfl) (ah.sh (Sh.pb (d := 7) 1 rfl) ?_))
 refine ah.ret ?_
 exact ⟨_, _, rfl, rfl, [], [], 1, .inl ⟨by simpa using uj, rfl⟩, rfl, rfl⟩
 replace uj : Plain op := by simpa using uj
 refine ah.skip ?_
 refine ah.le (aQ := ⟨[(0, .v (.int .i64 op)), (1, .fz 1 (ws.map al)), (2, .v (.int .i64 width)), (9, .ptr 119 0 0 0), (10, .aR 110 1 0 bI.length)], [(110, .rows 1 (bI.map al)), (119, .cells [.v (.string ByteArray.empty), .aR 301 1 0 bt.length, .aR 302 6 0 dA.length, .aR 303 1 0 dg.length, .v (.slice none 0 0), .v (.slice none 0 0), .v (.slice none 0 0), .v (.slice none 0 0), .v (.int .i64 0), .v (.int .i64 0), .v (.slice none 0 0)]), (301, .rows 1 (bt.map al)), (302, .rows 6 (dA.map Cell.row)), (303, .rows 1 (dg.map al))]⟩) (Le.mk (.c (.c (.c (.c (.c (.nil)))))) (.c (.c (.c (.c (.c (.nil))))))) ?_
 refine ah.seq ?_
 refine ah.sh (Sh.cV (d := 10) (o := 110) rfl rfl (bf om) ag) ?_
 refine ah.sh (Sh.c1 (d := 10) (bI.map al) rfl jV (du.map cv)) (ah.region ?_)
 refine .mv ?_
 refine .mv ?_
 refine .mv ?_
 refine .mv ?_
 refine aa.bc [119, 301, 302, 303] [] Ie (ve (op := op) (w := width) (args := bI) (ws := bt) (cs := dA) (is := dg) (nm := ByteArray.empty) (fz := 0) (dn := 0) om om om) rfl (.named rfl rfl (.au rfl rfl (.au rfl rfl (.au rfl rfl .nil)))) ⟨rfl, rfl, rfl, rfl, trivial⟩ rfl ag (fun _ h => by cases h) (fun _ h => by cases h) ag ag ?_
 rintro r a8 ⟨rfl, rfl⟩ _
 refine ⟨⟨rfl, (by intro ob aL; simp only [List.mem_cons, List.not_mem_nil, or_false] at aL; rcases aL with rfl | rfl | rfl | rfl <;> rfl), .inl rfl⟩, ?_⟩
 refine aa.nil (ah.sr ?_)
 refine .mv ?_
 refine aa.bc [119, 301, 302, 303] [] Ig (se (w := 1) (x := 0) (ws := bt ++ [width]) (cs := dA ++ [(⟨2, op, ((bt).length : Int), bI, 0, 0⟩ : Cell)]) (is := dg) (nm := ByteArray.empty) (fz := 0) (dn := 0) aF aF ag) rfl (.named rfl rfl (.au rfl rfl (.au rfl rfl .nil))) ⟨rfl, rfl, rfl, rfl, trivial⟩ rfl ag (fun _ h => by cases h) (fun _ h => by cases h) ag ag ?_
 rintro r a8 ⟨rfl, rfl⟩ _
 refine ⟨⟨rfl, (by intro ob aL; simp only [List.mem_cons, List.not_mem_nil, or_false] at aL; rcases aL with rfl | rfl | rfl | rfl <;> rfl), .inl rfl⟩, ?_⟩
 refine .an ?_
 refine aa.nil (ah.sr ?_)
 refine .mv ?_
 refine .mv ?_
 refine .mv ?_
 refine .mv ?_
 refine .vl (Y.zh rfl rfl) ?_
 refine .fa eX ?_
 refine .fa sR ?_
 refine aa.aj cJ rfl rfl rfl rfl rfl rfl (Nat.le_of_ble_eq_true rfl) rfl (.vl (Y.zh rfl rfl) ?_)
 refine .fa eX ?_
 refine .fa sS ?_
 refine aa.aj cJ rfl rfl rfl rfl rfl rfl (Nat.le_of_ble_eq_true rfl) rfl (aa.nil ?_)
 refine ah.le (aQ := ⟨[(0, .v (.int .i64 op)), (1, .fz 1 (ws.map al)), (2, .v (.int .i64 width)), (9, .ptr 119 0 0 0)], [(119, .cells [.v (.string ByteArray.empty), .aR 301 1 0 (((bt ++ [width]) ++ [1]).length), .aR 302 6 0 (((dA ++ [(⟨2, op, ((bt).length : Int), bI, 0, 0⟩ : Cell)]) ++ [(⟨1, 0, (((bt ++ [width])).length : Int), [], kE 1 0, 0⟩ : Cell)]).length), .aR 303 1 0 dg.length, .v (.slice none 0 0), .v (.slice none 0 0), .v (.slice none 0 0), .v (.slice none 0 0), .v (.int .i64 (((bt ++ [width]).length : Nat) : Int)), .v (.int .i64 (((bt ++ [width]).length : Nat) : Int)), .v (.slice none 0 0)]), (301, .rows 1 (((bt ++ [width]) ++ [1]).map al)), (302, .rows 6 (((dA ++ [(⟨2, op, ((bt).length : Int), bI, 0, 0⟩ : Cell)]) ++ [(⟨1, 0, (((bt ++ [width])).length : Int), [], kE 1 0, 0⟩ : Cell)]).map Cell.row)), (303, .rows 1 (dg.map al))]⟩) (Le.mk (.c (.c (.c (.c (.nil))))) (.c (.c (.c (.c (.nil)))))) ?_
 refine ah.seq (ah.seq ?_)
 refine ah.sh (Sh.wj 119 301 1 rfl rfl rfl (bf aF) (du.map cv) ag rfl rfl rfl) ?_
 refine ah.sh (Sh.wj 119 302 2 rfl rfl rfl (bf om) (du.map Cell.cD) ag rfl rfl rfl) ?_
 refine ah.sh (Sh.wj 119 303 3 rfl rfl rfl (bf om) (du.map cv) ag rfl rfl rfl) ?_
 refine ah.sh (Sh.oa 119 5 4 rfl rfl rfl) (ah.sh (Sh.oa 119 3 5 rfl rfl rfl) (ah.sh (Sh.oa 119 1 6 rfl rfl rfl) ?_))
 refine ah.sh (Sh.oa 119 1 7 rfl rfl rfl) (ah.sh (Sh.oa 119 1 10 rfl rfl rfl) ?_)
 have hN : (⟨ByteArray.empty, (bt ++ [width]) ++ [1], (dA ++ [(⟨2, op, ((bt).length : Int), bI, 0, 0⟩ : Cell)]) ++ [(⟨1, 0, (((bt ++ [width])).length : Int), [], kE 1 0, 0⟩ : Cell)], dg, ([] : List oW), ([] : List gF), ([] : List Int), ([] : List Int), (((bt ++ [width]).length : Nat) : Int), (((bt ++ [width]).length : Nat) : Int), ([] : List Int)⟩ : ab) = fj op ws width := by obtain ⟨h1, h2, h3, h4⟩ := hP; rw [h1, h2, h3, h4, show dE = ws.length by omega, List.take_length]; simp [fj, oQ, gJ, kE]
 refine ah.region ?_
 refine .mv ?_
 refine .vl (Y.zh rfl rfl) ?_
 refine .fa eX ?_
 refine .vl (Y.qy uJ rfl rfl (Nat.le_of_ble_eq_true rfl) rfl rfl) ?_
 refine aa.br Ih (tm (n := (⟨ByteArray.empty, (bt ++ [width]) ++ [1], (dA ++ [(⟨2, op, ((bt).length : Int), bI, 0, 0⟩ : Cell)]) ++ [(⟨1, 0, (((bt ++ [width])).length : Int), [], kE 1 0, 0⟩ : Cell)], dg, ([] : List oW), ([] : List gF), ([] : List Int), ([] : List Int), (((bt ++ [width]).length : Nat) : Int), (((bt ++ [width]).length : Nat) : Int), ([] : List Int)⟩ : ab)) (by rw [hN]; exact xK hk) (by rw [hN]; simp [fj]; omega)) rfl (.au rfl rfl .nil) ag rfl ?_
 refine .vl (Y.zg rfl rfl) (aa.nil ?_)
 refine ah.le (aQ := ⟨[(0, .v (.int .i64 op)), (1, .fz 1 (ws.map al)), (2, .v (.int .i64 width)), (80, .v (.bool (decide ((lO (⟨ByteArray.empty, (bt ++ [width]) ++ [1], (dA ++ [(⟨2, op, ((bt).length : Int), bI, 0, 0⟩ : Cell)]) ++ [(⟨1, 0, (((bt ++ [width])).length : Int), [], kE 1 0, 0⟩ : Cell)], dg, ([] : List oW), ([] : List gF), ([] : List Int), ([] : List Int), (((bt ++ [width]).length : Nat) : Int), (((bt ++ [width]).length : Nat) : Int), ([] : List Int)⟩ : ab)) ≠ 0))))], []⟩) (Le.mk (.c (.c (.c (.c (.nil))))) (.nil)) ?_
 refine ah.a9 rfl (fun GV => ?_) (fun GV => ?_)
 have hC : ¬ ux op ws width := fun h => GV (by rw [hN]; exact Gk hk h)
 refine ah.sr ?_
 refine .an ?_
 refine .an ?_
 refine .an ?_
 refine aa.nil (ah.sh (Sh.pb (d := 6) 3 rfl) (ah.sh (Sh.pb (d := 7) 1 rfl) ?_))
 refine ah.ret ?_
 exact ⟨_, _, rfl, rfl, [], [], 13, .inr (.inl ⟨by simpa using uj, hC, rfl⟩), rfl, rfl⟩
 have hC : ux op ws width := zS (by rw [hN] at GV; exact Classical.not_not.1 GV)
 refine ah.skip (ah.le (aQ := ⟨[(0, .v (.int .i64 op)), (1, .fz 1 (ws.map al)), (2, .v (.int .i64 width))], []⟩) (Le.mk (.c (.c (.c (.nil)))) (.nil)) (ah.sr ?_))
 refine .vl (Y.qg EN EP rfl rfl rfl) (aa.box 182 rfl rfl rfl rfl rfl ag ?_)
 refine .an ?_
 refine aa.nil (ah.seq (ah.sh (Sh.nA 182 401 3 0 rfl rfl rfl rfl ag) ?_))
 refine ah.region ?_
 refine .an ?_
 refine aa.sh (Sh.nil (d := 15) 115 1 rfl ag) (aa.nil ?_)
 refine ah.le (aQ := ⟨[(0, .v (.int .i64 op)), (1, .fz 1 (ws.map al)), (2, .v (.int .i64 width)), (14, .ptr 182 0 0 0), (15, .aR 115 1 0 0)], [(115, .rows 1 (([] : List (List Int)).map gy)), (182, .cells [.aR 401 3 0 0]), (401, .rows 3 (([] : List Gate).map Gate.row))]⟩) (Le.mk (.c (.c (.c (.c (.c (.nil)))))) (.c (.c (.c (.nil))))) ?_
 refine ah.seq (ah.sr ?_)
 refine .mv ?_
 refine .vl (Y.qu (n := ws.length) az rfl (congrArg some (List.length_map ..))) ?_
 refine .mv ?_
 refine aa.nil (ah.block ?_)
 refine ah.eS (fun (dB : Nat) (bX : List (List Int)) (dh : List Gate) => ⟨[(0, .v (.int .i64 op)), (2, .v (.int .i64 width)), (14, .ptr 182 0 0 0), (15, .aR 115 1 0 bX.length), (83, .fz 1 (ws.map al)), (84, .v (.int .i64 (ws.length : Int))), (85, .v (.int .i64 (dB : Int)))], [(115, .rows 1 (bX.map gy)), (182, .cells [.aR 401 3 0 dh.length]), (401, .rows 3 (dh.map Gate.row))]⟩) (fun (dB : Nat) (bX : List (List Int)) (dh : List Gate) => ((dB : Int) ≤ (ws.length : Int)) ∧ (dh = mj (g9 ws dB) ∧ bX = wL ws dB)) (fun (dB : Nat) (bX : List (List Int)) (dh : List Gate) => ((ws.length : Int) - (dB : Int)).toNat) 0 ([] : List (List Int)) ([] : List Gate) (⟨pt, ⟨rfl, rfl⟩⟩) (Le.mk (.c (.c (.c (.cons (aI rfl aF) (.c (.c (.cons (aq rfl bj) (.nil)))))))) (.c (.cons (aB rfl gL) (.c (.nil))))) (fun dB bX dh Ki => ?_)
 obtain ⟨Oq, hQ⟩ := Ki
 refine ah.sr (.vl (Y.qz rfl rfl) (aa.nil ?_))
 refine ah.seq ?_
 refine ah.a9 rfl (fun Jg => ?_) (fun Jg => ?_)
 refine ah.skip (ah.seq (ah.block ?_))
 refine ah.sr ?_
 refine .vl (Y.qq (m := dB) az rfl rfl bj (ao (d := 0) om)) ?_
 refine .ld bw ?_
 refine .an ?_
 refine aa.nil ?_
 have GJ := hC.1 (ws.getD dB 0) (getD_in om); unfold dL at GJ; have vm := xM hC; have P9 := mP (ws := ws) (i := dB) (j := ws.length) om; have LH : dh.length = g9 ws dB := (by rw [hQ.1, iK]); have Ot : bX.length = dB := (by rw [hQ.2, oR])
 refine ah.region ?_
 refine .mv ?_
 refine .mv ?_
 refine .mv ?_
 refine aa.bc [182, 401] [] Ii (qS (gl := dh) (x := ws.getD dB 0) om om) rfl (.named rfl rfl (.au rfl rfl .nil)) ⟨rfl, rfl, trivial⟩ rfl ag (fun _ h => by cases h) (fun _ h => by cases h) ag ag ?_
 rintro r a8 ⟨rfl, rfl⟩ _
 refine ⟨⟨rfl, (by intro ob aL; simp only [List.mem_cons, List.not_mem_nil, or_false] at aL; rcases aL with rfl | rfl <;> rfl), .inl rfl⟩, ?_⟩
 refine aa.sh (Sh.c1 (d := 92) ((l9 dh.length (ws.getD dB 0).toNat).map al) rfl jV (du.map cv)) ?_
 refine aa.buildSlice (([l9 dh.length (ws.getD dB 0).toNat] : List (List Int)).map gy) gX yJ rfl rfl rfl rfl rfl (aD (s := 1) (f := gy) (fun _ => rfl)) rfl rfl rfl ag ?_
 refine aa.bY ((bX ++ ([l9 dh.length (ws.getD dB 0).toNat] : List (List Int))).map gy) (bX ++ ([l9 dh.length (ws.getD dB 0).toNat] : List (List Int))).length gX yJ rfl rfl rfl rfl (bU aF) (bB aF) (da aF) aF aF ag ag ?_
 refine .an ?_
 refine aa.nil (ah.region ?_)
 refine .vl (Y.qb rfl rfl aF) ?_
 refine .mv ?_
 refine aa.nil ?_
 exact ⟨dB + 1, bX ++ ([l9 dh.length (ws.getD dB 0).toNat] : List (List Int)), dh ++ mj (ws.getD dB 0).toNat, ⟨om, ⟨by rw [hQ.1, zJ]; rfl, by rw [zT, ← hQ.2, LH]⟩⟩, om, Le.mk (.c (.c (.c (.cons (aI rfl om) (.c (.c (.cons (aq rfl bj) (.nil)))))))) (.c (.cons (aB rfl gL) (.c (.nil))))⟩
 refine ah.exit ?_
 refine ah.le (aQ := ⟨[(0, .v (.int .i64 op)), (2, .v (.int .i64 width)), (14, .ptr 182 0 0 0), (15, .aR 115 1 0 bX.length)], [(115, .rows 1 (bX.map gy)), (182, .cells [.aR 401 3 0 dh.length]), (401, .rows 3 (dh.map Gate.row))]⟩) (Le.mk (.c (.c (.c (.c (.nil))))) (.c (.c (.c (.nil))))) ?_
 refine ah.seq ?_
 refine ah.sh (Sh.cV (d := 15) (o := 115) rfl rfl (bf om) ag) ?_
 refine ah.sh (Sh.c1 (d := 15) (bX.map gy) rfl jV (du.map oc)) ?_
 have Gx : dB = ws.length := om; have GW : dh = mj (g9 ws ws.length) := (by rw [hQ.1, Gx]); have Kg : bX = wL ws ws.length := (by rw [hQ.2, Gx]); have hIn := Gl (c := 0) hC ag; rw [← GW, ← Kg] at hIn; have wU := hC.2.1; unfold dL at wU; have vm := xM hC; have LH : dh.length = g9 ws ws.length := (by rw [GW, iK]); have Ot : bX.length = ws.length := (by rw [Kg, oR])
 refine ah.region ?_
 refine .mv ?_
 refine .mv ?_
 refine .mv ?_
 refine .mv ?_
 refine aa.bc [182, 401] [] Ij (oS (c := 0) (gl := dh) (op := op) (ws := bX) (width := width) (by rw [GW]; exact rZ _) om hIn om om) rfl (.named rfl rfl (.au rfl rfl (.au rfl rfl (.au rfl rfl .nil)))) ⟨rfl, rfl, trivial⟩ rfl ag (fun _ h => by cases h) (fun _ h => by cases h) ag ag ?_
 rintro r a8 ⟨Kj, CL, Gm, Kk, Gn, rfl, rfl⟩ _
 refine ⟨⟨rfl, (by intro ob aL; simp only [List.mem_cons, List.not_mem_nil, or_false] at aL; rcases aL with rfl | rfl <;> rfl), .inl rfl⟩, ?_⟩
 refine aa.bx rfl ag (aa.nil (ah.sr ?_))
 refine .mv ?_
 refine .vl (Y.zh rfl rfl) ?_
 refine .fa nC ?_
 refine .ld BE ?_
 refine aa.nX rfl ag ?_
 refine .an ?_
 refine aa.sh (Sh.cV (d := 6) (o := 401) rfl rfl (bf om) ag) ?_
 refine aa.bx rfl ag ?_
 refine .an ?_
 refine aa.nil (ah.ret ?_)
 exact ⟨_, _, rfl, rfl, Kj, CL, 0, .inr (.inr ⟨by simpa using uj, hC, rfl, by rw [← GW]; exact Gm, om, Gn⟩), rfl, rfl⟩
open Go Go.AW
theorem oT {op : Int} (h : Plain op) : b5 op ≠ 0 := by
 unfold Plain uM Seq Unary at h
 unfold b5
 (repeat' split) <;> omega
theorem oU {op : Int} (h : Plain op) : b5 op = if op = 21 then 3 else if Unary op then 1 else 2 := by
 unfold Plain uM Seq at h
 by_cases h1 : op = 21
 ·subst h1; rfl
 ·rw [if_neg h1]
  by_cases h2 : Unary op
  ·rw [if_pos h2]; unfold Unary at h2; unfold b5; rw [if_neg om, if_neg h1, if_pos om]
  ·rw [if_neg h2]; unfold b5; rw [if_pos (by unfold Unary at h2 h; omega)]
section
variable {op width : Int} {ws : List Int} {l : List Gate} {out : List Int} {e : Int}
theorem nk.e1 (h : nk op ws width l out e) (hp : ¬ Plain op) : e = 1 := by
 rcases h with ⟨_, h⟩ | ⟨h, _⟩ | ⟨h, _⟩
 ·exact h
 ·exact absurd h hp
 ·exact absurd h hp
theorem nk.Ou (h : nk op ws width l out e) (hp : Plain op) (hc : ¬ ux op ws width) : e = 13 := by
 rcases h with ⟨h, _⟩ | ⟨_, _, h⟩ | ⟨_, h, _⟩
 ·exact absurd hp h
 ·exact h
 ·exact absurd h hc
theorem nk.e0 (h : nk op ws width l out e) (hp : Plain op) (hc : ux op ws width) : e = 0 := by
 rcases h with ⟨h, _⟩ | ⟨_, h, _⟩ | ⟨_, _, h, _⟩
 ·exact absurd hp h
 ·exact absurd hc h
 ·exact h
theorem zU {a : List Int} (hp : Plain op) (hl : (a.length : Int) = b5 op) (hw : ∀ j, j < a.length → dL (a.getD j 0)) (hd : dL width) : bR op (a.getD 0 0) (a.getD 1 0) (a.getD 2 0) width ↔ (Plain op ∧ ux op a width) := by
 constructor
 ·intro h
  refine ⟨hp, fun w mw => ?_, hd, oT hp, hl, h⟩
  obtain ⟨i, hi, rfl⟩ := List.mem_iff_getElem.1 mw
  have := hw i hi
  rwa [List.getD_eq_getElem?_getD, List.getElem?_eq_getElem hi] at this
 ·exact fun h => h.2.2.2.2.2
theorem xO (h : nk 11 [1, 1] 1 l out e) : e = 0 ∧ out.length = 1 ∧ (0 ≤ out.getD 0 0 ∧ out.getD 0 0 < l.length) ∧ jt l = 2 ∧ l.length ≤ 1800 := by
 have hp : Plain 11 := by unfold Plain uM Seq Unary; omega
 have hc : ux 11 [1, 1] 1 := ⟨ag, ag, ag, ag, by unfold bR eo; simp⟩
 rcases h with ⟨h, _⟩ | ⟨_, h, _⟩ | ⟨_, _, h0, hx, hl, hr⟩
 ·exact absurd hp h
 ·exact absurd hc h
 ·have hb := hr.bit 0 ag
  refine ⟨h0, hr.len, ⟨hb.lo, hb.hi⟩, ?_, hl⟩
  rw [hx.jt, ma]; rfl
end
theorem sn {l : List Gate} {i : Nat} (h : i < l.length) : jt (l.take (i + 1)) = jt (l.take i) + if (l.getD i default).kind = 3 then 1 else 0 := by
 rw [List.take_add_one, List.getElem?_eq_getElem h, gH, List.getD_eq_getElem?_getD, List.getElem?_eq_getElem h]
 exact congrArg _ (kx _)
open Go Go.AW Go.Proofs
set_option maxRecDepth 4000 in
set_option maxHeartbeats 1000000 in
theorem vf {l : List Gate} (hl : l.length ≤ 1000000) : ak Try.prog 37 [.fz 3 (l.map Gate.row)] [] [] (fun r o => r = .v (.int .i64 ((jt l : Nat) : Int)) ∧ o = []) := by
 refine ak.of Try.func37 rfl rfl rfl (n := 20) ag (Nat.le_of_ble_eq_true rfl) (ah.sr ?_)
 refine .an ?_
 refine aa.nil (ah.sr ?_)
 refine .an ?_
 refine aa.nil (ah.seq (ah.sr ?_))
 refine .an ?_
 refine aa.nil (ah.block ?_)
 refine ah.kJ (fun (tB : Nat) (mQ : Nat) => ⟨[(0, .fz 3 (l.map Gate.row)), (3, .v (.int .i64 (tB : Int))), (4, .v (.int .i64 (mQ : Int)))], []⟩) (fun (tB : Nat) (mQ : Nat) => ((mQ : Int) ≤ (l.length : Int)) ∧ (tB = jt (l.take mQ))) (fun (tB : Nat) (mQ : Nat) => ((l.length : Int) - (mQ : Int)).toNat) 0 0 (⟨om, rfl⟩) (Le.mk (.c (.cons (aq rfl bj) (.cons (aq rfl bj) (.nil)))) (.nil)) (fun tB mQ qH => ?_)
 obtain ⟨Cj, hn⟩ := qH
 refine ah.seq (ah.sr ?_)
 refine .mv ?_
 refine .mv ?_
 refine .vl (Y.qu (n := l.length) uK rfl (congrArg some (List.length_map ..))) (.vl (Y.qz rfl rfl) (aa.nil ?_))
 refine ah.a9 rfl (fun c8 => ?_) (fun c8 => ?_)
 refine ah.skip ?_
 refine ah.iA (fun (so : Nat) => ⟨[(0, .fz 3 (l.map Gate.row)), (3, .v (.int .i64 (so : Int))), (4, .v (.int .i64 (mQ : Int)))], []⟩) (fun (so : Nat) => so = jt (l.take (mQ + 1))) ?_ (fun so th => ?_)
 refine ah.block (ah.seq ?_)
 have vo := BF (l.take mQ); rw [List.length_take] at vo
 refine ah.region ?_
 refine .mv ?_
 refine .mv ?_
 refine .vl (Y.qq (m := mQ) uK rfl rfl bj (ao (d := default) om)) ?_
 refine .fa yK ?_
 refine .ld bw ?_
 refine .vl (Y.qk rfl rfl) (aa.nil ?_)
 refine ah.a9 rfl (fun rO => ?_) (fun rO => ?_)
 refine ah.region ?_
 refine .mv ?_
 refine .vl (Y.qb rfl rfl aF) ?_
 refine .an ?_
 refine aa.nil ?_
 exact ⟨tB + 1, by rw [sn om, if_pos ik, hn], Le.mk (.c (.cons (aq rfl bj) (.c (.nil)))) (.nil)⟩
 refine ah.skip ?_
 exact ⟨tB, by rw [sn om, if_neg ik, hn, Nat.add_zero], Le.mk (.c (.cons (aq rfl bj) (.c (.nil)))) (.nil)⟩
 refine ah.region ?_
 refine .mv ?_
 refine .vl (Y.qb rfl rfl aF) ?_
 refine .an ?_
 refine aa.nil ?_
 exact ⟨so, mQ + 1, ⟨om, th⟩, om, Le.mk (.c (.cons (aq rfl bj) (.cons (aq rfl bj) (.nil)))) (.nil)⟩
 refine ah.exit (ah.sr ?_)
 refine .mv ?_
 refine .an ?_
 refine aa.nil (ah.ret ?_)
 exact ⟨_, _, rfl, rfl, by rw [hn, show mQ = l.length by omega, List.take_length]; rfl, rfl⟩
set_option maxRecDepth 4000 in
set_option maxHeartbeats 1000000 in
theorem mR {op width : Int} {a : List Int} (ha : a.length ≤ 5) : ak Try.prog 45 [.v (.int .i64 op), .fz 1 (a.map al), .v (.int .i64 width)] [] [] (fun r o => r = .v (.bool (decide (u0 op a width))) ∧ o = []) := by
 refine ak.of Try.func45 rfl rfl rfl (n := 34) ag (Nat.le_of_ble_eq_true rfl) (ah.sr ?_)
 refine .an ?_
 refine aa.nil (ah.sr ?_)
 refine .an ?_
 refine aa.nil ?_
 refine ah.iA (fun (sq : Nat) => ⟨[(0, .v (.int .i64 op)), (1, .fz 1 (a.map al)), (2, .v (.int .i64 width)), (7, .v (.int .i64 (sq : Int)))], []⟩) (fun (sq : Nat) => sq = if Unary op then 1 else 2) ?_ (fun sq th => ?_)
 refine ah.sr ?_
 refine .mv ?_
 refine aa.br yG (jx (w := op)) rfl (.au rfl rfl .nil) ag rfl (aa.nil ?_)
 refine ah.a9 rfl (fun c9 => ?_) (fun c9 => ?_)
 refine ah.region ?_
 refine .an ?_
 refine aa.nil ?_
 exact ⟨1, by rw [if_pos ik], Le.mk (.c (.c (.c (.cons (aq rfl bj) (.nil))))) (.nil)⟩
 refine ah.skip ?_
 exact ⟨2, by rw [if_neg ik], Le.mk (.c (.c (.c (.cons (aq rfl bj) (.nil))))) (.nil)⟩
 refine ah.iA (fun (u3 : Nat) => ⟨[(0, .v (.int .i64 op)), (1, .fz 1 (a.map al)), (2, .v (.int .i64 width)), (7, .v (.int .i64 (u3 : Int)))], []⟩) (fun (u3 : Nat) => Plain op → u3 = b5 op) ?_ (fun u3 GU => ?_)
 refine ah.sr ?_
 refine .mv ?_
 refine .vl (Y.qk rfl rfl) (aa.nil ?_)
 refine ah.a9 rfl (fun Db => ?_) (fun Db => ?_)
 refine ah.region ?_
 refine .an ?_
 refine aa.nil ?_
 exact ⟨3, fun h => by rw [oU h, if_pos ik]; rfl, Le.mk (.c (.c (.c (.cons (aq rfl bj) (.nil))))) (.nil)⟩
 refine ah.skip ?_
 exact ⟨sq, fun h => by rw [oU h, if_neg ik, th]; split <;> rfl, Le.mk (.c (.c (.c (.cons (aq rfl bj) (.nil))))) (.nil)⟩
 refine ah.sr ?_
 refine .mv ?_
 refine aa.br E9 (oD (w := op)) rfl (.au rfl rfl .nil) ag rfl ?_
 refine .mv ?_
 refine aa.aw (d := 14) rfl (fun qF => ?_) (fun qF => ?_)
 have Ov := GU qF
 refine .gw 14 (Y.zd rfl rfl) (.gw 14 (Y.qu (n := a.length) az rfl (congrArg some (List.length_map ..))) (.gw 14 (Y.zd rfl rfl) ?_))
 refine .gw 14 (Y.qk rfl rfl) ?_
 refine .pk ?_
 refine .mv ?_
 refine aa.aw (d := 20) rfl (fun Fu => ?_) (fun Fu => ?_)
 have um := sj (op := op) (k := a.length) (oT qF) om
 refine .gw 20 (Y.zd rfl rfl) (aa.aH (d := 20) rfl ag rfl ?_)
 refine aa.br HV (oJ (l := a) (om)) rfl (.au rfl rfl .nil) ag rfl ?_
 refine .pk ?_
 refine .mv ?_
 refine aa.aw (d := 24) rfl (fun Cx => ?_) (fun Cx => ?_)
 refine .gw 24 (Y.zd rfl rfl) (aa.aH (d := 24) rfl ag rfl (aa.br EA (oB (w := width)) rfl (.au rfl rfl .nil) ag rfl ?_))
 refine .pk ?_
 refine .mv ?_
 refine aa.aw (d := 28) rfl (fun qG => ?_) (fun qG => ?_)
 refine .gw 28 (Y.zd rfl rfl) (.gw 28 (Y.zd rfl rfl) (.gw 28 (Y.zd rfl rfl) ?_))
 refine aa.aH (d := 28) rfl ag rfl ?_
 refine aa.br HW (mH (op := op) (a := a) (w := width) om (fun _ => by omega) (fun _ => by omega) om) rfl (.au rfl rfl (.au rfl rfl (.au rfl rfl .nil))) ag rfl ?_
 refine .pk ?_
 refine .an ?_
 refine aa.nil (ah.ret ?_)
 exact .rb rfl (dd (zU qF om (by simpa using Cx) (by simpa using qG)))
 refine .gz 28 (.gz 28 (.gz 28 ?_))
 refine .gz 28 ?_
 refine .pk ?_
 refine .an ?_
 refine aa.nil (ah.ret ?_)
 exact .rb rfl (df (fun h => absurd h.2.2.1 (by simpa using qG)))
 refine .gz 24 (.gz 24 ?_)
 refine .pk ?_
 refine .mv ?_
 refine .gz 28 (.gz 28 (.gz 28 ?_))
 refine .gz 28 ?_
 refine .pk ?_
 refine .an ?_
 refine aa.nil (ah.ret ?_)
 exact .rb rfl (df (fun h => Cx (fun j hj => h.2.1 _ (getD_in hj))))
 refine .gz 20 (.gz 20 ?_)
 refine .pk ?_
 refine .mv ?_
 refine .gz 24 (.gz 24 ?_)
 refine .pk ?_
 refine .mv ?_
 refine .gz 28 (.gz 28 (.gz 28 ?_))
 refine .gz 28 ?_
 refine .pk ?_
 refine .an ?_
 refine aa.nil (ah.ret ?_)
 exact .rb rfl (df (fun h => by have := h.2.2.2.2.1; have Ov := GU h.1; omega))
 refine .gz 14 (.gz 14 (.gz 14 ?_))
 refine .gz 14 ?_
 refine .pk ?_
 refine .mv ?_
 refine .gz 20 (.gz 20 ?_)
 refine .pk ?_
 refine .mv ?_
 refine .gz 24 (.gz 24 ?_)
 refine .pk ?_
 refine .mv ?_
 refine .gz 28 (.gz 28 (.gz 28 ?_))
 refine .gz 28 ?_
 refine .pk ?_
 refine .an ?_
 refine aa.nil (ah.ret ?_)
 exact .rb rfl (df (fun h => absurd h.1 (by simpa using qF)))
set_option maxRecDepth 4000 in
set_option maxHeartbeats 1000000 in
theorem me  : ak Try.prog 30 [] [] [] (fun r o => r = .v (.bool true) ∧ o = []) := by
 refine ak.of Try.func30 rfl rfl rfl (n := 36) ag (Nat.zero_le _) (ah.sr ?_)
 refine .an ?_
 refine aa.nil (ah.sr ?_)
 refine aa.buildSlice (([1, 1] : List Int).map al) az fX rfl rfl rfl rfl rfl (aD (s := 1) (f := al) (fun _ => rfl)) rfl rfl rfl ag ?_
 refine aa.sh (Sh.c1 (d := 5) (([1, 1] : List Int).map al) rfl jV (du.map cv)) (aa.p5 EK (sm (op := 11) (ws := ([1, 1] : List Int)) (width := 1) ag) rfl (.au rfl rfl (.au rfl rfl (.au rfl rfl .nil))) ag ?_)
 rintro _ ⟨l6, Gp, e6, Ow, rfl, _⟩
 refine ⟨rfl, ?_⟩
 refine aa.nX rfl ag (aa.jW rfl rfl ag (aa.jW rfl rfl ag ?_))
 refine .vl (Y.qm rfl rfl rfl) (aa.bx rfl ag (aa.sh (Sh.c1 (d := 1) (l6.map Gate.row) rfl jV (du.map Gate.cD)) ?_))
 refine aa.bx rfl ag (aa.sh (Sh.c1 (d := 2) (Gp.map al) rfl jV (du.map cv)) ?_)
 refine .an ?_
 refine aa.nil (ah.seq ?_)
 have hw := xO Ow; have LI := hw.2.2.1; have sv := hw.2.2.2.2
 refine ah.region ?_
 refine .mv ?_
 refine .vl (Y.qk rfl rfl) ?_
 refine .mv ?_
 refine aa.aw (d := 12) rfl (fun uk => ?_) (fun uk => ?_)
 refine .gw 12 (Y.zd rfl rfl) (.gw 12 (Y.qu (n := Gp.length) az rfl (congrArg some (List.length_map ..))) (.gw 12 (Y.qk rfl rfl) ?_))
 refine .pk ?_
 refine .mv ?_
 refine aa.aw (d := 17) rfl (fun GK => ?_) (fun GK => ?_)
 refine .gw 17 (Y.zd rfl rfl) ?_
 refine .gw 17 (Y.qq (m := 0) az rfl rfl bj (ao (d := 0) om)) ?_
 refine .gw 17 (Y.qx bw rfl rfl rfl rfl) (.gw 17 (Y.qo rfl rfl) ?_)
 refine .pk ?_
 refine .mv ?_
 refine aa.aw (d := 23) rfl (fun AJ => ?_) (fun AJ => ?_)
 refine .gw 23 (Y.zd rfl rfl) ?_
 refine .gw 23 (Y.qq (m := 0) az rfl rfl bj (ao (d := 0) om)) ?_
 refine .gw 23 (Y.qx bw rfl rfl rfl rfl) (.gw 23 (Y.zd rfl rfl) (.gw 23 (Y.qu (n := l6.length) uK rfl (congrArg some (List.length_map ..))) ?_))
 refine .gw 23 (Y.qz rfl rfl) ?_
 refine .pk ?_
 refine .mv ?_
 refine aa.aw (d := 31) rfl (fun LJ => ?_) (fun LJ => ?_)
 refine .gw 31 (Y.zd rfl rfl) (aa.aH (d := 31) rfl ag rfl ?_)
 refine aa.br Ia (vf (l := l6) (om)) rfl (.au rfl rfl .nil) ag rfl ?_
 refine .gw 31 (Y.qk rfl rfl) ?_
 refine .pk ?_
 refine .an ?_
 refine aa.nil (ah.ret ?_)
 exact .rb rfl (decide_eq_true (by rw [hw.2.2.2.1]; rfl))
 exact absurd LI.2 LJ
 exact absurd LI.1 AJ
 exact absurd (by rw [hw.2.1]; rfl) GK
 exact absurd hw.1 uk
set_option maxRecDepth 4000 in
set_option maxHeartbeats 1000000 in
theorem mh {op width : Int} {ws : List Int} (Fa : ws.length ≤ 17592186044416) : ak Try.prog 9 [.v (.int .i64 op), .fz 1 (ws.map al), .v (.int .i64 width)] [] [] (fun r o => r = .v (.bool true) ∧ o = []) := by
 refine ak.of Try.func9 rfl rfl rfl (n := 40) ag (Nat.le_of_ble_eq_true rfl) (ah.sr ?_)
 refine .an ?_
 refine aa.nil (ah.seq (ah.sr ?_))
 refine aa.br EJ (me) rfl .nil ag rfl (.vl (Y.zi rfl) ?_)
 refine .mv ?_
 refine .gw 12 (Y.zd rfl rfl) (.gw 12 (Y.qu (n := ws.length) az rfl (congrArg some (List.length_map ..))) (.gw 12 (Y.qp rfl rfl) ?_))
 refine .pk ?_
 refine aa.nil ?_
 refine ah.a9 rfl (fun rO => ?_) (fun rO => ?_)
 refine ah.sr (aa.br EJ (me) rfl .nil ag rfl ?_)
 refine .an ?_
 refine aa.nil (ah.ret ?_)
 exact .rb rfl (rfl)
 refine ah.skip (ah.sr ?_)
 refine .mv ?_
 refine .mv ?_
 refine .mv ?_
 refine aa.p5 EK (sm (op := op) (ws := ws) (width := width) om) rfl (.au rfl rfl (.au rfl rfl (.au rfl rfl .nil))) ag ?_
 rintro _ ⟨Ox, Gq, PA, CM, rfl, _⟩
 refine ⟨rfl, ?_⟩
 refine aa.nX rfl ag (aa.jW rfl rfl ag (aa.jW rfl rfl ag ?_))
 refine .vl (Y.qm rfl rfl rfl) (aa.bx rfl ag (aa.sh (Sh.c1 (d := 7) (Ox.map Gate.row) rfl jV (du.map Gate.cD)) ?_))
 refine aa.bx rfl ag (aa.sh (Sh.c1 (d := 8) (Gq.map al) rfl jV (du.map cv)) ?_)
 refine .an ?_
 refine aa.nil (ah.seq (ah.sr ?_))
 refine .mv ?_
 refine aa.br E9 (oD (w := op)) rfl (.au rfl rfl .nil) ag rfl (.vl (Y.zi rfl) (aa.nil ?_))
 refine ah.cond rfl (fun qG => ?_) (fun qG => ?_)
 replace qG : ¬ (Plain op) := by simpa using qG
 refine ah.sr ?_
 refine .mv ?_
 refine .vl (Y.qk rfl rfl) ?_
 refine .an ?_
 refine aa.nil (ah.ret ?_)
 exact .rb rfl (decide_eq_true (CM.e1 (by simpa using qG)))
 replace qG : Plain op := by simpa using qG
 refine ah.skip (ah.seq (ah.sr ?_))
 refine .mv ?_
 refine .mv ?_
 refine .mv ?_
 refine aa.br Ib (mR (op := op) (a := ws) (width := width) om) rfl (.au rfl rfl (.au rfl rfl (.au rfl rfl .nil))) ag rfl (.vl (Y.zi rfl) (aa.nil ?_))
 refine ah.cond rfl (fun nv => ?_) (fun nv => ?_)
 replace nv : ¬ (u0 op ws width) := by simpa using nv
 refine ah.sr ?_
 refine .mv ?_
 refine .vl (Y.qk rfl rfl) ?_
 refine .an ?_
 refine aa.nil (ah.ret ?_)
 exact .rb rfl (decide_eq_true (CM.Ou (by simpa using qG) (fun h => nv ⟨by simpa using qG, h⟩)))
 replace nv : u0 op ws width := by simpa using nv
 refine ah.skip (ah.sr ?_)
 refine .mv ?_
 refine .vl (Y.qk rfl rfl) ?_
 refine .an ?_
 refine aa.nil (ah.ret ?_)
 exact .rb rfl (decide_eq_true (CM.e0 (by simpa using qG) nv.2))
end Go.Proofs.Ytlimckldnjmabaa
