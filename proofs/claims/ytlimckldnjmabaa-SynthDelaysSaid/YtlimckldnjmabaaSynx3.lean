/- The walk of operator. -/
import Derived.Test.YtlimckldnjmabaaSynx2
import Derived.Test.YtlimckldnjmabaaSynx0
import Derived.Test.YtlimckldnjmabaaSynx1
import Derived.Test.YtlimckldnjmabaaAWx2
set_option linter.unusedSimpArgs false
set_option linter.unusedVariables false
set_option linter.unusedSectionVars false
set_option maxRecDepth 4000
set_option maxHeartbeats 8000000
namespace Go.Proofs.Ytlimckldnjmabaa
open Go Go.AW Go.Proofs
set_option maxRecDepth 4000 in
set_option maxHeartbeats 1000000 in
theorem pV {c : Int} {gl : List Gate} (hg : Good gl) (ox : gl.length ≤ 20000000) {op : Int} {ws : List (List Int)} {w width : Nat} {xN yN zN : List Bool → Nat} {t : Int} (hI : DU c gl ws op w width xN yN zN t) (tf : ws.length ≤ 100) : al Try.prog 79 [.ptr 0 0 0 0, .v (.int .i64 op), .fz 1 (ws.map gY), .v (.int .i64 (width : Int))] [.cells [.aY 1 3 0 gl.length], .rows 3 (gl.map Gate.row)] [0] (fun r o => ∃ (l : List Gate) (out : List Int), Ext gl l ∧ l.length ≤ gl.length + 1600 ∧ wm c l out op w width xN yN zN t ∧ r = .di 1 (out.map aq) ∧ o = [.cells [.aY 1 3 0 l.length], .rows 3 (l.map Gate.row)]) := by
 refine al.of Try.func79 rfl rfl rfl (n := 149) ah (Nat.le_of_ble_eq_true rfl) ?_
 have hX := hI.x; have mi := hI.ok; have It := hI.hw; have He := hI.hd; have QY := hX.len
 refine ae.sr ?_
 refine .an ?_
 refine aa.nil (ae.sr ?_)
 refine .mv ?_
 refine .vl (Y.qr (m := 0) iC rfl rfl bg (aw (d := []) aC)) ?_
 refine .ld cZ ?_
 refine .an ?_
 refine aa.nil (ae.sr ?_)
 refine .an ?_
 refine aa.nil ?_
 refine ae.jw (fun (cI : List Int) => ⟨[(0, .ptr 0 0 0 0), (1, .v (.int .i64 op)), (2, .fz 1 (ws.map gY)), (3, .v (.int .i64 (width : Int))), (9, .fz 1 ((ws.getD 0 []).map aq)), (10, .fz 1 (cI.map aq))], [(0, .cells [.aY 1 3 0 gl.length]), (1, .rows 3 (gl.map Gate.row))]⟩) (fun (cI : List Int) => 1 < ws.length → cI = ws.getD 1 []) ?_ (fun cI Na => ?_)
 refine ae.seq (ae.sh (Sh.IQ (d := 10) 1 rfl) (ae.region ?_))
 refine .mv ?_
 refine .vl (Y.qw (n := ws.length) iC rfl (congrArg some (List.length_map ..))) (.vl (Y.qq rfl rfl) (aa.nil ?_))
 refine ae.ay rfl (fun r5 => ?_) (fun r5 => ?_)
 refine ae.region ?_
 refine .mv ?_
 refine .vl (Y.qr (m := 1) iC rfl rfl bg (aw (d := []) om)) ?_
 refine .ld cZ ?_
 refine .an ?_
 refine aa.nil ?_
 exact ⟨ws.getD 1 [], fun _ => rfl, Le.mk (.c (.c (.c (.c (.c (.c (.nil))))))) (.c (.c (.nil)))⟩
 refine ae.skip ?_
 exact ⟨([] : List Int), fun h => absurd h om, Le.mk (.c (.c (.c (.c (.c (.c (.nil))))))) (.c (.c (.nil)))⟩
 refine ae.seq (ae.sr ?_)
 refine .mv ?_
 refine aa.nil (ae.block (ae.seq ?_))
 have mn : op < 21 → Wk c gl cI w yN t := fun h => (by rw [Na om]; have := hI.y om; rwa [if_neg om] at this)
 have QZ : op < 21 → cI.length = w := fun h => (mn h).len
 refine ae.region (.vl (Y.qk rfl rfl) ?_)
 refine .an ?_
 refine aa.nil ?_
 refine ae.ay rfl (fun zG => ?_) (fun zG => ?_)
 refine ae.sr ?_
 refine .mv ?_
 refine .mv ?_
 refine .mv ?_
 refine aa.bm [0, 1] [] Gs (yz (gl := gl) (a := ws.getD 0 []) (b := cI) hg om hX.wd (mn om).wd hI.hw hI.t0) rfl (.named rfl rfl (.ao rfl rfl (.ao rfl rfl .nil))) ⟨rfl, rfl, trivial⟩ rfl ah (fun _ h => by cases h) (fun _ h => by cases h) ah ah ?_
 rintro r aD ⟨Rf, Nb, Lo, Nc, Lp, rfl, rfl⟩ _
 refine ⟨⟨rfl, (by intro ob aP; simp only [List.mem_cons, List.not_mem_nil, or_false] at aP; rcases aP with rfl | rfl <;> rfl), .inl rfl⟩, ?_⟩
 refine aa.bh rfl ah (aa.nil (ae.ret ?_))
 exact ⟨_, _, rfl, rfl, _, _, Lo, by have := hX.len; omega, Bl Lp om om, rfl, rfl⟩
 refine ae.sr (.vl (Y.qk rfl rfl) ?_)
 refine .an ?_
 refine aa.nil ?_
 refine ae.ay rfl (fun nq => ?_) (fun nq => ?_)
 refine ae.sr ?_
 refine .mv ?_
 refine .mv ?_
 refine .mv ?_
 refine aa.bm [0, 1] [] Gt (y0 (gl := gl) (a := ws.getD 0 []) (b := cI) hg om hX.wd (mn om).wd hI.hw hI.t0) rfl (.named rfl rfl (.ao rfl rfl (.ao rfl rfl .nil))) ⟨rfl, rfl, trivial⟩ rfl ah (fun _ h => by cases h) (fun _ h => by cases h) ah ah ?_
 rintro r aD ⟨Rg, Nd, Lq, Nf, Lr, rfl, rfl⟩ _
 refine ⟨⟨rfl, (by intro ob aP; simp only [List.mem_cons, List.not_mem_nil, or_false] at aP; rcases aP with rfl | rfl <;> rfl), .inl rfl⟩, ?_⟩
 refine aa.bh rfl ah (aa.nil (ae.ret ?_))
 exact ⟨_, _, rfl, rfl, _, _, Lq, by have := hX.len; omega, Bm Lr om om, rfl, rfl⟩
 refine ae.sr (.vl (Y.qk rfl rfl) ?_)
 refine .an ?_
 refine aa.nil ?_
 refine ae.ay rfl (fun Io => ?_) (fun Io => ?_)
 refine ae.sr ?_
 refine .mv ?_
 refine .mv ?_
 refine .mv ?_
 refine aa.bm [0, 1] [] xJ (nv (gl := gl) (k := 5) (a := ws.getD 0 []) (b := cI) (f := fun k ins => (xN ins).testBit k) (h := fun k ins => (yN ins).testBit k) (e := fun i ins => (if (5 : Int) = 5 then xN ins &&& yN ins else if (5 : Int) = 6 then xN ins ||| yN ins else xN ins ^^^ yN ins).testBit i) (t := t) (u := t + 20) hg om ah hX.ws (mn om).ws (by have := hX.len; have := (mn om).len; omega) (by have := hX.len; omega) (Int.le_refl _) (fun i ins => by simp)) rfl (.named rfl rfl (.ao rfl rfl (.ao rfl rfl (.ao rfl rfl .nil)))) ⟨rfl, rfl, trivial⟩ rfl ah (fun _ h => by cases h) (fun _ h => by cases h) ah ah ?_
 rintro r aD ⟨Rh, Ng, Ls, Nh, Ni, Lt, rfl, rfl⟩ _
 refine ⟨⟨rfl, (by intro ob aP; simp only [List.mem_cons, List.not_mem_nil, or_false] at aP; rcases aP with rfl | rfl <;> rfl), .inl rfl⟩, ?_⟩
 refine aa.bh rfl ah (aa.nil (ae.ret ?_))
 exact ⟨_, _, rfl, rfl, _, _, Ls, by have := hX.len; omega, rG Lt (by have := hX.len; omega) hX.lt (mn om).lt om om, rfl, rfl⟩
 refine ae.sr (.vl (Y.qk rfl rfl) ?_)
 refine .an ?_
 refine aa.nil ?_
 refine ae.ay rfl (fun Hf => ?_) (fun Hf => ?_)
 refine ae.sr ?_
 refine .mv ?_
 refine .mv ?_
 refine .mv ?_
 refine aa.bm [0, 1] [] xJ (nv (gl := gl) (k := 6) (a := ws.getD 0 []) (b := cI) (f := fun k ins => (xN ins).testBit k) (h := fun k ins => (yN ins).testBit k) (e := fun i ins => (if (6 : Int) = 5 then xN ins &&& yN ins else if (6 : Int) = 6 then xN ins ||| yN ins else xN ins ^^^ yN ins).testBit i) (t := t) (u := t + 20) hg om ah hX.ws (mn om).ws (by have := hX.len; have := (mn om).len; omega) (by have := hX.len; omega) (Int.le_refl _) (fun i ins => by simp)) rfl (.named rfl rfl (.ao rfl rfl (.ao rfl rfl (.ao rfl rfl .nil)))) ⟨rfl, rfl, trivial⟩ rfl ah (fun _ h => by cases h) (fun _ h => by cases h) ah ah ?_
 rintro r aD ⟨Py, Ho, DL, Hp, Hq, DM, rfl, rfl⟩ _
 refine ⟨⟨rfl, (by intro ob aP; simp only [List.mem_cons, List.not_mem_nil, or_false] at aP; rcases aP with rfl | rfl <;> rfl), .inl rfl⟩, ?_⟩
 refine aa.bh rfl ah (aa.nil (ae.ret ?_))
 exact ⟨_, _, rfl, rfl, _, _, DL, by have := hX.len; omega, rG DM (by have := hX.len; omega) hX.lt (mn om).lt om om, rfl, rfl⟩
 refine ae.sr (.vl (Y.qk rfl rfl) ?_)
 refine .an ?_
 refine aa.nil ?_
 refine ae.ay rfl (fun ug => ?_) (fun ug => ?_)
 refine ae.sr ?_
 refine .mv ?_
 refine .mv ?_
 refine .mv ?_
 refine aa.bm [0, 1] [] xJ (nv (gl := gl) (k := 7) (a := ws.getD 0 []) (b := cI) (f := fun k ins => (xN ins).testBit k) (h := fun k ins => (yN ins).testBit k) (e := fun i ins => (if (7 : Int) = 5 then xN ins &&& yN ins else if (7 : Int) = 6 then xN ins ||| yN ins else xN ins ^^^ yN ins).testBit i) (t := t) (u := t + 20) hg om ah hX.ws (mn om).ws (by have := hX.len; have := (mn om).len; omega) (by have := hX.len; omega) (Int.le_refl _) (fun i ins => by simp)) rfl (.named rfl rfl (.ao rfl rfl (.ao rfl rfl (.ao rfl rfl .nil)))) ⟨rfl, rfl, trivial⟩ rfl ah (fun _ h => by cases h) (fun _ h => by cases h) ah ah ?_
 rintro r aD ⟨Ri, Nj, Lu, Nk, Nl, Lv, rfl, rfl⟩ _
 refine ⟨⟨rfl, (by intro ob aP; simp only [List.mem_cons, List.not_mem_nil, or_false] at aP; rcases aP with rfl | rfl <;> rfl), .inl rfl⟩, ?_⟩
 refine aa.bh rfl ah (aa.nil (ae.ret ?_))
 exact ⟨_, _, rfl, rfl, _, _, Lu, by have := hX.len; omega, rG Lv (by have := hX.len; omega) hX.lt (mn om).lt om om, rfl, rfl⟩
 refine ae.sr (.vl (Y.qk rfl rfl) ?_)
 refine .an ?_
 refine aa.nil ?_
 refine ae.ay rfl (fun Cr => ?_) (fun Cr => ?_)
 refine ae.sr ?_
 refine .mv ?_
 refine .mv ?_
 refine .mv ?_
 refine aa.bm [0, 1] [] xK (mb (gl := gl) (left := true) (ar := false) (a := ws.getD 0 []) (b := cI) hg om ah hX.wd (mn om).wd hI.hw hI.t0) rfl (.named rfl rfl (.ao rfl rfl (.ao rfl rfl (.ao rfl rfl (.ao rfl rfl .nil))))) ⟨rfl, rfl, trivial⟩ rfl ah (fun _ h => by cases h) (fun _ h => by cases h) ah ah ?_
 rintro r aD ⟨Rj, Nm, Lw, Nn, Lx, rfl, rfl⟩ _
 refine ⟨⟨rfl, (by intro ob aP; simp only [List.mem_cons, List.not_mem_nil, or_false] at aP; rcases aP with rfl | rfl <;> rfl), .inl rfl⟩, ?_⟩
 refine aa.bh rfl ah (aa.nil (ae.ret ?_))
 exact ⟨_, _, rfl, rfl, _, _, Lw, by have := hX.len; omega, u0 Lx (mn om).lt (by simp; omega) om, rfl, rfl⟩
 refine ae.sr (.vl (Y.qk rfl rfl) ?_)
 refine .an ?_
 refine aa.nil ?_
 refine ae.ay rfl (fun Ly => ?_) (fun Ly => ?_)
 refine ae.sr ?_
 refine .mv ?_
 refine .mv ?_
 refine .mv ?_
 refine aa.bm [0, 1] [] xK (mb (gl := gl) (left := false) (ar := false) (a := ws.getD 0 []) (b := cI) hg om ah hX.wd (mn om).wd hI.hw hI.t0) rfl (.named rfl rfl (.ao rfl rfl (.ao rfl rfl (.ao rfl rfl (.ao rfl rfl .nil))))) ⟨rfl, rfl, trivial⟩ rfl ah (fun _ h => by cases h) (fun _ h => by cases h) ah ah ?_
 rintro r aD ⟨Rl, No, Lz, Np, L0, rfl, rfl⟩ _
 refine ⟨⟨rfl, (by intro ob aP; simp only [List.mem_cons, List.not_mem_nil, or_false] at aP; rcases aP with rfl | rfl <;> rfl), .inl rfl⟩, ?_⟩
 refine aa.bh rfl ah (aa.nil (ae.ret ?_))
 exact ⟨_, _, rfl, rfl, _, _, Lz, by have := hX.len; omega, u0 L0 (mn om).lt (by simp; omega) om, rfl, rfl⟩
 refine ae.sr (.vl (Y.qk rfl rfl) ?_)
 refine .an ?_
 refine aa.nil ?_
 refine ae.ay rfl (fun HC => ?_) (fun HC => ?_)
 refine ae.sr ?_
 refine .mv ?_
 refine .mv ?_
 refine .mv ?_
 refine aa.bm [0, 1] [] xK (mb (gl := gl) (left := false) (ar := true) (a := ws.getD 0 []) (b := cI) hg om ah hX.wd (mn om).wd hI.hw hI.t0) rfl (.named rfl rfl (.ao rfl rfl (.ao rfl rfl (.ao rfl rfl (.ao rfl rfl .nil))))) ⟨rfl, rfl, trivial⟩ rfl ah (fun _ h => by cases h) (fun _ h => by cases h) ah ah ?_
 rintro r aD ⟨Rm, Nq, L1, Nr, L2, rfl, rfl⟩ _
 refine ⟨⟨rfl, (by intro ob aP; simp only [List.mem_cons, List.not_mem_nil, or_false] at aP; rcases aP with rfl | rfl <;> rfl), .inl rfl⟩, ?_⟩
 refine aa.bh rfl ah (aa.nil (ae.ret ?_))
 exact ⟨_, _, rfl, rfl, _, _, L1, by have := hX.len; omega, u0 L2 (mn om).lt (by simp; omega) om, rfl, rfl⟩
 refine ae.sr (.vl (Y.qk rfl rfl) ?_)
 refine .an ?_
 refine aa.nil ?_
 refine ae.ay rfl (fun Ka => ?_) (fun Ka => ?_)
 refine ae.sr ?_
 refine .mv ?_
 refine .mv ?_
 refine .mv ?_
 refine .mv ?_
 refine aa.bm [0, 1] [] BY (nS (gl := gl) (a := ws.getD 0 []) (b := cI) hg om hX.wd (mn om).wd hI.hw hI.t0) rfl (.named rfl rfl (.ao rfl rfl (.ao rfl rfl .nil))) ⟨rfl, rfl, trivial⟩ rfl ah (fun _ h => by cases h) (fun _ h => by cases h) ah ah ?_
 rintro r aD ⟨Ns, PM, HD, Nt, HE, rfl, rfl⟩ _
 refine ⟨⟨rfl, (by intro ob aP; simp only [List.mem_cons, List.not_mem_nil, or_false] at aP; rcases aP with rfl | rfl <;> rfl), .inl rfl⟩, ?_⟩
 refine aa.bm [0, 1] [] rp (fV (gl := Ns) (a := PM) om) rfl (.named rfl rfl (.ao rfl rfl .nil)) ⟨rfl, rfl, trivial⟩ rfl ah (fun _ h => by cases h) (fun _ h => by cases h) ah ah ?_
 rintro r aD ⟨rfl, rfl⟩ _
 refine ⟨⟨rfl, (by intro ob aP; simp only [List.mem_cons, List.not_mem_nil, or_false] at aP; rcases aP with rfl | rfl <;> rfl), .inl rfl⟩, ?_⟩
 refine aa.buildSlice (([(Ns.length : Int)] : List Int).map aq) a8 fv rfl rfl rfl rfl rfl (a9 (s := 1) (f := aq) (fun _ => rfl)) rfl rfl rfl ah ?_
 refine aa.bh rfl ah (aa.nil (ae.ret ?_))
 exact ⟨_, _, rfl, rfl, _, _, HD.trans (Ext.not HD.dC HE), by rw [List.length_append, List.length_singleton]; omega, DW (HE.not om) hX.lt (mn om).lt om om, rfl, rfl⟩
 refine ae.sr (.vl (Y.qk rfl rfl) ?_)
 refine .an ?_
 refine aa.nil ?_
 refine ae.ay rfl (fun E9 => ?_) (fun E9 => ?_)
 refine ae.sr ?_
 refine .mv ?_
 refine .mv ?_
 refine .mv ?_
 refine aa.bm [0, 1] [] BY (nS (gl := gl) (a := ws.getD 0 []) (b := cI) hg om hX.wd (mn om).wd hI.hw hI.t0) rfl (.named rfl rfl (.ao rfl rfl (.ao rfl rfl .nil))) ⟨rfl, rfl, trivial⟩ rfl ah (fun _ h => by cases h) (fun _ h => by cases h) ah ah ?_
 rintro r aD ⟨Rn, PN, L3, Nu, L4, rfl, rfl⟩ _
 refine ⟨⟨rfl, (by intro ob aP; simp only [List.mem_cons, List.not_mem_nil, or_false] at aP; rcases aP with rfl | rfl <;> rfl), .inl rfl⟩, ?_⟩
 refine aa.buildSlice (([PN] : List Int).map aq) a8 fv rfl rfl rfl rfl rfl (a9 (s := 1) (f := aq) (fun _ => rfl)) rfl rfl rfl ah ?_
 refine aa.bh rfl ah (aa.nil (ae.ret ?_))
 exact ⟨_, _, rfl, rfl, _, _, L3, om, DV L4 hX.lt (mn om).lt om om, rfl, rfl⟩
 refine ae.seq (ae.sr (.vl (Y.qk rfl rfl) ?_))
 refine .an ?_
 refine aa.nil ?_
 refine ae.aU rfl (fun kH => ?_) (fun kH => ?_)
 refine ae.skip (ae.aE rfl (ae.sr ?_))
 refine .mv ?_
 refine .mv ?_
 refine .mv ?_
 refine .mv ?_
 refine .vl (Y.qk rfl rfl) ?_
 refine aa.bm [0, 1] [] uW (la (gl := gl) (s := decide (op = 19)) (a := ws.getD 0 []) (b := cI) hg om hX.wd (mn om).wd hI.hw hI.t0) rfl (.named rfl rfl (.ao rfl rfl (.ao rfl rfl (.ao rfl rfl .nil)))) ⟨rfl, rfl, trivial⟩ rfl ah (fun _ h => by cases h) (fun _ h => by cases h) ah ah ?_
 rintro r aD ⟨PO, L5, DX, HF, DY, rfl, rfl⟩ _
 refine ⟨⟨rfl, (by intro ob aP; simp only [List.mem_cons, List.not_mem_nil, or_false] at aP; rcases aP with rfl | rfl <;> rfl), .inl rfl⟩, ?_⟩
 refine aa.buildSlice (([L5] : List Int).map aq) a8 fv rfl rfl rfl rfl rfl (a9 (s := 1) (f := aq) (fun _ => rfl)) rfl rfl rfl ah ?_
 refine aa.bh rfl ah (aa.nil (ae.ret ?_))
 exact ⟨_, _, rfl, rfl, _, _, DX, om, yM DY hX.lt (mn om).lt (by simp; omega) om, rfl, rfl⟩
 refine ae.region (.vl (Y.qk rfl rfl) ?_)
 refine .an ?_
 refine aa.nil ?_
 refine ae.aU rfl (fun kH => ?_) (fun kH => ?_)
 refine ae.sr ?_
 refine .mv ?_
 refine .mv ?_
 refine .mv ?_
 refine .mv ?_
 refine .vl (Y.qk rfl rfl) ?_
 refine aa.bm [0, 1] [] uW (la (gl := gl) (s := decide (op = 19)) (a := ws.getD 0 []) (b := cI) hg om hX.wd (mn om).wd hI.hw hI.t0) rfl (.named rfl rfl (.ao rfl rfl (.ao rfl rfl (.ao rfl rfl .nil)))) ⟨rfl, rfl, trivial⟩ rfl ah (fun _ h => by cases h) (fun _ h => by cases h) ah ah ?_
 rintro r aD ⟨PO, L5, DX, HF, DY, rfl, rfl⟩ _
 refine ⟨⟨rfl, (by intro ob aP; simp only [List.mem_cons, List.not_mem_nil, or_false] at aP; rcases aP with rfl | rfl <;> rfl), .inl rfl⟩, ?_⟩
 refine aa.buildSlice (([L5] : List Int).map aq) a8 fv rfl rfl rfl rfl rfl (a9 (s := 1) (f := aq) (fun _ => rfl)) rfl rfl rfl ah ?_
 refine aa.bh rfl ah (aa.nil (ae.ret ?_))
 exact ⟨_, _, rfl, rfl, _, _, DX, om, yM DY hX.lt (mn om).lt (by simp; omega) om, rfl, rfl⟩
 refine ae.seq (ae.sr (.vl (Y.qk rfl rfl) ?_))
 refine .an ?_
 refine aa.nil ?_
 refine ae.aU rfl (fun kI => ?_) (fun kI => ?_)
 refine ae.skip (ae.aE rfl (ae.sr ?_))
 refine .mv ?_
 refine .mv ?_
 refine .mv ?_
 refine .mv ?_
 refine .mv ?_
 refine .vl (Y.qk rfl rfl) ?_
 refine aa.bm [0, 1] [] uW (la (gl := gl) (s := decide (op = 20)) (a := cI) (b := ws.getD 0 []) hg om (mn om).wd hX.wd hI.hw hI.t0) rfl (.named rfl rfl (.ao rfl rfl (.ao rfl rfl (.ao rfl rfl .nil)))) ⟨rfl, rfl, trivial⟩ rfl ah (fun _ h => by cases h) (fun _ h => by cases h) ah ah ?_
 rintro r aD ⟨yP, DZ, sQ, Ea, sR, rfl, rfl⟩ _
 refine ⟨⟨rfl, (by intro ob aP; simp only [List.mem_cons, List.not_mem_nil, or_false] at aP; rcases aP with rfl | rfl <;> rfl), .inl rfl⟩, ?_⟩
 refine aa.bm [0, 1] [] rp (fV (gl := yP) (a := DZ) om) rfl (.named rfl rfl (.ao rfl rfl .nil)) ⟨rfl, rfl, trivial⟩ rfl ah (fun _ h => by cases h) (fun _ h => by cases h) ah ah ?_
 rintro r aD ⟨rfl, rfl⟩ _
 refine ⟨⟨rfl, (by intro ob aP; simp only [List.mem_cons, List.not_mem_nil, or_false] at aP; rcases aP with rfl | rfl <;> rfl), .inl rfl⟩, ?_⟩
 refine aa.buildSlice (([(yP.length : Int)] : List Int).map aq) a8 fv rfl rfl rfl rfl rfl (a9 (s := 1) (f := aq) (fun _ => rfl)) rfl rfl rfl ah ?_
 refine aa.bh rfl ah (aa.nil (ae.ret ?_))
 exact ⟨_, _, rfl, rfl, _, _, sQ.trans (Ext.not sQ.dC sR), by rw [List.length_append, List.length_singleton]; omega, yO (sR.not om) hX.lt (mn om).lt (by simp; omega) om, rfl, rfl⟩
 refine ae.region (.vl (Y.qk rfl rfl) ?_)
 refine .an ?_
 refine aa.nil ?_
 refine ae.aU rfl (fun kI => ?_) (fun kI => ?_)
 refine ae.sr ?_
 refine .mv ?_
 refine .mv ?_
 refine .mv ?_
 refine .mv ?_
 refine .mv ?_
 refine .vl (Y.qk rfl rfl) ?_
 refine aa.bm [0, 1] [] uW (la (gl := gl) (s := decide (op = 20)) (a := cI) (b := ws.getD 0 []) hg om (mn om).wd hX.wd hI.hw hI.t0) rfl (.named rfl rfl (.ao rfl rfl (.ao rfl rfl (.ao rfl rfl .nil)))) ⟨rfl, rfl, trivial⟩ rfl ah (fun _ h => by cases h) (fun _ h => by cases h) ah ah ?_
 rintro r aD ⟨yP, DZ, sQ, Ea, sR, rfl, rfl⟩ _
 refine ⟨⟨rfl, (by intro ob aP; simp only [List.mem_cons, List.not_mem_nil, or_false] at aP; rcases aP with rfl | rfl <;> rfl), .inl rfl⟩, ?_⟩
 refine aa.bm [0, 1] [] rp (fV (gl := yP) (a := DZ) om) rfl (.named rfl rfl (.ao rfl rfl .nil)) ⟨rfl, rfl, trivial⟩ rfl ah (fun _ h => by cases h) (fun _ h => by cases h) ah ah ?_
 rintro r aD ⟨rfl, rfl⟩ _
 refine ⟨⟨rfl, (by intro ob aP; simp only [List.mem_cons, List.not_mem_nil, or_false] at aP; rcases aP with rfl | rfl <;> rfl), .inl rfl⟩, ?_⟩
 refine aa.buildSlice (([(yP.length : Int)] : List Int).map aq) a8 fv rfl rfl rfl rfl rfl (a9 (s := 1) (f := aq) (fun _ => rfl)) rfl rfl rfl ah ?_
 refine aa.bh rfl ah (aa.nil (ae.ret ?_))
 exact ⟨_, _, rfl, rfl, _, _, sQ.trans (Ext.not sQ.dC sR), by rw [List.length_append, List.length_singleton]; omega, yO (sR.not om) hX.lt (mn om).lt (by simp; omega) om, rfl, rfl⟩
 refine ae.sr (.vl (Y.qk rfl rfl) ?_)
 refine .an ?_
 refine aa.nil ?_
 refine ae.ay rfl (fun yo => ?_) (fun yo => ?_)
 refine ae.seq ?_
 have L6 : Wk c gl cI width yN t := (by rw [Na om]; have := hI.y om; rwa [if_pos om] at this)
 have L7 := hI.z om; have PQ := L6.len; have PR := L7.len; have L8 := hX.bit 0 om; have eN := Ext.not hg L8; have nN := L8.not (u := t + 10) (Int.le_refl _)
 refine ae.region ?_
 refine .mv ?_
 refine .mv ?_
 refine .vl (Y.qr (m := 0) a8 rfl rfl bg (aw (d := 0) om)) ?_
 refine .ld aZ ?_
 refine aa.bm [0, 1] [] rp (fV (gl := gl) (a := (ws.getD 0 []).getD 0 0) om) rfl (.named rfl rfl (.ao rfl rfl .nil)) ⟨rfl, rfl, trivial⟩ rfl ah (fun _ h => by cases h) (fun _ h => by cases h) ah ah ?_
 rintro r aD ⟨rfl, rfl⟩ _
 refine ⟨⟨rfl, (by intro ob aP; simp only [List.mem_cons, List.not_mem_nil, or_false] at aP; rcases aP with rfl | rfl <;> rfl), .inl rfl⟩, ?_⟩
 refine .an ?_
 refine aa.nil (ae.sr ?_)
 refine .an ?_
 refine aa.sh (Sh.nil (d := 12) 112 1 rfl ah) (aa.nil (ae.seq ?_))
 refine ae.sr ?_
 refine .mv ?_
 refine .vl (Y.qw (n := cI.length) a8 rfl (congrArg some (List.length_map ..))) ?_
 refine .mv ?_
 refine aa.nil (ae.block ?_)
 refine ae.eW (fun (dZ : Nat) (gS : List Gate) (fX : List Int) => ⟨[(0, .ptr 0 0 0 0), (2, .fz 1 (ws.map gY)), (9, .fz 1 ((ws.getD 0 []).map aq)), (10, .fz 1 (cI.map aq)), (11, .v (.int .i64 (gl.length : Int))), (12, .aY 112 1 0 fX.length), (118, .v (.int .i64 (cI.length : Int))), (119, .v (.int .i64 (dZ : Int)))], [(0, .cells [.aY 1 3 0 gS.length]), (1, .rows 3 (gS.map Gate.row)), (112, .rows 1 (fX.map aq))]⟩) (fun (dZ : Nat) (gS : List Gate) (fX : List Int) => ((dZ : Int) ≤ (cI.length : Int)) ∧ (zF c (gl ++ [(⟨4, (ws.getD 0 []).getD 0 0, 0⟩ : Gate)]) gS fX (fun i ins => if (xN ins).testBit 0 then (yN ins).testBit i else (zN ins).testBit i) (t + 50) dZ)) (fun (dZ : Nat) (gS : List Gate) (fX : List Int) => ((cI.length : Int) - (dZ : Int)).toNat) 0 (gl ++ [(⟨4, (ws.getD 0 []).getD 0 0, 0⟩ : Gate)]) ([] : List Int) (⟨pD, zF.init eN.dC⟩) (Le.mk (.c (.c (.c (.c (.c (.cons (aL rfl aC) (.c (.cons (ak rfl bg) (.nil))))))))) (.cons (aH rfl ig) (.c (.c (.nil))))) (fun dZ gS fX DK => ?_)
 obtain ⟨PS, hM⟩ := DK
 refine ae.sr (.vl (Y.zb rfl rfl) (aa.nil ?_))
 refine ae.seq ?_
 refine ae.ay rfl (fun L9 => ?_) (fun L9 => ?_)
 refine ae.skip (ae.seq (ae.block ?_))
 refine ae.sr ?_
 refine .mv ?_
 refine .an ?_
 refine aa.nil ?_
 have H8 := hM.len; have MZ := hM.ol; rw [List.length_append, List.length_singleton] at H8; have LA := (L6.bit dZ om).ext eN; have LC := (L7.bit dZ om).ext eN
 refine ae.cC rfl (aR.blind 0 rfl aX (aJ.move rfl rfl) ah (aR.bj (n := 4) [1, 2, 3, 4, 5, 6, 7, 8, 9, 10, 11, 12, 13, 14, 15] [16, 17, 18, 19] 16 rfl aX ?_))
 refine .cn 1 rfl (Y.zf rfl rfl) (.cn 2 rfl (Y.zf rfl rfl) ?_)
 refine .cn 3 rfl (Y.qr (m := 0) a8 rfl rfl bg (aw (d := 0) om)) ?_
 refine .cn 4 rfl (Y.qz aZ rfl rfl rfl rfl) (.cn 5 rfl (Y.zf rfl rfl) (.cn 6 rfl (Y.zf rfl rfl) ?_))
 refine .cn 7 rfl (Y.zf rfl rfl) ?_
 refine .cn 8 rfl (Y.qr (m := dZ) a8 rfl rfl bg (aw (d := 0) om)) ?_
 refine .cn 9 rfl (Y.qz aZ rfl rfl rfl rfl) (.cn 10 rfl (Y.zf rfl rfl) ?_)
 refine .cn 11 rfl (Y.qr (m := 2) iC rfl rfl bg (aw (d := []) om)) ?_
 refine .cn 12 rfl (Y.qz cZ rfl rfl rfl rfl) (.cn 13 rfl (Y.zf rfl rfl) ?_)
 refine .cn 14 rfl (Y.qr (m := dZ) a8 rfl rfl bg (aw (d := 0) om)) ?_
 refine .cn 15 rfl (Y.qz aZ rfl rfl rfl rfl) (AQ.nil (aR.one 16 rfl aX ?_))
 refine aa.bm [0, 1] [] Db (choose_spec (gl := gS) (s := (ws.getD 0 []).getD 0 0) (v := (gl.length : Int)) (y := cI.getD dZ 0) (n := (ws.getD 2 []).getD dZ 0) om) rfl (.named rfl rfl (.ao rfl rfl (.ao rfl rfl (.ao rfl rfl (.ao rfl rfl .nil))))) ⟨rfl, rfl, trivial⟩ rfl ah (fun _ h => by cases h) (fun _ h => by cases h) ah ah ?_
 rintro r aD ⟨rfl, rfl⟩ _
 refine ⟨⟨rfl, (by intro ob aP; simp only [List.mem_cons, List.not_mem_nil, or_false] at aP; rcases aP with rfl | rfl <;> rfl), .inl rfl⟩, ?_⟩
 refine aa.nil ⟨rfl, ?_⟩
 refine aR.one 17 rfl aX ?_
 refine aa.buildSlice (([((gS.length : Int) + 2)] : List Int).map aq) a8 fv rfl rfl rfl rfl rfl (a9 (s := 1) (f := aq) (fun _ => rfl)) rfl rfl rfl ah ?_
 refine aa.nil ⟨rfl, ?_⟩
 refine aR.one 18 rfl aX ?_
 refine aa.bZ ((fX ++ ([((gS.length : Int) + 2)] : List Int)).map aq) (fX ++ ([((gS.length : Int) + 2)] : List Int)).length a8 fv rfl rfl rfl rfl (cb aC) (bE aC) (dg aC) aC aC ah ah ?_
 refine aa.nil ⟨rfl, ?_⟩
 refine aR.bj (n := 0) [19] [] 0 rfl aX (.cn 19 rfl (Y.qe rfl rfl) (AQ.nil ?_))
 refine aR.done aX (ae.region ?_)
 refine .vl (Y.qb rfl rfl aC) ?_
 refine .mv ?_
 refine aa.nil ?_
 exact ⟨dZ + 1, ub gS ((ws.getD 0 []).getD 0 0) (gl.length : Int) (cI.getD dZ 0) ((ws.getD 2 []).getD dZ 0), fX ++ ([((gS.length : Int) + 2)] : List Int), ⟨om, hM.step (L8.ext eN) nN LA LC om om om om (fun ins => rfl)⟩, om, Le.mk (.c (.c (.c (.c (.c (.cons (aL rfl om) (.c (.cons (ak rfl bg) (.nil))))))))) (.cons (aH rfl ig) (.c (.c (.nil))))⟩
 refine ae.exit (ae.sr ?_)
 refine .mv ?_
 refine .an ?_
 refine aa.sh (Sh.cU (d := 8) (o := 112) rfl rfl (bn om) ah) ?_
 refine aa.nil (ae.ret ?_)
 obtain rfl : w = 1 := om; exact ⟨_, _, rfl, rfl, _, _, eN.trans hM.ext, by have := hM.len; rw [List.length_append, List.length_singleton] at this; omega, Bn hM.ws (by have := hM.ol; omega) hX.lt L6.lt L7.lt om, rfl, rfl⟩
 refine ae.skip (ae.sr ?_)
 refine .mv ?_
 refine .mv ?_
 refine .mv ?_
 refine .mv ?_
 refine .vl (Y.qk rfl rfl) ?_
 refine aa.bm [0, 1] [] Gu (sO (gl := gl) (a := ws.getD 0 []) (n := width) (sg := decide (op = 23)) hg om hX.wd hI.hw hI.hd hI.t0) rfl (.named rfl rfl (.ao rfl rfl (.ao rfl rfl (.ao rfl rfl .nil)))) ⟨rfl, rfl, trivial⟩ rfl ah (fun _ h => by cases h) (fun _ h => by cases h) ah ah ?_
 rintro r aD ⟨PT, LF, HG, LG, HH, rfl, rfl⟩ _
 refine ⟨⟨rfl, (by intro ob aP; simp only [List.mem_cons, List.not_mem_nil, or_false] at aP; rcases aP with rfl | rfl <;> rfl), .inl rfl⟩, ?_⟩
 refine aa.bh rfl ah (aa.nil (ae.ret ?_))
 exact ⟨_, _, rfl, rfl, _, _, HG, om, Bo HH hX.lt (by simp; omega), rfl, rfl⟩
open Go Go.AW Go.Proofs
set_option maxRecDepth 4000 in
set_option maxHeartbeats 1000000 in
theorem mc {nm : ByteArray} {ws is : List Int} {cs : List Cell} {fz dn : Int} (Ig : ws.length ≤ 1048576) (rU : cs.length ≤ 1048576) {w : Int} : al Try.prog 72 [.ptr 0 0 0 0, .v (.int .i64 w)] [.cells [.v (.string nm), .aY 1 1 0 ws.length, .aY 2 6 0 cs.length, .aY 3 1 0 is.length, .v (.slice none 0 0), .v (.slice none 0 0), .v (.slice none 0 0), .v (.slice none 0 0), .v (.int .i64 fz), .v (.int .i64 dn), .v (.slice none 0 0)], .rows 1 (ws.map aq), .rows 6 (cs.map Cell.row), .rows 1 (is.map aq)] [0] (fun r o => r = .v (.int .i64 (ws.length : Int)) ∧ o = [.cells [.v (.string nm), .aY 1 1 0 ((ws ++ [w]).length), .aY 2 6 0 cs.length, .aY 3 1 0 is.length, .v (.slice none 0 0), .v (.slice none 0 0), .v (.slice none 0 0), .v (.slice none 0 0), .v (.int .i64 fz), .v (.int .i64 dn), .v (.slice none 0 0)], .rows 1 ((ws ++ [w]).map aq), .rows 6 (cs.map Cell.row), .rows 1 (is.map aq)]) := by
 refine al.of Try.func72 rfl rfl rfl (n := 24) ah (Nat.le_of_ble_eq_true rfl) (ae.sr ?_)
 refine .an ?_
 refine aa.nil (ae.sr ?_)
 refine .mv ?_
 refine .mv ?_
 refine .vl (Y.zj rfl rfl) ?_
 refine .fa fu ?_
 refine .fa fw ?_
 refine .ld cZ ?_
 refine .mv ?_
 refine aa.buildSlice (([w] : List Int).map aq) a8 fv rfl rfl rfl rfl rfl (a9 (s := 1) (f := aq) (fun _ => rfl)) rfl rfl rfl ah ?_
 refine aa.bZ ((ws ++ ([w] : List Int)).map aq) (ws ++ ([w] : List Int)).length a8 fv rfl rfl rfl rfl (cb aC) (bE aC) (dg aC) aC aC ah ah ?_
 refine .vl (Y.zj rfl rfl) ?_
 refine .fa fu ?_
 refine .fa fw ?_
 refine aa.aj At rfl rfl rfl rfl rfl rfl (Nat.le_of_ble_eq_true rfl) rfl (aa.nil (ae.sr ?_))
 refine .mv ?_
 refine .vl (Y.zj rfl rfl) ?_
 refine .fa fu ?_
 refine .fa fw ?_
 refine .ld cZ ?_
 refine .vl (Y.qw (n := (ws ++ ([w] : List Int)).length) a8 rfl rfl) ?_
 refine .vl (Y.zx rfl rfl aC) ?_
 refine .an ?_
 refine aa.nil (ae.ret ?_)
 exact ⟨_, _, rfl, rfl, z8 (fun (z0 : Int) => X.v (.int .i64 z0)) (by simp : (((ws ++ ([w] : List Int)).length : Nat) : Int) - 1 = (ws.length : Int)), rfl⟩
set_option maxHeartbeats 1000000 in
theorem kO {nm : ByteArray} {ws is : List Int} {cs : List Cell} {fz dn : Int} (Ig : ws.length ≤ 1048576) (rU : cs.length ≤ 1048576) {c : Cell} (hc : c.args.length ≤ 17592186043904) : al Try.prog 73 [.ptr 0 0 0 0, .agg (Cell.row c)] [.cells [.v (.string nm), .aY 1 1 0 ws.length, .aY 2 6 0 cs.length, .aY 3 1 0 is.length, .v (.slice none 0 0), .v (.slice none 0 0), .v (.slice none 0 0), .v (.slice none 0 0), .v (.int .i64 fz), .v (.int .i64 dn), .v (.slice none 0 0)], .rows 1 (ws.map aq), .rows 6 (cs.map Cell.row), .rows 1 (is.map aq)] [0] (fun r o => r = .tup [] ∧ o = [.cells [.v (.string nm), .aY 1 1 0 ws.length, .aY 2 6 0 ((cs ++ [c]).length), .aY 3 1 0 is.length, .v (.slice none 0 0), .v (.slice none 0 0), .v (.slice none 0 0), .v (.slice none 0 0), .v (.int .i64 fz), .v (.int .i64 dn), .v (.slice none 0 0)], .rows 1 (ws.map aq), .rows 6 ((cs ++ [c]).map Cell.row), .rows 1 (is.map aq)]) := by
 refine al.of Try.func73 rfl rfl rfl (n := 20) ah (Nat.le_of_ble_eq_true rfl) (ae.sr (aa.box 103 rfl rfl rfl rfl rfl ah ?_))
 refine aa.nil (ae.sr ?_)
 refine .fa en ?_
 refine .ld cZ ?_
 refine aa.bd xD (jn (l := c.args) (om)) rfl (.ao rfl rfl .nil) ah rfl ?_
 refine .fa en ?_
 refine aa.sh (Sh.cq (d := 6) (c.args.map aq) rfl jW (de.map bV)) (aa.aj At rfl rfl rfl rfl rfl rfl (Nat.le_of_ble_eq_true rfl) rfl (aa.nil ?_))
 refine ae.cC rfl (aR.blind 0 rfl aX (aJ.move rfl rfl) ah (aR.blind 1 rfl aX (aJ.move rfl rfl) ah ?_))
 refine aR.blind 2 rfl aX (aJ.nilCheck rfl rfl) ah (aR.blind 3 rfl aX (aJ.fieldAddr fu rfl rfl) ah (aR.blind 4 rfl aX (aJ.fieldAddr gm rfl rfl) ah ?_))
 refine aR.two 5 6 rfl rfl aX ?_ ?_
 refine .ld nW ?_
 refine aa.nil ⟨rfl, ?_⟩
 refine aR.bj (n := 6) [6] [7, 8, 9, 10, 11, 12] 7 rfl aX (.cn 6 rfl (Y.za rm rfl rfl (Nat.le_of_ble_eq_true rfl) rfl rfl) (AQ.nil ?_))
 refine aR.one 7 rfl aX ?_
 refine aa.buildSlice (([c] : List Cell).map Cell.row) jz nh rfl rfl rfl rfl rfl (a9 (s := 6) (f := Cell.row) (fun _ => rfl)) rfl rfl rfl ah ?_
 refine aa.nil ⟨rfl, ?_⟩
 refine aR.one 8 rfl aX ?_
 refine aa.bZ ((cs ++ ([c] : List Cell)).map Cell.row) (cs ++ ([c] : List Cell)).length jz nh rfl rfl rfl rfl (cb aC) (bE aC) (dg aC) aC aC ah ah ?_
 refine aa.nil ⟨rfl, ?_⟩
 refine aR.bj (n := 1) [9, 10, 11] [12] 12 rfl aX (.cn 9 rfl (Y.zj rfl rfl) (.cn 10 rfl (Y.qo fu rfl rfl) ?_))
 refine .cn 11 rfl (Y.qo gm rfl rfl) (AQ.nil (aR.one 12 rfl aX ?_))
 refine aa.aj Da rfl rfl rfl rfl rfl rfl (Nat.le_of_ble_eq_true rfl) rfl ?_
 refine aa.nil ⟨rfl, ?_⟩
 refine aR.done aX ?_
 exact ⟨_, _, rfl, rfl, rfl, rfl⟩
 refine .vl (Y.za rm rfl rfl (Nat.le_of_ble_eq_true rfl) rfl rfl) ?_
 refine aa.nil ⟨rfl, ?_⟩
 refine aR.two 5 7 rfl rfl aX ?_ ?_
 refine .ld nW ?_
 refine aa.nil ⟨rfl, ?_⟩
 refine aR.one 7 rfl aX ?_
 refine aa.buildSlice (([c] : List Cell).map Cell.row) jz nh rfl rfl rfl rfl rfl (a9 (s := 6) (f := Cell.row) (fun _ => rfl)) rfl rfl rfl ah ?_
 refine aa.nil ⟨rfl, ?_⟩
 refine aR.one 8 rfl aX ?_
 refine aa.bZ ((cs ++ ([c] : List Cell)).map Cell.row) (cs ++ ([c] : List Cell)).length jz nh rfl rfl rfl rfl (cb aC) (bE aC) (dg aC) aC aC ah ah ?_
 refine aa.nil ⟨rfl, ?_⟩
 refine aR.bj (n := 1) [9, 10, 11] [12] 12 rfl aX (.cn 9 rfl (Y.zj rfl rfl) (.cn 10 rfl (Y.qo fu rfl rfl) ?_))
 refine .cn 11 rfl (Y.qo gm rfl rfl) (AQ.nil (aR.one 12 rfl aX ?_))
 refine aa.aj Da rfl rfl rfl rfl rfl rfl (Nat.le_of_ble_eq_true rfl) rfl ?_
 refine aa.nil ⟨rfl, ?_⟩
 refine aR.done aX ?_
 exact ⟨_, _, rfl, rfl, rfl, rfl⟩
 refine aa.buildSlice (([c] : List Cell).map Cell.row) jz nh rfl rfl rfl rfl rfl (a9 (s := 6) (f := Cell.row) (fun _ => rfl)) rfl rfl rfl ah ?_
 refine aa.nil ⟨rfl, ?_⟩
 refine aR.bj (n := 5) [5] [8, 9, 10, 11, 12] 8 rfl aX (.cn 5 rfl (Y.qz nW rfl rfl rfl rfl) (AQ.nil ?_))
 refine aR.one 8 rfl aX ?_
 refine aa.bZ ((cs ++ ([c] : List Cell)).map Cell.row) (cs ++ ([c] : List Cell)).length jz nh rfl rfl rfl rfl (cb aC) (bE aC) (dg aC) aC aC ah ah ?_
 refine aa.nil ⟨rfl, ?_⟩
 refine aR.bj (n := 1) [9, 10, 11] [12] 12 rfl aX (.cn 9 rfl (Y.zj rfl rfl) (.cn 10 rfl (Y.qo fu rfl rfl) ?_))
 refine .cn 11 rfl (Y.qo gm rfl rfl) (AQ.nil (aR.one 12 rfl aX ?_))
 refine aa.aj Da rfl rfl rfl rfl rfl rfl (Nat.le_of_ble_eq_true rfl) rfl ?_
 refine aa.nil ⟨rfl, ?_⟩
 refine aR.done aX ?_
 exact ⟨_, _, rfl, rfl, rfl, rfl⟩
set_option maxHeartbeats 1000000 in
theorem sS {nm : ByteArray} {ws is : List Int} {cs : List Cell} {fz dn : Int} (Ig : ws.length ≤ 1048000) (rU : cs.length ≤ 1048000) {w : Int} {x : Nat} (hx : x < 18446744073709551616) : al Try.prog 76 [.ptr 0 0 0 0, .v (.int .i64 w), .v (.int .u64 (x : Int))] [.cells [.v (.string nm), .aY 1 1 0 ws.length, .aY 2 6 0 cs.length, .aY 3 1 0 is.length, .v (.slice none 0 0), .v (.slice none 0 0), .v (.slice none 0 0), .v (.slice none 0 0), .v (.int .i64 fz), .v (.int .i64 dn), .v (.slice none 0 0)], .rows 1 (ws.map aq), .rows 6 (cs.map Cell.row), .rows 1 (is.map aq)] [0] (fun r o => r = .v (.int .i64 (ws.length : Int)) ∧ o = [.cells [.v (.string nm), .aY 1 1 0 ((ws ++ [w]).length), .aY 2 6 0 ((cs ++ [(⟨1, 0, (ws.length : Int), [], ln w x, 0⟩ : Cell)]).length), .aY 3 1 0 is.length, .v (.slice none 0 0), .v (.slice none 0 0), .v (.slice none 0 0), .v (.slice none 0 0), .v (.int .i64 fz), .v (.int .i64 dn), .v (.slice none 0 0)], .rows 1 ((ws ++ [w]).map aq), .rows 6 ((cs ++ [(⟨1, 0, (ws.length : Int), [], ln w x, 0⟩ : Cell)]).map Cell.row), .rows 1 (is.map aq)]) := by
 refine al.of Try.func76 rfl rfl rfl (n := 19) ah (Nat.le_of_ble_eq_true rfl) (ae.sr ?_)
 refine .an ?_
 refine aa.nil (ae.sr ?_)
 refine .mv ?_
 refine .mv ?_
 refine aa.bm [0, 1, 2, 3] [] CW (mc (w := w) (ws := ws) (cs := cs) (is := is) (nm := nm) (fz := fz) (dn := dn) om om) rfl (.named rfl rfl (.ao rfl rfl .nil)) ⟨rfl, rfl, rfl, rfl, trivial⟩ rfl ah (fun _ h => by cases h) (fun _ h => by cases h) ah ah ?_
 rintro r aD ⟨rfl, rfl⟩ _
 refine ⟨⟨rfl, (by intro ob aP; simp only [List.mem_cons, List.not_mem_nil, or_false] at aP; rcases aP with rfl | rfl | rfl | rfl <;> rfl), .inl rfl⟩, ?_⟩
 refine .an ?_
 refine aa.nil (ae.sr ?_)
 refine .mv ?_
 refine .mv ?_
 refine .mv ?_
 refine .mv ?_
 refine aa.bd oW (gq (w := w) (x := x) (om)) rfl (.ao rfl rfl (.ao rfl rfl .nil)) ah rfl ?_
 refine .vl (Y.qg CZ nh rfl rfl rfl) (aa.sh (Sh.Ms (d := 16) 1 3 rfl rfl) ?_)
 refine aa.bm [0, 1, 2, 3] [] CX (kO (c := (⟨1, 0, (((ws).length : Nat) : Int), ([] : List Int), ln w x, 0⟩ : Cell)) (ws := ws ++ [w]) (cs := cs) (is := is) (nm := nm) (fz := fz) (dn := dn) aC aC (by simp)) rfl (.named rfl rfl (.ao rfl rfl .nil)) ⟨rfl, rfl, rfl, rfl, trivial⟩ rfl ah (fun _ h => by cases h) (fun _ h => by cases h) ah ah ?_
 rintro r aD ⟨rfl, rfl⟩ _
 refine ⟨⟨rfl, (by intro ob aP; simp only [List.mem_cons, List.not_mem_nil, or_false] at aP; rcases aP with rfl | rfl | rfl | rfl <;> rfl), .inl rfl⟩, ?_⟩
 refine aa.nil (ae.sr ?_)
 refine .mv ?_
 refine .an ?_
 refine aa.nil (ae.ret ?_)
 exact ⟨_, _, rfl, rfl, rfl, rfl⟩
set_option maxHeartbeats 1000000 in
theorem wo {nm : ByteArray} {ws is : List Int} {cs : List Cell} {fz dn : Int} (Ig : ws.length ≤ 1048000) (rU : cs.length ≤ 1048000) {op w : Int} {args : List Int} (hx : args.length ≤ 17592186043904) : al Try.prog 75 [.ptr 0 0 0 0, .v (.int .i64 op), .v (.int .i64 w), .fz 1 (args.map aq)] [.cells [.v (.string nm), .aY 1 1 0 ws.length, .aY 2 6 0 cs.length, .aY 3 1 0 is.length, .v (.slice none 0 0), .v (.slice none 0 0), .v (.slice none 0 0), .v (.slice none 0 0), .v (.int .i64 fz), .v (.int .i64 dn), .v (.slice none 0 0)], .rows 1 (ws.map aq), .rows 6 (cs.map Cell.row), .rows 1 (is.map aq)] [0] (fun r o => r = .v (.int .i64 (ws.length : Int)) ∧ o = [.cells [.v (.string nm), .aY 1 1 0 ((ws ++ [w]).length), .aY 2 6 0 ((cs ++ [(⟨2, op, (ws.length : Int), args, 0, 0⟩ : Cell)]).length), .aY 3 1 0 is.length, .v (.slice none 0 0), .v (.slice none 0 0), .v (.slice none 0 0), .v (.slice none 0 0), .v (.int .i64 fz), .v (.int .i64 dn), .v (.slice none 0 0)], .rows 1 ((ws ++ [w]).map aq), .rows 6 ((cs ++ [(⟨2, op, (ws.length : Int), args, 0, 0⟩ : Cell)]).map Cell.row), .rows 1 (is.map aq)]) := by
 refine al.of Try.func75 rfl rfl rfl (n := 20) ah (Nat.le_of_ble_eq_true rfl) (ae.sr ?_)
 refine .an ?_
 refine aa.nil (ae.sr ?_)
 refine .mv ?_
 refine .mv ?_
 refine aa.bm [0, 1, 2, 3] [] CW (mc (w := w) (ws := ws) (cs := cs) (is := is) (nm := nm) (fz := fz) (dn := dn) om om) rfl (.named rfl rfl (.ao rfl rfl .nil)) ⟨rfl, rfl, rfl, rfl, trivial⟩ rfl ah (fun _ h => by cases h) (fun _ h => by cases h) ah ah ?_
 rintro r aD ⟨rfl, rfl⟩ _
 refine ⟨⟨rfl, (by intro ob aP; simp only [List.mem_cons, List.not_mem_nil, or_false] at aP; rcases aP with rfl | rfl | rfl | rfl <;> rfl), .inl rfl⟩, ?_⟩
 refine .an ?_
 refine aa.nil (ae.sr ?_)
 refine .mv ?_
 refine .mv ?_
 refine .mv ?_
 refine .mv ?_
 refine .vl (Y.qg CZ nh rfl rfl rfl) ?_
 refine aa.bm [0, 1, 2, 3] [] CX (kO (c := (⟨2, op, (((ws).length : Nat) : Int), args, 0, 0⟩ : Cell)) (ws := ws ++ [w]) (cs := cs) (is := is) (nm := nm) (fz := fz) (dn := dn) aC aC aC) rfl (.named rfl rfl (.ao rfl rfl .nil)) ⟨rfl, rfl, rfl, rfl, trivial⟩ rfl ah (fun _ h => by cases h) (fun _ h => by cases h) ah ah ?_
 rintro r aD ⟨rfl, rfl⟩ _
 refine ⟨⟨rfl, (by intro ob aP; simp only [List.mem_cons, List.not_mem_nil, or_false] at aP; rcases aP with rfl | rfl | rfl | rfl <;> rfl), .inl rfl⟩, ?_⟩
 refine aa.nil (ae.sr ?_)
 refine .mv ?_
 refine .an ?_
 refine aa.nil (ae.ret ?_)
 exact ⟨_, _, rfl, rfl, rfl, rfl⟩
open Go Go.AW Go.Proofs
theorem Bp {op x : Int} (hp : Plain op) (h0 : 1 ≤ x) (h1 : x ≤ 64) : al Try.prog 124 [vi op, vi x] [] [] (fun r o => ∃ c : Int, r = .tup [.agg [vi 0, vi x, vi (az op x.toNat), vi 0, vi 0, vi c], vi 0] ∧ o = []) := by
 refine al.of Try.func124 rfl rfl rfl (n := 184) ah (b7 rfl) ?_
 have HJ := hp; unfold Plain tQ Seq Unary at HJ; have rW := rB (n := x.toNat) om; have Bq := rB (n := (x + 1).toNat) om; have hle : (x + 1).toNat = x.toNat + 1 := om; have Nv := oy h0 h1 rW; have PU := oy h0 h1 Bq
 refine .sr (.alloc 104 eX rfl rfl ah ?_)
 refine .an ?_
 refine .nil (.seq (.sr ?_))
 refine .mv ?_
 refine .vl (Y.qy rfl rfl) ?_
 refine .mv ?_
 refine .ax (d := 12) rfl (fun vp => ?_) (fun vp => ?_)
 refine .gz 12 (.gz 12 ?_)
 refine .pk ?_
 refine .nil (.aE rfl (.sr ?_))
 refine .vl (Y.qg iX eX rfl rfl rfl) (.aj bo rfl rfl rfl rfl rfl rfl (b7 rfl) rfl ?_)
 refine .an ?_
 refine .nil (.ret ?_)
 first | (exfalso; omega) | exact ⟨_, _, rfl, rfl, 0, by rw [show az op x.toNat = 0 by (try rw [hle]); unfold az; (repeat' split) <;> omega]; rfl, rfl⟩
 refine .gw 12 (Y.zf rfl rfl) (.gw 12 (Y.qp rfl rfl) ?_)
 refine .pk ?_
 refine .nil ?_
 refine .ay rfl (fun pH => ?_) (fun pH => ?_)
 refine .sr (.vl (Y.qg iX eX rfl rfl rfl) (.aj bo rfl rfl rfl rfl rfl rfl (b7 rfl) rfl ?_))
 refine .an ?_
 refine .nil (.ret ?_)
 first | (exfalso; omega) | exact ⟨_, _, rfl, rfl, 0, by rw [show az op x.toNat = 0 by (try rw [hle]); unfold az; (repeat' split) <;> omega]; rfl, rfl⟩
 refine .skip (.seq (.sr ?_))
 refine .mv ?_
 refine .vl (Y.zb rfl rfl) ?_
 refine .mv ?_
 refine .ax (d := 19) rfl (fun r5 => ?_) (fun r5 => ?_)
 refine .gz 19 (.gz 19 ?_)
 refine .pk ?_
 refine .nil (.aE rfl (.sr ?_))
 refine .vl (Y.qg iX eX rfl rfl rfl) (.aj bo rfl rfl rfl rfl rfl rfl (b7 rfl) rfl ?_)
 refine .an ?_
 refine .nil (.ret ?_)
 first | (exfalso; omega) | exact ⟨_, _, rfl, rfl, 0, by rw [show az op x.toNat = 0 by (try rw [hle]); unfold az; (repeat' split) <;> omega]; rfl, rfl⟩
 refine .gw 19 (Y.zf rfl rfl) (.gw 19 (Y.qq rfl rfl) ?_)
 refine .pk ?_
 refine .nil ?_
 refine .ay rfl (fun lV => ?_) (fun lV => ?_)
 refine .sr (.vl (Y.qg iX eX rfl rfl rfl) (.aj bo rfl rfl rfl rfl rfl rfl (b7 rfl) rfl ?_))
 refine .an ?_
 refine .nil (.ret ?_)
 first | (exfalso; omega) | exact ⟨_, _, rfl, rfl, 0, by rw [show az op x.toNat = 0 by (try rw [hle]); unfold az; (repeat' split) <;> omega]; rfl, rfl⟩
 refine .skip (.sr ?_)
 refine .mv ?_
 refine .mv ?_
 refine .bd su (gG (x := x) (om) (om)) rfl (.ao rfl rfl .nil) ah rfl ?_
 refine .mv ?_
 refine .vl (Y.qb rfl rfl aC) (.bd su (gG (x := (x + 1)) (om) (om)) rfl (.ao rfl rfl .nil) ah rfl ?_)
 refine .an ?_
 refine .an ?_
 refine .an ?_
 refine .nil (.sr ?_)
 refine .mv ?_
 refine .vl (Y.qg iX eX rfl rfl rfl) (.alloc 109 eX rfl rfl ah (.aj bo rfl rfl rfl rfl rfl rfl (b7 rfl) rfl ?_))
 refine .nil (.seq (.sr ?_))
 refine .mv ?_
 refine .nil (.block (.seq ?_))
 refine .sr (.vl (Y.qk rfl rfl) ?_)
 refine .an ?_
 refine .nil ?_
 refine .aU rfl (fun tj => ?_) (fun tj => ?_)
 refine .skip (.aE rfl (.region ?_))
 refine .mv ?_
 refine .fa bB ?_
 refine .aj cT rfl rfl rfl rfl rfl rfl (b7 rfl) rfl ?_
 refine .fa bt ?_
 refine .aj cT rfl rfl rfl rfl rfl rfl (b7 rfl) rfl (.nil (.sr ?_))
 refine .vl (Y.za cu rfl rfl (b7 rfl) rfl rfl) (.aj bo rfl rfl rfl rfl rfl rfl (b7 rfl) rfl ?_)
 refine .an ?_
 refine .nil (.ret ?_)
 first | (exfalso; omega) | exact ⟨_, _, rfl, rfl, x, by rw [show az op x.toNat = 20 by (try rw [hle]); unfold az; (repeat' split) <;> omega]; rfl, rfl⟩
 refine .sr (.vl (Y.qk rfl rfl) ?_)
 refine .an ?_
 refine .nil ?_
 refine .aU rfl (fun tj => ?_) (fun tj => ?_)
 refine .skip (.aE rfl (.region ?_))
 refine .mv ?_
 refine .fa bB ?_
 refine .aj cT rfl rfl rfl rfl rfl rfl (b7 rfl) rfl ?_
 refine .fa bt ?_
 refine .aj cT rfl rfl rfl rfl rfl rfl (b7 rfl) rfl (.nil (.sr ?_))
 refine .vl (Y.za cu rfl rfl (b7 rfl) rfl rfl) (.aj bo rfl rfl rfl rfl rfl rfl (b7 rfl) rfl ?_)
 refine .an ?_
 refine .nil (.ret ?_)
 first | (exfalso; omega) | exact ⟨_, _, rfl, rfl, x, by rw [show az op x.toNat = 20 by (try rw [hle]); unfold az; (repeat' split) <;> omega]; rfl, rfl⟩
 refine .region (.vl (Y.qk rfl rfl) ?_)
 refine .an ?_
 refine .nil ?_
 refine .aU rfl (fun tj => ?_) (fun tj => ?_)
 refine .region ?_
 refine .mv ?_
 refine .fa bB ?_
 refine .aj cT rfl rfl rfl rfl rfl rfl (b7 rfl) rfl ?_
 refine .fa bt ?_
 refine .aj cT rfl rfl rfl rfl rfl rfl (b7 rfl) rfl (.nil (.sr ?_))
 refine .vl (Y.za cu rfl rfl (b7 rfl) rfl rfl) (.aj bo rfl rfl rfl rfl rfl rfl (b7 rfl) rfl ?_)
 refine .an ?_
 refine .nil (.ret ?_)
 first | (exfalso; omega) | exact ⟨_, _, rfl, rfl, x, by rw [show az op x.toNat = 20 by (try rw [hle]); unfold az; (repeat' split) <;> omega]; rfl, rfl⟩
 refine .sr (.vl (Y.qk rfl rfl) ?_)
 refine .an ?_
 refine .nil ?_
 refine .ay rfl (fun wc => ?_) (fun wc => ?_)
 refine .region ?_
 refine .mv ?_
 refine .vl (Y.zh rfl rfl om) (.vl (Y.qb rfl rfl aC) ?_)
 refine .mv ?_
 refine .vl (Y.zh rfl rfl om) ?_
 refine .mv ?_
 refine .vl (Y.zh rfl rfl om) ?_
 refine .mv ?_
 refine .vl (Y.zh rfl rfl om) (.vl (Y.qb rfl rfl aC) ?_)
 refine .fa bB ?_
 refine .aj cT rfl rfl rfl rfl rfl rfl (b7 rfl) rfl ?_
 refine .fa bt ?_
 refine .aj cT rfl rfl rfl rfl rfl rfl (b7 rfl) rfl (.nil (.sr ?_))
 refine .vl (Y.za cu rfl rfl (b7 rfl) rfl rfl) (.aj bo rfl rfl rfl rfl rfl rfl (b7 rfl) rfl ?_)
 refine .an ?_
 refine .nil (.ret ?_)
 first | (exfalso; omega) | exact ⟨_, _, rfl, rfl, (3 * x) + ((3 * x) * ((bH x.toNat : Nat) : Int)), by rw [show az op x.toNat = 40 + (40 * ((bH x.toNat : Nat) : Int)) by (try rw [hle]); unfold az; (repeat' split) <;> omega]; rfl, rfl⟩
 refine .sr (.vl (Y.qk rfl rfl) ?_)
 refine .an ?_
 refine .nil ?_
 refine .ay rfl (fun Cr => ?_) (fun Cr => ?_)
 refine .region ?_
 refine .mv ?_
 refine .vl (Y.zh rfl rfl om) (.vl (Y.qb rfl rfl aC) ?_)
 refine .mv ?_
 refine .vl (Y.zh rfl rfl om) ?_
 refine .mv ?_
 refine .vl (Y.zh rfl rfl om) ?_
 refine .mv ?_
 refine .vl (Y.zh rfl rfl om) (.vl (Y.qb rfl rfl aC) ?_)
 refine .fa bB ?_
 refine .aj cT rfl rfl rfl rfl rfl rfl (b7 rfl) rfl ?_
 refine .fa bt ?_
 refine .aj cT rfl rfl rfl rfl rfl rfl (b7 rfl) rfl (.nil (.sr ?_))
 refine .vl (Y.za cu rfl rfl (b7 rfl) rfl rfl) (.aj bo rfl rfl rfl rfl rfl rfl (b7 rfl) rfl ?_)
 refine .an ?_
 refine .nil (.ret ?_)
 first | (exfalso; omega) | exact ⟨_, _, rfl, rfl, (4 * x) + ((3 * x) * ((bH x.toNat : Nat) : Int)), by rw [show az op x.toNat = 50 + (40 * ((bH x.toNat : Nat) : Int)) by (try rw [hle]); unfold az; (repeat' split) <;> omega]; rfl, rfl⟩
 refine .seq (.sr (.vl (Y.qk rfl rfl) ?_))
 refine .an ?_
 refine .nil ?_
 refine .aU rfl (fun wD => ?_) (fun wD => ?_)
 refine .skip (.aE rfl (.region ?_))
 refine .mv ?_
 refine .vl (Y.zh rfl rfl om) (.vl (Y.qb rfl rfl aC) ?_)
 refine .mv ?_
 refine .vl (Y.zh rfl rfl om) ?_
 refine .fa bB ?_
 refine .aj cT rfl rfl rfl rfl rfl rfl (b7 rfl) rfl ?_
 refine .fa bt ?_
 refine .aj cT rfl rfl rfl rfl rfl rfl (b7 rfl) rfl (.nil (.sr ?_))
 refine .vl (Y.za cu rfl rfl (b7 rfl) rfl rfl) (.aj bo rfl rfl rfl rfl rfl rfl (b7 rfl) rfl ?_)
 refine .an ?_
 refine .nil (.ret ?_)
 first | (exfalso; omega) | exact ⟨_, _, rfl, rfl, 2 * x, by rw [show az op x.toNat = 30 + (20 * ((bH x.toNat : Nat) : Int)) by (try rw [hle]); unfold az; (repeat' split) <;> omega]; rfl, rfl⟩
 refine .region (.vl (Y.qk rfl rfl) ?_)
 refine .an ?_
 refine .nil ?_
 refine .aU rfl (fun wD => ?_) (fun wD => ?_)
 refine .region ?_
 refine .mv ?_
 refine .vl (Y.zh rfl rfl om) (.vl (Y.qb rfl rfl aC) ?_)
 refine .mv ?_
 refine .vl (Y.zh rfl rfl om) ?_
 refine .fa bB ?_
 refine .aj cT rfl rfl rfl rfl rfl rfl (b7 rfl) rfl ?_
 refine .fa bt ?_
 refine .aj cT rfl rfl rfl rfl rfl rfl (b7 rfl) rfl (.nil (.sr ?_))
 refine .vl (Y.za cu rfl rfl (b7 rfl) rfl rfl) (.aj bo rfl rfl rfl rfl rfl rfl (b7 rfl) rfl ?_)
 refine .an ?_
 refine .nil (.ret ?_)
 first | (exfalso; omega) | exact ⟨_, _, rfl, rfl, 2 * x, by rw [show az op x.toNat = 30 + (20 * ((bH x.toNat : Nat) : Int)) by (try rw [hle]); unfold az; (repeat' split) <;> omega]; rfl, rfl⟩
 refine .seq (.sr (.vl (Y.qk rfl rfl) ?_))
 refine .an ?_
 refine .nil ?_
 refine .aU rfl (fun AS => ?_) (fun AS => ?_)
 refine .skip (.aE rfl (.region ?_))
 refine .mv ?_
 refine .vl (Y.zh rfl rfl om) (.vl (Y.qb rfl rfl aC) ?_)
 refine .mv ?_
 refine .vl (Y.zh rfl rfl om) ?_
 refine .mv ?_
 refine .vl (Y.zh rfl rfl om) ?_
 refine .mv ?_
 refine .vl (Y.zh rfl rfl om) (.vl (Y.qb rfl rfl aC) ?_)
 refine .fa bB ?_
 refine .aj cT rfl rfl rfl rfl rfl rfl (b7 rfl) rfl ?_
 refine .fa bt ?_
 refine .aj cT rfl rfl rfl rfl rfl rfl (b7 rfl) rfl (.nil (.sr ?_))
 refine .vl (Y.za cu rfl rfl (b7 rfl) rfl rfl) (.aj bo rfl rfl rfl rfl rfl rfl (b7 rfl) rfl ?_)
 refine .an ?_
 refine .nil (.ret ?_)
 first | (exfalso; omega) | exact ⟨_, _, rfl, rfl, (4 * x) + ((3 * x) * ((bH (x + 1).toNat : Nat) : Int)), by rw [show az op x.toNat = 40 + (40 * ((bH (x + 1).toNat : Nat) : Int)) by (try rw [hle]); unfold az; (repeat' split) <;> omega]; rfl, rfl⟩
 refine .region (.vl (Y.qk rfl rfl) ?_)
 refine .an ?_
 refine .nil ?_
 refine .aU rfl (fun AS => ?_) (fun AS => ?_)
 refine .region ?_
 refine .mv ?_
 refine .vl (Y.zh rfl rfl om) (.vl (Y.qb rfl rfl aC) ?_)
 refine .mv ?_
 refine .vl (Y.zh rfl rfl om) ?_
 refine .mv ?_
 refine .vl (Y.zh rfl rfl om) ?_
 refine .mv ?_
 refine .vl (Y.zh rfl rfl om) (.vl (Y.qb rfl rfl aC) ?_)
 refine .fa bB ?_
 refine .aj cT rfl rfl rfl rfl rfl rfl (b7 rfl) rfl ?_
 refine .fa bt ?_
 refine .aj cT rfl rfl rfl rfl rfl rfl (b7 rfl) rfl (.nil (.sr ?_))
 refine .vl (Y.za cu rfl rfl (b7 rfl) rfl rfl) (.aj bo rfl rfl rfl rfl rfl rfl (b7 rfl) rfl ?_)
 refine .an ?_
 refine .nil (.ret ?_)
 first | (exfalso; omega) | exact ⟨_, _, rfl, rfl, (4 * x) + ((3 * x) * ((bH (x + 1).toNat : Nat) : Int)), by rw [show az op x.toNat = 40 + (40 * ((bH (x + 1).toNat : Nat) : Int)) by (try rw [hle]); unfold az; (repeat' split) <;> omega]; rfl, rfl⟩
 refine .seq (.sr (.vl (Y.qk rfl rfl) ?_))
 refine .an ?_
 refine .nil ?_
 refine .aU rfl (fun yu => ?_) (fun yu => ?_)
 refine .skip (.aE rfl (.region ?_))
 refine .mv ?_
 refine .vl (Y.zh rfl rfl om) (.vl (Y.qb rfl rfl aC) ?_)
 refine .mv ?_
 refine .vl (Y.zh rfl rfl om) ?_
 refine .mv ?_
 refine .vl (Y.zh rfl rfl om) ?_
 refine .mv ?_
 refine .vl (Y.zh rfl rfl om) (.vl (Y.qb rfl rfl aC) (.vl (Y.qb rfl rfl aC) ?_))
 refine .fa bB ?_
 refine .aj cT rfl rfl rfl rfl rfl rfl (b7 rfl) rfl ?_
 refine .fa bt ?_
 refine .aj cT rfl rfl rfl rfl rfl rfl (b7 rfl) rfl (.nil (.sr ?_))
 refine .vl (Y.za cu rfl rfl (b7 rfl) rfl rfl) (.aj bo rfl rfl rfl rfl rfl rfl (b7 rfl) rfl ?_)
 refine .an ?_
 refine .nil (.ret ?_)
 first | (exfalso; omega) | exact ⟨_, _, rfl, rfl, ((4 * x) + ((3 * x) * ((bH (x + 1).toNat : Nat) : Int))) + 2, by rw [show az op x.toNat = 50 + (40 * ((bH (x + 1).toNat : Nat) : Int)) by (try rw [hle]); unfold az; (repeat' split) <;> omega]; rfl, rfl⟩
 refine .region (.vl (Y.qk rfl rfl) ?_)
 refine .an ?_
 refine .nil ?_
 refine .aU rfl (fun yu => ?_) (fun yu => ?_)
 refine .region ?_
 refine .mv ?_
 refine .vl (Y.zh rfl rfl om) (.vl (Y.qb rfl rfl aC) ?_)
 refine .mv ?_
 refine .vl (Y.zh rfl rfl om) ?_
 refine .mv ?_
 refine .vl (Y.zh rfl rfl om) ?_
 refine .mv ?_
 refine .vl (Y.zh rfl rfl om) (.vl (Y.qb rfl rfl aC) (.vl (Y.qb rfl rfl aC) ?_))
 refine .fa bB ?_
 refine .aj cT rfl rfl rfl rfl rfl rfl (b7 rfl) rfl ?_
 refine .fa bt ?_
 refine .aj cT rfl rfl rfl rfl rfl rfl (b7 rfl) rfl (.nil (.sr ?_))
 refine .vl (Y.za cu rfl rfl (b7 rfl) rfl rfl) (.aj bo rfl rfl rfl rfl rfl rfl (b7 rfl) rfl ?_)
 refine .an ?_
 refine .nil (.ret ?_)
 first | (exfalso; omega) | exact ⟨_, _, rfl, rfl, ((4 * x) + ((3 * x) * ((bH (x + 1).toNat : Nat) : Int))) + 2, by rw [show az op x.toNat = 50 + (40 * ((bH (x + 1).toNat : Nat) : Int)) by (try rw [hle]); unfold az; (repeat' split) <;> omega]; rfl, rfl⟩
 refine .sr (.vl (Y.qk rfl rfl) ?_)
 refine .an ?_
 refine .nil ?_
 refine .ay rfl (fun Eb => ?_) (fun Eb => ?_)
 refine .region ?_
 refine .mv ?_
 refine .vl (Y.zh rfl rfl om) (.vl (Y.qb rfl rfl aC) ?_)
 refine .fa bB ?_
 refine .aj cT rfl rfl rfl rfl rfl rfl (b7 rfl) rfl ?_
 refine .fa bt ?_
 refine .aj cT rfl rfl rfl rfl rfl rfl (b7 rfl) rfl (.nil (.sr ?_))
 refine .vl (Y.za cu rfl rfl (b7 rfl) rfl rfl) (.aj bo rfl rfl rfl rfl rfl rfl (b7 rfl) rfl ?_)
 refine .an ?_
 refine .nil (.ret ?_)
 first | (exfalso; omega) | exact ⟨_, _, rfl, rfl, (3 * x) + 1, by rw [show az op x.toNat = 50 by (try rw [hle]); unfold az; (repeat' split) <;> omega]; rfl, rfl⟩
 refine .seq (.sr (.vl (Y.qk rfl rfl) ?_))
 refine .an ?_
 refine .nil ?_
 refine .aU rfl (fun u3 => ?_) (fun u3 => ?_)
 refine .skip (.aE rfl (.region ?_))
 refine .mv ?_
 refine .vl (Y.zh rfl rfl om) (.vl (Y.qb rfl rfl aC) ?_)
 refine .mv ?_
 refine .vl (Y.zh rfl rfl om) ?_
 refine .mv ?_
 refine .vl (Y.zh rfl rfl om) ?_
 refine .mv ?_
 refine .vl (Y.zh rfl rfl om) (.vl (Y.qb rfl rfl aC) ?_)
 refine .fa bB ?_
 refine .aj cT rfl rfl rfl rfl rfl rfl (b7 rfl) rfl ?_
 refine .fa bt ?_
 refine .aj cT rfl rfl rfl rfl rfl rfl (b7 rfl) rfl (.nil (.sr ?_))
 refine .vl (Y.za cu rfl rfl (b7 rfl) rfl rfl) (.aj bo rfl rfl rfl rfl rfl rfl (b7 rfl) rfl ?_)
 refine .an ?_
 refine .nil (.ret ?_)
 first | (exfalso; omega) | exact ⟨_, _, rfl, rfl, (2 * x) + ((3 * x) * ((bH x.toNat : Nat) : Int)), by rw [show az op x.toNat = 30 + (40 * ((bH x.toNat : Nat) : Int)) by (try rw [hle]); unfold az; (repeat' split) <;> omega]; rfl, rfl⟩
 refine .region (.vl (Y.qk rfl rfl) ?_)
 refine .an ?_
 refine .nil ?_
 refine .aU rfl (fun u3 => ?_) (fun u3 => ?_)
 refine .region ?_
 refine .mv ?_
 refine .vl (Y.zh rfl rfl om) (.vl (Y.qb rfl rfl aC) ?_)
 refine .mv ?_
 refine .vl (Y.zh rfl rfl om) ?_
 refine .mv ?_
 refine .vl (Y.zh rfl rfl om) ?_
 refine .mv ?_
 refine .vl (Y.zh rfl rfl om) (.vl (Y.qb rfl rfl aC) ?_)
 refine .fa bB ?_
 refine .aj cT rfl rfl rfl rfl rfl rfl (b7 rfl) rfl ?_
 refine .fa bt ?_
 refine .aj cT rfl rfl rfl rfl rfl rfl (b7 rfl) rfl (.nil (.sr ?_))
 refine .vl (Y.za cu rfl rfl (b7 rfl) rfl rfl) (.aj bo rfl rfl rfl rfl rfl rfl (b7 rfl) rfl ?_)
 refine .an ?_
 refine .nil (.ret ?_)
 first | (exfalso; omega) | exact ⟨_, _, rfl, rfl, (2 * x) + ((3 * x) * ((bH x.toNat : Nat) : Int)), by rw [show az op x.toNat = 30 + (40 * ((bH x.toNat : Nat) : Int)) by (try rw [hle]); unfold az; (repeat' split) <;> omega]; rfl, rfl⟩
 refine .sr (.vl (Y.qk rfl rfl) ?_)
 refine .an ?_
 refine .nil ?_
 refine .ay rfl (fun r8 => ?_) (fun r8 => ?_)
 refine .region ?_
 refine .mv ?_
 refine .vl (Y.zh rfl rfl om) (.vl (Y.qb rfl rfl aC) ?_)
 refine .mv ?_
 refine .vl (Y.zh rfl rfl om) ?_
 refine .mv ?_
 refine .vl (Y.zh rfl rfl om) ?_
 refine .mv ?_
 refine .vl (Y.zh rfl rfl om) (.vl (Y.qb rfl rfl aC) ?_)
 refine .fa bB ?_
 refine .aj cT rfl rfl rfl rfl rfl rfl (b7 rfl) rfl ?_
 refine .fa bt ?_
 refine .aj cT rfl rfl rfl rfl rfl rfl (b7 rfl) rfl (.nil (.sr ?_))
 refine .vl (Y.za cu rfl rfl (b7 rfl) rfl rfl) (.aj bo rfl rfl rfl rfl rfl rfl (b7 rfl) rfl ?_)
 refine .an ?_
 refine .nil (.ret ?_)
 first | (exfalso; omega) | exact ⟨_, _, rfl, rfl, (4 * x) + ((3 * x) * ((bH x.toNat : Nat) : Int)), by rw [show az op x.toNat = 50 + (40 * ((bH x.toNat : Nat) : Int)) by (try rw [hle]); unfold az; (repeat' split) <;> omega]; rfl, rfl⟩
 refine .sr (.vl (Y.qk rfl rfl) ?_)
 refine .an ?_
 refine .nil ?_
 refine .ay rfl (fun Ec => ?_) (fun Ec => ?_)
 refine .region ?_
 refine .mv ?_
 refine .vl (Y.qb rfl rfl aC) (.vl (Y.zn rfl rfl om) (.vl (Y.qb rfl rfl aC) ?_))
 refine .mv ?_
 refine .vl (Y.zh rfl rfl om) ?_
 refine .mv ?_
 refine .vl (Y.zh rfl rfl om) ?_
 refine .fa fq ?_
 refine .aj cT rfl rfl rfl rfl rfl rfl (b7 rfl) rfl ?_
 refine .fa gy ?_
 refine .aj cT rfl rfl rfl rfl rfl rfl (b7 rfl) rfl ?_
 refine .fa g5 ?_
 refine .aj cT rfl rfl rfl rfl rfl rfl (b7 rfl) rfl ?_
 refine .fa bt ?_
 refine .aj cT rfl rfl rfl rfl rfl rfl (b7 rfl) rfl (.nil (.sr ?_))
 refine .vl (Y.za cu rfl rfl (b7 rfl) rfl rfl) (.aj bo rfl rfl rfl rfl rfl rfl (b7 rfl) rfl ?_)
 refine .an ?_
 refine .nil (.ret ?_)
 first | (exfalso; omega) | exact ⟨_, _, rfl, rfl, (6 * x) * x, by rw [show az op x.toNat = 0 by (try rw [hle]); unfold az; (repeat' split) <;> omega]; rfl, rfl⟩
 refine .seq (.sr (.vl (Y.qk rfl rfl) ?_))
 refine .an ?_
 refine .nil ?_
 refine .aU rfl (fun gr => ?_) (fun gr => ?_)
 refine .skip (.aE rfl (.sr ?_))
 refine .mv ?_
 refine .vl (Y.qb rfl rfl aC) (.vl (Y.zx rfl rfl aC) ?_)
 refine .fa fq ?_
 refine .aj cT rfl rfl rfl rfl rfl rfl (b7 rfl) rfl (.nil (.region ?_))
 refine .mv ?_
 refine .vl (Y.qb rfl rfl aC) (.vl (Y.zn rfl rfl om) (.vl (Y.qb rfl rfl aC) ?_))
 refine .mv ?_
 refine .vl (Y.qb rfl rfl aC) (.vl (Y.zn rfl rfl om) (.vl (Y.qb rfl rfl aC) ?_))
 refine .mv ?_
 refine .vl (Y.zh rfl rfl om) ?_
 refine .mv ?_
 refine .vl (Y.zh rfl rfl om) ?_
 refine .fa gy ?_
 refine .aj cT rfl rfl rfl rfl rfl rfl (b7 rfl) rfl ?_
 refine .fa g5 ?_
 refine .aj cT rfl rfl rfl rfl rfl rfl (b7 rfl) rfl ?_
 refine .fa bt ?_
 refine .aj cT rfl rfl rfl rfl rfl rfl (b7 rfl) rfl (.nil (.sr ?_))
 refine .vl (Y.za cu rfl rfl (b7 rfl) rfl rfl) (.aj bo rfl rfl rfl rfl rfl rfl (b7 rfl) rfl ?_)
 refine .an ?_
 refine .nil (.ret ?_)
 first | (exfalso; omega) | exact ⟨_, _, rfl, rfl, (8 * x) * x, by rw [show az op x.toNat = 0 by (try rw [hle]); unfold az; (repeat' split) <;> omega]; rfl, rfl⟩
 refine .sr (.vl (Y.qk rfl rfl) ?_)
 refine .an ?_
 refine .nil ?_
 refine .aU rfl (fun gr => ?_) (fun gr => ?_)
 refine .skip (.aE rfl (.sr ?_))
 refine .mv ?_
 refine .vl (Y.qb rfl rfl aC) (.vl (Y.zx rfl rfl aC) ?_)
 refine .fa fq ?_
 refine .aj cT rfl rfl rfl rfl rfl rfl (b7 rfl) rfl (.nil (.region ?_))
 refine .mv ?_
 refine .vl (Y.qb rfl rfl aC) (.vl (Y.zn rfl rfl om) (.vl (Y.qb rfl rfl aC) ?_))
 refine .mv ?_
 refine .vl (Y.qb rfl rfl aC) (.vl (Y.zn rfl rfl om) (.vl (Y.qb rfl rfl aC) ?_))
 refine .mv ?_
 refine .vl (Y.zh rfl rfl om) ?_
 refine .mv ?_
 refine .vl (Y.zh rfl rfl om) ?_
 refine .fa gy ?_
 refine .aj cT rfl rfl rfl rfl rfl rfl (b7 rfl) rfl ?_
 refine .fa g5 ?_
 refine .aj cT rfl rfl rfl rfl rfl rfl (b7 rfl) rfl ?_
 refine .fa bt ?_
 refine .aj cT rfl rfl rfl rfl rfl rfl (b7 rfl) rfl (.nil (.sr ?_))
 refine .vl (Y.za cu rfl rfl (b7 rfl) rfl rfl) (.aj bo rfl rfl rfl rfl rfl rfl (b7 rfl) rfl ?_)
 refine .an ?_
 refine .nil (.ret ?_)
 first | (exfalso; omega) | exact ⟨_, _, rfl, rfl, (8 * x) * x, by rw [show az op x.toNat = 0 by (try rw [hle]); unfold az; (repeat' split) <;> omega]; rfl, rfl⟩
 refine .sr (.vl (Y.qk rfl rfl) ?_)
 refine .an ?_
 refine .nil ?_
 refine .aU rfl (fun gr => ?_) (fun gr => ?_)
 refine .skip (.aE rfl (.sr ?_))
 refine .mv ?_
 refine .vl (Y.qb rfl rfl aC) (.vl (Y.zx rfl rfl aC) ?_)
 refine .fa fq ?_
 refine .aj cT rfl rfl rfl rfl rfl rfl (b7 rfl) rfl (.nil (.region ?_))
 refine .mv ?_
 refine .vl (Y.qb rfl rfl aC) (.vl (Y.zn rfl rfl om) (.vl (Y.qb rfl rfl aC) ?_))
 refine .mv ?_
 refine .vl (Y.qb rfl rfl aC) (.vl (Y.zn rfl rfl om) (.vl (Y.qb rfl rfl aC) ?_))
 refine .mv ?_
 refine .vl (Y.zh rfl rfl om) ?_
 refine .mv ?_
 refine .vl (Y.zh rfl rfl om) ?_
 refine .fa gy ?_
 refine .aj cT rfl rfl rfl rfl rfl rfl (b7 rfl) rfl ?_
 refine .fa g5 ?_
 refine .aj cT rfl rfl rfl rfl rfl rfl (b7 rfl) rfl ?_
 refine .fa bt ?_
 refine .aj cT rfl rfl rfl rfl rfl rfl (b7 rfl) rfl (.nil (.sr ?_))
 refine .vl (Y.za cu rfl rfl (b7 rfl) rfl rfl) (.aj bo rfl rfl rfl rfl rfl rfl (b7 rfl) rfl ?_)
 refine .an ?_
 refine .nil (.ret ?_)
 first | (exfalso; omega) | exact ⟨_, _, rfl, rfl, (8 * x) * x, by rw [show az op x.toNat = 0 by (try rw [hle]); unfold az; (repeat' split) <;> omega]; rfl, rfl⟩
 refine .region (.vl (Y.qk rfl rfl) ?_)
 refine .an ?_
 refine .nil ?_
 refine .aU rfl (fun gr => ?_) (fun gr => ?_)
 refine .sr ?_
 refine .mv ?_
 refine .vl (Y.qb rfl rfl aC) (.vl (Y.zx rfl rfl aC) ?_)
 refine .fa fq ?_
 refine .aj cT rfl rfl rfl rfl rfl rfl (b7 rfl) rfl (.nil (.region ?_))
 refine .mv ?_
 refine .vl (Y.qb rfl rfl aC) (.vl (Y.zn rfl rfl om) (.vl (Y.qb rfl rfl aC) ?_))
 refine .mv ?_
 refine .vl (Y.qb rfl rfl aC) (.vl (Y.zn rfl rfl om) (.vl (Y.qb rfl rfl aC) ?_))
 refine .mv ?_
 refine .vl (Y.zh rfl rfl om) ?_
 refine .mv ?_
 refine .vl (Y.zh rfl rfl om) ?_
 refine .fa gy ?_
 refine .aj cT rfl rfl rfl rfl rfl rfl (b7 rfl) rfl ?_
 refine .fa g5 ?_
 refine .aj cT rfl rfl rfl rfl rfl rfl (b7 rfl) rfl ?_
 refine .fa bt ?_
 refine .aj cT rfl rfl rfl rfl rfl rfl (b7 rfl) rfl (.nil (.sr ?_))
 refine .vl (Y.za cu rfl rfl (b7 rfl) rfl rfl) (.aj bo rfl rfl rfl rfl rfl rfl (b7 rfl) rfl ?_)
 refine .an ?_
 refine .nil (.ret ?_)
 first | (exfalso; omega) | exact ⟨_, _, rfl, rfl, (8 * x) * x, by rw [show az op x.toNat = 0 by (try rw [hle]); unfold az; (repeat' split) <;> omega]; rfl, rfl⟩
 refine .skip (.sr (.vl (Y.za cu rfl rfl (b7 rfl) rfl rfl) ?_))
 refine .aj bo rfl rfl rfl rfl rfl rfl (b7 rfl) rfl ?_
 refine .an ?_
 refine .nil (.ret ?_)
 first | (exfalso; omega) | exact ⟨_, _, rfl, rfl, 0, by rw [show az op x.toNat = 0 by (try rw [hle]); unfold az; (repeat' split) <;> omega]; rfl, rfl⟩
open Go Go.AW Go.Proofs
set_option maxRecDepth 4000 in
set_option maxHeartbeats 8000000 in
theorem yQ {op : Int} (hp : ¬ Plain op) : al Try.prog 124 [.v (.int .i64 op), .v (.int .i64 1)] [] [] (fun r o => ∃ a b c d e f k : Int, (k ≠ 0 ∨ a ≠ 0) ∧ r = .tup [.agg [.v (.int .i64 a), .v (.int .i64 b), .v (.int .i64 c), .v (.int .i64 d), .v (.int .i64 e), .v (.int .i64 f)], .v (.int .i64 k)] ∧ o = []) := by
 refine al.of Try.func124 rfl rfl rfl (n := 184) ah (Nat.le_of_ble_eq_true rfl) ?_
 have HJ := hp; unfold Plain tQ Seq Unary at HJ; have rW : bH (Int.toNat 1) = 0 := rfl; have Bq : bH (Int.toNat 2) = 1 := rfl
 refine ae.sr (aa.alloc 104 eX rfl rfl ah ?_)
 refine .an ?_
 refine aa.nil (ae.seq (ae.sr ?_))
 refine .mv ?_
 refine .vl (Y.qy rfl rfl) ?_
 refine .mv ?_
 refine aa.ax (d := 12) rfl (fun vp => ?_) (fun vp => ?_)
 refine .gz 12 (.gz 12 ?_)
 refine .pk ?_
 refine aa.nil (ae.aE rfl (ae.sr ?_))
 refine .vl (Y.qg iX eX rfl rfl rfl) (aa.aj bo rfl rfl rfl rfl rfl rfl (Nat.le_of_ble_eq_true rfl) rfl ?_)
 refine .an ?_
 refine aa.nil (ae.ret ?_)
 first | (exfalso; omega) | exact ⟨_, _, rfl, rfl, _, _, _, _, _, _, _, om, rfl, rfl⟩
 refine .gw 12 (Y.zf rfl rfl) (.gw 12 (Y.qp rfl rfl) ?_)
 refine .pk ?_
 refine aa.nil ?_
 refine ae.ay rfl (fun pH => ?_) (fun pH => ?_)
 refine ae.sr (.vl (Y.qg iX eX rfl rfl rfl) (aa.aj bo rfl rfl rfl rfl rfl rfl (Nat.le_of_ble_eq_true rfl) rfl ?_))
 refine .an ?_
 refine aa.nil (ae.ret ?_)
 first | (exfalso; omega) | exact ⟨_, _, rfl, rfl, _, _, _, _, _, _, _, om, rfl, rfl⟩
 refine ae.skip (ae.seq (ae.sr ?_))
 refine .mv ?_
 refine .vl (Y.zb rfl rfl) ?_
 refine .mv ?_
 refine .gw 19 (Y.zf rfl rfl) (.gw 19 (Y.qq rfl rfl) ?_)
 refine .pk ?_
 refine aa.nil (ae.bY rfl (ae.skip ?_))
 refine ae.sr ?_
 refine .mv ?_
 refine .mv ?_
 refine aa.bd su (gG (x := 1) (om) (om)) rfl (.ao rfl rfl .nil) ah rfl ?_
 refine .mv ?_
 refine .vl (Y.qb rfl rfl aC) ?_
 refine aa.bd su (gG (x := (1 + 1)) (om) (om)) rfl (.ao rfl rfl .nil) ah rfl ?_
 refine .an ?_
 refine .an ?_
 refine .an ?_
 refine aa.nil (ae.sr ?_)
 refine .mv ?_
 refine .vl (Y.qg iX eX rfl rfl rfl) (aa.alloc 109 eX rfl rfl ah (aa.aj bo rfl rfl rfl rfl rfl rfl (Nat.le_of_ble_eq_true rfl) rfl ?_))
 refine aa.nil (ae.seq (ae.sr ?_))
 refine .mv ?_
 refine aa.nil (ae.block (ae.seq ?_))
 refine ae.sr (.vl (Y.qk rfl rfl) ?_)
 refine .an ?_
 refine aa.nil ?_
 refine ae.aU rfl (fun tj => ?_) (fun tj => ?_)
 refine ae.skip (ae.aE rfl (ae.region ?_))
 refine .mv ?_
 refine .fa bB ?_
 refine aa.aj cT rfl rfl rfl rfl rfl rfl (Nat.le_of_ble_eq_true rfl) rfl ?_
 refine .fa bt ?_
 refine aa.aj cT rfl rfl rfl rfl rfl rfl (Nat.le_of_ble_eq_true rfl) rfl (aa.nil (ae.sr ?_))
 refine .vl (Y.za cu rfl rfl (Nat.le_of_ble_eq_true rfl) rfl rfl) (aa.aj bo rfl rfl rfl rfl rfl rfl (Nat.le_of_ble_eq_true rfl) rfl ?_)
 refine .an ?_
 refine aa.nil (ae.ret ?_)
 first | (exfalso; omega) | exact ⟨_, _, rfl, rfl, _, _, _, _, _, _, _, om, rfl, rfl⟩
 refine ae.sr (.vl (Y.qk rfl rfl) ?_)
 refine .an ?_
 refine aa.nil ?_
 refine ae.aU rfl (fun tj => ?_) (fun tj => ?_)
 refine ae.skip (ae.aE rfl (ae.region ?_))
 refine .mv ?_
 refine .fa bB ?_
 refine aa.aj cT rfl rfl rfl rfl rfl rfl (Nat.le_of_ble_eq_true rfl) rfl ?_
 refine .fa bt ?_
 refine aa.aj cT rfl rfl rfl rfl rfl rfl (Nat.le_of_ble_eq_true rfl) rfl (aa.nil (ae.sr ?_))
 refine .vl (Y.za cu rfl rfl (Nat.le_of_ble_eq_true rfl) rfl rfl) (aa.aj bo rfl rfl rfl rfl rfl rfl (Nat.le_of_ble_eq_true rfl) rfl ?_)
 refine .an ?_
 refine aa.nil (ae.ret ?_)
 first | (exfalso; omega) | exact ⟨_, _, rfl, rfl, _, _, _, _, _, _, _, om, rfl, rfl⟩
 refine ae.region (.vl (Y.qk rfl rfl) ?_)
 refine .an ?_
 refine aa.nil ?_
 refine ae.aU rfl (fun tj => ?_) (fun tj => ?_)
 refine ae.region ?_
 refine .mv ?_
 refine .fa bB ?_
 refine aa.aj cT rfl rfl rfl rfl rfl rfl (Nat.le_of_ble_eq_true rfl) rfl ?_
 refine .fa bt ?_
 refine aa.aj cT rfl rfl rfl rfl rfl rfl (Nat.le_of_ble_eq_true rfl) rfl (aa.nil (ae.sr ?_))
 refine .vl (Y.za cu rfl rfl (Nat.le_of_ble_eq_true rfl) rfl rfl) (aa.aj bo rfl rfl rfl rfl rfl rfl (Nat.le_of_ble_eq_true rfl) rfl ?_)
 refine .an ?_
 refine aa.nil (ae.ret ?_)
 first | (exfalso; omega) | exact ⟨_, _, rfl, rfl, _, _, _, _, _, _, _, om, rfl, rfl⟩
 refine ae.sr (.vl (Y.qk rfl rfl) ?_)
 refine .an ?_
 refine aa.nil ?_
 refine ae.ay rfl (fun wc => ?_) (fun wc => ?_)
 refine ae.region ?_
 refine .mv ?_
 refine .vl (Y.zh rfl rfl om) ?_
 refine .vl (Y.qb rfl rfl aC) ?_
 refine .mv ?_
 refine .vl (Y.zh rfl rfl om) ?_
 refine .mv ?_
 refine .vl (Y.zh rfl rfl om) ?_
 refine .mv ?_
 refine .vl (Y.zh rfl rfl om) ?_
 refine .vl (Y.qb rfl rfl aC) ?_
 refine .fa bB ?_
 refine aa.aj cT rfl rfl rfl rfl rfl rfl (Nat.le_of_ble_eq_true rfl) rfl ?_
 refine .fa bt ?_
 refine aa.aj cT rfl rfl rfl rfl rfl rfl (Nat.le_of_ble_eq_true rfl) rfl (aa.nil (ae.sr ?_))
 refine .vl (Y.za cu rfl rfl (Nat.le_of_ble_eq_true rfl) rfl rfl) (aa.aj bo rfl rfl rfl rfl rfl rfl (Nat.le_of_ble_eq_true rfl) rfl ?_)
 refine .an ?_
 refine aa.nil (ae.ret ?_)
 first | (exfalso; omega) | exact ⟨_, _, rfl, rfl, _, _, _, _, _, _, _, om, rfl, rfl⟩
 refine ae.sr (.vl (Y.qk rfl rfl) ?_)
 refine .an ?_
 refine aa.nil ?_
 refine ae.ay rfl (fun Cr => ?_) (fun Cr => ?_)
 refine ae.region ?_
 refine .mv ?_
 refine .vl (Y.zh rfl rfl om) ?_
 refine .vl (Y.qb rfl rfl aC) ?_
 refine .mv ?_
 refine .vl (Y.zh rfl rfl om) ?_
 refine .mv ?_
 refine .vl (Y.zh rfl rfl om) ?_
 refine .mv ?_
 refine .vl (Y.zh rfl rfl om) ?_
 refine .vl (Y.qb rfl rfl aC) ?_
 refine .fa bB ?_
 refine aa.aj cT rfl rfl rfl rfl rfl rfl (Nat.le_of_ble_eq_true rfl) rfl ?_
 refine .fa bt ?_
 refine aa.aj cT rfl rfl rfl rfl rfl rfl (Nat.le_of_ble_eq_true rfl) rfl (aa.nil (ae.sr ?_))
 refine .vl (Y.za cu rfl rfl (Nat.le_of_ble_eq_true rfl) rfl rfl) (aa.aj bo rfl rfl rfl rfl rfl rfl (Nat.le_of_ble_eq_true rfl) rfl ?_)
 refine .an ?_
 refine aa.nil (ae.ret ?_)
 first | (exfalso; omega) | exact ⟨_, _, rfl, rfl, _, _, _, _, _, _, _, om, rfl, rfl⟩
 refine ae.seq (ae.sr (.vl (Y.qk rfl rfl) ?_))
 refine .an ?_
 refine aa.nil ?_
 refine ae.aU rfl (fun wD => ?_) (fun wD => ?_)
 refine ae.skip (ae.aE rfl (ae.region ?_))
 refine .mv ?_
 refine .vl (Y.zh rfl rfl om) ?_
 refine .vl (Y.qb rfl rfl aC) ?_
 refine .mv ?_
 refine .vl (Y.zh rfl rfl om) ?_
 refine .fa bB ?_
 refine aa.aj cT rfl rfl rfl rfl rfl rfl (Nat.le_of_ble_eq_true rfl) rfl ?_
 refine .fa bt ?_
 refine aa.aj cT rfl rfl rfl rfl rfl rfl (Nat.le_of_ble_eq_true rfl) rfl (aa.nil (ae.sr ?_))
 refine .vl (Y.za cu rfl rfl (Nat.le_of_ble_eq_true rfl) rfl rfl) (aa.aj bo rfl rfl rfl rfl rfl rfl (Nat.le_of_ble_eq_true rfl) rfl ?_)
 refine .an ?_
 refine aa.nil (ae.ret ?_)
 first | (exfalso; omega) | exact ⟨_, _, rfl, rfl, _, _, _, _, _, _, _, om, rfl, rfl⟩
 refine ae.region (.vl (Y.qk rfl rfl) ?_)
 refine .an ?_
 refine aa.nil ?_
 refine ae.aU rfl (fun wD => ?_) (fun wD => ?_)
 refine ae.region ?_
 refine .mv ?_
 refine .vl (Y.zh rfl rfl om) ?_
 refine .vl (Y.qb rfl rfl aC) ?_
 refine .mv ?_
 refine .vl (Y.zh rfl rfl om) ?_
 refine .fa bB ?_
 refine aa.aj cT rfl rfl rfl rfl rfl rfl (Nat.le_of_ble_eq_true rfl) rfl ?_
 refine .fa bt ?_
 refine aa.aj cT rfl rfl rfl rfl rfl rfl (Nat.le_of_ble_eq_true rfl) rfl (aa.nil (ae.sr ?_))
 refine .vl (Y.za cu rfl rfl (Nat.le_of_ble_eq_true rfl) rfl rfl) (aa.aj bo rfl rfl rfl rfl rfl rfl (Nat.le_of_ble_eq_true rfl) rfl ?_)
 refine .an ?_
 refine aa.nil (ae.ret ?_)
 first | (exfalso; omega) | exact ⟨_, _, rfl, rfl, _, _, _, _, _, _, _, om, rfl, rfl⟩
 refine ae.seq (ae.sr (.vl (Y.qk rfl rfl) ?_))
 refine .an ?_
 refine aa.nil ?_
 refine ae.aU rfl (fun AS => ?_) (fun AS => ?_)
 refine ae.skip (ae.aE rfl (ae.region ?_))
 refine .mv ?_
 refine .vl (Y.zh rfl rfl om) ?_
 refine .vl (Y.qb rfl rfl aC) ?_
 refine .mv ?_
 refine .vl (Y.zh rfl rfl om) ?_
 refine .mv ?_
 refine .vl (Y.zh rfl rfl om) ?_
 refine .mv ?_
 refine .vl (Y.zh rfl rfl om) ?_
 refine .vl (Y.qb rfl rfl aC) ?_
 refine .fa bB ?_
 refine aa.aj cT rfl rfl rfl rfl rfl rfl (Nat.le_of_ble_eq_true rfl) rfl ?_
 refine .fa bt ?_
 refine aa.aj cT rfl rfl rfl rfl rfl rfl (Nat.le_of_ble_eq_true rfl) rfl (aa.nil (ae.sr ?_))
 refine .vl (Y.za cu rfl rfl (Nat.le_of_ble_eq_true rfl) rfl rfl) (aa.aj bo rfl rfl rfl rfl rfl rfl (Nat.le_of_ble_eq_true rfl) rfl ?_)
 refine .an ?_
 refine aa.nil (ae.ret ?_)
 first | (exfalso; omega) | exact ⟨_, _, rfl, rfl, _, _, _, _, _, _, _, om, rfl, rfl⟩
 refine ae.region (.vl (Y.qk rfl rfl) ?_)
 refine .an ?_
 refine aa.nil ?_
 refine ae.aU rfl (fun AS => ?_) (fun AS => ?_)
 refine ae.region ?_
 refine .mv ?_
 refine .vl (Y.zh rfl rfl om) ?_
 refine .vl (Y.qb rfl rfl aC) ?_
 refine .mv ?_
 refine .vl (Y.zh rfl rfl om) ?_
 refine .mv ?_
 refine .vl (Y.zh rfl rfl om) ?_
 refine .mv ?_
 refine .vl (Y.zh rfl rfl om) ?_
 refine .vl (Y.qb rfl rfl aC) ?_
 refine .fa bB ?_
 refine aa.aj cT rfl rfl rfl rfl rfl rfl (Nat.le_of_ble_eq_true rfl) rfl ?_
 refine .fa bt ?_
 refine aa.aj cT rfl rfl rfl rfl rfl rfl (Nat.le_of_ble_eq_true rfl) rfl (aa.nil (ae.sr ?_))
 refine .vl (Y.za cu rfl rfl (Nat.le_of_ble_eq_true rfl) rfl rfl) (aa.aj bo rfl rfl rfl rfl rfl rfl (Nat.le_of_ble_eq_true rfl) rfl ?_)
 refine .an ?_
 refine aa.nil (ae.ret ?_)
 first | (exfalso; omega) | exact ⟨_, _, rfl, rfl, _, _, _, _, _, _, _, om, rfl, rfl⟩
 refine ae.seq (ae.sr (.vl (Y.qk rfl rfl) ?_))
 refine .an ?_
 refine aa.nil ?_
 refine ae.aU rfl (fun yu => ?_) (fun yu => ?_)
 refine ae.skip (ae.aE rfl (ae.region ?_))
 refine .mv ?_
 refine .vl (Y.zh rfl rfl om) ?_
 refine .vl (Y.qb rfl rfl aC) ?_
 refine .mv ?_
 refine .vl (Y.zh rfl rfl om) ?_
 refine .mv ?_
 refine .vl (Y.zh rfl rfl om) ?_
 refine .mv ?_
 refine .vl (Y.zh rfl rfl om) ?_
 refine .vl (Y.qb rfl rfl aC) ?_
 refine .vl (Y.qb rfl rfl aC) ?_
 refine .fa bB ?_
 refine aa.aj cT rfl rfl rfl rfl rfl rfl (Nat.le_of_ble_eq_true rfl) rfl ?_
 refine .fa bt ?_
 refine aa.aj cT rfl rfl rfl rfl rfl rfl (Nat.le_of_ble_eq_true rfl) rfl (aa.nil (ae.sr ?_))
 refine .vl (Y.za cu rfl rfl (Nat.le_of_ble_eq_true rfl) rfl rfl) (aa.aj bo rfl rfl rfl rfl rfl rfl (Nat.le_of_ble_eq_true rfl) rfl ?_)
 refine .an ?_
 refine aa.nil (ae.ret ?_)
 first | (exfalso; omega) | exact ⟨_, _, rfl, rfl, _, _, _, _, _, _, _, om, rfl, rfl⟩
 refine ae.region (.vl (Y.qk rfl rfl) ?_)
 refine .an ?_
 refine aa.nil ?_
 refine ae.aU rfl (fun yu => ?_) (fun yu => ?_)
 refine ae.region ?_
 refine .mv ?_
 refine .vl (Y.zh rfl rfl om) ?_
 refine .vl (Y.qb rfl rfl aC) ?_
 refine .mv ?_
 refine .vl (Y.zh rfl rfl om) ?_
 refine .mv ?_
 refine .vl (Y.zh rfl rfl om) ?_
 refine .mv ?_
 refine .vl (Y.zh rfl rfl om) ?_
 refine .vl (Y.qb rfl rfl aC) ?_
 refine .vl (Y.qb rfl rfl aC) ?_
 refine .fa bB ?_
 refine aa.aj cT rfl rfl rfl rfl rfl rfl (Nat.le_of_ble_eq_true rfl) rfl ?_
 refine .fa bt ?_
 refine aa.aj cT rfl rfl rfl rfl rfl rfl (Nat.le_of_ble_eq_true rfl) rfl (aa.nil (ae.sr ?_))
 refine .vl (Y.za cu rfl rfl (Nat.le_of_ble_eq_true rfl) rfl rfl) (aa.aj bo rfl rfl rfl rfl rfl rfl (Nat.le_of_ble_eq_true rfl) rfl ?_)
 refine .an ?_
 refine aa.nil (ae.ret ?_)
 first | (exfalso; omega) | exact ⟨_, _, rfl, rfl, _, _, _, _, _, _, _, om, rfl, rfl⟩
 refine ae.sr (.vl (Y.qk rfl rfl) ?_)
 refine .an ?_
 refine aa.nil ?_
 refine ae.ay rfl (fun Eb => ?_) (fun Eb => ?_)
 refine ae.region ?_
 refine .mv ?_
 refine .vl (Y.zh rfl rfl om) ?_
 refine .vl (Y.qb rfl rfl aC) ?_
 refine .fa bB ?_
 refine aa.aj cT rfl rfl rfl rfl rfl rfl (Nat.le_of_ble_eq_true rfl) rfl ?_
 refine .fa bt ?_
 refine aa.aj cT rfl rfl rfl rfl rfl rfl (Nat.le_of_ble_eq_true rfl) rfl (aa.nil (ae.sr ?_))
 refine .vl (Y.za cu rfl rfl (Nat.le_of_ble_eq_true rfl) rfl rfl) (aa.aj bo rfl rfl rfl rfl rfl rfl (Nat.le_of_ble_eq_true rfl) rfl ?_)
 refine .an ?_
 refine aa.nil (ae.ret ?_)
 first | (exfalso; omega) | exact ⟨_, _, rfl, rfl, _, _, _, _, _, _, _, om, rfl, rfl⟩
 refine ae.seq (ae.sr (.vl (Y.qk rfl rfl) ?_))
 refine .an ?_
 refine aa.nil ?_
 refine ae.aU rfl (fun u3 => ?_) (fun u3 => ?_)
 refine ae.skip (ae.aE rfl (ae.region ?_))
 refine .mv ?_
 refine .vl (Y.zh rfl rfl om) ?_
 refine .vl (Y.qb rfl rfl aC) ?_
 refine .mv ?_
 refine .vl (Y.zh rfl rfl om) ?_
 refine .mv ?_
 refine .vl (Y.zh rfl rfl om) ?_
 refine .mv ?_
 refine .vl (Y.zh rfl rfl om) ?_
 refine .vl (Y.qb rfl rfl aC) ?_
 refine .fa bB ?_
 refine aa.aj cT rfl rfl rfl rfl rfl rfl (Nat.le_of_ble_eq_true rfl) rfl ?_
 refine .fa bt ?_
 refine aa.aj cT rfl rfl rfl rfl rfl rfl (Nat.le_of_ble_eq_true rfl) rfl (aa.nil (ae.sr ?_))
 refine .vl (Y.za cu rfl rfl (Nat.le_of_ble_eq_true rfl) rfl rfl) (aa.aj bo rfl rfl rfl rfl rfl rfl (Nat.le_of_ble_eq_true rfl) rfl ?_)
 refine .an ?_
 refine aa.nil (ae.ret ?_)
 first | (exfalso; omega) | exact ⟨_, _, rfl, rfl, _, _, _, _, _, _, _, om, rfl, rfl⟩
 refine ae.region (.vl (Y.qk rfl rfl) ?_)
 refine .an ?_
 refine aa.nil ?_
 refine ae.aU rfl (fun u3 => ?_) (fun u3 => ?_)
 refine ae.region ?_
 refine .mv ?_
 refine .vl (Y.zh rfl rfl om) ?_
 refine .vl (Y.qb rfl rfl aC) ?_
 refine .mv ?_
 refine .vl (Y.zh rfl rfl om) ?_
 refine .mv ?_
 refine .vl (Y.zh rfl rfl om) ?_
 refine .mv ?_
 refine .vl (Y.zh rfl rfl om) ?_
 refine .vl (Y.qb rfl rfl aC) ?_
 refine .fa bB ?_
 refine aa.aj cT rfl rfl rfl rfl rfl rfl (Nat.le_of_ble_eq_true rfl) rfl ?_
 refine .fa bt ?_
 refine aa.aj cT rfl rfl rfl rfl rfl rfl (Nat.le_of_ble_eq_true rfl) rfl (aa.nil (ae.sr ?_))
 refine .vl (Y.za cu rfl rfl (Nat.le_of_ble_eq_true rfl) rfl rfl) (aa.aj bo rfl rfl rfl rfl rfl rfl (Nat.le_of_ble_eq_true rfl) rfl ?_)
 refine .an ?_
 refine aa.nil (ae.ret ?_)
 first | (exfalso; omega) | exact ⟨_, _, rfl, rfl, _, _, _, _, _, _, _, om, rfl, rfl⟩
 refine ae.sr (.vl (Y.qk rfl rfl) ?_)
 refine .an ?_
 refine aa.nil ?_
 refine ae.ay rfl (fun r8 => ?_) (fun r8 => ?_)
 refine ae.region ?_
 refine .mv ?_
 refine .vl (Y.zh rfl rfl om) ?_
 refine .vl (Y.qb rfl rfl aC) ?_
 refine .mv ?_
 refine .vl (Y.zh rfl rfl om) ?_
 refine .mv ?_
 refine .vl (Y.zh rfl rfl om) ?_
 refine .mv ?_
 refine .vl (Y.zh rfl rfl om) ?_
 refine .vl (Y.qb rfl rfl aC) ?_
 refine .fa bB ?_
 refine aa.aj cT rfl rfl rfl rfl rfl rfl (Nat.le_of_ble_eq_true rfl) rfl ?_
 refine .fa bt ?_
 refine aa.aj cT rfl rfl rfl rfl rfl rfl (Nat.le_of_ble_eq_true rfl) rfl (aa.nil (ae.sr ?_))
 refine .vl (Y.za cu rfl rfl (Nat.le_of_ble_eq_true rfl) rfl rfl) (aa.aj bo rfl rfl rfl rfl rfl rfl (Nat.le_of_ble_eq_true rfl) rfl ?_)
 refine .an ?_
 refine aa.nil (ae.ret ?_)
 first | (exfalso; omega) | exact ⟨_, _, rfl, rfl, _, _, _, _, _, _, _, om, rfl, rfl⟩
 refine ae.sr (.vl (Y.qk rfl rfl) ?_)
 refine .an ?_
 refine aa.nil ?_
 refine ae.ay rfl (fun Ec => ?_) (fun Ec => ?_)
 refine ae.region ?_
 refine .mv ?_
 refine .vl (Y.qb rfl rfl aC) ?_
 refine .vl (Y.zn rfl rfl om) ?_
 refine .vl (Y.qb rfl rfl aC) ?_
 refine .mv ?_
 refine .vl (Y.zh rfl rfl om) ?_
 refine .mv ?_
 refine .vl (Y.zh rfl rfl om) ?_
 refine .fa fq ?_
 refine aa.aj cT rfl rfl rfl rfl rfl rfl (Nat.le_of_ble_eq_true rfl) rfl ?_
 refine .fa gy ?_
 refine aa.aj cT rfl rfl rfl rfl rfl rfl (Nat.le_of_ble_eq_true rfl) rfl ?_
 refine .fa g5 ?_
 refine aa.aj cT rfl rfl rfl rfl rfl rfl (Nat.le_of_ble_eq_true rfl) rfl ?_
 refine .fa bt ?_
 refine aa.aj cT rfl rfl rfl rfl rfl rfl (Nat.le_of_ble_eq_true rfl) rfl (aa.nil (ae.sr ?_))
 refine .vl (Y.za cu rfl rfl (Nat.le_of_ble_eq_true rfl) rfl rfl) (aa.aj bo rfl rfl rfl rfl rfl rfl (Nat.le_of_ble_eq_true rfl) rfl ?_)
 refine .an ?_
 refine aa.nil (ae.ret ?_)
 first | (exfalso; omega) | exact ⟨_, _, rfl, rfl, _, _, _, _, _, _, _, om, rfl, rfl⟩
 refine ae.seq (ae.sr (.vl (Y.qk rfl rfl) ?_))
 refine .an ?_
 refine aa.nil ?_
 refine ae.aU rfl (fun gr => ?_) (fun gr => ?_)
 refine ae.skip (ae.aE rfl (ae.sr ?_))
 refine .mv ?_
 refine .vl (Y.qb rfl rfl aC) ?_
 refine .vl (Y.zx rfl rfl aC) ?_
 refine .fa fq ?_
 refine aa.aj cT rfl rfl rfl rfl rfl rfl (Nat.le_of_ble_eq_true rfl) rfl (aa.nil (ae.region ?_))
 refine .mv ?_
 refine .vl (Y.qb rfl rfl aC) ?_
 refine .vl (Y.zn rfl rfl om) ?_
 refine .vl (Y.qb rfl rfl aC) ?_
 refine .mv ?_
 refine .vl (Y.qb rfl rfl aC) ?_
 refine .vl (Y.zn rfl rfl om) ?_
 refine .vl (Y.qb rfl rfl aC) ?_
 refine .mv ?_
 refine .vl (Y.zh rfl rfl om) ?_
 refine .mv ?_
 refine .vl (Y.zh rfl rfl om) ?_
 refine .fa gy ?_
 refine aa.aj cT rfl rfl rfl rfl rfl rfl (Nat.le_of_ble_eq_true rfl) rfl ?_
 refine .fa g5 ?_
 refine aa.aj cT rfl rfl rfl rfl rfl rfl (Nat.le_of_ble_eq_true rfl) rfl ?_
 refine .fa bt ?_
 refine aa.aj cT rfl rfl rfl rfl rfl rfl (Nat.le_of_ble_eq_true rfl) rfl (aa.nil (ae.sr ?_))
 refine .vl (Y.za cu rfl rfl (Nat.le_of_ble_eq_true rfl) rfl rfl) (aa.aj bo rfl rfl rfl rfl rfl rfl (Nat.le_of_ble_eq_true rfl) rfl ?_)
 refine .an ?_
 refine aa.nil (ae.ret ?_)
 first | (exfalso; omega) | exact ⟨_, _, rfl, rfl, _, _, _, _, _, _, _, om, rfl, rfl⟩
 refine ae.sr (.vl (Y.qk rfl rfl) ?_)
 refine .an ?_
 refine aa.nil ?_
 refine ae.aU rfl (fun gr => ?_) (fun gr => ?_)
 refine ae.skip (ae.aE rfl (ae.sr ?_))
 refine .mv ?_
 refine .vl (Y.qb rfl rfl aC) ?_
 refine .vl (Y.zx rfl rfl aC) ?_
 refine .fa fq ?_
 refine aa.aj cT rfl rfl rfl rfl rfl rfl (Nat.le_of_ble_eq_true rfl) rfl (aa.nil (ae.region ?_))
 refine .mv ?_
 refine .vl (Y.qb rfl rfl aC) ?_
 refine .vl (Y.zn rfl rfl om) ?_
 refine .vl (Y.qb rfl rfl aC) ?_
 refine .mv ?_
 refine .vl (Y.qb rfl rfl aC) ?_
 refine .vl (Y.zn rfl rfl om) ?_
 refine .vl (Y.qb rfl rfl aC) ?_
 refine .mv ?_
 refine .vl (Y.zh rfl rfl om) ?_
 refine .mv ?_
 refine .vl (Y.zh rfl rfl om) ?_
 refine .fa gy ?_
 refine aa.aj cT rfl rfl rfl rfl rfl rfl (Nat.le_of_ble_eq_true rfl) rfl ?_
 refine .fa g5 ?_
 refine aa.aj cT rfl rfl rfl rfl rfl rfl (Nat.le_of_ble_eq_true rfl) rfl ?_
 refine .fa bt ?_
 refine aa.aj cT rfl rfl rfl rfl rfl rfl (Nat.le_of_ble_eq_true rfl) rfl (aa.nil (ae.sr ?_))
 refine .vl (Y.za cu rfl rfl (Nat.le_of_ble_eq_true rfl) rfl rfl) (aa.aj bo rfl rfl rfl rfl rfl rfl (Nat.le_of_ble_eq_true rfl) rfl ?_)
 refine .an ?_
 refine aa.nil (ae.ret ?_)
 first | (exfalso; omega) | exact ⟨_, _, rfl, rfl, _, _, _, _, _, _, _, om, rfl, rfl⟩
 refine ae.sr (.vl (Y.qk rfl rfl) ?_)
 refine .an ?_
 refine aa.nil ?_
 refine ae.aU rfl (fun gr => ?_) (fun gr => ?_)
 refine ae.skip (ae.aE rfl (ae.sr ?_))
 refine .mv ?_
 refine .vl (Y.qb rfl rfl aC) ?_
 refine .vl (Y.zx rfl rfl aC) ?_
 refine .fa fq ?_
 refine aa.aj cT rfl rfl rfl rfl rfl rfl (Nat.le_of_ble_eq_true rfl) rfl (aa.nil (ae.region ?_))
 refine .mv ?_
 refine .vl (Y.qb rfl rfl aC) ?_
 refine .vl (Y.zn rfl rfl om) ?_
 refine .vl (Y.qb rfl rfl aC) ?_
 refine .mv ?_
 refine .vl (Y.qb rfl rfl aC) ?_
 refine .vl (Y.zn rfl rfl om) ?_
 refine .vl (Y.qb rfl rfl aC) ?_
 refine .mv ?_
 refine .vl (Y.zh rfl rfl om) ?_
 refine .mv ?_
 refine .vl (Y.zh rfl rfl om) ?_
 refine .fa gy ?_
 refine aa.aj cT rfl rfl rfl rfl rfl rfl (Nat.le_of_ble_eq_true rfl) rfl ?_
 refine .fa g5 ?_
 refine aa.aj cT rfl rfl rfl rfl rfl rfl (Nat.le_of_ble_eq_true rfl) rfl ?_
 refine .fa bt ?_
 refine aa.aj cT rfl rfl rfl rfl rfl rfl (Nat.le_of_ble_eq_true rfl) rfl (aa.nil (ae.sr ?_))
 refine .vl (Y.za cu rfl rfl (Nat.le_of_ble_eq_true rfl) rfl rfl) (aa.aj bo rfl rfl rfl rfl rfl rfl (Nat.le_of_ble_eq_true rfl) rfl ?_)
 refine .an ?_
 refine aa.nil (ae.ret ?_)
 first | (exfalso; omega) | exact ⟨_, _, rfl, rfl, _, _, _, _, _, _, _, om, rfl, rfl⟩
 refine ae.region (.vl (Y.qk rfl rfl) ?_)
 refine .an ?_
 refine aa.nil ?_
 refine ae.aU rfl (fun gr => ?_) (fun gr => ?_)
 refine ae.sr ?_
 refine .mv ?_
 refine .vl (Y.qb rfl rfl aC) ?_
 refine .vl (Y.zx rfl rfl aC) ?_
 refine .fa fq ?_
 refine aa.aj cT rfl rfl rfl rfl rfl rfl (Nat.le_of_ble_eq_true rfl) rfl (aa.nil (ae.region ?_))
 refine .mv ?_
 refine .vl (Y.qb rfl rfl aC) ?_
 refine .vl (Y.zn rfl rfl om) ?_
 refine .vl (Y.qb rfl rfl aC) ?_
 refine .mv ?_
 refine .vl (Y.qb rfl rfl aC) ?_
 refine .vl (Y.zn rfl rfl om) ?_
 refine .vl (Y.qb rfl rfl aC) ?_
 refine .mv ?_
 refine .vl (Y.zh rfl rfl om) ?_
 refine .mv ?_
 refine .vl (Y.zh rfl rfl om) ?_
 refine .fa gy ?_
 refine aa.aj cT rfl rfl rfl rfl rfl rfl (Nat.le_of_ble_eq_true rfl) rfl ?_
 refine .fa g5 ?_
 refine aa.aj cT rfl rfl rfl rfl rfl rfl (Nat.le_of_ble_eq_true rfl) rfl ?_
 refine .fa bt ?_
 refine aa.aj cT rfl rfl rfl rfl rfl rfl (Nat.le_of_ble_eq_true rfl) rfl (aa.nil (ae.sr ?_))
 refine .vl (Y.za cu rfl rfl (Nat.le_of_ble_eq_true rfl) rfl rfl) (aa.aj bo rfl rfl rfl rfl rfl rfl (Nat.le_of_ble_eq_true rfl) rfl ?_)
 refine .an ?_
 refine aa.nil (ae.ret ?_)
 first | (exfalso; omega) | exact ⟨_, _, rfl, rfl, _, _, _, _, _, _, _, om, rfl, rfl⟩
 refine ae.skip (ae.sr (.vl (Y.za cu rfl rfl (Nat.le_of_ble_eq_true rfl) rfl rfl) ?_))
 refine aa.aj bo rfl rfl rfl rfl rfl rfl (Nat.le_of_ble_eq_true rfl) rfl ?_
 refine .an ?_
 refine aa.nil (ae.ret ?_)
 first | (exfalso; omega) | exact ⟨_, _, rfl, rfl, _, _, _, _, _, _, _, om, rfl, rfl⟩
open Go Go.AW Go.Proofs
set_option maxRecDepth 4000 in
set_option maxHeartbeats 1000000 in
theorem rH {op : Int} (hp : Plain op) : al Try.prog 74 [.v (.int .i64 op)] [] [] (fun r o => r = .v (.bool true) ∧ o = []) := by
 refine al.of Try.func74 rfl rfl rfl (n := 17) ah (Nat.le_of_ble_eq_true rfl) (ae.sr ?_)
 refine .an ?_
 refine aa.nil (ae.sr ?_)
 refine .mv ?_
 refine aa.jV BX (Bp (op := op) (x := 1) hp ah ah) rfl (.ao rfl rfl (.ao rfl rfl .nil)) ah ?_
 rintro _ ⟨Ro, rfl, _⟩
 refine ⟨rfl, ?_⟩
 refine .mv ?_
 refine .vl (Y.qm rfl rfl rfl) (.vl (Y.qm rfl rfl rfl) (aa.alloc 103 eX rfl rfl ah ?_))
 refine aa.aj bo rfl rfl rfl rfl rfl rfl (Nat.le_of_ble_eq_true rfl) rfl ?_
 refine .an ?_
 refine aa.nil (ae.sr ?_)
 refine .mv ?_
 refine .vl (Y.qk rfl rfl) ?_
 refine .mv ?_
 refine .gw 12 (Y.qo fq rfl rfl) (.gw 12 (Y.qz aZ rfl rfl rfl rfl) (.gw 12 (Y.qk rfl rfl) ?_))
 refine .pk ?_
 refine .an ?_
 refine aa.nil (ae.ret ?_)
 exact .rb rfl (rfl)
set_option maxRecDepth 4000 in
set_option maxHeartbeats 1000000 in
theorem sT {op : Int} (hp : ¬ Plain op) : al Try.prog 74 [.v (.int .i64 op)] [] [] (fun r o => r = .v (.bool false) ∧ o = []) := by
 refine al.of Try.func74 rfl rfl rfl (n := 17) ah (Nat.le_of_ble_eq_true rfl) (ae.sr ?_)
 refine .an ?_
 refine aa.nil (ae.sr ?_)
 refine .mv ?_
 refine aa.jV BX (yQ (op := op) hp) rfl (.ao rfl rfl (.ao rfl rfl .nil)) ah ?_
 rintro _ ⟨Rp, Rq, Rr, Rs, Ru, Rv, Rw, Rz, rfl, _⟩
 refine ⟨rfl, ?_⟩
 refine .mv ?_
 refine .vl (Y.qm rfl rfl rfl) (.vl (Y.qm rfl rfl rfl) (aa.alloc 103 eX rfl rfl ah ?_))
 refine aa.aj bo rfl rfl rfl rfl rfl rfl (Nat.le_of_ble_eq_true rfl) rfl ?_
 refine .an ?_
 refine aa.nil (ae.sr ?_)
 refine .mv ?_
 refine .vl (Y.qk rfl rfl) ?_
 refine .mv ?_
 refine aa.ax (d := 12) rfl (fun vp => ?_) (fun vp => ?_)
 refine .gw 12 (Y.qo fq rfl rfl) (.gw 12 (Y.qz aZ rfl rfl rfl rfl) (.gw 12 (Y.qk rfl rfl) ?_))
 refine .pk ?_
 refine .an ?_
 refine aa.nil (ae.ret ?_)
 exact .rb rfl (decide_eq_false om)
 refine .gz 12 (.gz 12 (.gz 12 ?_))
 refine .pk ?_
 refine .an ?_
 refine aa.nil (ae.ret ?_)
 exact .rb rfl (rfl)
theorem pW {op : Int} : al Try.prog 74 [.v (.int .i64 op)] [] [] (fun r o => r = .v (.bool (decide (Plain op))) ∧ o = []) := by
  by_cases h : Plain op
  · rw [decide_eq_true h]; exact rH h
  · rw [decide_eq_false h]; exact sT h
open Go Go.AW
def wG (k : Nat) : List Cell := (List.range k).map (fun (j : Nat) => (⟨8, 0, (j : Int), [], j, 0⟩ : Cell))
theorem sU (k : Nat) : wG (k + 1) = wG k ++ [(⟨8, 0, (k : Int), [], k, 0⟩ : Cell)] := by simp [wG, List.range_succ]
theorem ic (k : Nat) : (wG k).length = k := by simp [wG]
theorem Br {k j : Nat} (h : j < k) : (wG k).getD j default = ⟨8, 0, (j : Int), [], j, 0⟩ := by
 unfold wG
 rw [List.getD_eq_getElem?_getD, List.getElem?_map, List.getElem?_range h]; rfl
def p6 (op : Int) (k : Nat) : List Cell := (wG k ++ [(⟨2, op, (k : Int), ml 0 k, 0, 0⟩ : Cell)]) ++ [(⟨1, 0, (k : Int) + 1, [], 0, 0⟩ : Cell)]
def fJ (op : Int) (ws : List Int) (width : Int) : ab := ⟨ByteArray.empty, (ws ++ [width]) ++ [1], p6 op ws.length, ws, [], [], [], [], (ws.length : Int) + 1, (ws.length : Int) + 1, []⟩
theorem lh (op : Int) (k : Nat) : (p6 op k).length = k + 2 := by simp [p6, ic]
theorem n7 {op : Int} {k j : Nat} (h : j < k) : (p6 op k).getD j default = ⟨8, 0, (j : Int), [], j, 0⟩ := by
 unfold p6
 rw [eo (by simp [ic]; omega), eo (by rw [ic]; exact h), Br h]
theorem n8 {op : Int} {k : Nat} : (p6 op k).getD k default = ⟨2, op, (k : Int), ml 0 k, 0, 0⟩ := by
 unfold p6
 rw [eo (by simp [ic]), gp (ic k).symm]
theorem mJ {op : Int} {k : Nat} : (p6 op k).getD (k + 1) default = ⟨1, 0, (k : Int) + 1, [], 0, 0⟩ := by
 unfold p6
 rw [gp (by simp [ic])]
theorem oz {op : Int} {k j : Nat} (h : j < k + 2) : ((p6 op k).getD j default).out = (j : Int) ∧ ((p6 op k).getD j default).kind ≠ 7 := by
 rcases (show j < k ∨ j = k ∨ j = k + 1 by omega) with h1 | rfl | rfl
 ·rw [n7 h1]; exact ⟨rfl, by simp⟩
 ·rw [n8]; exact ⟨rfl, by simp⟩
 ·rw [mJ]; exact ⟨by simp, by simp⟩
theorem qL {op : Int} {k w : Nat} : ∀ {i : Nat}, i ≤ k + 2 → cg ((p6 op k).take i) w = if w < i then 1 else 0
 | 0, _ => by simp [cg]
 | i + 1, h => by
  rw [eg (by rw [lh]; omega), qL om]
  obtain ⟨h1, h2⟩ := oz (op := op) (k := k) (j := i) om
  rw [h1]
  by_cases hw : w = i
  ·subst hw; rw [if_neg om, if_pos ⟨h2, rfl⟩, if_pos om]
  ·rw [if_neg (show ¬ (((p6 op k).getD i default).kind ≠ 7 ∧ (i : Int) = (w : Int)) from fun h => hw om)]
   by_cases h3 : w < i
   ·rw [if_pos h3, if_pos om]
   ·rw [if_neg h3, if_neg om]
def u4 (op : Int) (ws : List Int) (width : Int) : Prop :=
 (∀ w ∈ ws, cG w) ∧ cG width ∧ bA op ≠ 0 ∧ (ws.length : Int) = bA op ∧ cv op (ws.getD 0 0) (ws.getD 1 0) (ws.getD 2 0) width
section
variable {op width : Int} {ws : List Int}
theorem jR {op : Int} : bA op ≤ 3 ∧ 0 ≤ bA op := by unfold bA; (repeat' split) <;> omega
theorem Cs {j : Nat} (h : j < ws.length) : (fJ op ws width).wd (j : Int) = ws.getD j 0 := by
 unfold ab.wd fJ
 rw [Int.toNat_natCast]
 show ((ws ++ [width]) ++ [1]).getD j 0 = _
 rw [eo (by simp; omega), eo h]
theorem HK : (fJ op ws width).wd (ws.length : Int) = width := by
 unfold ab.wd fJ
 rw [Int.toNat_natCast]
 show ((ws ++ [width]) ++ [1]).getD ws.length 0 = _
 rw [eo (by simp), gp rfl]
theorem Ct : (fJ op ws width).wd ((ws.length : Int) + 1) = 1 := by
 unfold ab.wd fJ
 show ((ws ++ [width]) ++ [1]).getD ((ws.length : Int) + 1).toNat 0 = _
 rw [gp (by simp)]
theorem yR {j : Nat} (h : j < ws.length) : (fJ op ws width).av ⟨2, op, (ws.length : Int), ml 0 ws.length, 0, 0⟩ j = ws.getD j 0 := by
 unfold ab.av
 show (fJ op ws width).wd ((ml 0 ws.length).getD j 0) = _
 rw [vt h, Nat.zero_add, Cs h]
theorem Cu : (fJ op ws width).ow ⟨2, op, (ws.length : Int), ml 0 ws.length, 0, 0⟩ = width := by
 unfold ab.ow
 show (if 0 ≤ (ws.length : Int) then (fJ op ws width).wd (ws.length : Int) else 0) = width
 rw [if_pos om, HK]
theorem vw (hl : (ws.length : Int) = bA op) (h0 : bA op ≠ 0) : cv op ((fJ op ws width).av ⟨2, op, (ws.length : Int), ml 0 ws.length, 0, 0⟩ 0) ((fJ op ws width).av ⟨2, op, (ws.length : Int), ml 0 ws.length, 0, 0⟩ 1) ((fJ op ws width).av ⟨2, op, (ws.length : Int), ml 0 ws.length, 0, 0⟩ 2) width ↔ cv op (ws.getD 0 0) (ws.getD 1 0) (ws.getD 2 0) width := by
 have h3 := jR (op := op)
 refine r4 (yR om) (fun h => yR ?_) (fun h => yR ?_)
 ·unfold bA at hl h0; (repeat' split at hl) <;> (repeat' split at h0) <;> omega
 ·unfold bA at hl; (repeat' split at hl) <;> omega
theorem HL (hk : ws.length ≤ 5) (h : u4 op ws width) : m6 (fJ op ws width) = 0 := by
 obtain ⟨hw, vT, h0, hl, hf⟩ := h
 have hlen : (fJ op ws width).ai.length = ws.length + 2 := by simp [fJ]
 have qR : (fJ op ws width).cells.length = ws.length + 2 := lh op ws.length
 have w8 : ∀ x ∈ ml 0 ws.length, In x (fJ op ws width).ai.length := fun x hx => by
  obtain ⟨i, hi, rfl⟩ := List.mem_map.1 hx
  have := List.mem_range.1 hi
  rw [hlen]; unfold In; omega
 refine xX ⟨⟨fun i hi => by simp [fJ] at hi, by simp [fJ]⟩, by rw [qR]; omega, by rw [hlen]; omega, by simp [fJ], by simp [fJ], rfl, rfl, fun j hj => ?_, fun j hj => by simp [fJ] at hj, fun j hj => by simp [fJ] at hj, ?_, ?_, fun r hr => by simp [fJ] at hr, fun j hj => ?_, fun w hw => ?_⟩ ⟨Ct, Ct, fun j hj => by simp [fJ] at hj, fun j hj => ?_⟩ ⟨fun _ => 0, fun i j hi hj hm => ?_⟩
 ·have : ∀ x ∈ (fJ op ws width).ai ++ (fJ op ws width).ins, cG x := fun x hx => by
   simp only [fJ, List.mem_append, List.mem_singleton] at hx
   rcases hx with ((h | rfl) | rfl) | h
   ·exact hw x h
   ·exact vT
   ·exact xV
   ·exact hw x h
  exact this _ (getD_in hj)
 ·show In ((ws.length : Int) + 1) (fJ op ws width).ai.length
  rw [hlen]; unfold In; omega
 ·show In ((ws.length : Int) + 1) (fJ op ws width).ai.length
  rw [hlen]; unfold In; omega
 ·rw [qR] at hj
  show iz (fJ op ws width) ((p6 op ws.length).getD j default)
  refine ⟨?_, ?_, fun h => absurd h (oz hj).2, fun _ => by rw [(oz hj).1, hlen]; unfold In; omega⟩
  ·rcases (show j < ws.length ∨ j = ws.length ∨ j = ws.length + 1 by omega) with h1 | rfl | rfl
   ·rw [n7 h1]; exact fun x hx => by cases hx
   ·rw [n8]; exact w8
   ·rw [mJ]; exact fun x hx => by cases hx
  ·rcases (show j < ws.length ∨ j = ws.length ∨ j = ws.length + 1 by omega) with h1 | rfl | rfl
   ·rw [n7 h1]; exact .inr (.inr (.inr (.inr (.inr (.inr (.inr (.inl ⟨rfl, rfl, rfl, h1, rfl⟩)))))))
   ·rw [n8]; exact .inr (.inl ⟨rfl, h0, by rw [jc]; exact hl, rfl, rfl⟩)
   ·rw [mJ]; exact .inl ⟨rfl, rfl, rfl, rfl⟩
 ·rw [hlen] at hw
  have := qL (op := op) (k := ws.length) (w := w) (Nat.le_refl _)
  rw [← lh op ws.length, List.take_length, lh, if_pos hw] at this
  exact this
 ·rw [qR] at hj
  show Fits (fJ op ws width) ((p6 op ws.length).getD j default)
  rcases (show j < ws.length ∨ j = ws.length ∨ j = ws.length + 1 by omega) with h1 | rfl | rfl
  ·rw [n7 h1]
   refine .inr (.inr (.inr (.inr (.inr (.inr (.inr (.inl ⟨rfl, ?_⟩)))))))
   show ws.getD j 0 = (if 0 ≤ (j : Int) then (fJ op ws width).wd (j : Int) else 0)
   rw [if_pos om, Cs h1]
  ·rw [n8]
   refine .inr (.inl ⟨rfl, ?_⟩)
   rw [Cu]; exact (vw hl h0).2 hf
  ·rw [mJ]
   refine .inl ⟨rfl, ?_⟩
   show ln _ 0 = 0
   exact Nat.zero_mod _
 ·exfalso
  have FJ := hi.1.2; have PV := hj.1.2; have me := hi.1.1; have R0 := hj.1.1
  rw [qR] at FJ PV
  have e1 : (fJ op ws width).cell i = (p6 op ws.length).getD i.toNat default := rfl
  have e2 : (fJ op ws width).cell j = (p6 op ws.length).getD j.toNat default := rfl
  have ho := (oz (op := op) (k := ws.length) (j := j.toNat) om).1
  rw [e1, e2, ho] at hm
  have CR := hj.2
  rw [e2] at CR
  rcases (show i.toNat < ws.length ∨ i.toNat = ws.length ∨ i.toNat = ws.length + 1 by omega) with h1 | h1 | h1
  ·rw [n7 h1] at hm; cases hm
  ·rw [h1, n8] at hm
   obtain ⟨q, hq, LH⟩ := List.mem_map.1 hm
   have := List.mem_range.1 hq
   rw [n7 om] at CR
   unfold cH at CR; simp only at CR; omega
  ·rw [h1, mJ] at hm; cases hm
theorem Bs (h : m6 (fJ op ws width) = 0) : u4 op ws width := by
 have hlen : (fJ op ws width).ai.length = ws.length + 2 := by simp [fJ]
 have qR : (fJ op ws width).cells.length = ws.length + 2 := lh op ws.length
 unfold m6 at h
 by_cases h1 : bq (fJ op ws width)
 ·rw [if_pos h1] at h
  by_cases h2 : Fit (fJ op ws width)
  ·have hc := h1.cells ws.length (by rw [qR]; omega)
   have DF := h2.cells ws.length (by rw [qR]; omega)
   have e1 : (fJ op ws width).cells.getD ws.length default = ⟨2, op, (ws.length : Int), ml 0 ws.length, 0, 0⟩ := n8
   rw [e1] at hc DF
   have hs := hc.2.1
   simp only [Shaped, Int.reduceEq, false_and, true_and, false_or, or_false, jc] at hs
   simp only [Fits, Int.reduceEq, false_and, true_and, false_or, or_false] at DF
   rw [Cu] at DF
   have vT : ∀ x ∈ (fJ op ws width).ai ++ (fJ op ws width).ins, cG x := fun x hx => by
    obtain ⟨i, hi, rfl⟩ := List.mem_iff_getElem.1 hx
    have := h1.wide i hi
    rwa [List.getD_eq_getElem?_getD, List.getElem?_eq_getElem hi] at this
   refine ⟨fun w hw => vT w (by simp [fJ, hw]), vT width (by simp [fJ]), hs.1, hs.2.1, (vw hs.2.1 hs.1).1 DF⟩
  ·rw [if_neg h2] at h; omega
 ·rw [if_neg h1] at h; omega
theorem yS (hk : ws.length ≤ 5) : (fJ op ws width).Small := by
 refine ⟨by simp [fJ], by simp [fJ]; omega, by show (p6 op ws.length).length ≤ _; rw [lh]; omega, fun c hc => ?_, ?_, fun c hc => ?_, fun m hm => by simp [fJ] at hm, fun m hm => by simp [fJ] at hm, by show ws.length ≤ _; omega, by simp [fJ], by simp [fJ], by simp [fJ], by simp [fJ], by simp [fJ]⟩
 ·simp only [fJ, p6, wG, List.mem_append, List.mem_map, List.mem_range, List.mem_singleton] at hc
  rcases hc with (⟨j, _, rfl⟩ | rfl) | rfl
  ·simp
  ·simp only [jc]; omega
  ·simp
 ·show ((p6 op ws.length).map (fun c => c.args.length)).sum ≤ _
  have h1 : ∀ k, ((wG k).map (fun c => c.args.length)).sum = 0 := fun k => by
   induction k with
   | zero => rfl
   | succ k ih => rw [sU, List.map_append, List.sum_append, ih]; rfl
  simp only [p6, List.map_append, List.sum_append, h1, List.map_cons, List.map_nil, List.sum_cons, List.sum_nil, jc, List.length_nil]; omega
 ·simp only [fJ, p6, wG, List.mem_append, List.mem_map, List.mem_range, List.mem_singleton] at hc
  rcases hc with (⟨j, _, rfl⟩ | rfl) | rfl
  ·simp only; omega
  ·simp
  ·simp
end
open Go Go.AW
def gH (ws : List Int) : Nat → Nat
  | 0 => 0
  | i + 1 => gH ws i + (ws.getD i 0).toNat
theorem vx {ws : List Int} (h : ∀ w ∈ ws, cG w) : ∀ i, i ≤ ws.length → gH ws i ≤ 64 * i
  | 0, _ => by simp [gH]
  | i + 1, hi => by
    have h1 := vx h i om
    have h2 := h (ws.getD i 0) (getD_in om)
    unfold cG at h2
    simp only [gH]; omega
theorem n9 {ws : List Int} {i : Nat} : ∀ {j}, i ≤ j → gH ws i ≤ gH ws j
  | 0, h => by have : i = 0 := by omega
               subst this; exact Nat.le_refl _
  | j + 1, h => by
    rcases Nat.lt_or_ge j i with h1 | h1
    · have : i = j + 1 := by omega
      subst this; exact Nat.le_refl _
    · have := n9 (ws := ws) h1
      simp only [gH]; omega
def wL (ws : List Int) (i : Nat) : List (List Int) := (List.range i).map (fun j => ml (gH ws j) (ws.getD j 0).toNat)
theorem Bt (ws : List Int) (i : Nat) : wL ws (i + 1) = wL ws i ++ [ml (gH ws i) (ws.getD i 0).toNat] := by simp [wL, List.range_succ]
theorem p7 (ws : List Int) (i : Nat) : (wL ws i).length = i := by simp [wL]
theorem Ed {ws : List Int} {i j : Nat} (h : j < i) : (wL ws i).getD j [] = ml (gH ws j) (ws.getD j 0).toNat := by
  unfold wL
  rw [List.getD_eq_getElem?_getD, List.getElem?_map, List.getElem?_range h]; rfl
theorem yT {op : Int} {k : Nat} (h0 : bA op ≠ 0) (hl : (k : Int) = bA op) : (((2 ≤ op ∧ op ≤ 3) ∨ (9 ≤ op ∧ op ≤ 20)) ∧ k = 2) ∨ (op = 21 ∧ k = 3) ∨ ((22 ≤ op ∧ op ≤ 24) ∧ k = 1) := by
  unfold bA at h0 hl
  by_cases h1 : (2 ≤ op ∧ op ≤ 3) ∨ (9 ≤ op ∧ op ≤ 20)
  · rw [if_pos h1] at hl; exact .inl ⟨h1, om⟩
  · rw [if_neg h1] at hl h0
    by_cases h2 : op = 21
    · rw [if_pos h2] at hl; exact .inr (.inl ⟨h2, om⟩)
    · rw [if_neg h2] at hl h0
      by_cases h3 : 22 ≤ op ∧ op ≤ 24
      · rw [if_pos h3] at hl; exact .inr (.inr ⟨h3, om⟩)
      · rw [if_neg h3] at h0; exact absurd rfl h0
section
variable {op width c : Int} {ws : List Int}
theorem HM (h : u4 op ws width) (hc : 0 ≤ c) :
    DU c (mN (gH ws ws.length)) (wL ws ws.length) op (ws.getD 0 0).toNat width.toNat (Cq 0 (ws.getD 0 0).toNat) (Cq (gH ws 1) (ws.getD 1 0).toNat) (Cq (gH ws 2) (ws.getD 2 0).toNat) c := by
  obtain ⟨hw, vT, h0, hl, hf⟩ := h
  have wa := yT h0 hl
  have hg : ∀ {j}, j < ws.length → cG (ws.getD j 0) := fun hj => hw _ (getD_in hj)
  have yU : ∀ {j}, j < ws.length → Wk c (mN (gH ws ws.length)) ((wL ws ws.length).getD j []) (ws.getD j 0).toNat (Cq (gH ws j) (ws.getD j 0).toNat) c := fun {j} hj => by
    rw [Ed hj]
    refine HB ?_
    have := n9 (ws := ws) (i := j + 1) (j := ws.length) om
    simpa [gH] using this
  have w0 := hg (j := 0) om
  have hx := yU (j := 0) om
  unfold cG at w0 vT
  unfold cv fY at hf
  rw [show gH ws 0 = 0 from rfl] at hx
  refine ⟨hx, fun h2 => ?_, fun h3 => ?_, ?_, om, om, hc⟩
  · rw [p7] at h2
    have hy := yU (j := 1) om
    have e : (ws.getD 1 0).toNat = if op = 21 then width.toNat else (ws.getD 0 0).toNat := by
      by_cases Nw : op = 21
      · rw [if_pos Nw]; omega
      · rw [if_neg Nw]; omega
    rw [← e]; exact hy
  · rw [p7] at h3
    have hz := yU (j := 2) om
    have e : (ws.getD 2 0).toNat = width.toNat := by omega
    rw [e] at hz ⊢; exact hz
  · rw [p7]; omega
theorem yV (h : u4 op ws width) : ws.length ≤ 3 ∧ gH ws ws.length ≤ 192 := by
  have h3 := jR (op := op)
  have h1 := vx h.1 ws.length (Nat.le_refl _)
  have h2 := h.2.2.2.1
  omega
noncomputable instance : Decidable (u4 op ws width) := Classical.propDecidable _
def HN (op : Int) (ws : List Int) (width : Int) : Prop := Plain op ∧ u4 op ws width
noncomputable instance : Decidable (HN op ws width) := Classical.propDecidable _
def qM (op : Int) (ws : List Int) (width : Int) (l : List Gate) (out : List Int) (e : Int) : Prop :=
  (¬ Plain op ∧ e = 1) ∨ (Plain op ∧ ¬ u4 op ws width ∧ e = 13) ∨
  (Plain op ∧ u4 op ws width ∧ e = 0 ∧ Ext (mN (gH ws ws.length)) l ∧ l.length ≤ 1800 ∧
    wm 0 l out op (ws.getD 0 0).toNat width.toNat (Cq 0 (ws.getD 0 0).toNat) (Cq (gH ws 1) (ws.getD 1 0).toNat) (Cq (gH ws 2) (ws.getD 2 0).toNat) 0)
end
open Go Go.AW Go.Proofs
theorem rI {gl : List Gate} (ox : gl.length ≤ 40000000) {x : Int} (hx : 0 ≤ x ∧ x ≤ 64) : al Try.prog 78 [.ptr 0 0 0 0, .v (.int .i64 x)] [.cells [.aY 1 3 0 gl.length], .rows 3 (gl.map Gate.row)] [0] (fun r o => r = .di 1 ((ml gl.length x.toNat).map aq) ∧ o = [.cells [.aY 1 3 0 (gl ++ mN x.toNat).length], .rows 3 ((gl ++ mN x.toNat).map Gate.row)]) := by
  obtain ⟨n, rfl⟩ : ∃ n : Nat, x = (n : Int) := ⟨x.toNat, om⟩
  rw [Int.toNat_natCast]; exact sP ox om
theorem p8 {c : Int} {gl : List Gate} (hg : Good gl) (ox : gl.length ≤ 20000000) {op : Int} {ws : List (List Int)} {w : Nat} {width : Int} {xN yN zN : List Bool → Nat} {t : Int} (hI : DU c gl ws op w width.toNat xN yN zN t) (tf : ws.length ≤ 100) (h0 : 0 ≤ width) :
    al Try.prog 79 [.ptr 0 0 0 0, .v (.int .i64 op), .fz 1 (ws.map gY), .v (.int .i64 width)] [.cells [.aY 1 3 0 gl.length], .rows 3 (gl.map Gate.row)] [0] (fun r o => ∃ (l : List Gate) (out : List Int), Ext gl l ∧ l.length ≤ gl.length + 1600 ∧ wm c l out op w width.toNat xN yN zN t ∧ r = .di 1 (out.map aq) ∧ o = [.cells [.aY 1 3 0 l.length], .rows 3 (l.map Gate.row)]) := by
  have h := pV (c := c) hg ox hI tf
  rwa [Int.toNat_of_nonneg h0] at h
set_option maxRecDepth 4000 in
set_option maxHeartbeats 8000000 in
theorem sV {op width : Int} {ws : List Int} (hk : ws.length ≤ 5) : al Try.prog 32 [.v (.int .i64 op), .fz 1 (ws.map aq), .v (.int .i64 width)] [] [] (fun r o => ∃ (l : List Gate) (out : List Int) (e : Int), qM op ws width l out e ∧ r = .tup [.di 3 (l.map Gate.row), .di 1 (out.map aq), .v (.int .i64 e)] ∧ o = []) := by
 refine al.of Try.func32 rfl rfl rfl (n := 106) ah (Nat.le_of_ble_eq_true rfl) (ae.sr ?_)
 refine .an ?_
 refine .an ?_
 refine .an ?_
 refine aa.nil (ae.sr (.vl (Y.qg GA GC rfl rfl rfl) ?_))
 refine aa.box 119 rfl rfl rfl rfl rfl ah ?_
 refine .an ?_
 refine aa.nil (ae.seq (ae.sh (Sh.oq 119 301 1 1 rfl rfl rfl rfl ah) ?_))
 refine ae.sh (Sh.oq 119 302 6 2 rfl rfl rfl rfl ah) (ae.sh (Sh.oq 119 303 1 3 rfl rfl rfl rfl ah) (ae.region ?_))
 refine .an ?_
 refine aa.sh (Sh.nil (d := 10) 110 1 rfl ah) (aa.nil (ae.seq ?_))
 refine ae.sr ?_
 refine .mv ?_
 refine .vl (Y.qw (n := ws.length) a8 rfl (congrArg some (List.length_map ..))) ?_
 refine .mv ?_
 refine aa.nil (ae.block ?_)
 refine ae.Fx (fun (dQ : Nat) (bN : List Int) (b5 : List Int) (dM : List Cell) (dw : List Int) => ⟨[(0, .v (.int .i64 op)), (1, .fz 1 (ws.map aq)), (2, .v (.int .i64 width)), (9, .ptr 119 0 0 0), (10, .aY 110 1 0 bN.length), (20, .fz 1 (ws.map aq)), (21, .v (.int .i64 (ws.length : Int))), (22, .v (.int .i64 (dQ : Int)))], [(110, .rows 1 (bN.map aq)), (119, .cells [.v (.string ByteArray.empty), .aY 301 1 0 b5.length, .aY 302 6 0 dM.length, .aY 303 1 0 dw.length, .v (.slice none 0 0), .v (.slice none 0 0), .v (.slice none 0 0), .v (.slice none 0 0), .v (.int .i64 0), .v (.int .i64 0), .v (.slice none 0 0)]), (301, .rows 1 (b5.map aq)), (302, .rows 6 (dM.map Cell.row)), (303, .rows 1 (dw.map aq))]⟩) (fun (dQ : Nat) (bN : List Int) (b5 : List Int) (dM : List Cell) (dw : List Int) => ((dQ : Int) ≤ (ws.length : Int)) ∧ (b5 = ws.take dQ ∧ dM = wG dQ ∧ dw = ws.take dQ ∧ bN = ml 0 dQ)) (fun (dQ : Nat) (bN : List Int) (b5 : List Int) (dM : List Cell) (dw : List Int) => ((ws.length : Int) - (dQ : Int)).toNat) 0 ([] : List Int) ([] : List Int) ([] : List Cell) ([] : List Int) (⟨pD, ⟨rfl, rfl, rfl, rfl⟩⟩) (Le.mk (.c (.c (.c (.c (.cons (aL rfl aC) (.c (.c (.cons (ak rfl bg) (.nil))))))))) (.c (.cons (aH rfl ig) (.c (.c (.c (.nil))))))) (fun dQ bN b5 dM dw yn => ?_)
 obtain ⟨AR, hP⟩ := yn
 refine ae.sr (.vl (Y.zb rfl rfl) (aa.nil ?_))
 refine ae.seq ?_
 refine ae.ay rfl (fun Cl => ?_) (fun Cl => ?_)
 refine ae.skip (ae.seq (ae.block ?_))
 refine ae.seq ?_
 obtain ⟨Nx, Ny, Nz, NA⟩ := hP; have LI : b5.length = dQ := (by rw [Nx, List.length_take]; omega); have PW : dM.length = dQ := (by rw [Ny, ic]); have PX : dw.length = dQ := (by rw [Nz, List.length_take]; omega); have NB : bN.length = dQ := (by rw [NA, jc])
 refine ae.region ?_
 refine .mv ?_
 refine .vl (Y.qr (m := dQ) a8 rfl rfl bg (aw (d := 0) om)) ?_
 refine .ld aZ ?_
 refine .an ?_
 refine .an ?_
 refine aa.nil (ae.sr ?_)
 refine .mv ?_
 refine .mv ?_
 refine .mv ?_
 refine aa.bm [119, 301, 302, 303] [] CW (mc (w := ws.getD dQ 0) (ws := b5) (cs := dM) (is := dw) (nm := ByteArray.empty) (fz := 0) (dn := 0) om om) rfl (.named rfl rfl (.ao rfl rfl .nil)) ⟨rfl, rfl, rfl, rfl, trivial⟩ rfl ah (fun _ h => by cases h) (fun _ h => by cases h) ah ah ?_
 rintro r aD ⟨rfl, rfl⟩ _
 refine ⟨⟨rfl, (by intro ob aP; simp only [List.mem_cons, List.not_mem_nil, or_false] at aP; rcases aP with rfl | rfl | rfl | rfl <;> rfl), .inl rfl⟩, ?_⟩
 refine aa.buildSlice (([(((b5).length : Nat) : Int)] : List Int).map aq) a8 fv rfl rfl rfl rfl rfl (a9 (s := 1) (f := aq) (fun _ => rfl)) rfl rfl rfl ah ?_
 refine aa.bZ ((bN ++ ([(((b5).length : Nat) : Int)] : List Int)).map aq) (bN ++ ([(((b5).length : Nat) : Int)] : List Int)).length a8 fv rfl rfl rfl rfl (cb aC) (bE aC) (dg aC) aC aC ah ah ?_
 refine .an ?_
 refine aa.nil (ae.sr ?_)
 refine .mv ?_
 refine .mv ?_
 refine .mv ?_
 refine .vl (Y.qs (m := dQ) a8 rfl rfl bg aC) ?_
 refine .vl (Y.qz aZ rfl (aS (d := 0) aC) rfl rfl) ?_
 refine .mv ?_
 refine .vl (Y.qj BS CV rfl (by first | rfl | exact IntWalk.u64_in _ om)) ?_
 refine .vl (Y.qg CZ nh rfl rfl rfl) (aa.sh (Sh.Ms (d := 40) 1 3 rfl rfl) ?_)
 refine aa.bm [119, 301, 302, 303] [] CX (kO (c := (⟨8, 0, (bN ++ ([(((b5).length : Nat) : Int)] : List Int)).getD dQ 0, ([] : List Int), dQ, 0⟩ : Cell)) (ws := b5 ++ [ws.getD dQ 0]) (cs := dM) (is := dw) (nm := ByteArray.empty) (fz := 0) (dn := 0) aC aC (by simp)) rfl (.named rfl rfl (.ao rfl rfl .nil)) ⟨rfl, rfl, rfl, rfl, trivial⟩ rfl ah (fun _ h => by cases h) (fun _ h => by cases h) ah ah ?_
 rintro r aD ⟨rfl, rfl⟩ _
 refine ⟨⟨rfl, (by intro ob aP; simp only [List.mem_cons, List.not_mem_nil, or_false] at aP; rcases aP with rfl | rfl | rfl | rfl <;> rfl), .inl rfl⟩, ?_⟩
 refine aa.nil (ae.region ?_)
 refine .mv ?_
 refine .mv ?_
 refine .vl (Y.zj rfl rfl) ?_
 refine .fa fu ?_
 refine .fa oU ?_
 refine .ld cZ ?_
 refine .mv ?_
 refine aa.buildSlice (([ws.getD dQ 0] : List Int).map aq) a8 fv rfl rfl rfl rfl rfl (a9 (s := 1) (f := aq) (fun _ => rfl)) rfl rfl rfl ah ?_
 refine aa.bZ ((dw ++ ([ws.getD dQ 0] : List Int)).map aq) (dw ++ ([ws.getD dQ 0] : List Int)).length a8 fv rfl rfl rfl rfl (cb aC) (bE aC) (dg aC) aC aC ah ah ?_
 refine .vl (Y.zj rfl rfl) ?_
 refine .fa fu ?_
 refine .fa oU ?_
 refine aa.aj At rfl rfl rfl rfl rfl rfl (Nat.le_of_ble_eq_true rfl) rfl (aa.nil (ae.region ?_))
 refine .vl (Y.qb rfl rfl aC) ?_
 refine .mv ?_
 refine aa.nil ?_
 exact ⟨dQ + 1, bN ++ ([(((b5).length : Nat) : Int)] : List Int), (b5 ++ [ws.getD dQ 0]), dM ++ [(⟨8, 0, (bN ++ ([(((b5).length : Nat) : Int)] : List Int)).getD dQ 0, ([] : List Int), dQ, 0⟩ : Cell)], dw ++ ([ws.getD dQ 0] : List Int), ⟨om, ⟨by rw [Nx]; exact (take_one om).symm, by rw [sU, ij NB.symm, LI, ← Ny], by rw [Nz]; exact (take_one om).symm, by rw [sM, ← NA, LI, Nat.zero_add]⟩⟩, om, Le.mk (.c (.c (.c (.c (.cons (aL rfl om) (.c (.c (.cons (ak rfl bg) (.nil))))))))) (.c (.cons (aH rfl ig) (.c (.c (.c (.nil))))))⟩
 refine ae.exit ?_
 refine ae.le (aW := ⟨[(0, .v (.int .i64 op)), (1, .fz 1 (ws.map aq)), (2, .v (.int .i64 width)), (9, .ptr 119 0 0 0), (10, .aY 110 1 0 bN.length)], [(110, .rows 1 (bN.map aq)), (119, .cells [.v (.string ByteArray.empty), .aY 301 1 0 b5.length, .aY 302 6 0 dM.length, .aY 303 1 0 dw.length, .v (.slice none 0 0), .v (.slice none 0 0), .v (.slice none 0 0), .v (.slice none 0 0), .v (.int .i64 0), .v (.int .i64 0), .v (.slice none 0 0)]), (301, .rows 1 (b5.map aq)), (302, .rows 6 (dM.map Cell.row)), (303, .rows 1 (dw.map aq))]⟩) (Le.mk (.c (.c (.c (.c (.c (.nil)))))) (.c (.c (.c (.c (.c (.nil))))))) ?_
 refine ae.seq (ae.seq ?_)
 have LI : b5.length = ws.length := (by rw [hP.1, List.length_take]; omega); have PW : dM.length = ws.length := (by rw [hP.2.1, ic]; omega); have PX : dw.length = ws.length := (by rw [hP.2.2.1, List.length_take]; omega); have NB : bN.length = ws.length := (by rw [hP.2.2.2, jc]; omega)
 refine ae.region ?_
 refine .mv ?_
 refine aa.bd J7 (pW (op := op)) rfl (.ao rfl rfl .nil) ah rfl (.vl (Y.zk rfl) (aa.nil ?_))
 refine ae.cond rfl (fun vo => ?_) (fun vo => ?_)
 replace vo : ¬ (Plain op) := by simpa using vo
 refine ae.sr ?_
 refine .an ?_
 refine .an ?_
 refine .an ?_
 refine aa.nil (ae.sh (Sh.pM (d := 6) 3 rfl) (ae.sh (Sh.pM (d := 7) 1 rfl) ?_))
 refine ae.ret ?_
 exact ⟨_, _, rfl, rfl, [], [], 1, .inl ⟨by simpa using vo, rfl⟩, rfl, rfl⟩
 replace vo : Plain op := by simpa using vo
 refine ae.skip ?_
 refine ae.le (aW := ⟨[(0, .v (.int .i64 op)), (1, .fz 1 (ws.map aq)), (2, .v (.int .i64 width)), (9, .ptr 119 0 0 0), (10, .aY 110 1 0 bN.length)], [(110, .rows 1 (bN.map aq)), (119, .cells [.v (.string ByteArray.empty), .aY 301 1 0 b5.length, .aY 302 6 0 dM.length, .aY 303 1 0 dw.length, .v (.slice none 0 0), .v (.slice none 0 0), .v (.slice none 0 0), .v (.slice none 0 0), .v (.int .i64 0), .v (.int .i64 0), .v (.slice none 0 0)]), (301, .rows 1 (b5.map aq)), (302, .rows 6 (dM.map Cell.row)), (303, .rows 1 (dw.map aq))]⟩) (Le.mk (.c (.c (.c (.c (.c (.nil)))))) (.c (.c (.c (.c (.c (.nil))))))) ?_
 refine ae.seq ?_
 refine ae.sh (Sh.cU (d := 10) (o := 110) rfl rfl (bn om) ah) ?_
 refine ae.sh (Sh.cq (d := 10) (bN.map aq) rfl jW (de.map bV)) (ae.region ?_)
 refine .mv ?_
 refine .mv ?_
 refine .mv ?_
 refine .mv ?_
 refine aa.bm [119, 301, 302, 303] [] J8 (wo (op := op) (w := width) (args := bN) (ws := b5) (cs := dM) (is := dw) (nm := ByteArray.empty) (fz := 0) (dn := 0) om om om) rfl (.named rfl rfl (.ao rfl rfl (.ao rfl rfl (.ao rfl rfl .nil)))) ⟨rfl, rfl, rfl, rfl, trivial⟩ rfl ah (fun _ h => by cases h) (fun _ h => by cases h) ah ah ?_
 rintro r aD ⟨rfl, rfl⟩ _
 refine ⟨⟨rfl, (by intro ob aP; simp only [List.mem_cons, List.not_mem_nil, or_false] at aP; rcases aP with rfl | rfl | rfl | rfl <;> rfl), .inl rfl⟩, ?_⟩
 refine aa.nil (ae.sr ?_)
 refine .mv ?_
 refine aa.bm [119, 301, 302, 303] [] J9 (sS (w := 1) (x := 0) (ws := b5 ++ [width]) (cs := dM ++ [(⟨2, op, ((b5).length : Int), bN, 0, 0⟩ : Cell)]) (is := dw) (nm := ByteArray.empty) (fz := 0) (dn := 0) aC aC ah) rfl (.named rfl rfl (.ao rfl rfl (.ao rfl rfl .nil))) ⟨rfl, rfl, rfl, rfl, trivial⟩ rfl ah (fun _ h => by cases h) (fun _ h => by cases h) ah ah ?_
 rintro r aD ⟨rfl, rfl⟩ _
 refine ⟨⟨rfl, (by intro ob aP; simp only [List.mem_cons, List.not_mem_nil, or_false] at aP; rcases aP with rfl | rfl | rfl | rfl <;> rfl), .inl rfl⟩, ?_⟩
 refine .an ?_
 refine aa.nil (ae.sr ?_)
 refine .mv ?_
 refine .mv ?_
 refine .mv ?_
 refine .mv ?_
 refine .vl (Y.zj rfl rfl) ?_
 refine .fa fu ?_
 refine .fa tS ?_
 refine aa.aj cT rfl rfl rfl rfl rfl rfl (Nat.le_of_ble_eq_true rfl) rfl (.vl (Y.zj rfl rfl) ?_)
 refine .fa fu ?_
 refine .fa tT ?_
 refine aa.aj cT rfl rfl rfl rfl rfl rfl (Nat.le_of_ble_eq_true rfl) rfl (aa.nil ?_)
 refine ae.le (aW := ⟨[(0, .v (.int .i64 op)), (1, .fz 1 (ws.map aq)), (2, .v (.int .i64 width)), (9, .ptr 119 0 0 0)], [(119, .cells [.v (.string ByteArray.empty), .aY 301 1 0 (((b5 ++ [width]) ++ [1]).length), .aY 302 6 0 (((dM ++ [(⟨2, op, ((b5).length : Int), bN, 0, 0⟩ : Cell)]) ++ [(⟨1, 0, (((b5 ++ [width])).length : Int), [], ln 1 0, 0⟩ : Cell)]).length), .aY 303 1 0 dw.length, .v (.slice none 0 0), .v (.slice none 0 0), .v (.slice none 0 0), .v (.slice none 0 0), .v (.int .i64 (((b5 ++ [width]).length : Nat) : Int)), .v (.int .i64 (((b5 ++ [width]).length : Nat) : Int)), .v (.slice none 0 0)]), (301, .rows 1 (((b5 ++ [width]) ++ [1]).map aq)), (302, .rows 6 (((dM ++ [(⟨2, op, ((b5).length : Int), bN, 0, 0⟩ : Cell)]) ++ [(⟨1, 0, (((b5 ++ [width])).length : Int), [], ln 1 0, 0⟩ : Cell)]).map Cell.row)), (303, .rows 1 (dw.map aq))]⟩) (Le.mk (.c (.c (.c (.c (.nil))))) (.c (.c (.c (.c (.nil)))))) ?_
 refine ae.seq (ae.seq ?_)
 refine ae.sh (Sh.xC 119 301 1 rfl rfl rfl (bn aC) (de.map bV) ah rfl rfl rfl) ?_
 refine ae.sh (Sh.xC 119 302 2 rfl rfl rfl (bn om) (de.map Cell.cM) ah rfl rfl rfl) ?_
 refine ae.sh (Sh.xC 119 303 3 rfl rfl rfl (bn om) (de.map bV) ah rfl rfl rfl) ?_
 refine ae.sh (Sh.oL 119 5 4 rfl rfl rfl) (ae.sh (Sh.oL 119 3 5 rfl rfl rfl) (ae.sh (Sh.oL 119 1 6 rfl rfl rfl) ?_))
 refine ae.sh (Sh.oL 119 1 7 rfl rfl rfl) (ae.sh (Sh.oL 119 1 10 rfl rfl rfl) ?_)
 have hN : (⟨ByteArray.empty, (b5 ++ [width]) ++ [1], (dM ++ [(⟨2, op, ((b5).length : Int), bN, 0, 0⟩ : Cell)]) ++ [(⟨1, 0, (((b5 ++ [width])).length : Int), [], ln 1 0, 0⟩ : Cell)], dw, ([] : List pF), ([] : List gZ), ([] : List Int), ([] : List Int), (((b5 ++ [width]).length : Nat) : Int), (((b5 ++ [width]).length : Nat) : Int), ([] : List Int)⟩ : ab) = fJ op ws width := by obtain ⟨h1, h2, h3, h4⟩ := hP; rw [h1, h2, h3, h4, show dQ = ws.length by omega, List.take_length]; simp [fJ, p6, ic, ln]
 refine ae.region ?_
 refine .mv ?_
 refine .vl (Y.zj rfl rfl) ?_
 refine .fa fu ?_
 refine .vl (Y.za vO rfl rfl (Nat.le_of_ble_eq_true rfl) rfl rfl) ?_
 refine aa.bd JA (ur (n := (⟨ByteArray.empty, (b5 ++ [width]) ++ [1], (dM ++ [(⟨2, op, ((b5).length : Int), bN, 0, 0⟩ : Cell)]) ++ [(⟨1, 0, (((b5 ++ [width])).length : Int), [], ln 1 0, 0⟩ : Cell)], dw, ([] : List pF), ([] : List gZ), ([] : List Int), ([] : List Int), (((b5 ++ [width]).length : Nat) : Int), (((b5 ++ [width]).length : Nat) : Int), ([] : List Int)⟩ : ab)) (by rw [hN]; exact yS hk) (by rw [hN]; simp [fJ]; omega)) rfl (.ao rfl rfl .nil) ah rfl ?_
 refine .vl (Y.zi rfl rfl) (aa.nil ?_)
 refine ae.le (aW := ⟨[(0, .v (.int .i64 op)), (1, .fz 1 (ws.map aq)), (2, .v (.int .i64 width)), (80, .v (.bool (decide ((m6 (⟨ByteArray.empty, (b5 ++ [width]) ++ [1], (dM ++ [(⟨2, op, ((b5).length : Int), bN, 0, 0⟩ : Cell)]) ++ [(⟨1, 0, (((b5 ++ [width])).length : Int), [], ln 1 0, 0⟩ : Cell)], dw, ([] : List pF), ([] : List gZ), ([] : List Int), ([] : List Int), (((b5 ++ [width]).length : Nat) : Int), (((b5 ++ [width]).length : Nat) : Int), ([] : List Int)⟩ : ab)) ≠ 0))))], []⟩) (Le.mk (.c (.c (.c (.c (.nil))))) (.nil)) ?_
 refine ae.ay rfl (fun I0 => ?_) (fun I0 => ?_)
 have hC : ¬ u4 op ws width := fun h => I0 (by rw [hN]; exact HL hk h)
 refine ae.sr ?_
 refine .an ?_
 refine .an ?_
 refine .an ?_
 refine aa.nil (ae.sh (Sh.pM (d := 6) 3 rfl) (ae.sh (Sh.pM (d := 7) 1 rfl) ?_))
 refine ae.ret ?_
 exact ⟨_, _, rfl, rfl, [], [], 13, .inr (.inl ⟨by simpa using vo, hC, rfl⟩), rfl, rfl⟩
 have hC : u4 op ws width := Bs (by rw [hN] at I0; exact Classical.not_not.1 I0)
 refine ae.skip (ae.le (aW := ⟨[(0, .v (.int .i64 op)), (1, .fz 1 (ws.map aq)), (2, .v (.int .i64 width))], []⟩) (Le.mk (.c (.c (.c (.nil)))) (.nil)) (ae.sr ?_))
 refine .vl (Y.qg GB GD rfl rfl rfl) (aa.box 182 rfl rfl rfl rfl rfl ah ?_)
 refine .an ?_
 refine aa.nil (ae.seq (ae.sh (Sh.oq 182 401 3 0 rfl rfl rfl rfl ah) ?_))
 refine ae.region ?_
 refine .an ?_
 refine aa.sh (Sh.nil (d := 15) 115 1 rfl ah) (aa.nil ?_)
 refine ae.le (aW := ⟨[(0, .v (.int .i64 op)), (1, .fz 1 (ws.map aq)), (2, .v (.int .i64 width)), (14, .ptr 182 0 0 0), (15, .aY 115 1 0 0)], [(115, .rows 1 (([] : List (List Int)).map gY)), (182, .cells [.aY 401 3 0 0]), (401, .rows 3 (([] : List Gate).map Gate.row))]⟩) (Le.mk (.c (.c (.c (.c (.c (.nil)))))) (.c (.c (.c (.nil))))) ?_
 refine ae.seq (ae.sr ?_)
 refine .mv ?_
 refine .vl (Y.qw (n := ws.length) a8 rfl (congrArg some (List.length_map ..))) ?_
 refine .mv ?_
 refine aa.nil (ae.block ?_)
 refine ae.eW (fun (dN : Nat) (ck : List (List Int)) (dx : List Gate) => ⟨[(0, .v (.int .i64 op)), (2, .v (.int .i64 width)), (14, .ptr 182 0 0 0), (15, .aY 115 1 0 ck.length), (83, .fz 1 (ws.map aq)), (84, .v (.int .i64 (ws.length : Int))), (85, .v (.int .i64 (dN : Int)))], [(115, .rows 1 (ck.map gY)), (182, .cells [.aY 401 3 0 dx.length]), (401, .rows 3 (dx.map Gate.row))]⟩) (fun (dN : Nat) (ck : List (List Int)) (dx : List Gate) => ((dN : Int) ≤ (ws.length : Int)) ∧ (dx = mN (gH ws dN) ∧ ck = wL ws dN)) (fun (dN : Nat) (ck : List (List Int)) (dx : List Gate) => ((ws.length : Int) - (dN : Int)).toNat) 0 ([] : List (List Int)) ([] : List Gate) (⟨pD, ⟨rfl, rfl⟩⟩) (Le.mk (.c (.c (.c (.cons (aL rfl aC) (.c (.c (.cons (ak rfl bg) (.nil)))))))) (.c (.cons (aH rfl ig) (.c (.nil))))) (fun dN ck dx LJ => ?_)
 obtain ⟨PY, hQ⟩ := LJ
 refine ae.sr (.vl (Y.zb rfl rfl) (aa.nil ?_))
 refine ae.seq ?_
 refine ae.ay rfl (fun K8 => ?_) (fun K8 => ?_)
 refine ae.skip (ae.seq (ae.block ?_))
 refine ae.sr ?_
 refine .vl (Y.qr (m := dN) a8 rfl rfl bg (aw (d := 0) om)) ?_
 refine .ld aZ ?_
 refine .an ?_
 refine aa.nil ?_
 have Iq := hC.1 (ws.getD dN 0) (getD_in om); unfold cG at Iq; have tt := yV hC; have R3 := n9 (ws := ws) (i := dN) (j := ws.length) om; have NC : dx.length = gH ws dN := (by rw [hQ.1, jd]); have PZ : ck.length = dN := (by rw [hQ.2, p7])
 refine ae.region ?_
 refine .mv ?_
 refine .mv ?_
 refine .mv ?_
 refine aa.bm [182, 401] [] JB (rI (gl := dx) (x := ws.getD dN 0) om om) rfl (.named rfl rfl (.ao rfl rfl .nil)) ⟨rfl, rfl, trivial⟩ rfl ah (fun _ h => by cases h) (fun _ h => by cases h) ah ah ?_
 rintro r aD ⟨rfl, rfl⟩ _
 refine ⟨⟨rfl, (by intro ob aP; simp only [List.mem_cons, List.not_mem_nil, or_false] at aP; rcases aP with rfl | rfl <;> rfl), .inl rfl⟩, ?_⟩
 refine aa.sh (Sh.cq (d := 92) ((ml dx.length (ws.getD dN 0).toNat).map aq) rfl jW (de.map bV)) ?_
 refine aa.buildSlice (([ml dx.length (ws.getD dN 0).toNat] : List (List Int)).map gY) iC Av rfl rfl rfl rfl rfl (a9 (s := 1) (f := gY) (fun _ => rfl)) rfl rfl rfl ah ?_
 refine aa.bZ ((ck ++ ([ml dx.length (ws.getD dN 0).toNat] : List (List Int))).map gY) (ck ++ ([ml dx.length (ws.getD dN 0).toNat] : List (List Int))).length iC Av rfl rfl rfl rfl (cb aC) (bE aC) (dg aC) aC aC ah ah ?_
 refine .an ?_
 refine aa.nil (ae.region ?_)
 refine .vl (Y.qb rfl rfl aC) ?_
 refine .mv ?_
 refine aa.nil ?_
 exact ⟨dN + 1, ck ++ ([ml dx.length (ws.getD dN 0).toNat] : List (List Int)), dx ++ mN (ws.getD dN 0).toNat, ⟨om, ⟨by rw [hQ.1, Bj]; rfl, by rw [Bt, ← hQ.2, NC]⟩⟩, om, Le.mk (.c (.c (.c (.cons (aL rfl om) (.c (.c (.cons (ak rfl bg) (.nil)))))))) (.c (.cons (aH rfl ig) (.c (.nil))))⟩
 refine ae.exit ?_
 refine ae.le (aW := ⟨[(0, .v (.int .i64 op)), (2, .v (.int .i64 width)), (14, .ptr 182 0 0 0), (15, .aY 115 1 0 ck.length)], [(115, .rows 1 (ck.map gY)), (182, .cells [.aY 401 3 0 dx.length]), (401, .rows 3 (dx.map Gate.row))]⟩) (Le.mk (.c (.c (.c (.c (.nil))))) (.c (.c (.c (.nil))))) ?_
 refine ae.seq ?_
 refine ae.sh (Sh.cU (d := 15) (o := 115) rfl rfl (bn om) ah) ?_
 refine ae.sh (Sh.cq (d := 15) (ck.map gY) rfl jW (de.map oM)) ?_
 have HZ : dN = ws.length := om; have I1 : dx = mN (gH ws ws.length) := (by rw [hQ.1, HZ]); have LH : ck = wL ws ws.length := (by rw [hQ.2, HZ]); have hIn := HM (c := 0) hC ah; rw [← I1, ← LH] at hIn; have vT := hC.2.1; unfold cG at vT; have tt := yV hC; have NC : dx.length = gH ws ws.length := (by rw [I1, jd]); have PZ : ck.length = ws.length := (by rw [LH, p7])
 refine ae.region ?_
 refine .mv ?_
 refine .mv ?_
 refine .mv ?_
 refine .mv ?_
 refine aa.bm [182, 401] [] JC (p8 (c := 0) (gl := dx) (op := op) (ws := ck) (width := width) (by rw [I1]; exact sN _) om hIn om om) rfl (.named rfl rfl (.ao rfl rfl (.ao rfl rfl (.ao rfl rfl .nil)))) ⟨rfl, rfl, trivial⟩ rfl ah (fun _ h => by cases h) (fun _ h => by cases h) ah ah ?_
 rintro r aD ⟨LK, Ee, HO, LL, HP, rfl, rfl⟩ _
 refine ⟨⟨rfl, (by intro ob aP; simp only [List.mem_cons, List.not_mem_nil, or_false] at aP; rcases aP with rfl | rfl <;> rfl), .inl rfl⟩, ?_⟩
 refine aa.bh rfl ah (aa.nil (ae.sr ?_))
 refine .mv ?_
 refine .vl (Y.zj rfl rfl) ?_
 refine .fa ot ?_
 refine .ld Dc ?_
 refine aa.nM rfl ah ?_
 refine .an ?_
 refine aa.sh (Sh.cU (d := 6) (o := 401) rfl rfl (bn om) ah) ?_
 refine aa.bh rfl ah ?_
 refine .an ?_
 refine aa.nil (ae.ret ?_)
 exact ⟨_, _, rfl, rfl, LK, Ee, 0, .inr (.inr ⟨by simpa using vo, hC, rfl, by rw [← I1]; exact HO, om, HP⟩), rfl, rfl⟩
open Go Go.AW
section
variable {op width : Int} {ws : List Int} {l : List Gate} {out : List Int} {e : Int}
theorem qM.e1 (h : qM op ws width l out e) (hp : ¬ Plain op) : e = 1 := by
 rcases h with ⟨_, h⟩ | ⟨h, _⟩ | ⟨h, _⟩
 ·exact h
 ·exact absurd h hp
 ·exact absurd h hp
theorem yW (h : qM 11 [1, 1] 1 l out e) : e = 0 ∧ out.length = 1 ∧ (0 ≤ out.getD 0 0 ∧ out.getD 0 0 < l.length) ∧ fA l = 2 ∧ l.length ≤ 1800 := by
 have hp : Plain 11 := by unfold Plain tQ Seq Unary; omega
 have hc : u4 11 [1, 1] 1 := ⟨ah, ah, ah, ah, by unfold cv fY; simp⟩
 rcases h with ⟨h, _⟩ | ⟨_, h, _⟩ | ⟨_, _, h0, hx, hl, hr⟩
 ·exact absurd hp h
 ·exact absurd hc h
 ·have hb := hr.bit 0 ah
  refine ⟨h0, hr.len, ⟨hb.lo, hb.hi⟩, ?_, hl⟩
  rw [hx.fA, lg]; rfl
end
theorem bK {l : List Gate} {i : Nat} (h : i < l.length) : fA (l.take (i + 1)) = fA (l.take i) + if (l.getD i default).kind = 3 then 1 else 0 := by
 rw [List.take_add_one, List.getElem?_eq_getElem h, g6, List.getD_eq_getElem?_getD, List.getElem?_eq_getElem h]
 exact congrArg _ (kY _)
open Go Go.AW Go.Proofs
set_option maxRecDepth 4000 in
set_option maxHeartbeats 1000000 in
theorem qN {l : List Gate} (hl : l.length ≤ 1000000) : al Try.prog 37 [.fz 3 (l.map Gate.row)] [] [] (fun r o => r = .v (.int .i64 ((fA l : Nat) : Int)) ∧ o = []) := by
 refine al.of Try.func37 rfl rfl rfl (n := 20) ah (Nat.le_of_ble_eq_true rfl) (ae.sr ?_)
 refine .an ?_
 refine aa.nil (ae.sr ?_)
 refine .an ?_
 refine aa.nil (ae.seq (ae.sr ?_))
 refine .an ?_
 refine aa.nil (ae.block ?_)
 refine ae.k0 (fun (u5 : Nat) (nA : Nat) => ⟨[(0, .fz 3 (l.map Gate.row)), (3, .v (.int .i64 (u5 : Int))), (4, .v (.int .i64 (nA : Int)))], []⟩) (fun (u5 : Nat) (nA : Nat) => ((nA : Int) ≤ (l.length : Int)) ∧ (u5 = fA (l.take nA))) (fun (u5 : Nat) (nA : Nat) => ((l.length : Int) - (nA : Int)).toNat) 0 0 (⟨om, rfl⟩) (Le.mk (.c (.cons (ak rfl bg) (.cons (ak rfl bg) (.nil)))) (.nil)) (fun u5 nA pU => ?_)
 obtain ⟨Dy, hn⟩ := pU
 refine ae.seq (ae.sr ?_)
 refine .mv ?_
 refine .mv ?_
 refine .vl (Y.qw (n := l.length) oZ rfl (congrArg some (List.length_map ..))) (.vl (Y.zb rfl rfl) (aa.nil ?_))
 refine ae.ay rfl (fun c8 => ?_) (fun c8 => ?_)
 refine ae.skip ?_
 refine ae.jw (fun (sW : Nat) => ⟨[(0, .fz 3 (l.map Gate.row)), (3, .v (.int .i64 (sW : Int))), (4, .v (.int .i64 (nA : Int)))], []⟩) (fun (sW : Nat) => sW = fA (l.take (nA + 1))) ?_ (fun sW vZ => ?_)
 refine ae.block (ae.seq ?_)
 have uK := tW (l.take nA); rw [List.length_take] at uK
 refine ae.region ?_
 refine .mv ?_
 refine .mv ?_
 refine .vl (Y.qr (m := nA) oZ rfl rfl bg (aw (d := default) om)) ?_
 refine .fa dv ?_
 refine .ld aZ ?_
 refine .vl (Y.qk rfl rfl) (aa.nil ?_)
 refine ae.ay rfl (fun uj => ?_) (fun uj => ?_)
 refine ae.region ?_
 refine .mv ?_
 refine .vl (Y.qb rfl rfl aC) ?_
 refine .an ?_
 refine aa.nil ?_
 exact ⟨u5 + 1, by rw [bK om, if_pos je, hn], Le.mk (.c (.cons (ak rfl bg) (.c (.nil)))) (.nil)⟩
 refine ae.skip ?_
 exact ⟨u5, by rw [bK om, if_neg je, hn, Nat.add_zero], Le.mk (.c (.cons (ak rfl bg) (.c (.nil)))) (.nil)⟩
 refine ae.region ?_
 refine .mv ?_
 refine .vl (Y.qb rfl rfl aC) ?_
 refine .an ?_
 refine aa.nil ?_
 exact ⟨sW, nA + 1, ⟨om, vZ⟩, om, Le.mk (.c (.cons (ak rfl bg) (.cons (ak rfl bg) (.nil)))) (.nil)⟩
 refine ae.exit (ae.sr ?_)
 refine .mv ?_
 refine .an ?_
 refine aa.nil (ae.ret ?_)
 exact ⟨_, _, rfl, rfl, by rw [hn, show nA = l.length by omega, List.take_length]; rfl, rfl⟩
set_option maxRecDepth 4000 in
set_option maxHeartbeats 1000000 in
theorem rJ  : al Try.prog 30 [] [] [] (fun r o => r = .v (.bool true) ∧ o = []) := by
 refine al.of Try.func30 rfl rfl rfl (n := 36) ah (Nat.zero_le _) (ae.sr ?_)
 refine .an ?_
 refine aa.nil (ae.sr ?_)
 refine aa.buildSlice (([1, 1] : List Int).map aq) a8 fv rfl rfl rfl rfl rfl (a9 (s := 1) (f := aq) (fun _ => rfl)) rfl rfl rfl ah ?_
 refine aa.sh (Sh.cq (d := 5) (([1, 1] : List Int).map aq) rfl jW (de.map bV)) (aa.jV Gx (sV (op := 11) (ws := ([1, 1] : List Int)) (width := 1) ah) rfl (.ao rfl rfl (.ao rfl rfl (.ao rfl rfl .nil))) ah ?_)
 rintro _ ⟨l6, HQ, e6, Qa, rfl, _⟩
 refine ⟨rfl, ?_⟩
 refine aa.nM rfl ah (aa.jx rfl rfl ah (aa.jx rfl rfl ah ?_))
 refine .vl (Y.qm rfl rfl rfl) (aa.bh rfl ah (aa.sh (Sh.cq (d := 1) (l6.map Gate.row) rfl jW (de.map Gate.cM)) ?_))
 refine aa.bh rfl ah (aa.sh (Sh.cq (d := 2) (HQ.map aq) rfl jW (de.map bV)) ?_)
 refine .an ?_
 refine aa.nil (ae.seq ?_)
 have hw := yW Qa; have ND := hw.2.2.1; have tf := hw.2.2.2.2
 refine ae.region ?_
 refine .mv ?_
 refine .vl (Y.qk rfl rfl) ?_
 refine .mv ?_
 refine aa.ax (d := 12) rfl (fun vp => ?_) (fun vp => ?_)
 refine .gw 12 (Y.zf rfl rfl) (.gw 12 (Y.qw (n := HQ.length) a8 rfl (congrArg some (List.length_map ..))) (.gw 12 (Y.qk rfl rfl) ?_))
 refine .pk ?_
 refine .mv ?_
 refine aa.ax (d := 17) rfl (fun Ir => ?_) (fun Ir => ?_)
 refine .gw 17 (Y.zf rfl rfl) ?_
 refine .gw 17 (Y.qr (m := 0) a8 rfl rfl bg (aw (d := 0) om)) ?_
 refine .gw 17 (Y.qz aZ rfl rfl rfl rfl) (.gw 17 (Y.qp rfl rfl) ?_)
 refine .pk ?_
 refine .mv ?_
 refine aa.ax (d := 23) rfl (fun Cl => ?_) (fun Cl => ?_)
 refine .gw 23 (Y.zf rfl rfl) ?_
 refine .gw 23 (Y.qr (m := 0) a8 rfl rfl bg (aw (d := 0) om)) ?_
 refine .gw 23 (Y.qz aZ rfl rfl rfl rfl) (.gw 23 (Y.zf rfl rfl) (.gw 23 (Y.qw (n := l6.length) oZ rfl (congrArg some (List.length_map ..))) ?_))
 refine .gw 23 (Y.zb rfl rfl) ?_
 refine .pk ?_
 refine .mv ?_
 refine aa.ax (d := 31) rfl (fun I2 => ?_) (fun I2 => ?_)
 refine .gw 31 (Y.zf rfl rfl) (aa.aO (d := 31) rfl ah rfl ?_)
 refine aa.bd Gy (qN (l := l6) (om)) rfl (.ao rfl rfl .nil) ah rfl ?_
 refine .gw 31 (Y.qk rfl rfl) ?_
 refine .pk ?_
 refine .an ?_
 refine aa.nil (ae.ret ?_)
 exact .rb rfl (decide_eq_true (by rw [hw.2.2.2.1]; rfl))
 exact absurd ND.2 I2
 exact absurd ND.1 Cl
 exact absurd (by rw [hw.2.1]; rfl) Ir
 exact absurd hw.1 vp
open Go Go.AW
def vy (l : List Gate) : Prop := ∀ j, j < l.length → iD j (l.getD j default)
noncomputable instance (l : List Gate) : Decidable (vy l) := Classical.propDecidable _
theorem getD_some {α : Type} {l : List α} {i : Nat} {g d : α} (h : l[i]? = some g) : i < l.length ∧ l.getD i d = g := by
 obtain ⟨hi, rfl⟩ := List.getElem?_eq_some_iff.1 h
 exact ⟨hi, by rw [List.getD_eq_getElem?_getD, List.getElem?_eq_getElem hi]; rfl⟩
theorem Good.d {l : List Gate} (h : Good l) : vy l := fun j hj => h j _ (by rw [List.getD_eq_getElem?_getD, List.getElem?_eq_getElem hj]; rfl)
theorem aK {i : Nat} {g : Gate} : iD i g ↔ ((1 ≤ g.kind ∧ g.kind ≤ 7) ∧ (4 ≤ g.kind → 0 ≤ g.a ∧ g.a < i) ∧ (¬ 4 ≤ g.kind → g.a = 0) ∧ (5 ≤ g.kind → 0 ≤ g.b ∧ g.b < i) ∧ (¬ 5 ≤ g.kind → g.b = 0)) := by
 unfold iD
 by_cases h4 : 4 ≤ g.kind
 ·by_cases h5 : 5 ≤ g.kind
  ·rw [if_pos h4, if_pos h5]
   exact ⟨fun h => ⟨h.1, fun _ => h.2.1, fun n => absurd h4 n, fun _ => h.2.2, fun n => absurd h5 n⟩, fun h => ⟨h.1, h.2.1 h4, h.2.2.2.1 h5⟩⟩
  ·rw [if_pos h4, if_neg h5]
   exact ⟨fun h => ⟨h.1, fun _ => h.2.1, fun n => absurd h4 n, fun n => absurd n h5, fun _ => h.2.2⟩, fun h => ⟨h.1, h.2.1 h4, h.2.2.2.2 h5⟩⟩
 ·have h5 : ¬ 5 ≤ g.kind := by omega
  rw [if_neg h4, if_neg h5]
  exact ⟨fun h => ⟨h.1, fun n => absurd n h4, fun _ => h.2.1, fun n => absurd n h5, fun _ => h.2.2⟩, fun h => ⟨h.1, h.2.2.1 h4, h.2.2.2.2 h5⟩⟩
def o0 (a : List Int) (w n : Int) : Prop := (∀ j, j < a.length → 0 ≤ a.getD j 0 ∧ a.getD j 0 < n) ∧ (a.length : Int) = w
noncomputable instance (a : List Int) (w n : Int) : Decidable (o0 a w n) := Classical.propDecidable _
theorem p9 {l : List Gate} {ins : List Int} {i : Nat} (h : i < l.length) : dK l ins (i + 1) = dK l ins i ++ [jI (dK l ins i) ins (fA (l.take i)) (l.getD i default)] := by
 unfold dK
 rw [fE _ (List.getElem?_eq_getElem h), List.getD_eq_getElem?_getD, List.getElem?_eq_getElem h]; rfl
theorem qO {l : List Gate} {ins : List Int} {i : Nat} (h : i ≤ l.length) : (dK l ins i).length = i := fF _ h
theorem Bu {l : List Gate} {i : Nat} (h : i < l.length) (h3 : (l.getD i default).kind = 3) : fA (l.take i) < fA l := by
 have h1 := bK h
 rw [if_pos h3] at h1
 have h2 : fA l = fA (l.take (i + 1)) + fA (l.drop (i + 1)) := by rw [← g6, List.take_append_drop]
 omega
theorem lk {o ins : List Int} {n : Nat} {g : Gate} (h : 5 ≤ g.kind ∧ g.kind ≤ 7) : jI o ins n g = max (o.getD g.a.toNat 0) (o.getD g.b.toNat 0) + 20 := by
 unfold jI; rw [if_neg om, if_neg om, if_pos h]
theorem qP {l : List Gate} {n : Nat} : ∀ {i : Nat}, i ≤ l.length → ∀ x ∈ dK l (List.replicate n 0) i, 0 ≤ x ∧ x ≤ 20 * (i : Int)
 | 0, _, x, hx => by cases hx
 | i + 1, hi, x, hx => by
  have ih := qP (l := l) (n := n) (i := i) om
  have hg : ∀ k : Nat, 0 ≤ (dK l (List.replicate n 0) i).getD k 0 ∧ (dK l (List.replicate n 0) i).getD k 0 ≤ 20 * (i : Int) := fun k => by
   rcases Nat.lt_or_ge k (dK l (List.replicate n 0) i).length with hk | hk
   ·exact ih _ (getD_in hk)
   ·rw [List.getD_eq_getElem?_getD, List.getElem?_eq_none hk]; exact ⟨Int.le_refl _, by show (0 : Int) ≤ _; omega⟩
  have hr : ∀ k : Nat, (List.replicate n (0 : Int)).getD k 0 = 0 := fun k => by
   rw [List.getD_eq_getElem?_getD, List.getElem?_replicate]; split <;> rfl
  rw [p9 om] at hx
  rcases List.mem_append.1 hx with h1 | h1
  ·have := ih x h1; omega
  ·rw [List.mem_singleton.1 h1]
   have a1 := hg (l.getD i default).a.toNat
   have a2 := hg (l.getD i default).b.toNat
   unfold jI
   rw [hr]
   (repeat' split) <;> omega
open Go Go.AW Go.Proofs
set_option maxRecDepth 4000 in
set_option maxHeartbeats 1000000 in
theorem rK {l : List Gate} (hl : l.length ≤ 1000000) : al Try.prog 33 [.fz 3 (l.map Gate.row)] [] [] (fun r o => r = .v (.bool (decide (vy l))) ∧ o = []) := by
 refine al.of Try.func33 rfl rfl rfl (n := 71) ah (Nat.le_of_ble_eq_true rfl) (ae.sr ?_)
 refine .an ?_
 refine aa.nil (ae.seq (ae.sr ?_))
 refine .an ?_
 refine aa.nil (ae.block ?_)
 refine ae.iS (fun (bQ : Nat) => ⟨[(0, .fz 3 (l.map Gate.row)), (3, .v (.int .i64 (bQ : Int)))], []⟩) (fun (bQ : Nat) => ((bQ : Int) ≤ (l.length : Int)) ∧ (∀ j, j < bQ → iD j (l.getD j default))) (fun (bQ : Nat) => ((l.length : Int) - (bQ : Int)).toNat) 0 (⟨om, fun j hj => by omega⟩) (Le.mk (.c (.cons (ak rfl bg) (.nil))) (.nil)) (fun bQ vD => ?_)
 obtain ⟨wY, hG⟩ := vD
 refine ae.seq (ae.sr ?_)
 refine .mv ?_
 refine .mv ?_
 refine .vl (Y.qw (n := l.length) oZ rfl (congrArg some (List.length_map ..))) (.vl (Y.zb rfl rfl) (aa.nil ?_))
 refine ae.ay rfl (fun c8 => ?_) (fun c8 => ?_)
 refine ae.skip ?_
 refine ae.xo (fun (u6 : Bool) (u7 : Bool) (u9 : Bool) (uA : Bool) => ⟨[(0, .fz 3 (l.map Gate.row)), (3, .v (.int .i64 (bQ : Int))), (19, .ptr 104 0 0 0), (20, .v (.int .i64 ((l.getD bQ default).kind))), (21, .v (.bool (decide (7 < ((l.getD bQ default).kind))))), (32, .ptr 104 0 0 0), (33, .v (.int .i64 ((l.getD bQ default).kind))), (34, .v (.bool (decide (((l.getD bQ default).kind) < 5)))), (35, .v (.bool u6)), (39, .v (.bool u7)), (56, .ptr 104 0 0 0), (57, .v (.int .i64 ((l.getD bQ default).kind))), (58, .v (.bool (decide (5 ≤ ((l.getD bQ default).kind))))), (59, .v (.bool u9)), (69, .v (.bool uA))], [(104, .cells [.v (.int .i64 ((l.getD bQ default).kind)), .v (.int .i64 ((l.getD bQ default).a)), .v (.int .i64 ((l.getD bQ default).b))])]⟩) (fun (u6 : Bool) (u7 : Bool) (u9 : Bool) (uA : Bool) => iD bQ (l.getD bQ default)) ?_ (fun u6 u7 u9 uA Qb => ?_)
 refine ae.block (ae.sr ?_)
 refine .mv ?_
 refine .mv ?_
 refine .vl (Y.qr (m := bQ) oZ rfl rfl bg (aw (d := default) om)) ?_
 refine .vl (Y.za Cc rfl rfl (Nat.le_of_ble_eq_true rfl) rfl rfl) (aa.alloc 104 sx rfl rfl ah (aa.aj Cd rfl rfl rfl rfl rfl rfl (Nat.le_of_ble_eq_true rfl) rfl ?_))
 refine aa.nil (ae.seq (ae.sr ?_))
 refine .fa dv ?_
 refine .ld aZ ?_
 refine .vl (Y.zb rfl rfl) ?_
 refine .mv ?_
 refine aa.ax (d := 18) rfl (fun KT => ?_) (fun KT => ?_)
 refine .gz 18 (.gz 18 (.gz 18 ?_))
 refine .pk ?_
 refine aa.nil (ae.aE rfl (ae.sr ?_))
 refine .an ?_
 refine aa.nil (ae.ret ?_)
 exact .rb rfl (df (fun h => by have h1 := aK.1 (h bQ om); omega))
 refine .gw 18 (Y.qo dv rfl rfl) (.gw 18 (Y.qz aZ rfl rfl rfl rfl) (.gw 18 (Y.qq rfl rfl) ?_))
 refine .pk ?_
 refine aa.nil ?_
 refine ae.ay rfl (fun lV => ?_) (fun lV => ?_)
 refine ae.sr ?_
 refine .an ?_
 refine aa.nil (ae.ret ?_)
 exact .rb rfl (df (fun h => by have h1 := aK.1 (h bQ om); omega))
 refine ae.skip (ae.seq (ae.sr ?_))
 refine .fa dv ?_
 refine .ld aZ ?_
 refine .vl (Y.zb rfl rfl) ?_
 refine .mv ?_
 refine aa.ax (d := 26) rfl (fun yK => ?_) (fun yK => ?_)
 refine .gw 26 (Y.qo eQ rfl rfl) (.gw 26 (Y.qz aZ rfl rfl rfl rfl) (.gw 26 (Y.zi rfl rfl) ?_))
 refine .pk ?_
 refine .mv ?_
 refine aa.ax (d := 31) rfl (fun I2 => ?_) (fun I2 => ?_)
 refine .gz 31 (.gz 31 (.gz 31 ?_))
 refine .gz 31 (.gz 35 (.gz 35 ?_))
 refine .gz 35 (.gz 31 ?_)
 refine .pk ?_
 refine aa.nil (ae.aE rfl (ae.sr ?_))
 refine .an ?_
 refine aa.nil (ae.ret ?_)
 exact .rb rfl (df (fun h => by have h1 := aK.1 (h bQ om); omega))
 refine .gw 31 (Y.qo dv rfl rfl) (.gw 31 (Y.qz aZ rfl rfl rfl rfl) (.gw 31 (Y.zb rfl rfl) ?_))
 refine .gw 31 (Y.zf rfl rfl) ?_
 refine aa.ax (d := 35) rfl (fun pS => ?_) (fun pS => ?_)
 refine .gw 35 (Y.qo cS rfl rfl) (.gw 35 (Y.qz aZ rfl rfl rfl rfl) (.gw 35 (Y.zi rfl rfl) ?_))
 refine .gw 31 (Y.zl rfl rfl rfl) ?_
 refine .pk ?_
 refine aa.nil ?_
 refine ae.ay rfl (fun wc => ?_) (fun wc => ?_)
 refine ae.sr ?_
 refine .an ?_
 refine aa.nil (ae.ret ?_)
 exact .rb rfl (df (fun h => by have h1 := aK.1 (h bQ om); omega))
 refine ae.skip (ae.sr ?_)
 refine .fa dv ?_
 refine .ld aZ ?_
 refine .vl (Y.qp rfl rfl) ?_
 refine .mv ?_
 refine aa.ax (d := 44) rfl (fun Ef => ?_) (fun Ef => ?_)
 refine .gw 44 (Y.qo eQ rfl rfl) (.gw 44 (Y.qz aZ rfl rfl rfl rfl) (.gw 44 (Y.zb rfl rfl) ?_))
 refine .gw 44 (Y.zf rfl rfl) ?_
 refine aa.ax (d := 48) rfl (fun ug => ?_) (fun ug => ?_)
 refine .gz 48 (.gz 48 (.gz 48 ?_))
 refine .gz 48 (.gw 44 (Y.zl rfl rfl rfl) ?_)
 refine .pk ?_
 refine .mv ?_
 refine .gz 55 (.gz 55 (.gz 55 ?_))
 refine .gz 55 (.gz 59 (.gz 59 ?_))
 refine .gz 59 (.gz 59 (.gz 63 ?_))
 refine .gz 63 (.gz 63 (.gz 63 ?_))
 refine .gz 59 (.gz 55 ?_)
 refine .pk ?_
 refine aa.nil (ae.aE rfl (ae.sr ?_))
 refine .an ?_
 refine aa.nil (ae.ret ?_)
 exact .rb rfl (df (fun h => by have h1 := aK.1 (h bQ om); omega))
 refine .gw 48 (Y.qo eQ rfl rfl) (.gw 48 (Y.qz aZ rfl rfl rfl rfl) (.gw 48 (Y.zf rfl rfl) ?_))
 refine .gw 48 (Y.qp rfl rfl) (.gw 44 (Y.zl rfl rfl rfl) ?_)
 refine .pk ?_
 refine .mv ?_
 refine aa.ax (d := 55) rfl (fun Eg => ?_) (fun Eg => ?_)
 refine .gz 55 (.gz 55 (.gz 55 ?_))
 refine .gz 55 (.gz 59 (.gz 59 ?_))
 refine .gz 59 (.gz 59 (.gz 63 ?_))
 refine .gz 63 (.gz 63 (.gz 63 ?_))
 refine .gz 59 (.gz 55 ?_)
 refine .pk ?_
 refine aa.nil (ae.aE rfl (ae.sr ?_))
 refine .an ?_
 refine aa.nil (ae.ret ?_)
 exact .rb rfl (df (fun h => by have h1 := aK.1 (h bQ om); omega))
 refine .gw 55 (Y.qo dv rfl rfl) (.gw 55 (Y.qz aZ rfl rfl rfl rfl) (.gw 55 (Y.qp rfl rfl) ?_))
 refine .gw 55 (Y.zf rfl rfl) ?_
 refine aa.ax (d := 59) rfl (fun rE => ?_) (fun rE => ?_)
 refine .gw 59 (Y.qo cS rfl rfl) (.gw 59 (Y.qz aZ rfl rfl rfl rfl) (.gw 59 (Y.zb rfl rfl) ?_))
 refine .gw 59 (Y.zf rfl rfl) ?_
 refine aa.ax (d := 63) rfl (fun pI => ?_) (fun pI => ?_)
 refine .gz 63 (.gz 63 (.gz 63 ?_))
 refine .gz 63 (.gw 59 (Y.zl rfl rfl rfl) (.gw 55 (Y.zl rfl rfl rfl) ?_))
 refine .pk ?_
 refine aa.nil (ae.aE rfl (ae.sr ?_))
 refine .an ?_
 refine aa.nil (ae.ret ?_)
 exact .rb rfl (df (fun h => by have h1 := aK.1 (h bQ om); omega))
 refine .gw 63 (Y.qo cS rfl rfl) (.gw 63 (Y.qz aZ rfl rfl rfl rfl) (.gw 63 (Y.zf rfl rfl) ?_))
 refine .gw 63 (Y.qp rfl rfl) (.gw 59 (Y.zl rfl rfl rfl) (.gw 55 (Y.zl rfl rfl rfl) ?_))
 refine .pk ?_
 refine aa.nil ?_
 refine ae.ay rfl (fun uB => ?_) (fun uB => ?_)
 refine ae.sr ?_
 refine .an ?_
 refine aa.nil (ae.ret ?_)
 exact .rb rfl (df (fun h => by have h1 := aK.1 (h bQ om); omega))
 refine ae.skip ?_
 exact ⟨true, decide (((l.getD bQ default).b) ≠ 0), true, decide ((bQ : Int) ≤ ((l.getD bQ default).b)), aK.2 (by refine ⟨om, ?_, ?_, ?_, ?_⟩ <;> intros <;> omega), Le.mk (.c (.c (.c (.c (.c (.c (.c (.c (.cons (au rfl dJ) (.cons (au rfl dJ) (.c (.c (.c (.cons (au rfl dJ) (.cons (au rfl dJ) (.nil)))))))))))))))) (.c (.nil))⟩
 refine .gz 59 (.gz 59 (.gz 59 ?_))
 refine .gz 59 (.gz 63 (.gz 63 ?_))
 refine .gz 63 (.gz 63 (.gz 59 ?_))
 refine .gw 55 (Y.zl rfl rfl rfl) ?_
 refine .pk ?_
 refine aa.nil (ae.bY rfl (ae.skip ?_))
 exact ⟨true, decide (((l.getD bQ default).b) ≠ 0), false, false, aK.2 (by refine ⟨om, ?_, ?_, ?_, ?_⟩ <;> intros <;> omega), Le.mk (.c (.c (.c (.c (.c (.c (.c (.c (.cons (au rfl dJ) (.cons (au rfl dJ) (.c (.c (.c (.cons (au rfl dJ) (.cons (au rfl dJ) (.nil)))))))))))))))) (.c (.nil))⟩
 refine .gz 44 (.gz 44 (.gz 44 ?_))
 refine .gz 44 (.gz 48 (.gz 48 ?_))
 refine .gz 48 (.gz 48 (.gz 44 ?_))
 refine .pk ?_
 refine .mv ?_
 refine .gw 55 (Y.qo dv rfl rfl) (.gw 55 (Y.qz aZ rfl rfl rfl rfl) (.gw 55 (Y.qp rfl rfl) ?_))
 refine .gw 55 (Y.zf rfl rfl) ?_
 refine aa.ax (d := 59) rfl (fun rE => ?_) (fun rE => ?_)
 refine .gw 59 (Y.qo cS rfl rfl) (.gw 59 (Y.qz aZ rfl rfl rfl rfl) (.gw 59 (Y.zb rfl rfl) ?_))
 refine .gw 59 (Y.zf rfl rfl) ?_
 refine aa.ax (d := 63) rfl (fun pI => ?_) (fun pI => ?_)
 refine .gz 63 (.gz 63 (.gz 63 ?_))
 refine .gz 63 (.gw 59 (Y.zl rfl rfl rfl) (.gw 55 (Y.zl rfl rfl rfl) ?_))
 refine .pk ?_
 refine aa.nil (ae.aE rfl (ae.sr ?_))
 refine .an ?_
 refine aa.nil (ae.ret ?_)
 exact .rb rfl (df (fun h => by have h1 := aK.1 (h bQ om); omega))
 refine .gw 63 (Y.qo cS rfl rfl) (.gw 63 (Y.qz aZ rfl rfl rfl rfl) (.gw 63 (Y.zf rfl rfl) ?_))
 refine .gw 63 (Y.qp rfl rfl) (.gw 59 (Y.zl rfl rfl rfl) (.gw 55 (Y.zl rfl rfl rfl) ?_))
 refine .pk ?_
 refine aa.nil ?_
 refine ae.ay rfl (fun uB => ?_) (fun uB => ?_)
 refine ae.sr ?_
 refine .an ?_
 refine aa.nil (ae.ret ?_)
 exact .rb rfl (df (fun h => by have h1 := aK.1 (h bQ om); omega))
 refine ae.skip ?_
 exact ⟨true, decide (((l.getD bQ default).b) ≠ 0), true, decide ((bQ : Int) ≤ ((l.getD bQ default).b)), aK.2 (by refine ⟨om, ?_, ?_, ?_, ?_⟩ <;> intros <;> omega), Le.mk (.c (.c (.c (.c (.c (.c (.c (.c (.cons (au rfl dJ) (.cons (au rfl dJ) (.c (.c (.c (.cons (au rfl dJ) (.cons (au rfl dJ) (.nil)))))))))))))))) (.c (.nil))⟩
 refine .gz 59 (.gz 59 (.gz 59 ?_))
 refine .gz 59 (.gz 63 (.gz 63 ?_))
 refine .gz 63 (.gz 63 (.gz 59 ?_))
 refine .gw 55 (Y.zl rfl rfl rfl) ?_
 refine .pk ?_
 refine aa.nil (ae.bY rfl (ae.skip ?_))
 exact ⟨true, decide (((l.getD bQ default).b) ≠ 0), false, false, aK.2 (by refine ⟨om, ?_, ?_, ?_, ?_⟩ <;> intros <;> omega), Le.mk (.c (.c (.c (.c (.c (.c (.c (.c (.cons (au rfl dJ) (.cons (au rfl dJ) (.c (.c (.c (.cons (au rfl dJ) (.cons (au rfl dJ) (.nil)))))))))))))))) (.c (.nil))⟩
 refine .gz 35 (.gz 35 (.gz 35 ?_))
 refine .gw 31 (Y.zl rfl rfl rfl) ?_
 refine .pk ?_
 refine aa.nil (ae.bY rfl (ae.skip ?_))
 refine ae.sr ?_
 refine .fa dv ?_
 refine .ld aZ ?_
 refine .vl (Y.qp rfl rfl) ?_
 refine .mv ?_
 refine aa.ax (d := 44) rfl (fun Ef => ?_) (fun Ef => ?_)
 refine .gw 44 (Y.qo eQ rfl rfl) (.gw 44 (Y.qz aZ rfl rfl rfl rfl) (.gw 44 (Y.zb rfl rfl) ?_))
 refine .gw 44 (Y.zf rfl rfl) ?_
 refine aa.ax (d := 48) rfl (fun ug => ?_) (fun ug => ?_)
 refine .gz 48 (.gz 48 (.gz 48 ?_))
 refine .gz 48 (.gw 44 (Y.zl rfl rfl rfl) ?_)
 refine .pk ?_
 refine .mv ?_
 refine .gz 55 (.gz 55 (.gz 55 ?_))
 refine .gz 55 (.gz 59 (.gz 59 ?_))
 refine .gz 59 (.gz 59 (.gz 63 ?_))
 refine .gz 63 (.gz 63 (.gz 63 ?_))
 refine .gz 59 (.gz 55 ?_)
 refine .pk ?_
 refine aa.nil (ae.aE rfl (ae.sr ?_))
 refine .an ?_
 refine aa.nil (ae.ret ?_)
 exact .rb rfl (df (fun h => by have h1 := aK.1 (h bQ om); omega))
 refine .gw 48 (Y.qo eQ rfl rfl) (.gw 48 (Y.qz aZ rfl rfl rfl rfl) (.gw 48 (Y.zf rfl rfl) ?_))
 refine .gw 48 (Y.qp rfl rfl) (.gw 44 (Y.zl rfl rfl rfl) ?_)
 refine .pk ?_
 refine .mv ?_
 refine aa.ax (d := 55) rfl (fun Eg => ?_) (fun Eg => ?_)
 refine .gz 55 (.gz 55 (.gz 55 ?_))
 refine .gz 55 (.gz 59 (.gz 59 ?_))
 refine .gz 59 (.gz 59 (.gz 63 ?_))
 refine .gz 63 (.gz 63 (.gz 63 ?_))
 refine .gz 59 (.gz 55 ?_)
 refine .pk ?_
 refine aa.nil (ae.aE rfl (ae.sr ?_))
 refine .an ?_
 refine aa.nil (ae.ret ?_)
 exact .rb rfl (df (fun h => by have h1 := aK.1 (h bQ om); omega))
 refine .gw 55 (Y.qo dv rfl rfl) (.gw 55 (Y.qz aZ rfl rfl rfl rfl) (.gw 55 (Y.qp rfl rfl) ?_))
 refine .gw 55 (Y.zf rfl rfl) ?_
 refine aa.ax (d := 59) rfl (fun rE => ?_) (fun rE => ?_)
 refine .gw 59 (Y.qo cS rfl rfl) (.gw 59 (Y.qz aZ rfl rfl rfl rfl) (.gw 59 (Y.zb rfl rfl) ?_))
 refine .gw 59 (Y.zf rfl rfl) ?_
 refine aa.ax (d := 63) rfl (fun pI => ?_) (fun pI => ?_)
 refine .gz 63 (.gz 63 (.gz 63 ?_))
 refine .gz 63 (.gw 59 (Y.zl rfl rfl rfl) (.gw 55 (Y.zl rfl rfl rfl) ?_))
 refine .pk ?_
 refine aa.nil (ae.aE rfl (ae.sr ?_))
 refine .an ?_
 refine aa.nil (ae.ret ?_)
 exact .rb rfl (df (fun h => by have h1 := aK.1 (h bQ om); omega))
 refine .gw 63 (Y.qo cS rfl rfl) (.gw 63 (Y.qz aZ rfl rfl rfl rfl) (.gw 63 (Y.zf rfl rfl) ?_))
 refine .gw 63 (Y.qp rfl rfl) (.gw 59 (Y.zl rfl rfl rfl) (.gw 55 (Y.zl rfl rfl rfl) ?_))
 refine .pk ?_
 refine aa.nil ?_
 refine ae.ay rfl (fun uB => ?_) (fun uB => ?_)
 refine ae.sr ?_
 refine .an ?_
 refine aa.nil (ae.ret ?_)
 exact .rb rfl (df (fun h => by have h1 := aK.1 (h bQ om); omega))
 refine ae.skip ?_
 exact ⟨false, false, true, decide ((bQ : Int) ≤ ((l.getD bQ default).b)), aK.2 (by refine ⟨om, ?_, ?_, ?_, ?_⟩ <;> intros <;> omega), Le.mk (.c (.c (.c (.c (.c (.c (.c (.c (.cons (au rfl dJ) (.cons (au rfl dJ) (.c (.c (.c (.cons (au rfl dJ) (.cons (au rfl dJ) (.nil)))))))))))))))) (.c (.nil))⟩
 refine .gz 59 (.gz 59 (.gz 59 ?_))
 refine .gz 59 (.gz 63 (.gz 63 ?_))
 refine .gz 63 (.gz 63 (.gz 59 ?_))
 refine .gw 55 (Y.zl rfl rfl rfl) ?_
 refine .pk ?_
 refine aa.nil (ae.bY rfl (ae.skip ?_))
 exact ⟨false, false, false, false, aK.2 (by refine ⟨om, ?_, ?_, ?_, ?_⟩ <;> intros <;> omega), Le.mk (.c (.c (.c (.c (.c (.c (.c (.c (.cons (au rfl dJ) (.cons (au rfl dJ) (.c (.c (.c (.cons (au rfl dJ) (.cons (au rfl dJ) (.nil)))))))))))))))) (.c (.nil))⟩
 refine .gz 44 (.gz 44 (.gz 44 ?_))
 refine .gz 44 (.gz 48 (.gz 48 ?_))
 refine .gz 48 (.gz 48 (.gz 44 ?_))
 refine .pk ?_
 refine .mv ?_
 refine .gw 55 (Y.qo dv rfl rfl) (.gw 55 (Y.qz aZ rfl rfl rfl rfl) (.gw 55 (Y.qp rfl rfl) ?_))
 refine .gw 55 (Y.zf rfl rfl) ?_
 refine aa.ax (d := 59) rfl (fun rE => ?_) (fun rE => ?_)
 refine .gw 59 (Y.qo cS rfl rfl) (.gw 59 (Y.qz aZ rfl rfl rfl rfl) (.gw 59 (Y.zb rfl rfl) ?_))
 refine .gw 59 (Y.zf rfl rfl) ?_
 refine aa.ax (d := 63) rfl (fun pI => ?_) (fun pI => ?_)
 refine .gz 63 (.gz 63 (.gz 63 ?_))
 refine .gz 63 (.gw 59 (Y.zl rfl rfl rfl) (.gw 55 (Y.zl rfl rfl rfl) ?_))
 refine .pk ?_
 refine aa.nil (ae.aE rfl (ae.sr ?_))
 refine .an ?_
 refine aa.nil (ae.ret ?_)
 exact .rb rfl (df (fun h => by have h1 := aK.1 (h bQ om); omega))
 refine .gw 63 (Y.qo cS rfl rfl) (.gw 63 (Y.qz aZ rfl rfl rfl rfl) (.gw 63 (Y.zf rfl rfl) ?_))
 refine .gw 63 (Y.qp rfl rfl) (.gw 59 (Y.zl rfl rfl rfl) (.gw 55 (Y.zl rfl rfl rfl) ?_))
 refine .pk ?_
 refine aa.nil ?_
 refine ae.ay rfl (fun uB => ?_) (fun uB => ?_)
 refine ae.sr ?_
 refine .an ?_
 refine aa.nil (ae.ret ?_)
 exact .rb rfl (df (fun h => by have h1 := aK.1 (h bQ om); omega))
 refine ae.skip ?_
 exact ⟨false, false, true, decide ((bQ : Int) ≤ ((l.getD bQ default).b)), aK.2 (by refine ⟨om, ?_, ?_, ?_, ?_⟩ <;> intros <;> omega), Le.mk (.c (.c (.c (.c (.c (.c (.c (.c (.cons (au rfl dJ) (.cons (au rfl dJ) (.c (.c (.c (.cons (au rfl dJ) (.cons (au rfl dJ) (.nil)))))))))))))))) (.c (.nil))⟩
 refine .gz 59 (.gz 59 (.gz 59 ?_))
 refine .gz 59 (.gz 63 (.gz 63 ?_))
 refine .gz 63 (.gz 63 (.gz 59 ?_))
 refine .gw 55 (Y.zl rfl rfl rfl) ?_
 refine .pk ?_
 refine aa.nil (ae.bY rfl (ae.skip ?_))
 exact ⟨false, false, false, false, aK.2 (by refine ⟨om, ?_, ?_, ?_, ?_⟩ <;> intros <;> omega), Le.mk (.c (.c (.c (.c (.c (.c (.c (.c (.cons (au rfl dJ) (.cons (au rfl dJ) (.c (.c (.c (.cons (au rfl dJ) (.cons (au rfl dJ) (.nil)))))))))))))))) (.c (.nil))⟩
 refine .gz 26 (.gz 26 (.gz 26 ?_))
 refine .pk ?_
 refine .mv ?_
 refine .gw 31 (Y.qo dv rfl rfl) (.gw 31 (Y.qz aZ rfl rfl rfl rfl) (.gw 31 (Y.zb rfl rfl) ?_))
 refine .gw 31 (Y.zf rfl rfl) ?_
 refine aa.ax (d := 35) rfl (fun pS => ?_) (fun pS => ?_)
 refine .gw 35 (Y.qo cS rfl rfl) (.gw 35 (Y.qz aZ rfl rfl rfl rfl) (.gw 35 (Y.zi rfl rfl) ?_))
 refine .gw 31 (Y.zl rfl rfl rfl) ?_
 refine .pk ?_
 refine aa.nil ?_
 refine ae.ay rfl (fun wc => ?_) (fun wc => ?_)
 refine ae.sr ?_
 refine .an ?_
 refine aa.nil (ae.ret ?_)
 exact .rb rfl (df (fun h => by have h1 := aK.1 (h bQ om); omega))
 refine ae.skip (ae.sr ?_)
 refine .fa dv ?_
 refine .ld aZ ?_
 refine .vl (Y.qp rfl rfl) ?_
 refine .mv ?_
 refine aa.ax (d := 44) rfl (fun Ef => ?_) (fun Ef => ?_)
 refine .gw 44 (Y.qo eQ rfl rfl) (.gw 44 (Y.qz aZ rfl rfl rfl rfl) (.gw 44 (Y.zb rfl rfl) ?_))
 refine .gw 44 (Y.zf rfl rfl) ?_
 refine aa.ax (d := 48) rfl (fun ug => ?_) (fun ug => ?_)
 refine .gz 48 (.gz 48 (.gz 48 ?_))
 refine .gz 48 (.gw 44 (Y.zl rfl rfl rfl) ?_)
 refine .pk ?_
 refine .mv ?_
 refine .gz 55 (.gz 55 (.gz 55 ?_))
 refine .gz 55 (.gz 59 (.gz 59 ?_))
 refine .gz 59 (.gz 59 (.gz 63 ?_))
 refine .gz 63 (.gz 63 (.gz 63 ?_))
 refine .gz 59 (.gz 55 ?_)
 refine .pk ?_
 refine aa.nil (ae.aE rfl (ae.sr ?_))
 refine .an ?_
 refine aa.nil (ae.ret ?_)
 exact .rb rfl (df (fun h => by have h1 := aK.1 (h bQ om); omega))
 refine .gw 48 (Y.qo eQ rfl rfl) (.gw 48 (Y.qz aZ rfl rfl rfl rfl) (.gw 48 (Y.zf rfl rfl) ?_))
 refine .gw 48 (Y.qp rfl rfl) (.gw 44 (Y.zl rfl rfl rfl) ?_)
 refine .pk ?_
 refine .mv ?_
 refine aa.ax (d := 55) rfl (fun Eg => ?_) (fun Eg => ?_)
 refine .gz 55 (.gz 55 (.gz 55 ?_))
 refine .gz 55 (.gz 59 (.gz 59 ?_))
 refine .gz 59 (.gz 59 (.gz 63 ?_))
 refine .gz 63 (.gz 63 (.gz 63 ?_))
 refine .gz 59 (.gz 55 ?_)
 refine .pk ?_
 refine aa.nil (ae.aE rfl (ae.sr ?_))
 refine .an ?_
 refine aa.nil (ae.ret ?_)
 exact .rb rfl (df (fun h => by have h1 := aK.1 (h bQ om); omega))
 refine .gw 55 (Y.qo dv rfl rfl) (.gw 55 (Y.qz aZ rfl rfl rfl rfl) (.gw 55 (Y.qp rfl rfl) ?_))
 refine .gw 55 (Y.zf rfl rfl) ?_
 refine aa.ax (d := 59) rfl (fun rE => ?_) (fun rE => ?_)
 refine .gw 59 (Y.qo cS rfl rfl) (.gw 59 (Y.qz aZ rfl rfl rfl rfl) (.gw 59 (Y.zb rfl rfl) ?_))
 refine .gw 59 (Y.zf rfl rfl) ?_
 refine aa.ax (d := 63) rfl (fun pI => ?_) (fun pI => ?_)
 refine .gz 63 (.gz 63 (.gz 63 ?_))
 refine .gz 63 (.gw 59 (Y.zl rfl rfl rfl) (.gw 55 (Y.zl rfl rfl rfl) ?_))
 refine .pk ?_
 refine aa.nil (ae.aE rfl (ae.sr ?_))
 refine .an ?_
 refine aa.nil (ae.ret ?_)
 exact .rb rfl (df (fun h => by have h1 := aK.1 (h bQ om); omega))
 refine .gw 63 (Y.qo cS rfl rfl) (.gw 63 (Y.qz aZ rfl rfl rfl rfl) (.gw 63 (Y.zf rfl rfl) ?_))
 refine .gw 63 (Y.qp rfl rfl) (.gw 59 (Y.zl rfl rfl rfl) (.gw 55 (Y.zl rfl rfl rfl) ?_))
 refine .pk ?_
 refine aa.nil ?_
 refine ae.ay rfl (fun uB => ?_) (fun uB => ?_)
 refine ae.sr ?_
 refine .an ?_
 refine aa.nil (ae.ret ?_)
 exact .rb rfl (df (fun h => by have h1 := aK.1 (h bQ om); omega))
 refine ae.skip ?_
 exact ⟨true, decide (((l.getD bQ default).b) ≠ 0), true, decide ((bQ : Int) ≤ ((l.getD bQ default).b)), aK.2 (by refine ⟨om, ?_, ?_, ?_, ?_⟩ <;> intros <;> omega), Le.mk (.c (.c (.c (.c (.c (.c (.c (.c (.cons (au rfl dJ) (.cons (au rfl dJ) (.c (.c (.c (.cons (au rfl dJ) (.cons (au rfl dJ) (.nil)))))))))))))))) (.c (.nil))⟩
 refine .gz 59 (.gz 59 (.gz 59 ?_))
 refine .gz 59 (.gz 63 (.gz 63 ?_))
 refine .gz 63 (.gz 63 (.gz 59 ?_))
 refine .gw 55 (Y.zl rfl rfl rfl) ?_
 refine .pk ?_
 refine aa.nil (ae.bY rfl (ae.skip ?_))
 exact ⟨true, decide (((l.getD bQ default).b) ≠ 0), false, false, aK.2 (by refine ⟨om, ?_, ?_, ?_, ?_⟩ <;> intros <;> omega), Le.mk (.c (.c (.c (.c (.c (.c (.c (.c (.cons (au rfl dJ) (.cons (au rfl dJ) (.c (.c (.c (.cons (au rfl dJ) (.cons (au rfl dJ) (.nil)))))))))))))))) (.c (.nil))⟩
 refine .gz 44 (.gz 44 (.gz 44 ?_))
 refine .gz 44 (.gz 48 (.gz 48 ?_))
 refine .gz 48 (.gz 48 (.gz 44 ?_))
 refine .pk ?_
 refine .mv ?_
 refine .gw 55 (Y.qo dv rfl rfl) (.gw 55 (Y.qz aZ rfl rfl rfl rfl) (.gw 55 (Y.qp rfl rfl) ?_))
 refine .gw 55 (Y.zf rfl rfl) ?_
 refine aa.ax (d := 59) rfl (fun rE => ?_) (fun rE => ?_)
 refine .gw 59 (Y.qo cS rfl rfl) (.gw 59 (Y.qz aZ rfl rfl rfl rfl) (.gw 59 (Y.zb rfl rfl) ?_))
 refine .gw 59 (Y.zf rfl rfl) ?_
 refine aa.ax (d := 63) rfl (fun pI => ?_) (fun pI => ?_)
 refine .gz 63 (.gz 63 (.gz 63 ?_))
 refine .gz 63 (.gw 59 (Y.zl rfl rfl rfl) (.gw 55 (Y.zl rfl rfl rfl) ?_))
 refine .pk ?_
 refine aa.nil (ae.aE rfl (ae.sr ?_))
 refine .an ?_
 refine aa.nil (ae.ret ?_)
 exact .rb rfl (df (fun h => by have h1 := aK.1 (h bQ om); omega))
 refine .gw 63 (Y.qo cS rfl rfl) (.gw 63 (Y.qz aZ rfl rfl rfl rfl) (.gw 63 (Y.zf rfl rfl) ?_))
 refine .gw 63 (Y.qp rfl rfl) (.gw 59 (Y.zl rfl rfl rfl) (.gw 55 (Y.zl rfl rfl rfl) ?_))
 refine .pk ?_
 refine aa.nil ?_
 refine ae.ay rfl (fun uB => ?_) (fun uB => ?_)
 refine ae.sr ?_
 refine .an ?_
 refine aa.nil (ae.ret ?_)
 exact .rb rfl (df (fun h => by have h1 := aK.1 (h bQ om); omega))
 refine ae.skip ?_
 exact ⟨true, decide (((l.getD bQ default).b) ≠ 0), true, decide ((bQ : Int) ≤ ((l.getD bQ default).b)), aK.2 (by refine ⟨om, ?_, ?_, ?_, ?_⟩ <;> intros <;> omega), Le.mk (.c (.c (.c (.c (.c (.c (.c (.c (.cons (au rfl dJ) (.cons (au rfl dJ) (.c (.c (.c (.cons (au rfl dJ) (.cons (au rfl dJ) (.nil)))))))))))))))) (.c (.nil))⟩
 refine .gz 59 (.gz 59 (.gz 59 ?_))
 refine .gz 59 (.gz 63 (.gz 63 ?_))
 refine .gz 63 (.gz 63 (.gz 59 ?_))
 refine .gw 55 (Y.zl rfl rfl rfl) ?_
 refine .pk ?_
 refine aa.nil (ae.bY rfl (ae.skip ?_))
 exact ⟨true, decide (((l.getD bQ default).b) ≠ 0), false, false, aK.2 (by refine ⟨om, ?_, ?_, ?_, ?_⟩ <;> intros <;> omega), Le.mk (.c (.c (.c (.c (.c (.c (.c (.c (.cons (au rfl dJ) (.cons (au rfl dJ) (.c (.c (.c (.cons (au rfl dJ) (.cons (au rfl dJ) (.nil)))))))))))))))) (.c (.nil))⟩
 refine .gz 35 (.gz 35 (.gz 35 ?_))
 refine .gw 31 (Y.zl rfl rfl rfl) ?_
 refine .pk ?_
 refine aa.nil (ae.bY rfl (ae.skip ?_))
 refine ae.sr ?_
 refine .fa dv ?_
 refine .ld aZ ?_
 refine .vl (Y.qp rfl rfl) ?_
 refine .mv ?_
 refine aa.ax (d := 44) rfl (fun Ef => ?_) (fun Ef => ?_)
 refine .gw 44 (Y.qo eQ rfl rfl) (.gw 44 (Y.qz aZ rfl rfl rfl rfl) (.gw 44 (Y.zb rfl rfl) ?_))
 refine .gw 44 (Y.zf rfl rfl) ?_
 refine aa.ax (d := 48) rfl (fun ug => ?_) (fun ug => ?_)
 refine .gz 48 (.gz 48 (.gz 48 ?_))
 refine .gz 48 (.gw 44 (Y.zl rfl rfl rfl) ?_)
 refine .pk ?_
 refine .mv ?_
 refine .gz 55 (.gz 55 (.gz 55 ?_))
 refine .gz 55 (.gz 59 (.gz 59 ?_))
 refine .gz 59 (.gz 59 (.gz 63 ?_))
 refine .gz 63 (.gz 63 (.gz 63 ?_))
 refine .gz 59 (.gz 55 ?_)
 refine .pk ?_
 refine aa.nil (ae.aE rfl (ae.sr ?_))
 refine .an ?_
 refine aa.nil (ae.ret ?_)
 exact .rb rfl (df (fun h => by have h1 := aK.1 (h bQ om); omega))
 refine .gw 48 (Y.qo eQ rfl rfl) (.gw 48 (Y.qz aZ rfl rfl rfl rfl) (.gw 48 (Y.zf rfl rfl) ?_))
 refine .gw 48 (Y.qp rfl rfl) (.gw 44 (Y.zl rfl rfl rfl) ?_)
 refine .pk ?_
 refine .mv ?_
 refine aa.ax (d := 55) rfl (fun Eg => ?_) (fun Eg => ?_)
 refine .gz 55 (.gz 55 (.gz 55 ?_))
 refine .gz 55 (.gz 59 (.gz 59 ?_))
 refine .gz 59 (.gz 59 (.gz 63 ?_))
 refine .gz 63 (.gz 63 (.gz 63 ?_))
 refine .gz 59 (.gz 55 ?_)
 refine .pk ?_
 refine aa.nil (ae.aE rfl (ae.sr ?_))
 refine .an ?_
 refine aa.nil (ae.ret ?_)
 exact .rb rfl (df (fun h => by have h1 := aK.1 (h bQ om); omega))
 refine .gw 55 (Y.qo dv rfl rfl) (.gw 55 (Y.qz aZ rfl rfl rfl rfl) (.gw 55 (Y.qp rfl rfl) ?_))
 refine .gw 55 (Y.zf rfl rfl) ?_
 refine aa.ax (d := 59) rfl (fun rE => ?_) (fun rE => ?_)
 refine .gw 59 (Y.qo cS rfl rfl) (.gw 59 (Y.qz aZ rfl rfl rfl rfl) (.gw 59 (Y.zb rfl rfl) ?_))
 refine .gw 59 (Y.zf rfl rfl) ?_
 refine aa.ax (d := 63) rfl (fun pI => ?_) (fun pI => ?_)
 refine .gz 63 (.gz 63 (.gz 63 ?_))
 refine .gz 63 (.gw 59 (Y.zl rfl rfl rfl) (.gw 55 (Y.zl rfl rfl rfl) ?_))
 refine .pk ?_
 refine aa.nil (ae.aE rfl (ae.sr ?_))
 refine .an ?_
 refine aa.nil (ae.ret ?_)
 exact .rb rfl (df (fun h => by have h1 := aK.1 (h bQ om); omega))
 refine .gw 63 (Y.qo cS rfl rfl) (.gw 63 (Y.qz aZ rfl rfl rfl rfl) (.gw 63 (Y.zf rfl rfl) ?_))
 refine .gw 63 (Y.qp rfl rfl) (.gw 59 (Y.zl rfl rfl rfl) (.gw 55 (Y.zl rfl rfl rfl) ?_))
 refine .pk ?_
 refine aa.nil ?_
 refine ae.ay rfl (fun uB => ?_) (fun uB => ?_)
 refine ae.sr ?_
 refine .an ?_
 refine aa.nil (ae.ret ?_)
 exact .rb rfl (df (fun h => by have h1 := aK.1 (h bQ om); omega))
 refine ae.skip ?_
 exact ⟨false, false, true, decide ((bQ : Int) ≤ ((l.getD bQ default).b)), aK.2 (by refine ⟨om, ?_, ?_, ?_, ?_⟩ <;> intros <;> omega), Le.mk (.c (.c (.c (.c (.c (.c (.c (.c (.cons (au rfl dJ) (.cons (au rfl dJ) (.c (.c (.c (.cons (au rfl dJ) (.cons (au rfl dJ) (.nil)))))))))))))))) (.c (.nil))⟩
 refine .gz 59 (.gz 59 (.gz 59 ?_))
 refine .gz 59 (.gz 63 (.gz 63 ?_))
 refine .gz 63 (.gz 63 (.gz 59 ?_))
 refine .gw 55 (Y.zl rfl rfl rfl) ?_
 refine .pk ?_
 refine aa.nil (ae.bY rfl (ae.skip ?_))
 exact ⟨false, false, false, false, aK.2 (by refine ⟨om, ?_, ?_, ?_, ?_⟩ <;> intros <;> omega), Le.mk (.c (.c (.c (.c (.c (.c (.c (.c (.cons (au rfl dJ) (.cons (au rfl dJ) (.c (.c (.c (.cons (au rfl dJ) (.cons (au rfl dJ) (.nil)))))))))))))))) (.c (.nil))⟩
 refine .gz 44 (.gz 44 (.gz 44 ?_))
 refine .gz 44 (.gz 48 (.gz 48 ?_))
 refine .gz 48 (.gz 48 (.gz 44 ?_))
 refine .pk ?_
 refine .mv ?_
 refine .gw 55 (Y.qo dv rfl rfl) (.gw 55 (Y.qz aZ rfl rfl rfl rfl) (.gw 55 (Y.qp rfl rfl) ?_))
 refine .gw 55 (Y.zf rfl rfl) ?_
 refine aa.ax (d := 59) rfl (fun rE => ?_) (fun rE => ?_)
 refine .gw 59 (Y.qo cS rfl rfl) (.gw 59 (Y.qz aZ rfl rfl rfl rfl) (.gw 59 (Y.zb rfl rfl) ?_))
 refine .gw 59 (Y.zf rfl rfl) ?_
 refine aa.ax (d := 63) rfl (fun pI => ?_) (fun pI => ?_)
 refine .gz 63 (.gz 63 (.gz 63 ?_))
 refine .gz 63 (.gw 59 (Y.zl rfl rfl rfl) (.gw 55 (Y.zl rfl rfl rfl) ?_))
 refine .pk ?_
 refine aa.nil (ae.aE rfl (ae.sr ?_))
 refine .an ?_
 refine aa.nil (ae.ret ?_)
 exact .rb rfl (df (fun h => by have h1 := aK.1 (h bQ om); omega))
 refine .gw 63 (Y.qo cS rfl rfl) (.gw 63 (Y.qz aZ rfl rfl rfl rfl) (.gw 63 (Y.zf rfl rfl) ?_))
 refine .gw 63 (Y.qp rfl rfl) (.gw 59 (Y.zl rfl rfl rfl) (.gw 55 (Y.zl rfl rfl rfl) ?_))
 refine .pk ?_
 refine aa.nil ?_
 refine ae.ay rfl (fun uB => ?_) (fun uB => ?_)
 refine ae.sr ?_
 refine .an ?_
 refine aa.nil (ae.ret ?_)
 exact .rb rfl (df (fun h => by have h1 := aK.1 (h bQ om); omega))
 refine ae.skip ?_
 exact ⟨false, false, true, decide ((bQ : Int) ≤ ((l.getD bQ default).b)), aK.2 (by refine ⟨om, ?_, ?_, ?_, ?_⟩ <;> intros <;> omega), Le.mk (.c (.c (.c (.c (.c (.c (.c (.c (.cons (au rfl dJ) (.cons (au rfl dJ) (.c (.c (.c (.cons (au rfl dJ) (.cons (au rfl dJ) (.nil)))))))))))))))) (.c (.nil))⟩
 refine .gz 59 (.gz 59 (.gz 59 ?_))
 refine .gz 59 (.gz 63 (.gz 63 ?_))
 refine .gz 63 (.gz 63 (.gz 59 ?_))
 refine .gw 55 (Y.zl rfl rfl rfl) ?_
 refine .pk ?_
 refine aa.nil (ae.bY rfl (ae.skip ?_))
 exact ⟨false, false, false, false, aK.2 (by refine ⟨om, ?_, ?_, ?_, ?_⟩ <;> intros <;> omega), Le.mk (.c (.c (.c (.c (.c (.c (.c (.c (.cons (au rfl dJ) (.cons (au rfl dJ) (.c (.c (.c (.cons (au rfl dJ) (.cons (au rfl dJ) (.nil)))))))))))))))) (.c (.nil))⟩
 refine ae.region ?_
 refine .mv ?_
 refine .vl (Y.qb rfl rfl aC) ?_
 refine .an ?_
 refine aa.nil ?_
 exact ⟨bQ + 1, ⟨om, eG hG Qb⟩, om, Le.mk (.c (.cons (ak rfl bg) (.nil))) (.nil)⟩
 refine ae.exit (ae.sr ?_)
 refine .an ?_
 refine aa.nil (ae.ret ?_)
 exact .rb rfl (dt (fun j hj => hG j om))
set_option maxRecDepth 4000 in
set_option maxHeartbeats 1000000 in
theorem sX {a : List Int} {w n : Int} (ha : a.length ≤ 1000000) : al Try.prog 34 [.fz 1 (a.map aq), .v (.int .i64 w), .v (.int .i64 n)] [] [] (fun r o => r = .v (.bool (decide (o0 a w n))) ∧ o = []) := by
 refine al.of Try.func34 rfl rfl rfl (n := 31) ah (Nat.le_of_ble_eq_true rfl) (ae.sr ?_)
 refine .an ?_
 refine aa.nil (ae.seq (ae.sr ?_))
 refine .an ?_
 refine aa.nil (ae.block ?_)
 refine ae.iS (fun (oa : Nat) => ⟨[(0, .fz 1 (a.map aq)), (1, .v (.int .i64 w)), (2, .v (.int .i64 n)), (7, .v (.int .i64 (oa : Int)))], []⟩) (fun (oa : Nat) => ((oa : Int) ≤ (a.length : Int)) ∧ (∀ j, j < oa → 0 ≤ a.getD j 0 ∧ a.getD j 0 < n)) (fun (oa : Nat) => ((a.length : Int) - (oa : Int)).toNat) 0 (⟨om, fun j hj => by omega⟩) (Le.mk (.c (.c (.c (.cons (ak rfl bg) (.nil))))) (.nil)) (fun oa vD => ?_)
 obtain ⟨wY, hP⟩ := vD
 refine ae.seq (ae.sr ?_)
 refine .mv ?_
 refine .mv ?_
 refine .vl (Y.qw (n := a.length) a8 rfl (congrArg some (List.length_map ..))) (.vl (Y.zb rfl rfl) (aa.nil ?_))
 refine ae.ay rfl (fun Ck => ?_) (fun Ck => ?_)
 refine ae.skip (ae.seq (ae.block ?_))
 refine ae.sr ?_
 refine .mv ?_
 refine .mv ?_
 refine .vl (Y.qr (m := oa) a8 rfl rfl bg (aw (d := 0) om)) ?_
 refine .ld aZ ?_
 refine .vl (Y.zb rfl rfl) ?_
 refine .mv ?_
 refine aa.ax (d := 19) rfl (fun r5 => ?_) (fun r5 => ?_)
 refine .gz 19 (.gz 19 (.gz 19 ?_))
 refine .gz 19 (.gz 19 (.gz 19 ?_))
 refine .pk ?_
 refine aa.nil (ae.aE rfl (ae.sr ?_))
 refine .an ?_
 refine aa.nil (ae.ret ?_)
 exact .rb rfl (df (fun h => by have h1 := h.1 oa om; omega))
 refine .gw 19 (Y.zf rfl rfl) (.gw 19 (Y.zf rfl rfl) ?_)
 refine .gw 19 (Y.qr (m := oa) a8 rfl rfl bg (aw (d := 0) om)) ?_
 refine .gw 19 (Y.qz aZ rfl rfl rfl rfl) (.gw 19 (Y.zf rfl rfl) (.gw 19 (Y.qp rfl rfl) ?_))
 refine .pk ?_
 refine aa.nil ?_
 refine ae.ay rfl (fun yK => ?_) (fun yK => ?_)
 refine ae.sr ?_
 refine .an ?_
 refine aa.nil (ae.ret ?_)
 exact .rb rfl (df (fun h => by have h1 := h.1 oa om; omega))
 refine ae.skip (ae.region ?_)
 refine .mv ?_
 refine .vl (Y.qb rfl rfl aC) ?_
 refine .an ?_
 refine aa.nil ?_
 exact ⟨oa + 1, ⟨om, eG hP ⟨om, om⟩⟩, om, Le.mk (.c (.c (.c (.cons (ak rfl bg) (.nil))))) (.nil)⟩
 refine ae.exit (ae.sr ?_)
 refine .mv ?_
 refine .vl (Y.qw (n := a.length) a8 rfl (congrArg some (List.length_map ..))) ?_
 refine .mv ?_
 refine .vl (Y.qk rfl rfl) ?_
 refine .an ?_
 refine aa.nil (ae.ret ?_)
 exact .rb rfl (dd ⟨fun h => ⟨fun j hj => hP j om, h⟩, fun h => h.2⟩)
set_option maxRecDepth 4000 in
set_option maxHeartbeats 1000000 in
theorem sY {l : List Gate} {n : Nat} (hg : Good l) (hn : n = fA l) (hl : l.length ≤ 1000000) : al Try.prog 41 [.fz 3 (l.map Gate.row), .fz 1 ((List.replicate n 0).map aq)] [] [] (fun r o => r = .di 1 ((dK l (List.replicate n 0) l.length).map aq) ∧ o = []) := by
 refine al.of Try.func41 rfl rfl rfl (n := 59) ah (Nat.le_of_ble_eq_true rfl) (ae.sr ?_)
 refine .an ?_
 refine aa.nil (ae.sr ?_)
 refine .an ?_
 refine aa.sh (Sh.nil (d := 5) 105 1 rfl ah) (aa.nil (ae.sr ?_))
 refine .an ?_
 refine aa.nil (ae.seq (ae.sr ?_))
 refine .an ?_
 refine aa.nil (ae.block ?_)
 refine ae.eW (fun (mK : Nat) (dI : Nat) (cf : List Int) => ⟨[(0, .fz 3 (l.map Gate.row)), (1, .fz 1 ((List.replicate n 0).map aq)), (5, .aY 105 1 0 cf.length), (6, .v (.int .i64 (mK : Int))), (7, .v (.int .i64 (dI : Int)))], [(105, .rows 1 (cf.map aq))]⟩) (fun (mK : Nat) (dI : Nat) (cf : List Int) => ((dI : Int) ≤ (l.length : Int)) ∧ (cf = dK l (List.replicate n 0) dI ∧ mK = fA (l.take dI))) (fun (mK : Nat) (dI : Nat) (cf : List Int) => ((l.length : Int) - (dI : Int)).toNat) 0 0 ([] : List Int) (⟨pD, ⟨rfl, rfl⟩⟩) (Le.mk (.c (.c (.cons (aL rfl aC) (.cons (ak rfl bg) (.cons (ak rfl bg) (.nil)))))) (.c (.nil))) (fun mK dI cf yn => ?_)
 obtain ⟨AR, hO⟩ := yn
 refine ae.seq (ae.sr ?_)
 refine .mv ?_
 refine .mv ?_
 refine .vl (Y.qw (n := l.length) oZ rfl (congrArg some (List.length_map ..))) (.vl (Y.zb rfl rfl) (aa.nil ?_))
 refine ae.ay rfl (fun wC => ?_) (fun wC => ?_)
 refine ae.skip (ae.seq (ae.block ?_))
 refine ae.seq ?_
 obtain ⟨wF, lb⟩ := hO; have mi := aK.1 (hg.d dI om); have oB : cf.length = dI := (by rw [wF, qO om]); have Eh : ∀ x ∈ cf, 0 ≤ x ∧ x ≤ 20 * (dI : Int) := (by rw [wF]; exact qP om); have Qc := tW (l.take dI); rw [List.length_take] at Qc
 refine ae.region ?_
 refine .mv ?_
 refine .mv ?_
 refine .vl (Y.qr (m := dI) oZ rfl rfl bg (aw (d := default) om)) ?_
 refine .vl (Y.za Cc rfl rfl (Nat.le_of_ble_eq_true rfl) rfl rfl) (aa.alloc 108 sx rfl rfl ah (aa.aj Cd rfl rfl rfl rfl rfl rfl (Nat.le_of_ble_eq_true rfl) rfl ?_))
 refine aa.nil (ae.sr ?_)
 refine .an ?_
 refine aa.nil ?_
 refine ae.ly (fun (pA : Nat) (kP : Int) => ⟨[(0, .fz 3 (l.map Gate.row)), (1, .fz 1 ((List.replicate n 0).map aq)), (5, .aY 105 1 0 cf.length), (6, .v (.int .i64 (pA : Int))), (7, .v (.int .i64 (dI : Int))), (9, .v (.int .i64 kP))], [(105, .rows 1 (cf.map aq))]⟩) (fun (pA : Nat) (kP : Int) => kP = jI cf (List.replicate n 0) mK (l.getD dI default) ∧ pA = fA (l.take (dI + 1))) ?_ (fun pA kP HR => ?_)
 refine ae.sr ?_
 refine .fa dv ?_
 refine .ld aZ ?_
 refine aa.nil (ae.block (ae.sr ?_))
 refine .vl (Y.qk rfl rfl) ?_
 refine .an ?_
 refine aa.nil ?_
 refine ae.ay rfl (fun lV => ?_) (fun lV => ?_)
 have uK := Bu (l := l) (i := dI) om lV; have EU : (List.replicate n (0 : Int)).length = n := List.length_replicate
 refine ae.sr ?_
 refine .mv ?_
 refine .mv ?_
 refine .vl (Y.qr (m := mK) a8 rfl rfl bg (aw (d := 0) om)) ?_
 refine .ld aZ ?_
 refine .an ?_
 refine aa.nil (ae.region ?_)
 refine .mv ?_
 refine .vl (Y.qb rfl rfl aC) ?_
 refine .an ?_
 refine aa.nil ?_
 exact ⟨mK + 1, (List.replicate n 0).getD mK 0, by first | exact ⟨by unfold jI; rw [if_pos om], by rw [bK om, if_pos om, lb]⟩ | exact ⟨by unfold jI; rw [if_neg om, if_pos om], by rw [bK om, if_neg om, lb, Nat.add_zero]⟩ | exact ⟨by rw [lk om]; split <;> omega, by rw [bK om, if_neg om, lb, Nat.add_zero]⟩ | exact ⟨by unfold jI; rw [if_neg om, if_neg om, if_neg om], by rw [bK om, if_neg om, lb, Nat.add_zero]⟩, Le.mk (.c (.c (.c (.cons (ak rfl bg) (.c (.cons (ak rfl bg) (.nil))))))) (.c (.nil))⟩
 refine ae.sr (.vl (Y.qk rfl rfl) ?_)
 refine .an ?_
 refine aa.nil ?_
 refine ae.ay rfl (fun nq => ?_) (fun nq => ?_)
 have ga := Eh _ (getD_in (l := cf) (i := (l.getD dI default).a.toNat) (d := 0) om)
 refine ae.region ?_
 refine .mv ?_
 refine .fa eQ ?_
 refine .ld aZ ?_
 refine .vl (Y.qs (m := ((l.getD dI default).a).toNat) a8 rfl rfl om om) ?_
 refine .vl (Y.qz aZ rfl (aS (d := 0) aC) rfl rfl) ?_
 refine .vl (Y.qb rfl rfl aC) ?_
 refine .an ?_
 refine aa.nil ?_
 exact ⟨mK, (cf.getD (((l.getD dI default).a).toNat) 0) + 10, by first | exact ⟨by unfold jI; rw [if_pos om], by rw [bK om, if_pos om, lb]⟩ | exact ⟨by unfold jI; rw [if_neg om, if_pos om], by rw [bK om, if_neg om, lb, Nat.add_zero]⟩ | exact ⟨by rw [lk om]; split <;> omega, by rw [bK om, if_neg om, lb, Nat.add_zero]⟩ | exact ⟨by unfold jI; rw [if_neg om, if_neg om, if_neg om], by rw [bK om, if_neg om, lb, Nat.add_zero]⟩, Le.mk (.c (.c (.c (.cons (ak rfl bg) (.c (.cons (ak rfl bg) (.nil))))))) (.c (.nil))⟩
 refine ae.seq (ae.sr (.vl (Y.qk rfl rfl) ?_))
 refine .an ?_
 refine aa.nil ?_
 refine ae.aU rfl (fun yX => ?_) (fun yX => ?_)
 have ga := Eh _ (getD_in (l := cf) (i := (l.getD dI default).a.toNat) (d := 0) om); have gb := Eh _ (getD_in (l := cf) (i := (l.getD dI default).b.toNat) (d := 0) om)
 refine ae.skip (ae.aE rfl (ae.fR rfl aX ?_))
 refine aG.val (Y.zf rfl rfl) ah (aG.val (Y.qo eQ rfl rfl) ah (aG.val (Y.qz aZ rfl rfl rfl rfl) ah ?_))
 refine aG.val (Y.qs (m := ((l.getD dI default).a).toNat) a8 rfl rfl om om) ah ?_
 refine aG.val (Y.qz aZ rfl (aS (d := 0) om) rfl rfl) ah ?_
 refine aG.val (Y.zf rfl rfl) ah (aG.val (Y.qo cS rfl rfl) ah (aG.val (Y.qz aZ rfl rfl rfl rfl) ah ?_))
 refine aG.val (Y.qs (m := ((l.getD dI default).b).toNat) a8 rfl rfl om om) ah ?_
 refine aG.val (Y.qz aZ rfl (aS (d := 0) om) rfl rfl) ah ?_
 refine aG.val (Y.zd rfl rfl rfl) ah ?_
 refine aG.val (Y.qb rfl rfl om) ah ?_
 refine aG.val (Y.qe rfl rfl) ah (aG.nil ?_)
 exact ⟨mK, (if (cf.getD (((l.getD dI default).b).toNat) 0) > (cf.getD (((l.getD dI default).a).toNat) 0) then (cf.getD (((l.getD dI default).b).toNat) 0) else (cf.getD (((l.getD dI default).a).toNat) 0)) + 20, by first | exact ⟨by unfold jI; rw [if_pos om], by rw [bK om, if_pos om, lb]⟩ | exact ⟨by unfold jI; rw [if_neg om, if_pos om], by rw [bK om, if_neg om, lb, Nat.add_zero]⟩ | exact ⟨by rw [lk om]; split <;> omega, by rw [bK om, if_neg om, lb, Nat.add_zero]⟩ | exact ⟨by unfold jI; rw [if_neg om, if_neg om, if_neg om], by rw [bK om, if_neg om, lb, Nat.add_zero]⟩, Le.mk (.c (.c (.c (.cons (ak rfl bg) (.c (.cons (ak rfl bg) (.nil))))))) (.c (.nil))⟩
 refine ae.sr (.vl (Y.qk rfl rfl) ?_)
 refine .an ?_
 refine aa.nil ?_
 refine ae.aU rfl (fun yX => ?_) (fun yX => ?_)
 have ga := Eh _ (getD_in (l := cf) (i := (l.getD dI default).a.toNat) (d := 0) om); have gb := Eh _ (getD_in (l := cf) (i := (l.getD dI default).b.toNat) (d := 0) om)
 refine ae.skip (ae.aE rfl (ae.fR rfl aX ?_))
 refine aG.val (Y.zf rfl rfl) ah (aG.val (Y.qo eQ rfl rfl) ah (aG.val (Y.qz aZ rfl rfl rfl rfl) ah ?_))
 refine aG.val (Y.qs (m := ((l.getD dI default).a).toNat) a8 rfl rfl om om) ah ?_
 refine aG.val (Y.qz aZ rfl (aS (d := 0) om) rfl rfl) ah ?_
 refine aG.val (Y.zf rfl rfl) ah (aG.val (Y.qo cS rfl rfl) ah (aG.val (Y.qz aZ rfl rfl rfl rfl) ah ?_))
 refine aG.val (Y.qs (m := ((l.getD dI default).b).toNat) a8 rfl rfl om om) ah ?_
 refine aG.val (Y.qz aZ rfl (aS (d := 0) om) rfl rfl) ah ?_
 refine aG.val (Y.zd rfl rfl rfl) ah ?_
 refine aG.val (Y.qb rfl rfl om) ah ?_
 refine aG.val (Y.qe rfl rfl) ah (aG.nil ?_)
 exact ⟨mK, (if (cf.getD (((l.getD dI default).b).toNat) 0) > (cf.getD (((l.getD dI default).a).toNat) 0) then (cf.getD (((l.getD dI default).b).toNat) 0) else (cf.getD (((l.getD dI default).a).toNat) 0)) + 20, by first | exact ⟨by unfold jI; rw [if_pos om], by rw [bK om, if_pos om, lb]⟩ | exact ⟨by unfold jI; rw [if_neg om, if_pos om], by rw [bK om, if_neg om, lb, Nat.add_zero]⟩ | exact ⟨by rw [lk om]; split <;> omega, by rw [bK om, if_neg om, lb, Nat.add_zero]⟩ | exact ⟨by unfold jI; rw [if_neg om, if_neg om, if_neg om], by rw [bK om, if_neg om, lb, Nat.add_zero]⟩, Le.mk (.c (.c (.c (.cons (ak rfl bg) (.c (.cons (ak rfl bg) (.nil))))))) (.c (.nil))⟩
 refine ae.region (.vl (Y.qk rfl rfl) ?_)
 refine .an ?_
 refine aa.nil ?_
 refine ae.aU rfl (fun yX => ?_) (fun yX => ?_)
 have ga := Eh _ (getD_in (l := cf) (i := (l.getD dI default).a.toNat) (d := 0) om); have gb := Eh _ (getD_in (l := cf) (i := (l.getD dI default).b.toNat) (d := 0) om)
 refine ae.fR rfl aX (aG.val (Y.zf rfl rfl) ah (aG.val (Y.qo eQ rfl rfl) ah ?_))
 refine aG.val (Y.qz aZ rfl rfl rfl rfl) ah ?_
 refine aG.val (Y.qs (m := ((l.getD dI default).a).toNat) a8 rfl rfl om om) ah ?_
 refine aG.val (Y.qz aZ rfl (aS (d := 0) om) rfl rfl) ah ?_
 refine aG.val (Y.zf rfl rfl) ah (aG.val (Y.qo cS rfl rfl) ah (aG.val (Y.qz aZ rfl rfl rfl rfl) ah ?_))
 refine aG.val (Y.qs (m := ((l.getD dI default).b).toNat) a8 rfl rfl om om) ah ?_
 refine aG.val (Y.qz aZ rfl (aS (d := 0) om) rfl rfl) ah ?_
 refine aG.val (Y.zd rfl rfl rfl) ah ?_
 refine aG.val (Y.qb rfl rfl om) ah ?_
 refine aG.val (Y.qe rfl rfl) ah (aG.nil ?_)
 exact ⟨mK, (if (cf.getD (((l.getD dI default).b).toNat) 0) > (cf.getD (((l.getD dI default).a).toNat) 0) then (cf.getD (((l.getD dI default).b).toNat) 0) else (cf.getD (((l.getD dI default).a).toNat) 0)) + 20, by first | exact ⟨by unfold jI; rw [if_pos om], by rw [bK om, if_pos om, lb]⟩ | exact ⟨by unfold jI; rw [if_neg om, if_pos om], by rw [bK om, if_neg om, lb, Nat.add_zero]⟩ | exact ⟨by rw [lk om]; split <;> omega, by rw [bK om, if_neg om, lb, Nat.add_zero]⟩ | exact ⟨by unfold jI; rw [if_neg om, if_neg om, if_neg om], by rw [bK om, if_neg om, lb, Nat.add_zero]⟩, Le.mk (.c (.c (.c (.cons (ak rfl bg) (.c (.cons (ak rfl bg) (.nil))))))) (.c (.nil))⟩
 refine ae.skip ?_
 exact ⟨mK, 0, by first | exact ⟨by unfold jI; rw [if_pos om], by rw [bK om, if_pos om, lb]⟩ | exact ⟨by unfold jI; rw [if_neg om, if_pos om], by rw [bK om, if_neg om, lb, Nat.add_zero]⟩ | exact ⟨by rw [lk om]; split <;> omega, by rw [bK om, if_neg om, lb, Nat.add_zero]⟩ | exact ⟨by unfold jI; rw [if_neg om, if_neg om, if_neg om], by rw [bK om, if_neg om, lb, Nat.add_zero]⟩, Le.mk (.c (.c (.c (.cons (ak rfl bg) (.c (.cons (ak rfl bg) (.nil))))))) (.c (.nil))⟩
 refine ae.region ?_
 refine .mv ?_
 refine .mv ?_
 refine aa.buildSlice (([kP] : List Int).map aq) a8 fv rfl rfl rfl rfl rfl (a9 (s := 1) (f := aq) (fun _ => rfl)) rfl rfl rfl ah ?_
 refine aa.bZ ((cf ++ ([kP] : List Int)).map aq) (cf ++ ([kP] : List Int)).length a8 fv rfl rfl rfl rfl (cb aC) (bE aC) (dg aC) aC aC ah ah ?_
 refine .an ?_
 refine aa.nil (ae.region ?_)
 refine .mv ?_
 refine .vl (Y.qb rfl rfl aC) ?_
 refine .an ?_
 refine aa.nil ?_
 exact ⟨pA, dI + 1, cf ++ ([kP] : List Int), ⟨pD, ⟨by rw [p9 om, ← wF, HR.1, lb], HR.2⟩⟩, om, Le.mk (.c (.c (.cons (aL rfl aC) (.cons (ak rfl bg) (.cons (ak rfl bg) (.nil)))))) (.c (.nil))⟩
 refine ae.exit (ae.sr ?_)
 refine .mv ?_
 refine .an ?_
 refine aa.sh (Sh.cU (d := 4) (o := 105) rfl rfl (bn om) ah) ?_
 refine aa.nil (ae.ret ?_)
 exact ⟨_, _, rfl, rfl, by rw [hO.1, show dI = l.length by omega]; rfl, rfl⟩
open Go Go.AW
theorem rL {op a width : Int} (ha : cG a) (hw : cG width) (ho : bA op = 2) (hf : cv op a a 0 width) : u4 op [a, a] width :=
 ⟨fun w h => by simp only [List.mem_cons, List.not_mem_nil, or_false] at h; rcases h with rfl | rfl <;> exact ha, hw, om, by rw [ho]; rfl, hf⟩
theorem vz {op a width : Int} (ha : cG a) (hw : cG width) (ho : bA op = 1) (hf : cv op a 0 0 width) : u4 op [a] width :=
 ⟨fun w h => by rw [List.mem_singleton.1 h]; exact ha, hw, om, by rw [ho]; rfl, hf⟩
theorem Bv {a : Int} (ha : cG a) : u4 21 [1, a, a] a :=
 ⟨fun w h => by
  simp only [List.mem_cons, List.not_mem_nil, or_false] at h
  rcases h with rfl | rfl | rfl
  ·decide
  ·exact ha
  ·exact ha, ha, ah, rfl, .inl ⟨rfl, rfl, rfl, rfl⟩⟩
def mL (op : Int) (ws : List Int) (width : Int) : Prop := Plain op ∧ u4 op ws width
theorem sZ {op : Int} (h : 2 ≤ op ∧ op ≤ 3 ∨ 9 ≤ op ∧ op ≤ 20) : bA op = 2 := by unfold bA; rw [if_pos h]
theorem ta {op : Int} (h : 22 ≤ op ∧ op ≤ 24) : bA op = 1 := by unfold bA; rw [if_neg om, if_neg om, if_pos h]
theorem Ei {op a : Int} (h : op = 21) (ha : cG a) : mL op [1, a, a] a := by
 subst h; exact ⟨by unfold Plain; exact .inr (.inl rfl), Bv ha⟩
theorem yY {op a m : Int} (h : op = 24) (ha : cG a) (hm : cG m) (hle : m ≤ a) : mL op [a] m := by
 subst h; exact ⟨by unfold Plain Unary; omega, vz ha hm (ta om) (by unfold cv fY; omega)⟩
theorem yZ {op a m : Int} (h : op = 22 ∨ op = 23) (ha : cG a) (hm : cG m) (hle : a ≤ m) : mL op [a] m :=
 ⟨by unfold Plain Unary; omega, vz ha hm (ta om) (by unfold cv fY; omega)⟩
theorem Ej {op a : Int} (hp : Plain op) (h : fY op) (ha : cG a) : mL op [a, a] 1 :=
 ⟨hp, rL ha ah (sZ (by unfold fY at h; omega)) (by unfold cv; simp [h])⟩
theorem Ek {op a : Int} (hp : Plain op) (h1 : op ≠ 21) (h2 : op ≠ 22) (h3 : op ≠ 23) (h4 : op ≠ 24) (h : ¬ fY op) (ha : cG a) : mL op [a, a] a :=
 ⟨hp, rL ha ha (sZ (by unfold Plain tQ Seq Unary at hp; unfold fY at h; omega)) (by unfold Plain tQ Seq Unary at hp; unfold cv; exact .inr (.inr (.inr (.inr ⟨h, om, rfl, rfl⟩))))⟩
theorem mL.len {op : Int} {ws : List Int} {width : Int} (h : mL op ws width) : 1 ≤ ws.length ∧ ws.length ≤ 3 := by
 have h1 := jR (op := op)
 have h2 := h.2.2.2.2.1
 have h3 := h.2.2.2.1
 omega
theorem qM.dC {op : Int} {ws : List Int} {width : Int} {l : List Gate} {out : List Int} {e : Int} (h : qM op ws width l out e) (hd : mL op ws width) :
  e = 0 ∧ Good l ∧ o0 out width l.length ∧ l.length ≤ 1800 ∧ fA l = gH ws ws.length ∧ ∀ j, j < out.length → rN 0 l (out.getD j 0) ≤ az op (if fY op then ws.getD 0 0 else width).toNat := by
 rcases h with ⟨h, _⟩ | ⟨_, h, _⟩ | ⟨_, hc, h0, hx, hl, hr⟩
 ·exact absurd hd.1 h
 ·exact absurd hd.2 h
 ·have hw := hc.2.1
  unfold cG at hw
  have oB := hr.len
  refine ⟨h0, hx.dC, ⟨fun j hj => ?_, om⟩, hl, by rw [hx.fA, lg], fun j hj => ?_⟩
  ·have hb := hr.bit j om
   exact ⟨hb.lo, hb.hi⟩
  ·have hb := (hr.bit j om).t
   rw [Int.zero_add] at hb
   have e1 : (if fY op then ws.getD 0 0 else width).toNat = if fY op then (ws.getD 0 0).toNat else width.toNat := by split <;> rfl
   rw [e1]; exact hb
open Go Go.AW Go.Proofs
set_option maxRecDepth 4000 in
set_option maxHeartbeats 1000000 in
theorem uC {k : Nat} {u : U2} (hk : k < 256) (hu : u.a < 256 ∧ u.b < 256) : al Try.prog 31 [.v (.int .u8 (k : Int)), .agg (U2.row u)] [] [] (fun r o => ∃ (op : Int) (ws : List Int) (width : Int), mL op ws width ∧ r = .tup [.v (.int .i64 op), .di 1 (ws.map aq), .v (.int .i64 width)] ∧ o = []) := by
 refine al.of Try.func31 rfl rfl rfl (n := 78) ah (Nat.le_of_ble_eq_true rfl) ?_
 have E6 : cG (1 + ((u.a : Int) % 64)) := (by unfold cG; omega); have R4 := hu.1; have R5 := hu.2
 refine ae.sr (aa.box 103 rfl rfl rfl rfl rfl ah ?_)
 refine .an ?_
 refine .an ?_
 refine .an ?_
 refine aa.nil (ae.seq (ae.sh (Sh.m0 103 rfl rfl) ?_))
 refine ae.fR rfl aX (aG.val (Y.qt Gq rfl rfl (m := 0) rfl om rfl) ah (aG.val (Y.qz Mz rfl rfl rfl rfl) ah ?_))
 refine aG.val (Y.qj FN BS rfl Ia) ah ?_
 refine aG.val (Y.zp rfl rfl om) ah ?_
 refine aG.val (Y.qb rfl rfl om) ah ?_
 refine aG.val (Y.qt Gq rfl rfl (m := 1) rfl om rfl) ah (aG.val (Y.qz Mz rfl rfl rfl rfl) ah ?_)
 refine aG.val (Y.qj FN BS rfl Ia) ah ?_
 refine aG.val (Y.zp rfl rfl om) ah ?_
 refine aG.val (Y.qb rfl rfl om) ah ?_
 refine aG.val (Y.qe rfl rfl) ah (aG.val (Y.qe rfl rfl) ah (aG.nil ?_))
 refine ae.sr ?_
 refine .mv ?_
 refine .vl (Y.qj FN BS rfl Ia) ?_
 refine .vl (Y.zp rfl rfl om) ?_
 refine .vl (Y.qb rfl rfl aC) ?_
 refine .an ?_
 refine aa.nil (ae.seq (ae.block ?_))
 refine ae.sr ?_
 refine .mv ?_
 refine aa.bd Jv (uf (w := (2 + ((k : Int) % 23)))) rfl (.ao rfl rfl .nil) ah rfl (.vl (Y.zk rfl) ?_)
 refine .an ?_
 refine aa.nil ?_
 refine ae.cond rfl (fun zG => ?_) (fun zG => ?_)
 replace zG : ¬ (Plain (2 + ((k : Int) % 23))) := by simpa using zG
 refine ae.sr ?_
 refine .mv ?_
 refine .mv ?_
 refine aa.buildSlice (([1 + ((u.a : Int) % 64), 1 + ((u.a : Int) % 64)] : List Int).map aq) a8 fv rfl rfl rfl rfl rfl (a9 (s := 1) (f := aq) (fun _ => rfl)) rfl rfl rfl ah ?_
 refine .mv ?_
 refine .an ?_
 refine aa.bh rfl ah ?_
 refine .an ?_
 refine aa.nil (ae.ret ?_)
 exact ⟨_, _, rfl, rfl, 2, ([1 + ((u.a : Int) % 64), 1 + ((u.a : Int) % 64)] : List Int), (1 + ((u.a : Int) % 64)), ⟨by unfold Plain tQ Seq Unary; omega, rL E6 E6 rfl (by unfold cv fY; omega)⟩, rfl, rfl⟩
 replace zG : Plain (2 + ((k : Int) % 23)) := by simpa using zG
 have tt : Plain (2 + ((k : Int) % 23)) := by simpa using zG
 refine ae.sr ?_
 refine .mv ?_
 refine .vl (Y.qk rfl rfl) ?_
 refine .an ?_
 refine aa.nil ?_
 refine ae.ay rfl (fun LM => ?_) (fun LM => ?_)
 refine ae.sr ?_
 refine .mv ?_
 refine .mv ?_
 refine .mv ?_
 refine aa.buildSlice (([1, 1 + ((u.a : Int) % 64), 1 + ((u.a : Int) % 64)] : List Int).map aq) a8 fv rfl rfl rfl rfl rfl (a9 (s := 1) (f := aq) (fun _ => rfl)) rfl rfl rfl ah ?_
 refine .mv ?_
 refine .an ?_
 refine aa.bh rfl ah ?_
 refine .an ?_
 refine aa.nil (ae.ret ?_)
 exact ⟨_, _, rfl, rfl, (2 + ((k : Int) % 23)), ([1, 1 + ((u.a : Int) % 64), 1 + ((u.a : Int) % 64)] : List Int), (1 + ((u.a : Int) % 64)), Ei LM E6, rfl, rfl⟩
 refine ae.sr ?_
 refine .mv ?_
 refine .vl (Y.qk rfl rfl) ?_
 refine .an ?_
 refine aa.nil ?_
 refine ae.ay rfl (fun wc => ?_) (fun wc => ?_)
 refine ae.sr ?_
 refine .mv ?_
 refine .mv ?_
 refine .mv ?_
 refine .vl (Y.zd rfl rfl rfl) ?_
 refine aa.buildSlice (([if (1 + ((u.b : Int) % 64)) > (1 + ((u.a : Int) % 64)) then (1 + ((u.b : Int) % 64)) else (1 + ((u.a : Int) % 64))] : List Int).map aq) a8 fv rfl rfl rfl rfl rfl (a9 (s := 1) (f := aq) (fun _ => rfl)) rfl rfl rfl ah ?_
 refine .mv ?_
 refine .mv ?_
 refine .vl (Y.ze rfl rfl rfl) ?_
 refine .an ?_
 refine aa.bh rfl ah ?_
 refine .an ?_
 refine aa.nil (ae.ret ?_)
 exact ⟨_, _, rfl, rfl, (2 + ((k : Int) % 23)), ([if (1 + ((u.b : Int) % 64)) > (1 + ((u.a : Int) % 64)) then (1 + ((u.b : Int) % 64)) else (1 + ((u.a : Int) % 64))] : List Int), (if (1 + ((u.b : Int) % 64)) < (1 + ((u.a : Int) % 64)) then (1 + ((u.b : Int) % 64)) else (1 + ((u.a : Int) % 64))), yY wc (by unfold cG; first | omega | (split <;> omega)) (by unfold cG; first | omega | (split <;> omega)) (by first | omega | (split <;> split <;> omega)), rfl, rfl⟩
 refine ae.sr ?_
 refine .mv ?_
 refine .vl (Y.qk rfl rfl) ?_
 refine .mv ?_
 refine aa.ax (d := 54) rfl (fun Cr => ?_) (fun Cr => ?_)
 refine .gz 54 (.gz 54 ?_)
 refine .pk ?_
 refine .an ?_
 refine aa.nil (ae.aE rfl (ae.sr ?_))
 refine .mv ?_
 refine .mv ?_
 refine .mv ?_
 refine .vl (Y.ze rfl rfl rfl) ?_
 refine aa.buildSlice (([if (1 + ((u.b : Int) % 64)) < (1 + ((u.a : Int) % 64)) then (1 + ((u.b : Int) % 64)) else (1 + ((u.a : Int) % 64))] : List Int).map aq) a8 fv rfl rfl rfl rfl rfl (a9 (s := 1) (f := aq) (fun _ => rfl)) rfl rfl rfl ah ?_
 refine .mv ?_
 refine .mv ?_
 refine .vl (Y.zd rfl rfl rfl) ?_
 refine .an ?_
 refine aa.bh rfl ah ?_
 refine .an ?_
 refine aa.nil (ae.ret ?_)
 exact ⟨_, _, rfl, rfl, (2 + ((k : Int) % 23)), ([if (1 + ((u.b : Int) % 64)) < (1 + ((u.a : Int) % 64)) then (1 + ((u.b : Int) % 64)) else (1 + ((u.a : Int) % 64))] : List Int), (if (1 + ((u.b : Int) % 64)) > (1 + ((u.a : Int) % 64)) then (1 + ((u.b : Int) % 64)) else (1 + ((u.a : Int) % 64))), yZ om (by unfold cG; first | omega | (split <;> omega)) (by unfold cG; first | omega | (split <;> omega)) (by first | omega | (split <;> split <;> omega)), rfl, rfl⟩
 refine .gw 54 (Y.zf rfl rfl) (.gw 54 (Y.qk rfl rfl) ?_)
 refine .pk ?_
 refine .an ?_
 refine aa.nil ?_
 refine ae.ay rfl (fun NF => ?_) (fun NF => ?_)
 refine ae.sr ?_
 refine .mv ?_
 refine .mv ?_
 refine .mv ?_
 refine .vl (Y.ze rfl rfl rfl) ?_
 refine aa.buildSlice (([if (1 + ((u.b : Int) % 64)) < (1 + ((u.a : Int) % 64)) then (1 + ((u.b : Int) % 64)) else (1 + ((u.a : Int) % 64))] : List Int).map aq) a8 fv rfl rfl rfl rfl rfl (a9 (s := 1) (f := aq) (fun _ => rfl)) rfl rfl rfl ah ?_
 refine .mv ?_
 refine .mv ?_
 refine .vl (Y.zd rfl rfl rfl) ?_
 refine .an ?_
 refine aa.bh rfl ah ?_
 refine .an ?_
 refine aa.nil (ae.ret ?_)
 exact ⟨_, _, rfl, rfl, (2 + ((k : Int) % 23)), ([if (1 + ((u.b : Int) % 64)) < (1 + ((u.a : Int) % 64)) then (1 + ((u.b : Int) % 64)) else (1 + ((u.a : Int) % 64))] : List Int), (if (1 + ((u.b : Int) % 64)) > (1 + ((u.a : Int) % 64)) then (1 + ((u.b : Int) % 64)) else (1 + ((u.a : Int) % 64))), yZ om (by unfold cG; first | omega | (split <;> omega)) (by unfold cG; first | omega | (split <;> omega)) (by first | omega | (split <;> split <;> omega)), rfl, rfl⟩
 refine ae.sr ?_
 refine .mv ?_
 refine aa.bd Gj (jb (w := (2 + ((k : Int) % 23)))) rfl (.ao rfl rfl .nil) ah rfl ?_
 refine .an ?_
 refine aa.nil ?_
 refine ae.ay rfl (fun HC => ?_) (fun HC => ?_)
 refine ae.sr ?_
 refine .mv ?_
 refine .mv ?_
 refine .mv ?_
 refine aa.buildSlice (([1 + ((u.a : Int) % 64), 1 + ((u.a : Int) % 64)] : List Int).map aq) a8 fv rfl rfl rfl rfl rfl (a9 (s := 1) (f := aq) (fun _ => rfl)) rfl rfl rfl ah ?_
 refine .an ?_
 refine aa.bh rfl ah ?_
 refine .an ?_
 refine aa.nil (ae.ret ?_)
 exact ⟨_, _, rfl, rfl, (2 + ((k : Int) % 23)), ([1 + ((u.a : Int) % 64), 1 + ((u.a : Int) % 64)] : List Int), 1, Ej tt HC E6, rfl, rfl⟩
 refine ae.skip (ae.sr ?_)
 refine .mv ?_
 refine .mv ?_
 refine .mv ?_
 refine aa.buildSlice (([1 + ((u.a : Int) % 64), 1 + ((u.a : Int) % 64)] : List Int).map aq) a8 fv rfl rfl rfl rfl rfl (a9 (s := 1) (f := aq) (fun _ => rfl)) rfl rfl rfl ah ?_
 refine .mv ?_
 refine .an ?_
 refine aa.bh rfl ah ?_
 refine .an ?_
 refine aa.nil (ae.ret ?_)
 exact ⟨_, _, rfl, rfl, (2 + ((k : Int) % 23)), ([1 + ((u.a : Int) % 64), 1 + ((u.a : Int) % 64)] : List Int), (1 + ((u.a : Int) % 64)), Ek tt LM Cr NF wc HC E6, rfl, rfl⟩
open Go Go.AW Go.Proofs
def HS (n : ab) (at_ : List Int) (y x : Int) : Prop := ∃ i, cw n i y ∧ cH (n.cell i).kind ∧ x ∈ (n.cell i).args ∧ at_.getD y.toNat 0 = at_.getD x.toNat 0 + pG n (n.cell i)
def LN (n : ab) (at_ : List Int) (y : Int) : Prop := ∃ i, cw n i y ∧ at_.getD y.toNat 0 = pG n (n.cell i) ∧ (¬ cH (n.cell i).kind ∨ (n.cell i).kind = 1)
structure PP (n : ab) (l at_ : List Int) (w0 : Int) (st : List Int) (last : Int) : Prop where
 rk : 0 ≤ last → ∀ i, cw n i last → st.length + l.idxOf i + 1 ≤ n.cells.length
 len : st.length ≤ n.cells.length
 El : 0 ≤ last → In last n.ai.length
 wu : ∀ j, j < st.length → In (st.getD j 0) n.ai.length
 link : ∀ j, j + 1 < st.length → HS n at_ (st.getD j 0) (st.getD (j + 1) 0)
 LO : 0 ≤ last → 0 < st.length → HS n at_ (st.getD (st.length - 1) 0) last
 end_ : last < 0 → 0 < st.length ∧ LN n at_ (st.getD (st.length - 1) 0)
 fst : (0 < st.length → st.getD 0 0 = w0) ∧ (st.length = 0 → last = w0)
def pB (at_ l : List Int) (last : Int) : Prop := (l = [] ∧ last = -1) ∨ (last ∈ l ∧ ∀ x ∈ l, at_.getD x.toNat 0 ≤ at_.getD last.toNat 0)
theorem pB.nil {at_ l : List Int} : pB at_ (l.take 0) (-1) := .inl ⟨by simp, rfl⟩
theorem pB.step {at_ l : List Int} {k : Nat} {last : Int} (h : pB at_ (l.take k) last) (hk : k < l.length) (h0 : ∀ x ∈ l, 0 ≤ x) (hc : last < 0 ∨ at_.getD (l.getD k 0).toNat 0 > at_.getD last.toNat 0) : pB at_ (l.take (k + 1)) (l.getD k 0) := by
 rw [take_one (d := (0 : Int)) hk]
 refine .inr ⟨by simp, fun x hx => ?_⟩
 rcases List.mem_append.1 hx with hx | hx
 ·rcases h with ⟨h1, _⟩ | ⟨h1, h2⟩
  ·rw [h1] at hx; cases hx
  ·have := h2 x hx
   rcases hc with hc | hc
   ·have := h0 last (List.mem_of_mem_take h1); omega
   ·omega
 ·rw [List.mem_singleton.1 hx]; exact Int.le_refl _
theorem pB.ao {at_ l : List Int} {k : Nat} {last : Int} (h : pB at_ (l.take k) last) (hk : k < l.length) (hc : ¬ (last < 0 ∨ at_.getD (l.getD k 0).toNat 0 > at_.getD last.toNat 0)) : pB at_ (l.take (k + 1)) last := by
 rw [take_one (d := (0 : Int)) hk]
 rcases h with ⟨h1, h2⟩ | ⟨h1, h2⟩
 ·omega
 ·refine .inr ⟨List.mem_append.2 (.inl h1), fun x hx => ?_⟩
  rcases List.mem_append.1 hx with hx | hx
  ·exact h2 x hx
  ·rw [List.mem_singleton.1 hx]; omega
theorem pB.El {at_ l : List Int} {k : Nat} {last : Int} (h : pB at_ (l.take k) last) (h0 : 0 ≤ last) : last ∈ l := by
 rcases h with ⟨_, h2⟩ | ⟨h1, _⟩
 ·omega
 ·exact List.mem_of_mem_take h1
theorem j6 {st : List Int} {x : Int} {j : Nat} (h : j < st.length) : (st ++ [x]).getD j 0 = st.getD j 0 := by
 rw [List.getD_eq_getElem?_getD, List.getElem?_append_left h, List.getD_eq_getElem?_getD]
theorem nC {st : List Int} {x : Int} : (st ++ [x]).getD st.length 0 = x := by
 rw [List.getD_eq_getElem?_getD, List.getElem?_append_right (Nat.le_refl _), Nat.sub_self]; rfl
section
variable {n : ab} {l at_ st : List Int} {w0 last : Int}
theorem PP.init (hf : bq n) (ho : Ord n l) (hw : In w0 n.ai.length) : PP n l at_ w0 [] w0 where
 rk := fun _ i hd => by
  have h1 := List.idxOf_lt_length_of_mem (ho.mem hd.1)
  have h2 := ho.len
  simp only [List.length_nil]; omega
 len := by simp
 El := fun _ => hw
 wu := fun j h => by simp at h
 link := fun j h => by simp at h
 LO := fun _ h => by simp at h
 end_ := fun h => by unfold In at hw; omega
 fst := ⟨fun h => by simp at h, fun _ => rfl⟩
theorem PP.more (h : PP n l at_ w0 st last) (h0 : 0 ≤ last) : (∀ j, j < (st ++ [last]).length → In ((st ++ [last]).getD j 0) n.ai.length) ∧ (∀ j, j + 1 < (st ++ [last]).length → HS n at_ ((st ++ [last]).getD j 0) ((st ++ [last]).getD (j + 1) 0)) ∧
  (st ++ [last]).getD ((st ++ [last]).length - 1) 0 = last ∧ (st ++ [last]).getD 0 0 = w0 := by
 have hl : (st ++ [last]).length = st.length + 1 := by simp
 refine ⟨fun j hj => ?_, fun j hj => ?_, ?_, ?_⟩
 ·rcases Nat.lt_or_ge j st.length with h1 | h1
  ·rw [j6 h1]; exact h.wu j h1
  ·obtain rfl : j = st.length := by omega
   rw [nC]; exact h.El h0
 ·rcases Nat.lt_or_ge (j + 1) st.length with h1 | h1
  ·rw [j6 h1, j6 om]; exact h.link j h1
  ·have e : j + 1 = st.length := by omega
   rw [e, nC, j6 om, show j = st.length - 1 by omega]
   exact h.LO h0 om
 ·rw [hl, Nat.add_sub_cancel, nC]
 ·rcases Nat.eq_zero_or_pos st.length with h1 | h1
  ·have : st = [] := List.eq_nil_of_length_eq_zero h1
   subst this
   exact h.fst.2 rfl
  ·rw [j6 h1]; exact h.fst.1 h1
theorem PP.lt (hf : bq n) (h : PP n l at_ w0 st last) (h0 : 0 ≤ last) : st.length + 1 ≤ n.cells.length := by
 obtain ⟨i, hi⟩ := hf.kD (h.El h0)
 have := h.rk h0 i hi
 omega
structure PD (n : ab) (at_ : List Int) (w0 : Int) (st : List Int) : Prop where
 pos : 0 < st.length
 len : st.length ≤ n.cells.length
 wu : ∀ j, j < st.length → In (st.getD j 0) n.ai.length
 link : ∀ j, j + 1 < st.length → HS n at_ (st.getD j 0) (st.getD (j + 1) 0)
 root : LN n at_ (st.getD (st.length - 1) 0)
 fst : st.getD 0 0 = w0
theorem PP.done (h : PP n l at_ w0 st last) (h0 : last < 0) : PD n at_ w0 st :=
 ⟨(h.end_ h0).1, h.len, h.wu, h.link, (h.end_ h0).2, h.fst.1 (h.end_ h0).1⟩
theorem PP.go (hf : bq n) (ho : Ord n l) (ha : EH n at_) (Qd : ∀ w, In w n.ai.length → 0 ≤ at_.getD w.toNat 0) {cs : List Cell} (hc : DP n cs) (h : PP n l at_ w0 st last) (h0 : 0 ≤ last) (hk : cH (cs.getD last.toNat default).kind) {k : Nat} {nl : Int} (wZ : k = (cs.getD last.toNat default).args.length)
  (hb : pB at_ ((cs.getD last.toNat default).args.take k) nl) : PP n l at_ w0 (st ++ [last]) nl := by
 obtain ⟨h1, h2, h3, h4⟩ := h.more h0
 obtain ⟨i, hi⟩ := hf.kD (h.El h0)
 rw [hc.at_ i last hi] at hk wZ hb
 rw [wZ, List.take_length] at hb
 have gK := h.rk h0 i hi
 have hl : (st ++ [last]).length = st.length + 1 := by simp
 have o4 : at_.getD last.toNat 0 = n5 at_ (n.cell i).args + pG n (n.cell i) := by
  rw [ha.eq i last hi]; unfold py; rw [if_pos hk]
 have vE : 0 ≤ nl → nl ∈ (n.cell i).args := fun h5 => by
  rcases hb with ⟨_, h6⟩ | ⟨h6, _⟩
  ·omega
  ·exact h6
 exact {
  rk := fun h5 j hj => by
   obtain ⟨j', tG, Qe⟩ := ho.lt hi.1 hk (vE h5)
   rw [hf.unique hj tG, hl]; omega
  len := by rw [hl]; omega
  El := fun h5 => hf.l5 hi.1 (vE h5)
  wu := h1
  link := h2
  LO := fun h5 _ => by
   rw [h3]
   refine ⟨i, hi, hk, vE h5, ?_⟩
   rw [o4]
   rcases hb with ⟨_, h6⟩ | ⟨h6, h7⟩
   ·omega
   ·have h8 := AY (at_ := at_) h6
    have h9 := (jO (at_ := at_) (l := (n.cell i).args) (B := at_.getD nl.toNat 0) (Qd nl (hf.l5 hi.1 h6)) h7).2
    omega
  end_ := fun h5 => by
   refine ⟨by rw [hl]; omega, ?_⟩
   rw [h3]
   rcases hb with ⟨h6, _⟩ | ⟨h6, _⟩
   ·refine ⟨i, hi, ?_, .inr ?_⟩
    ·rw [o4, h6]; simp [n5]
    ·have mi := (hf.cellAt hi.1).2.1
     have hlen : (n.cell i).args.length = 0 := by rw [h6]; rfl
     unfold Shaped at mi
     unfold cH at hk
     rcases mi with hx | ⟨hx, hy, hz, _⟩ | hx | hx | hx | hx | hx | hx | hx | hx
     ·exact hx.1
     ·rw [hlen] at hz; exact absurd hz.symm hy
     all_goals omega
   ·have := (hf.l5 hi.1 h6).1; omega
  fst := ⟨fun _ => h4, fun h5 => by rw [hl] at h5; omega⟩ }
end
open Go Go.AW Go.Proofs
structure NG (n : ab) (at_ st : List Int) (d : Int) : Prop where
 pos : 0 < st.length
 len : st.length ≤ n.cells.length
 wu : ∀ j, j < st.length → In (st.getD j 0) n.ai.length
 link : ∀ j, j + 1 < st.length → HS n at_ (st.getD (j + 1) 0) (st.getD j 0)
 root : LN n at_ (st.getD 0 0)
 end_ : ∃ a, (st.getD (st.length - 1) 0, a) ∈ Hz n ∧ d = at_.getD (st.getD (st.length - 1) 0).toNat 0 + a
 max : ∀ e ∈ Hz n, at_.getD e.1.toNat 0 + e.2 ≤ d
section
variable {n : ab} {l at_ st : List Int} {w0 last d a : Int} {cs : List Cell}
theorem PP.args (hf : bq n) (hc : DP n cs) (h : PP n l at_ w0 st last) (h0 : 0 ≤ last) : ∀ x ∈ (cs.getD last.toNat default).args, In x n.ai.length := by
 obtain ⟨i, hi⟩ := hf.kD (h.El h0)
 rw [hc.at_ i last hi]
 exact fun x hx => hf.l5 hi.1 hx
end
open Go Go.AW Go.Proofs
structure pC (x : Int) (k p : Nat) : Prop where
 p : p = 2 ^ k
 lt : k = 0 ∨ 2 ^ (k - 1) < x.toNat
theorem pC.init {x : Int} : pC x 0 1 := ⟨rfl, .inl rfl⟩
theorem pC.step {x : Int} {k p : Nat} (h : pC x k p) (hx : (p : Int) < x) : pC x (k + 1) (2 * p) := by
 have h1 := h.p
 refine ⟨by rw [Nat.pow_succ, h1]; omega, .inr ?_⟩
 rw [Nat.add_sub_cancel]; omega
theorem pC.le {x : Int} {k p : Nat} (h : pC x k p) (hx : x ≤ 256) : k ≤ 8 ∧ 1 ≤ p ∧ p ≤ 256 := by
 have hk : k ≤ 8 := by
  rcases h.lt with h1 | h1
  ·omega
  ·rcases Nat.lt_or_ge k 9 with h2 | h2
   ·omega
   ·have : 2 ^ 8 ≤ 2 ^ (k - 1) := Nat.pow_le_pow_right om om
    omega
 have h1 : 2 ^ k ≤ 2 ^ 8 := Nat.pow_le_pow_right om hk
 have h2 : 1 ≤ 2 ^ k := Nat.one_le_two_pow
 have h3 := h.p
 refine ⟨hk, om, om⟩
theorem pC.done {x : Int} {k p : Nat} (h : pC x k p) (h0 : 0 ≤ x) (hx : ¬ (p : Int) < x) : k = bH x.toNat := by
 have h1 := h.p
 refine (ya om ?_).symm
 exact h.lt
end Go.Proofs.Ytlimckldnjmabaa
