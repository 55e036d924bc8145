/- The walk of Made. -/
import Derived.Test.YtligpghohcfpnaaNetx0
import Derived.Test.YtligpghohcfpnaaNetx3
import Derived.Test.YtligpghohcfpnaaAWx2
import Derived.Test.YtligpghohcfpnaaNetx1
set_option linter.unusedSimpArgs false
set_option linter.unusedVariables false
set_option linter.unusedSectionVars false
set_option maxRecDepth 4000
set_option maxHeartbeats 8000000
namespace Go.Proofs.Ytligpghohcfpnaa
open Go Go.AW Go.Proofs
theorem y6 {p : l4} (hf : p.Gj) (hk : p.Ok) : az Try.prog 19 [.agg (l4.row p)] [] [] (fun r o => ∃ n, wY n ∧ r = .agg (ab.mw n) ∧ o = []) := by
 refine az.Mg Try.func19 rfl rfl rfl (n := 252) ae (aH rfl) ?_
 have OF := hf.aw; have OE := hf.streams; have Mw := hf.ins; have Qh := hf.parts; have Sf := hf.bI; have NO := hk.parts
 refine .sr (.box 101 rfl rfl rfl rfl rfl ae (.alloc 102 xN rfl rfl ae ?_))
 refine .nil (.sr (.vl (Y.build I1 xN rfl rfl rfl) ?_))
 refine .alloc 103 xN rfl rfl ae (.aj Cd rfl rfl rfl rfl rfl rfl (aH rfl) rfl (.nil ?_))
 refine .seq (.seq (.sh (Sh.dc 101 rfl rfl) ?_))
 refine .sh (Sh.eF 103 401 1 1 rfl rfl rfl rfl ae) (.sh (Sh.eF 103 402 6 2 rfl rfl rfl rfl ae) (.sh (Sh.eF 103 403 1 3 rfl rfl rfl rfl ae) ?_))
 refine .sh (Sh.eF 103 404 5 4 rfl rfl rfl rfl ae) (.sh (Sh.eF 103 405 3 5 rfl rfl rfl rfl ae) (.region ?_))
 refine .an ?_
 refine .nil (.block ?_)
 refine .iT (fun (dQ : Nat) (dr : List Int) (dH : List Cell) => ⟨[(1, .fp (l4.row p) 0), (2, .ptr 102 0 0 0), (3, .ptr 103 0 0 0), (4, vi dQ)], [(102, .cells [.v (.string ByteArray.empty), vn, vn, vn, vn, vn, vn, vn, vi 0, vi 0, vn]), (103, .cells [.v (.string nB), .aY 401 1 0 dr.length, .aY 402 6 0 dH.length, .aY 403 1 0 0, .aY 404 5 0 0, .aY 405 3 0 0, vn, vn, vi 0, vi 0, vn]), (401, .rows 1 (dr.map ah)), (402, .rows 6 (dH.map Cell.row)), (403, .rows 1 (([] : List Int).map ah)), (404, .rows 5 (([] : List dV).map dV.row)), (405, .rows 3 (([] : List bE).map bE.row))]⟩) (fun dQ dr dH => ((dQ : Int) ≤ 8) ∧ (dr = uX dQ) ∧ (dH = yH dQ) ∧ (dr.length = dQ) ∧ (dH.length = dQ)) (fun dQ dr dH => (8 - (dQ : Int)).toNat) 0 ([] : List Int) ([] : List Cell) (⟨om, rfl, rfl, rfl, rfl⟩) (Le.mk (.c2 (.c (.cons (ak rfl b5) (.nil)))) (.c (.cons (aS rfl kP) (.c4 (.c (.nil)))))) (fun dQ dr dH tq => ?_)
 obtain ⟨Gs, JV, Ds, NP, NQ⟩ := tq
 refine .seq (.sr ?_)
 refine .mv ?_
 refine .vl (Y.lss rfl rfl) (.nil ?_)
 refine .aB rfl (fun uD => ?_) (fun uD => ?_)
 refine .skip (.seq (.block ?_))
 refine .seq ?_
 refine .ei (⟨[(1, .fp (l4.row p) 0), (2, .ptr 102 0 0 0), (3, .ptr 103 0 0 0), (4, .v (.int .i64 (dQ : Int)))], [(102, .cells [.v (.string ByteArray.empty), vn, vn, vn, vn, vn, vn, vn, .v (.int .i64 0), .v (.int .i64 0), vn]), (103, .cells [.v (.string nB), .aY 401 1 0 ((dr ++ ([al dQ] : List Int)).length), .aY 402 6 0 dH.length, .aY 403 1 0 0, .aY 404 5 0 0, .aY 405 3 0 0, vn, vn, .v (.int .i64 0), .v (.int .i64 0), vn]), (401, .rows 1 ((dr ++ ([al dQ] : List Int)).map ah)), (402, .rows 6 (dH.map Cell.row)), (403, .rows 1 (([] : List Int).map ah)), (404, .rows 5 (([] : List dV).map dV.row)), (405, .rows 3 (([] : List bE).map bE.row))]⟩) rfl ?_ ?_
 refine .blind 0 rfl aq (ao.fieldAddr bN rfl rfl) ae (.blind 2 rfl aq (ao.move rfl rfl) ae ?_)
 refine .blind 3 rfl aq (ao.fo py sY rfl (by first | rfl | exact IntWalk.u8_in _ om)) ae (.uZ ?_)
 refine .two 1 4 rfl rfl aq ?_ ?_
 refine .ld bh ?_
 refine .nil ⟨rfl, ?_⟩
 refine .one 4 rfl aq (.aP rN (eN (k := dQ)) rfl (.ai rfl rfl .nil) ae rfl ?_)
 refine .nil ⟨rfl, ?_⟩
 refine .one 5 rfl aq ?_
 refine .buildSlice (([al dQ] : List Int).map ah) a7 e0 rfl rfl rfl rfl rfl (ay (s := 1) (f := ah) (fun _ => rfl)) rfl rfl rfl ae ?_
 refine .nil ⟨rfl, ?_⟩
 refine .one 6 rfl aq (.bs ((dr ++ ([al dQ] : List Int)).map ah) (dr ++ ([al dQ] : List Int)).length a7 e0 rfl rfl rfl rfl (bL bH) (bq bH) (cE bH) bH bH ae ae ?_)
 refine .nil ⟨rfl, ?_⟩
 refine .one 7 rfl aq ?_
 refine .fa bN ?_
 refine .nil ⟨rfl, ?_⟩
 refine .one 8 rfl aq (.aj fg rfl rfl rfl rfl rfl rfl (aH rfl) rfl ?_)
 refine .nil ⟨rfl, ?_⟩
 refine .done aq ?_
 exact Le.mk (.c4 (.nil)) (.c4 (.c2 (.c (.nil))))
 refine .aP rN (eN (k := dQ)) rfl (.ai rfl rfl .nil) ae rfl ?_
 refine .nil ⟨rfl, ?_⟩
 refine .two 1 5 rfl rfl aq ?_ ?_
 refine .ld bh ?_
 refine .nil ⟨rfl, ?_⟩
 refine .one 5 rfl aq ?_
 refine .buildSlice (([al dQ] : List Int).map ah) a7 e0 rfl rfl rfl rfl rfl (ay (s := 1) (f := ah) (fun _ => rfl)) rfl rfl rfl ae ?_
 refine .nil ⟨rfl, ?_⟩
 refine .one 6 rfl aq (.bs ((dr ++ ([al dQ] : List Int)).map ah) (dr ++ ([al dQ] : List Int)).length a7 e0 rfl rfl rfl rfl (bL bH) (bq bH) (cE bH) bH bH ae ae ?_)
 refine .nil ⟨rfl, ?_⟩
 refine .one 7 rfl aq ?_
 refine .fa bN ?_
 refine .nil ⟨rfl, ?_⟩
 refine .one 8 rfl aq (.aj fg rfl rfl rfl rfl rfl rfl (aH rfl) rfl ?_)
 refine .nil ⟨rfl, ?_⟩
 refine .done aq ?_
 exact Le.mk (.c4 (.nil)) (.c4 (.c2 (.c (.nil))))
 refine .buildSlice (([al dQ] : List Int).map ah) a7 e0 rfl rfl rfl rfl rfl (ay (s := 1) (f := ah) (fun _ => rfl)) rfl rfl rfl ae ?_
 refine .nil ⟨rfl, ?_⟩
 refine .one 1 rfl aq ?_
 refine .ld bh ?_
 refine .nil ⟨rfl, ?_⟩
 refine .one 6 rfl aq (.bs ((dr ++ ([al dQ] : List Int)).map ah) (dr ++ ([al dQ] : List Int)).length a7 e0 rfl rfl rfl rfl (bL bH) (bq bH) (cE bH) bH bH ae ae ?_)
 refine .nil ⟨rfl, ?_⟩
 refine .one 7 rfl aq ?_
 refine .fa bN ?_
 refine .nil ⟨rfl, ?_⟩
 refine .one 8 rfl aq (.aj fg rfl rfl rfl rfl rfl rfl (aH rfl) rfl ?_)
 refine .nil ⟨rfl, ?_⟩
 refine .done aq ?_
 exact Le.mk (.c4 (.nil)) (.c4 (.c2 (.c (.nil))))
 refine .le (aR := ⟨[(1, .fp (l4.row p) 0), (2, .ptr 102 0 0 0), (3, .ptr 103 0 0 0), (4, vi dQ)], [(102, .cells [.v (.string ByteArray.empty), vn, vn, vn, vn, vn, vn, vn, vi 0, vi 0, vn]), (103, .cells [.v (.string nB), .aY 401 1 0 ((dr ++ ([al dQ] : List Int)).length), .aY 402 6 0 dH.length, .aY 403 1 0 0, .aY 404 5 0 0, .aY 405 3 0 0, vn, vn, vi 0, vi 0, vn]), (401, .rows 1 ((dr ++ ([al dQ] : List Int)).map ah)), (402, .rows 6 (dH.map Cell.row)), (403, .rows 1 (([] : List Int).map ah)), (404, .rows 5 (([] : List dV).map dV.row)), (405, .rows 3 (([] : List bE).map bE.row))]⟩) (Le.mk (.c4 (.nil)) (.c4 (.c2 (.c (.nil))))) (.region ?_)
 refine .fa cb ?_
 refine .ld fD ?_
 refine .mv ?_
 refine .mv ?_
 refine .vl (Y.jH rfl rfl om) (.vl (Y.fo py xH rfl (by first | rfl | exact IntWalk.u64_in _ om)) ?_)
 refine .vl (Y.build sZ dN rfl rfl rfl) (.sh (Sh.CZ (d := 33) 1 3 rfl rfl) ?_)
 refine .buildSlice (([(⟨1, 0, (dQ : Int), ([] : List Int), dQ % 2, 0⟩ : Cell)] : List Cell).map Cell.row) dD dN rfl rfl rfl rfl rfl (ay (s := 6) (f := Cell.row) (fun _ => rfl)) rfl rfl rfl ae ?_
 refine .bs ((dH ++ ([(⟨1, 0, (dQ : Int), ([] : List Int), dQ % 2, 0⟩ : Cell)] : List Cell)).map Cell.row) (dH ++ ([(⟨1, 0, (dQ : Int), ([] : List Int), dQ % 2, 0⟩ : Cell)] : List Cell)).length dD dN rfl rfl rfl rfl (bL bH) (bq bH) (cE bH) bH bH ae ae ?_
 refine .fa cb ?_
 refine .aj ta rfl rfl rfl rfl rfl rfl (aH rfl) rfl (.nil (.region ?_))
 refine .mv ?_
 refine .vl (Y.aT rfl rfl om) ?_
 refine .an ?_
 refine .nil ?_
 exact ⟨dQ + 1, dr ++ ([al dQ] : List Int), dH ++ ([(⟨1, 0, (dQ : Int), ([] : List Int), dQ % 2, 0⟩ : Cell)] : List Cell), ⟨om, by rw [JV]; exact (zG _).symm, by rw [Ds]; exact (zH _).symm, by rw [List.length_append, NP]; rfl, by rw [List.length_append, NQ]; rfl⟩, om, Le.mk (.c2 (.c (.cons (ak rfl b5) (.nil)))) (.c (.cons (aS rfl kP) (.c4 (.c (.nil)))))⟩
 refine .exit (.seq (.sr ?_))
 refine .an ?_
 refine .nil (.block ?_)
 refine .dT (fun (dE : Nat) (bG : List dV) => ⟨[(1, .fp (l4.row p) 0), (2, .ptr 102 0 0 0), (3, .ptr 103 0 0 0), (5, vi dE)], [(102, .cells [.v (.string ByteArray.empty), vn, vn, vn, vn, vn, vn, vn, vi 0, vi 0, vn]), (103, .cells [.v (.string nB), .aY 401 1 0 dr.length, .aY 402 6 0 dH.length, .aY 403 1 0 0, .aY 404 5 0 bG.length, .aY 405 3 0 0, vn, vn, vi 0, vi 0, vn]), (401, .rows 1 (dr.map ah)), (402, .rows 6 (dH.map Cell.row)), (403, .rows 1 (([] : List Int).map ah)), (404, .rows 5 (bG.map dV.row)), (405, .rows 3 (([] : List bE).map bE.row))]⟩) (fun dE bG => ((dE : Int) ≤ (p.aw.length : Int)) ∧ (∀ m ∈ bG, kY m ∧ ∃ k, m.width = al k) ∧ (bG.length = dE)) (fun dE bG => ((p.aw.length : Int) - (dE : Int)).toNat) 0 ([] : List dV) (⟨om, fun m h => (by cases h), rfl⟩) (Le.mk (.c2 (.c (.cons (ak rfl b5) (.nil)))) (.c (.cons (aS rfl kP) (.c4 (.c (.nil)))))) (fun dE bG Mr => ?_)
 obtain ⟨Qb, hm, LN⟩ := Mr
 refine .seq (.sr ?_)
 refine .mv ?_
 refine .fa sT ?_
 refine .ld ur ?_
 refine .vl (Y.len (n := p.aw.length) uu rfl dG) (.vl (Y.lss rfl rfl) (.nil ?_))
 refine .aB rfl (fun vX => ?_) (fun vX => ?_)
 refine .skip (.seq (.block ?_))
 have wj := hk.aw (p.aw.getD dE default) (getD_in om)
 refine .ei (⟨[(1, .fp (l4.row p) 0), (2, .ptr 102 0 0 0), (3, .ptr 103 0 0 0), (5, .v (.int .i64 (dE : Int)))], [(102, .cells [.v (.string ByteArray.empty), vn, vn, vn, vn, vn, vn, vn, .v (.int .i64 0), .v (.int .i64 0), vn]), (103, .cells [.v (.string nB), .aY 401 1 0 dr.length, .aY 402 6 0 dH.length, .aY 403 1 0 0, .aY 404 5 0 ((bG ++ ([(⟨mB, al ((p.aw.getD dE default).a), 1 + ((((p.aw.getD dE default).b : Nat) : Int) % 9), 0, 0⟩ : dV)] : List dV)).length), .aY 405 3 0 0, vn, vn, .v (.int .i64 0), .v (.int .i64 0), vn]), (401, .rows 1 (dr.map ah)), (402, .rows 6 (dH.map Cell.row)), (403, .rows 1 (([] : List Int).map ah)), (404, .rows 5 ((bG ++ ([(⟨mB, al ((p.aw.getD dE default).a), 1 + ((((p.aw.getD dE default).b : Nat) : Int) % 9), 0, 0⟩ : dV)] : List dV)).map dV.row)), (405, .rows 3 (([] : List bE).map bE.row))]⟩) rfl ?_ ?_
 refine .blind 0 rfl aq (ao.fieldAddr fK rfl rfl) ae (.blind 2 rfl aq (ao.fieldAddr sT rfl rfl) ae (.load 3 rfl aq ur rfl rfl rfl rfl rfl ae ?_))
 refine .blind 4 rfl aq (ao.move rfl rfl) ae (.blind 5 rfl aq (ao.aK (m := dE) uu rfl rfl b5 (ax (d := default) om)) ae ?_)
 refine .blind 6 rfl aq (ao.gg BZ rfl rfl (m := 0) rfl om rfl) ae (.load 7 rfl aq pW rfl rfl rfl rfl rfl ae (.blind 9 rfl aq (ao.fieldAddr sT rfl rfl) ae ?_))
 refine .load 10 rfl aq ur rfl rfl rfl rfl rfl ae (.blind 11 rfl aq (ao.move rfl rfl) ae ?_)
 refine .blind 12 rfl aq (ao.aK (m := dE) uu rfl rfl b5 (ax (d := default) om)) ae ?_
 refine .blind 13 rfl aq (ao.gg BZ rfl rfl (m := 1) rfl om rfl) ae (.load 14 rfl aq pW rfl rfl rfl rfl rfl ae ?_)
 refine .blind 15 rfl aq (ao.jH rfl rfl om) ae (.blind 16 rfl aq (ao.fo sY py rfl v3) ae (.blind 17 rfl aq (ao.aT rfl rfl om) ae (.uZ ?_)))
 refine .two 1 8 rfl rfl aq ?_ ?_
 refine .ld nD ?_
 refine .nil ⟨rfl, ?_⟩
 refine .one 8 rfl aq (.aP rN (eN (k := ((p.aw.getD dE default).a))) rfl (.ai rfl rfl .nil) ae rfl ?_)
 refine .nil ⟨rfl, ?_⟩
 refine .one 18 rfl aq (.vl (Y.build E9 qi rfl rfl rfl) ?_)
 refine .nil ⟨rfl, ?_⟩
 refine .one 19 rfl aq ?_
 refine .buildSlice (([(⟨mB, al ((p.aw.getD dE default).a), 1 + ((((p.aw.getD dE default).b : Nat) : Int) % 9), 0, 0⟩ : dV)] : List dV).map dV.row) kJ qi rfl rfl rfl rfl rfl (ay (s := 5) (f := dV.row) (fun _ => rfl)) rfl rfl rfl ae ?_
 refine .nil ⟨rfl, ?_⟩
 refine .one 20 rfl aq (.bs ((bG ++ ([(⟨mB, al ((p.aw.getD dE default).a), 1 + ((((p.aw.getD dE default).b : Nat) : Int) % 9), 0, 0⟩ : dV)] : List dV)).map dV.row) (bG ++ ([(⟨mB, al ((p.aw.getD dE default).a), 1 + ((((p.aw.getD dE default).b : Nat) : Int) % 9), 0, 0⟩ : dV)] : List dV)).length kJ qi rfl rfl rfl rfl (bL bH) (bq bH) (cE bH) bH bH ae ae ?_)
 refine .nil ⟨rfl, ?_⟩
 refine .one 21 rfl aq ?_
 refine .fa fK ?_
 refine .nil ⟨rfl, ?_⟩
 refine .one 22 rfl aq (.aj Cb rfl rfl rfl rfl rfl rfl (aH rfl) rfl ?_)
 refine .nil ⟨rfl, ?_⟩
 refine .done aq ?_
 exact Le.mk (.c4 (.nil)) (.c4 (.c2 (.c (.nil))))
 refine .aP rN (eN (k := ((p.aw.getD dE default).a))) rfl (.ai rfl rfl .nil) ae rfl ?_
 refine .nil ⟨rfl, ?_⟩
 refine .two 1 18 rfl rfl aq ?_ ?_
 refine .ld nD ?_
 refine .nil ⟨rfl, ?_⟩
 refine .one 18 rfl aq (.vl (Y.build E9 qi rfl rfl rfl) ?_)
 refine .nil ⟨rfl, ?_⟩
 refine .one 19 rfl aq ?_
 refine .buildSlice (([(⟨mB, al ((p.aw.getD dE default).a), 1 + ((((p.aw.getD dE default).b : Nat) : Int) % 9), 0, 0⟩ : dV)] : List dV).map dV.row) kJ qi rfl rfl rfl rfl rfl (ay (s := 5) (f := dV.row) (fun _ => rfl)) rfl rfl rfl ae ?_
 refine .nil ⟨rfl, ?_⟩
 refine .one 20 rfl aq (.bs ((bG ++ ([(⟨mB, al ((p.aw.getD dE default).a), 1 + ((((p.aw.getD dE default).b : Nat) : Int) % 9), 0, 0⟩ : dV)] : List dV)).map dV.row) (bG ++ ([(⟨mB, al ((p.aw.getD dE default).a), 1 + ((((p.aw.getD dE default).b : Nat) : Int) % 9), 0, 0⟩ : dV)] : List dV)).length kJ qi rfl rfl rfl rfl (bL bH) (bq bH) (cE bH) bH bH ae ae ?_)
 refine .nil ⟨rfl, ?_⟩
 refine .one 21 rfl aq ?_
 refine .fa fK ?_
 refine .nil ⟨rfl, ?_⟩
 refine .one 22 rfl aq (.aj Cb rfl rfl rfl rfl rfl rfl (aH rfl) rfl ?_)
 refine .nil ⟨rfl, ?_⟩
 refine .done aq ?_
 exact Le.mk (.c4 (.nil)) (.c4 (.c2 (.c (.nil))))
 refine .vl (Y.build E9 qi rfl rfl rfl) ?_
 refine .nil ⟨rfl, ?_⟩
 refine .two 1 19 rfl rfl aq ?_ ?_
 refine .ld nD ?_
 refine .nil ⟨rfl, ?_⟩
 refine .one 19 rfl aq ?_
 refine .buildSlice (([(⟨mB, al ((p.aw.getD dE default).a), 1 + ((((p.aw.getD dE default).b : Nat) : Int) % 9), 0, 0⟩ : dV)] : List dV).map dV.row) kJ qi rfl rfl rfl rfl rfl (ay (s := 5) (f := dV.row) (fun _ => rfl)) rfl rfl rfl ae ?_
 refine .nil ⟨rfl, ?_⟩
 refine .one 20 rfl aq (.bs ((bG ++ ([(⟨mB, al ((p.aw.getD dE default).a), 1 + ((((p.aw.getD dE default).b : Nat) : Int) % 9), 0, 0⟩ : dV)] : List dV)).map dV.row) (bG ++ ([(⟨mB, al ((p.aw.getD dE default).a), 1 + ((((p.aw.getD dE default).b : Nat) : Int) % 9), 0, 0⟩ : dV)] : List dV)).length kJ qi rfl rfl rfl rfl (bL bH) (bq bH) (cE bH) bH bH ae ae ?_)
 refine .nil ⟨rfl, ?_⟩
 refine .one 21 rfl aq ?_
 refine .fa fK ?_
 refine .nil ⟨rfl, ?_⟩
 refine .one 22 rfl aq (.aj Cb rfl rfl rfl rfl rfl rfl (aH rfl) rfl ?_)
 refine .nil ⟨rfl, ?_⟩
 refine .done aq ?_
 exact Le.mk (.c4 (.nil)) (.c4 (.c2 (.c (.nil))))
 refine .buildSlice (([(⟨mB, al ((p.aw.getD dE default).a), 1 + ((((p.aw.getD dE default).b : Nat) : Int) % 9), 0, 0⟩ : dV)] : List dV).map dV.row) kJ qi rfl rfl rfl rfl rfl (ay (s := 5) (f := dV.row) (fun _ => rfl)) rfl rfl rfl ae ?_
 refine .nil ⟨rfl, ?_⟩
 refine .one 1 rfl aq ?_
 refine .ld nD ?_
 refine .nil ⟨rfl, ?_⟩
 refine .one 20 rfl aq (.bs ((bG ++ ([(⟨mB, al ((p.aw.getD dE default).a), 1 + ((((p.aw.getD dE default).b : Nat) : Int) % 9), 0, 0⟩ : dV)] : List dV)).map dV.row) (bG ++ ([(⟨mB, al ((p.aw.getD dE default).a), 1 + ((((p.aw.getD dE default).b : Nat) : Int) % 9), 0, 0⟩ : dV)] : List dV)).length kJ qi rfl rfl rfl rfl (bL bH) (bq bH) (cE bH) bH bH ae ae ?_)
 refine .nil ⟨rfl, ?_⟩
 refine .one 21 rfl aq ?_
 refine .fa fK ?_
 refine .nil ⟨rfl, ?_⟩
 refine .one 22 rfl aq (.aj Cb rfl rfl rfl rfl rfl rfl (aH rfl) rfl ?_)
 refine .nil ⟨rfl, ?_⟩
 refine .done aq ?_
 exact Le.mk (.c4 (.nil)) (.c4 (.c2 (.c (.nil))))
 refine .region ?_
 refine .mv ?_
 refine .vl (Y.aT rfl rfl om) ?_
 refine .an ?_
 refine .nil ?_
 exact ⟨dE + 1, bG ++ ([(⟨mB, al ((p.aw.getD dE default).a), 1 + ((((p.aw.getD dE default).b : Nat) : Int) % 9), 0, 0⟩ : dV)] : List dV), ⟨om, qw hm (vF om), by rw [List.length_append, LN]; rfl⟩, om, Le.mk (.c2 (.c (.cons (ak rfl b5) (.nil)))) (.c (.cons (aS rfl kP) (.c4 (.c (.nil)))))⟩
 refine .exit (.seq (.sr ?_))
 refine .an ?_
 refine .nil (.block ?_)
 refine .dT (fun (bW : Nat) (ba : List bE) => ⟨[(1, .fp (l4.row p) 0), (2, .ptr 102 0 0 0), (3, .ptr 103 0 0 0), (6, vi bW)], [(102, .cells [.v (.string ByteArray.empty), vn, vn, vn, vn, vn, vn, vn, vi 0, vi 0, vn]), (103, .cells [.v (.string nB), .aY 401 1 0 dr.length, .aY 402 6 0 dH.length, .aY 403 1 0 0, .aY 404 5 0 bG.length, .aY 405 3 0 ba.length, vn, vn, vi 0, vi 0, vn]), (401, .rows 1 (dr.map ah)), (402, .rows 6 (dH.map Cell.row)), (403, .rows 1 (([] : List Int).map ah)), (404, .rows 5 (bG.map dV.row)), (405, .rows 3 (ba.map bE.row))]⟩) (fun bW ba => ((bW : Int) ≤ (p.streams.length : Int)) ∧ (∀ m ∈ ba, jr m.name ∧ ∃ k, m.width = al k) ∧ (ba.length = bW)) (fun bW ba => ((p.streams.length : Int) - (bW : Int)).toNat) 0 ([] : List bE) (⟨om, fun m h => (by cases h), rfl⟩) (Le.mk (.c2 (.c (.cons (ak rfl b5) (.nil)))) (.c (.cons (aS rfl kP) (.c4 (.c (.nil)))))) (fun bW ba Fb => ?_)
 obtain ⟨Ms, hs, EX⟩ := Fb
 refine .seq (.sr ?_)
 refine .mv ?_
 refine .fa sU ?_
 refine .ld ur ?_
 refine .vl (Y.len (n := p.streams.length) uu rfl dG) (.vl (Y.lss rfl rfl) (.nil ?_))
 refine .aB rfl (fun Rm => ?_) (fun Rm => ?_)
 refine .skip (.seq (.block ?_))
 have wj := hk.streams (p.streams.getD bW default) (getD_in om)
 refine .ei (⟨[(1, .fp (l4.row p) 0), (2, .ptr 102 0 0 0), (3, .ptr 103 0 0 0), (6, .v (.int .i64 (bW : Int)))], [(102, .cells [.v (.string ByteArray.empty), vn, vn, vn, vn, vn, vn, vn, .v (.int .i64 0), .v (.int .i64 0), vn]), (103, .cells [.v (.string nB), .aY 401 1 0 dr.length, .aY 402 6 0 dH.length, .aY 403 1 0 0, .aY 404 5 0 bG.length, .aY 405 3 0 ((ba ++ ([(⟨sB, al ((p.streams.getD bW default).a), decide (((((p.streams.getD bW default).b : Nat) : Int) % 2) = 1)⟩ : bE)] : List bE)).length), vn, vn, .v (.int .i64 0), .v (.int .i64 0), vn]), (401, .rows 1 (dr.map ah)), (402, .rows 6 (dH.map Cell.row)), (403, .rows 1 (([] : List Int).map ah)), (404, .rows 5 (bG.map dV.row)), (405, .rows 3 ((ba ++ ([(⟨sB, al ((p.streams.getD bW default).a), decide (((((p.streams.getD bW default).b : Nat) : Int) % 2) = 1)⟩ : bE)] : List bE)).map bE.row))]⟩) rfl ?_ ?_
 refine .blind 0 rfl aq (ao.fieldAddr ef rfl rfl) ae (.blind 2 rfl aq (ao.fieldAddr sU rfl rfl) ae (.load 3 rfl aq ur rfl rfl rfl rfl rfl ae ?_))
 refine .blind 4 rfl aq (ao.move rfl rfl) ae (.blind 5 rfl aq (ao.aK (m := bW) uu rfl rfl b5 (ax (d := default) om)) ae ?_)
 refine .blind 6 rfl aq (ao.gg BZ rfl rfl (m := 0) rfl om rfl) ae (.load 7 rfl aq pW rfl rfl rfl rfl rfl ae (.blind 9 rfl aq (ao.fieldAddr sU rfl rfl) ae ?_))
 refine .load 10 rfl aq ur rfl rfl rfl rfl rfl ae (.blind 11 rfl aq (ao.move rfl rfl) ae ?_)
 refine .blind 12 rfl aq (ao.aK (m := bW) uu rfl rfl b5 (ax (d := default) om)) ae ?_
 refine .blind 13 rfl aq (ao.gg BZ rfl rfl (m := 1) rfl om rfl) ae (.load 14 rfl aq pW rfl rfl rfl rfl rfl ae ?_)
 refine .blind 15 rfl aq (ao.jH rfl rfl om) ae ?_
 refine .blind 16 rfl aq (ao.eql rfl rfl) ae (.uZ ?_)
 refine .two 1 8 rfl rfl aq ?_ ?_
 refine .ld jS ?_
 refine .nil ⟨rfl, ?_⟩
 refine .one 8 rfl aq (.aP rN (eN (k := ((p.streams.getD bW default).a))) rfl (.ai rfl rfl .nil) ae rfl ?_)
 refine .nil ⟨rfl, ?_⟩
 refine .one 17 rfl aq (.vl (Y.build EA p3 rfl rfl rfl) ?_)
 refine .nil ⟨rfl, ?_⟩
 refine .one 18 rfl aq ?_
 refine .buildSlice (([(⟨sB, al ((p.streams.getD bW default).a), decide (((((p.streams.getD bW default).b : Nat) : Int) % 2) = 1)⟩ : bE)] : List bE).map bE.row) gZ p3 rfl rfl rfl rfl rfl (ay (s := 3) (f := bE.row) (fun _ => rfl)) rfl rfl rfl ae ?_
 refine .nil ⟨rfl, ?_⟩
 refine .one 19 rfl aq (.bs ((ba ++ ([(⟨sB, al ((p.streams.getD bW default).a), decide (((((p.streams.getD bW default).b : Nat) : Int) % 2) = 1)⟩ : bE)] : List bE)).map bE.row) (ba ++ ([(⟨sB, al ((p.streams.getD bW default).a), decide (((((p.streams.getD bW default).b : Nat) : Int) % 2) = 1)⟩ : bE)] : List bE)).length gZ p3 rfl rfl rfl rfl (bL bH) (bq bH) (cE bH) bH bH ae ae ?_)
 refine .nil ⟨rfl, ?_⟩
 refine .one 20 rfl aq ?_
 refine .fa ef ?_
 refine .nil ⟨rfl, ?_⟩
 refine .one 21 rfl aq (.aj Cc rfl rfl rfl rfl rfl rfl (aH rfl) rfl ?_)
 refine .nil ⟨rfl, ?_⟩
 refine .done aq ?_
 exact Le.mk (.c4 (.nil)) (.c4 (.c2 (.c (.nil))))
 refine .aP rN (eN (k := ((p.streams.getD bW default).a))) rfl (.ai rfl rfl .nil) ae rfl ?_
 refine .nil ⟨rfl, ?_⟩
 refine .two 1 17 rfl rfl aq ?_ ?_
 refine .ld jS ?_
 refine .nil ⟨rfl, ?_⟩
 refine .one 17 rfl aq (.vl (Y.build EA p3 rfl rfl rfl) ?_)
 refine .nil ⟨rfl, ?_⟩
 refine .one 18 rfl aq ?_
 refine .buildSlice (([(⟨sB, al ((p.streams.getD bW default).a), decide (((((p.streams.getD bW default).b : Nat) : Int) % 2) = 1)⟩ : bE)] : List bE).map bE.row) gZ p3 rfl rfl rfl rfl rfl (ay (s := 3) (f := bE.row) (fun _ => rfl)) rfl rfl rfl ae ?_
 refine .nil ⟨rfl, ?_⟩
 refine .one 19 rfl aq (.bs ((ba ++ ([(⟨sB, al ((p.streams.getD bW default).a), decide (((((p.streams.getD bW default).b : Nat) : Int) % 2) = 1)⟩ : bE)] : List bE)).map bE.row) (ba ++ ([(⟨sB, al ((p.streams.getD bW default).a), decide (((((p.streams.getD bW default).b : Nat) : Int) % 2) = 1)⟩ : bE)] : List bE)).length gZ p3 rfl rfl rfl rfl (bL bH) (bq bH) (cE bH) bH bH ae ae ?_)
 refine .nil ⟨rfl, ?_⟩
 refine .one 20 rfl aq ?_
 refine .fa ef ?_
 refine .nil ⟨rfl, ?_⟩
 refine .one 21 rfl aq (.aj Cc rfl rfl rfl rfl rfl rfl (aH rfl) rfl ?_)
 refine .nil ⟨rfl, ?_⟩
 refine .done aq ?_
 exact Le.mk (.c4 (.nil)) (.c4 (.c2 (.c (.nil))))
 refine .vl (Y.build EA p3 rfl rfl rfl) ?_
 refine .nil ⟨rfl, ?_⟩
 refine .two 1 18 rfl rfl aq ?_ ?_
 refine .ld jS ?_
 refine .nil ⟨rfl, ?_⟩
 refine .one 18 rfl aq ?_
 refine .buildSlice (([(⟨sB, al ((p.streams.getD bW default).a), decide (((((p.streams.getD bW default).b : Nat) : Int) % 2) = 1)⟩ : bE)] : List bE).map bE.row) gZ p3 rfl rfl rfl rfl rfl (ay (s := 3) (f := bE.row) (fun _ => rfl)) rfl rfl rfl ae ?_
 refine .nil ⟨rfl, ?_⟩
 refine .one 19 rfl aq (.bs ((ba ++ ([(⟨sB, al ((p.streams.getD bW default).a), decide (((((p.streams.getD bW default).b : Nat) : Int) % 2) = 1)⟩ : bE)] : List bE)).map bE.row) (ba ++ ([(⟨sB, al ((p.streams.getD bW default).a), decide (((((p.streams.getD bW default).b : Nat) : Int) % 2) = 1)⟩ : bE)] : List bE)).length gZ p3 rfl rfl rfl rfl (bL bH) (bq bH) (cE bH) bH bH ae ae ?_)
 refine .nil ⟨rfl, ?_⟩
 refine .one 20 rfl aq ?_
 refine .fa ef ?_
 refine .nil ⟨rfl, ?_⟩
 refine .one 21 rfl aq (.aj Cc rfl rfl rfl rfl rfl rfl (aH rfl) rfl ?_)
 refine .nil ⟨rfl, ?_⟩
 refine .done aq ?_
 exact Le.mk (.c4 (.nil)) (.c4 (.c2 (.c (.nil))))
 refine .buildSlice (([(⟨sB, al ((p.streams.getD bW default).a), decide (((((p.streams.getD bW default).b : Nat) : Int) % 2) = 1)⟩ : bE)] : List bE).map bE.row) gZ p3 rfl rfl rfl rfl rfl (ay (s := 3) (f := bE.row) (fun _ => rfl)) rfl rfl rfl ae ?_
 refine .nil ⟨rfl, ?_⟩
 refine .one 1 rfl aq ?_
 refine .ld jS ?_
 refine .nil ⟨rfl, ?_⟩
 refine .one 19 rfl aq (.bs ((ba ++ ([(⟨sB, al ((p.streams.getD bW default).a), decide (((((p.streams.getD bW default).b : Nat) : Int) % 2) = 1)⟩ : bE)] : List bE)).map bE.row) (ba ++ ([(⟨sB, al ((p.streams.getD bW default).a), decide (((((p.streams.getD bW default).b : Nat) : Int) % 2) = 1)⟩ : bE)] : List bE)).length gZ p3 rfl rfl rfl rfl (bL bH) (bq bH) (cE bH) bH bH ae ae ?_)
 refine .nil ⟨rfl, ?_⟩
 refine .one 20 rfl aq ?_
 refine .fa ef ?_
 refine .nil ⟨rfl, ?_⟩
 refine .one 21 rfl aq (.aj Cc rfl rfl rfl rfl rfl rfl (aH rfl) rfl ?_)
 refine .nil ⟨rfl, ?_⟩
 refine .done aq ?_
 exact Le.mk (.c4 (.nil)) (.c4 (.c2 (.c (.nil))))
 refine .region ?_
 refine .mv ?_
 refine .vl (Y.aT rfl rfl om) ?_
 refine .an ?_
 refine .nil ?_
 exact ⟨bW + 1, ba ++ ([(⟨sB, al ((p.streams.getD bW default).a), decide (((((p.streams.getD bW default).b : Nat) : Int) % 2) = 1)⟩ : bE)] : List bE), ⟨om, qw hs vG, by rw [List.length_append, EX]; rfl⟩, om, Le.mk (.c2 (.c (.cons (ak rfl b5) (.nil)))) (.c (.cons (aS rfl kP) (.c4 (.c (.nil)))))⟩
 refine .exit (.seq (.sr ?_))
 refine .an ?_
 refine .nil (.block ?_)
 refine .dT (fun (fv : Nat) (b6 : List Int) => ⟨[(1, .fp (l4.row p) 0), (2, .ptr 102 0 0 0), (3, .ptr 103 0 0 0), (7, vi fv)], [(102, .cells [.v (.string ByteArray.empty), vn, vn, vn, vn, vn, vn, vn, vi 0, vi 0, vn]), (103, .cells [.v (.string nB), .aY 401 1 0 dr.length, .aY 402 6 0 dH.length, .aY 403 1 0 b6.length, .aY 404 5 0 bG.length, .aY 405 3 0 ba.length, vn, vn, vi 0, vi 0, vn]), (401, .rows 1 (dr.map ah)), (402, .rows 6 (dH.map Cell.row)), (403, .rows 1 (b6.map ah)), (404, .rows 5 (bG.map dV.row)), (405, .rows 3 (ba.map bE.row))]⟩) (fun fv b6 => ((fv : Int) ≤ (p.ins.length : Int)) ∧ (∀ m ∈ b6, ∃ k, m = al k) ∧ (b6.length = fv)) (fun fv b6 => ((p.ins.length : Int) - (fv : Int)).toNat) 0 ([] : List Int) (⟨om, fun m h => (by cases h), rfl⟩) (Le.mk (.c2 (.c (.cons (ak rfl b5) (.nil)))) (.c (.cons (aS rfl kP) (.c4 (.c (.nil)))))) (fun fv b6 FK => ?_)
 obtain ⟨Nj, pQ, xx⟩ := FK
 refine .seq (.sr ?_)
 refine .mv ?_
 refine .fa vH ?_
 refine .ld xL ?_
 refine .vl (Y.len (n := p.ins.length) xM rfl dG) (.vl (Y.lss rfl rfl) (.nil ?_))
 refine .aB rfl (fun mz => ?_) (fun mz => ?_)
 refine .skip (.seq (.block ?_))
 have wj := hk.ins (p.ins.getD fv 0) (getD_in om)
 refine .ei (⟨[(1, .fp (l4.row p) 0), (2, .ptr 102 0 0 0), (3, .ptr 103 0 0 0), (7, .v (.int .i64 (fv : Int)))], [(102, .cells [.v (.string ByteArray.empty), vn, vn, vn, vn, vn, vn, vn, .v (.int .i64 0), .v (.int .i64 0), vn]), (103, .cells [.v (.string nB), .aY 401 1 0 dr.length, .aY 402 6 0 dH.length, .aY 403 1 0 ((b6 ++ ([al (p.ins.getD fv 0)] : List Int)).length), .aY 404 5 0 bG.length, .aY 405 3 0 ba.length, vn, vn, .v (.int .i64 0), .v (.int .i64 0), vn]), (401, .rows 1 (dr.map ah)), (402, .rows 6 (dH.map Cell.row)), (403, .rows 1 ((b6 ++ ([al (p.ins.getD fv 0)] : List Int)).map ah)), (404, .rows 5 (bG.map dV.row)), (405, .rows 3 (ba.map bE.row))]⟩) rfl ?_ ?_
 refine .blind 0 rfl aq (ao.fieldAddr kG rfl rfl) ae (.blind 2 rfl aq (ao.fieldAddr vH rfl rfl) ae (.load 3 rfl aq xL rfl rfl rfl rfl rfl ae ?_))
 refine .blind 4 rfl aq (ao.move rfl rfl) ae (.blind 5 rfl aq (ao.aK (m := fv) xM rfl rfl b5 (ax (d := 0) om)) ae ?_)
 refine .load 6 rfl aq pW rfl rfl rfl rfl rfl ae (.uZ ?_)
 refine .two 1 7 rfl rfl aq ?_ ?_
 refine .ld bh ?_
 refine .nil ⟨rfl, ?_⟩
 refine .one 7 rfl aq (.aP rN (eN (k := (p.ins.getD fv 0))) rfl (.ai rfl rfl .nil) ae rfl ?_)
 refine .nil ⟨rfl, ?_⟩
 refine .one 8 rfl aq ?_
 refine .buildSlice (([al (p.ins.getD fv 0)] : List Int).map ah) a7 e0 rfl rfl rfl rfl rfl (ay (s := 1) (f := ah) (fun _ => rfl)) rfl rfl rfl ae ?_
 refine .nil ⟨rfl, ?_⟩
 refine .one 9 rfl aq (.bs ((b6 ++ ([al (p.ins.getD fv 0)] : List Int)).map ah) (b6 ++ ([al (p.ins.getD fv 0)] : List Int)).length a7 e0 rfl rfl rfl rfl (bL bH) (bq bH) (cE bH) bH bH ae ae ?_)
 refine .nil ⟨rfl, ?_⟩
 refine .one 10 rfl aq ?_
 refine .fa kG ?_
 refine .nil ⟨rfl, ?_⟩
 refine .one 11 rfl aq (.aj fg rfl rfl rfl rfl rfl rfl (aH rfl) rfl ?_)
 refine .nil ⟨rfl, ?_⟩
 refine .done aq ?_
 exact Le.mk (.c4 (.nil)) (.c4 (.c2 (.c (.nil))))
 refine .aP rN (eN (k := (p.ins.getD fv 0))) rfl (.ai rfl rfl .nil) ae rfl ?_
 refine .nil ⟨rfl, ?_⟩
 refine .two 1 8 rfl rfl aq ?_ ?_
 refine .ld bh ?_
 refine .nil ⟨rfl, ?_⟩
 refine .one 8 rfl aq ?_
 refine .buildSlice (([al (p.ins.getD fv 0)] : List Int).map ah) a7 e0 rfl rfl rfl rfl rfl (ay (s := 1) (f := ah) (fun _ => rfl)) rfl rfl rfl ae ?_
 refine .nil ⟨rfl, ?_⟩
 refine .one 9 rfl aq (.bs ((b6 ++ ([al (p.ins.getD fv 0)] : List Int)).map ah) (b6 ++ ([al (p.ins.getD fv 0)] : List Int)).length a7 e0 rfl rfl rfl rfl (bL bH) (bq bH) (cE bH) bH bH ae ae ?_)
 refine .nil ⟨rfl, ?_⟩
 refine .one 10 rfl aq ?_
 refine .fa kG ?_
 refine .nil ⟨rfl, ?_⟩
 refine .one 11 rfl aq (.aj fg rfl rfl rfl rfl rfl rfl (aH rfl) rfl ?_)
 refine .nil ⟨rfl, ?_⟩
 refine .done aq ?_
 exact Le.mk (.c4 (.nil)) (.c4 (.c2 (.c (.nil))))
 refine .buildSlice (([al (p.ins.getD fv 0)] : List Int).map ah) a7 e0 rfl rfl rfl rfl rfl (ay (s := 1) (f := ah) (fun _ => rfl)) rfl rfl rfl ae ?_
 refine .nil ⟨rfl, ?_⟩
 refine .one 1 rfl aq ?_
 refine .ld bh ?_
 refine .nil ⟨rfl, ?_⟩
 refine .one 9 rfl aq (.bs ((b6 ++ ([al (p.ins.getD fv 0)] : List Int)).map ah) (b6 ++ ([al (p.ins.getD fv 0)] : List Int)).length a7 e0 rfl rfl rfl rfl (bL bH) (bq bH) (cE bH) bH bH ae ae ?_)
 refine .nil ⟨rfl, ?_⟩
 refine .one 10 rfl aq ?_
 refine .fa kG ?_
 refine .nil ⟨rfl, ?_⟩
 refine .one 11 rfl aq (.aj fg rfl rfl rfl rfl rfl rfl (aH rfl) rfl ?_)
 refine .nil ⟨rfl, ?_⟩
 refine .done aq ?_
 exact Le.mk (.c4 (.nil)) (.c4 (.c2 (.c (.nil))))
 refine .region ?_
 refine .mv ?_
 refine .vl (Y.aT rfl rfl om) ?_
 refine .an ?_
 refine .nil ?_
 exact ⟨fv + 1, b6 ++ ([al (p.ins.getD fv 0)] : List Int), ⟨om, qw pQ ⟨_, rfl⟩, by rw [List.length_append, xx]; rfl⟩, om, Le.mk (.c2 (.c (.cons (ak rfl b5) (.nil)))) (.c (.cons (aS rfl kP) (.c4 (.c (.nil)))))⟩
 refine .exit (.seq (.seq ?_))
 refine .sh (Sh.oZ 103 403 3 rfl rfl rfl (bu om) (da.map aD) ae rfl rfl rfl) (.sh (Sh.oZ 103 404 4 rfl rfl rfl (bu om) (da.map dV.cy) ae rfl rfl rfl) (.sh (Sh.oZ 103 405 5 rfl rfl rfl (bu om) (da.map bE.cy) ae rfl rfl rfl) (.region ?_)))
 refine .an ?_
 refine .nil (.block ?_)
 refine .iT (fun (ic : Nat) (ar : List Int) (bp : List Cell) => ⟨[(1, .fp (l4.row p) 0), (2, .ptr 102 0 0 0), (3, .ptr 103 0 0 0), (8, vi ic)], [(102, .cells [.v (.string ByteArray.empty), vn, vn, vn, vn, vn, vn, vn, vi 0, vi 0, vn]), (103, .cells [.v (.string nB), .aY 401 1 0 ar.length, .aY 402 6 0 bp.length, .fz 1 (b6.map ah), .fz 5 (bG.map dV.row), .fz 3 (ba.map bE.row), vn, vn, vi 0, vi 0, vn]), (401, .rows 1 (ar.map ah)), (402, .rows 6 (bp.map Cell.row))]⟩) (fun ic ar bp => ((ic : Int) ≤ (p.parts.length : Int)) ∧ (Gr (pn ar bp b6 bG ba)) ∧ (8 ≤ bp.length ∧ bp.length ≤ 8 + ic) ∧ (8 ≤ ar.length ∧ ar.length ≤ 8 + ic)) (fun ic ar bp => ((p.parts.length : Int) - (ic : Int)).toNat) 0 dr dH (⟨om, by rw [JV, Ds, show dQ = 8 by omega]; exact PH (fun m h => (hm m h).2) (fun m h => (hs m h).2) pQ, by rw [Ds, BY]; omega, by rw [JV, oG]; omega⟩) (Le.mk (.c2 (.c (.cons (ak rfl b5) (.nil)))) (.c (.cons (aS rfl kP) (.c2 (.nil))))) (fun ic ar bp Ak => ?_)
 obtain ⟨Jd, lU, Bm, wJ⟩ := Ak
 refine .seq (.sr ?_)
 refine .mv ?_
 refine .fa nZ ?_
 refine .ld vK ?_
 refine .vl (Y.len (n := p.parts.length) vN rfl dG) (.vl (Y.lss rfl rfl) (.nil ?_))
 refine .aB rfl (fun wu => ?_) (fun wu => ?_)
 refine .skip ?_
 refine .mQ (fun (jd : List Int) (je : List Cell) => ⟨[(1, .fp (l4.row p) 0), (2, .ptr 102 0 0 0), (3, .ptr 103 0 0 0), (8, vi ic)], [(102, .cells [.v (.string ByteArray.empty), vn, vn, vn, vn, vn, vn, vn, vi 0, vi 0, vn]), (103, .cells [.v (.string nB), .aY 401 1 0 jd.length, .aY 402 6 0 je.length, .fz 1 (b6.map ah), .fz 5 (bG.map dV.row), .fz 3 (ba.map bE.row), vn, vn, vi 0, vi 0, vn]), (401, .rows 1 (jd.map ah)), (402, .rows 6 (je.map Cell.row))]⟩) (fun jd je => Gr (pn jd je b6 bG ba) ∧ (8 ≤ je.length ∧ je.length ≤ 8 + (ic + 1)) ∧ (8 ≤ jd.length ∧ jd.length ≤ 8 + (ic + 1))) ?_ (fun jd je wz => ?_)
 refine .block (.seq (.eK [103] [102, 103, 401, 402] rfl ?_))
 refine .aM 0 rfl aq eh rfl rfl rfl (aH rfl) rfl rfl ae (.blind 1 rfl aq (ao.fieldAddr nZ rfl rfl) ae (.load 2 rfl aq vK rfl rfl rfl rfl rfl ae ?_))
 refine .blind 3 rfl aq (ao.move rfl rfl) ae (.blind 4 rfl aq (ao.aK (m := ic) vN rfl rfl b5 (ax (d := default) om)) ae ?_)
 refine .aM 5 rfl aq EB rfl rfl rfl (aH rfl) rfl rfl ae (.yn rfl rfl (bV.cells rfl rfl rfl bV.nil) ?_)
 refine .two 6 10 rfl rfl aq ?_ ?_
 refine .zp [401, 402] Iv (sG (n := (⟨nB, ar, bp, b6, bG, ba, [], [], 0, 0, []⟩ : ab)) (p := (p.parts.getD ic default)) (by show (ar).length ≤ 1048576; omega) (by show 0 < (ar).length; omega) (NO _ (getD_in om)) lU.ground (by show (b6).length ≤ 1048576; omega)) rfl (.agg (.ai rfl rfl (.cB rfl rfl (b8 om) (b9 om) (.cB rfl rfl (b8 om) (b9 om) (.ai rfl rfl (.ai rfl rfl (.ai rfl rfl (.ai rfl rfl (.ai rfl rfl (.ai rfl rfl (.ai rfl rfl (.ai rfl rfl .nil))))))))))) rfl (.ai rfl rfl .nil)) (er rfl (bl aD) (jL rfl (bl Cell.cy))) ae ?_
 rintro _ ⟨aC, gx, fw, rfl, _⟩
 refine ⟨rfl, ⟨⟨trivial, trivial, trivial, (jI k0 _), trivial, trivial, trivial⟩, trivial, trivial⟩, ?_⟩
 refine .nil ⟨rfl, ?_⟩
 refine .two 7 10 rfl rfl aq ?_ ?_
 refine .mR rfl ae ?_
 refine .nil ⟨rfl, ?_⟩
 refine .blind 9 rfl aq (ao.extract rfl rfl rfl) ae ?_
 refine .two 8 10 rfl rfl aq ?_ ?_
 refine .gp rfl rfl ae ?_
 refine .nil ⟨rfl, ?_⟩
 refine .one 10 rfl aq (.alloc 109 dN rfl rfl ae ?_)
 refine .nil ⟨rfl, ?_⟩
 refine .one 11 rfl aq (.sh (Sh.o7 (d := 127) (y := .agg [.v (.int .i64 aC.kind), .v (.int .i64 aC.op), .v (.int .i64 aC.out), .fz 1 (aC.args.map ah), .v (.int .u64 (aC.num : Int)), .v (.int .i64 aC.mem)]) rfl (by show X.lD (.agg [.v (.int .i64 aC.kind), .v (.int .i64 aC.op), .v (.int .i64 aC.out), .ep 1 (aC.args.map ah), .v (.int .u64 (aC.num : Int)), .v (.int .i64 aC.mem)]) = _; simp only [X.lD, X.iS, X.jK (da.map aD)])) (.aj eI rfl rfl rfl rfl rfl rfl (aH rfl) rfl ?_))
 refine .nil ⟨rfl, ?_⟩
 refine .one 12 rfl aq ?_
 refine .an ?_
 refine .nil ⟨rfl, ?_⟩
 refine .done aq (.le (aR := ⟨[(1, .fp (l4.row p) 0), (2, .ptr 102 0 0 0), (3, .ptr 103 0 0 0), (8, vi ic), (9, .ptr 109 0 0 0), (10, vi gx)], [(102, .cells [.v (.string ByteArray.empty), vn, vn, vn, vn, vn, vn, vn, vi 0, vi 0, vn]), (103, .cells [.v (.string nB), .aY 401 1 0 ar.length, .aY 402 6 0 bp.length, .fz 1 (b6.map ah), .fz 5 (bG.map dV.row), .fz 3 (ba.map bE.row), vn, vn, vi 0, vi 0, vn]), (109, .cells [vi aC.kind, vi aC.op, vi aC.out, .fz 1 (aC.args.map ah), .v (.int .u64 (aC.num : Int)), vi aC.mem]), (401, .rows 1 (ar.map ah)), (402, .rows 6 (bp.map Cell.row))]⟩) (Le.mk (.c4 (.c2 (.nil))) (.c4 (.c (.nil)))) (.sr ?_))
 refine .fa cL ?_
 refine .ld br ?_
 refine .vl (Y.neq rfl rfl) (.nil ?_)
 refine .aB rfl (fun oo => ?_) (fun oo => ?_)
 refine .seq (.sr ?_)
 refine .fa cL ?_
 refine .ld br ?_
 refine .vl (Y.neq rfl rfl) (.nil ?_)
 refine .aB rfl (fun wA => ?_) (fun wA => ?_)
 refine .sr ?_
 refine .fa bN ?_
 refine .ld bh ?_
 refine .vl (Y.len (n := ar.length) a7 rfl rfl) ?_
 refine .fa dx ?_
 refine .aj e8 rfl rfl rfl rfl rfl rfl (aH rfl) rfl (.nil (.region ?_))
 refine .fa bN ?_
 refine .ld bh ?_
 refine .mv ?_
 refine .buildSlice (([gx] : List Int).map ah) a7 e0 rfl rfl rfl rfl rfl (ay (s := 1) (f := ah) (fun _ => rfl)) rfl rfl rfl ae ?_
 refine .bs ((ar ++ ([gx] : List Int)).map ah) (ar ++ ([gx] : List Int)).length a7 e0 rfl rfl rfl rfl (bL bH) (bq bH) (cE bH) bH bH ae ae ?_
 refine .fa bN ?_
 refine .aj fg rfl rfl rfl rfl rfl rfl (aH rfl) rfl (.nil (.region ?_))
 refine .fa cb ?_
 refine .ld fD ?_
 refine .vl (Y.aM eb rfl rfl (aH rfl) rfl rfl) ?_
 refine .buildSlice (([(⟨aC.kind, aC.op, (ar.length : Int), aC.args, aC.num, aC.mem⟩ : Cell)] : List Cell).map Cell.row) dD dN rfl rfl rfl rfl rfl (ay (s := 6) (f := Cell.row) (fun _ => rfl)) rfl rfl rfl ae ?_
 refine .bs ((bp ++ ([(⟨aC.kind, aC.op, (ar.length : Int), aC.args, aC.num, aC.mem⟩ : Cell)] : List Cell)).map Cell.row) (bp ++ ([(⟨aC.kind, aC.op, (ar.length : Int), aC.args, aC.num, aC.mem⟩ : Cell)] : List Cell)).length dD dN rfl rfl rfl rfl (bL bH) (bq bH) (cE bH) bH bH ae ae ?_
 refine .fa cb ?_
 refine .aj ta rfl rfl rfl rfl rfl rfl (aH rfl) rfl (.nil ?_)
 exact ⟨ar ++ ([gx] : List Int), bp ++ ([(⟨aC.kind, aC.op, (ar.length : Int), aC.args, aC.num, aC.mem⟩ : Cell)] : List Cell), by first | exact ⟨lU.add om (fw.resolve_left cj) cj, by constructor <;> (simp only [List.length_append, List.length_cons, List.length_nil]; omega), by constructor <;> (simp only [List.length_append, List.length_cons, List.length_nil]; omega)⟩ | exact ⟨lU.qh om (fw.resolve_left cj) (Classical.not_not.1 cj), by constructor <;> (simp only [List.length_append, List.length_cons, List.length_nil]; omega), om⟩ | exact ⟨lU, om, om⟩, Le.mk (.c4 (.nil)) (.c (.cons (aS rfl kP) (.c2 (.nil))))⟩
 refine .skip (.region ?_)
 refine .fa cb ?_
 refine .ld fD ?_
 refine .vl (Y.aM eb rfl rfl (aH rfl) rfl rfl) ?_
 refine .buildSlice (([aC] : List Cell).map Cell.row) dD dN rfl rfl rfl rfl rfl (ay (s := 6) (f := Cell.row) (fun _ => rfl)) rfl rfl rfl ae ?_
 refine .bs ((bp ++ ([aC] : List Cell)).map Cell.row) (bp ++ ([aC] : List Cell)).length dD dN rfl rfl rfl rfl (bL bH) (bq bH) (cE bH) bH bH ae ae ?_
 refine .fa cb ?_
 refine .aj ta rfl rfl rfl rfl rfl rfl (aH rfl) rfl (.nil ?_)
 exact ⟨ar, bp ++ ([aC] : List Cell), by first | exact ⟨lU.add om (fw.resolve_left cj) cj, by constructor <;> (simp only [List.length_append, List.length_cons, List.length_nil]; omega), by constructor <;> (simp only [List.length_append, List.length_cons, List.length_nil]; omega)⟩ | exact ⟨lU.qh om (fw.resolve_left cj) (Classical.not_not.1 cj), by constructor <;> (simp only [List.length_append, List.length_cons, List.length_nil]; omega), om⟩ | exact ⟨lU, om, om⟩, Le.mk (.c4 (.nil)) (.c (.cons (aS rfl kP) (.c2 (.nil))))⟩
 refine .skip ?_
 exact ⟨ar, bp, by first | exact ⟨lU.add om (fw.resolve_left cj) cj, by constructor <;> (simp only [List.length_append, List.length_cons, List.length_nil]; omega), by constructor <;> (simp only [List.length_append, List.length_cons, List.length_nil]; omega)⟩ | exact ⟨lU.qh om (fw.resolve_left cj) (Classical.not_not.1 cj), by constructor <;> (simp only [List.length_append, List.length_cons, List.length_nil]; omega), om⟩ | exact ⟨lU, om, om⟩, Le.mk (.c4 (.nil)) (.c (.cons (aS rfl kP) (.c2 (.nil))))⟩
 refine .alloc 109 dN rfl rfl ae ?_
 refine .nil ⟨rfl, ?_⟩
 refine .one 8 rfl aq (.gp rfl rfl ae ?_)
 refine .nil ⟨rfl, ?_⟩
 refine .one 11 rfl aq (.sh (Sh.o7 (d := 127) (y := .agg [.v (.int .i64 aC.kind), .v (.int .i64 aC.op), .v (.int .i64 aC.out), .fz 1 (aC.args.map ah), .v (.int .u64 (aC.num : Int)), .v (.int .i64 aC.mem)]) rfl (by show X.lD (.agg [.v (.int .i64 aC.kind), .v (.int .i64 aC.op), .v (.int .i64 aC.out), .ep 1 (aC.args.map ah), .v (.int .u64 (aC.num : Int)), .v (.int .i64 aC.mem)]) = _; simp only [X.lD, X.iS, X.jK (da.map aD)])) (.aj eI rfl rfl rfl rfl rfl rfl (aH rfl) rfl ?_))
 refine .nil ⟨rfl, ?_⟩
 refine .one 12 rfl aq ?_
 refine .an ?_
 refine .nil ⟨rfl, ?_⟩
 refine .done aq (.le (aR := ⟨[(1, .fp (l4.row p) 0), (2, .ptr 102 0 0 0), (3, .ptr 103 0 0 0), (8, vi ic), (9, .ptr 109 0 0 0), (10, vi gx)], [(102, .cells [.v (.string ByteArray.empty), vn, vn, vn, vn, vn, vn, vn, vi 0, vi 0, vn]), (103, .cells [.v (.string nB), .aY 401 1 0 ar.length, .aY 402 6 0 bp.length, .fz 1 (b6.map ah), .fz 5 (bG.map dV.row), .fz 3 (ba.map bE.row), vn, vn, vi 0, vi 0, vn]), (109, .cells [vi aC.kind, vi aC.op, vi aC.out, .fz 1 (aC.args.map ah), .v (.int .u64 (aC.num : Int)), vi aC.mem]), (401, .rows 1 (ar.map ah)), (402, .rows 6 (bp.map Cell.row))]⟩) (Le.mk (.c4 (.c2 (.nil))) (.c4 (.c (.nil)))) (.sr ?_))
 refine .fa cL ?_
 refine .ld br ?_
 refine .vl (Y.neq rfl rfl) (.nil ?_)
 refine .aB rfl (fun oo => ?_) (fun oo => ?_)
 refine .seq (.sr ?_)
 refine .fa cL ?_
 refine .ld br ?_
 refine .vl (Y.neq rfl rfl) (.nil ?_)
 refine .aB rfl (fun wA => ?_) (fun wA => ?_)
 refine .sr ?_
 refine .fa bN ?_
 refine .ld bh ?_
 refine .vl (Y.len (n := ar.length) a7 rfl rfl) ?_
 refine .fa dx ?_
 refine .aj e8 rfl rfl rfl rfl rfl rfl (aH rfl) rfl (.nil (.region ?_))
 refine .fa bN ?_
 refine .ld bh ?_
 refine .mv ?_
 refine .buildSlice (([gx] : List Int).map ah) a7 e0 rfl rfl rfl rfl rfl (ay (s := 1) (f := ah) (fun _ => rfl)) rfl rfl rfl ae ?_
 refine .bs ((ar ++ ([gx] : List Int)).map ah) (ar ++ ([gx] : List Int)).length a7 e0 rfl rfl rfl rfl (bL bH) (bq bH) (cE bH) bH bH ae ae ?_
 refine .fa bN ?_
 refine .aj fg rfl rfl rfl rfl rfl rfl (aH rfl) rfl (.nil (.region ?_))
 refine .fa cb ?_
 refine .ld fD ?_
 refine .vl (Y.aM eb rfl rfl (aH rfl) rfl rfl) ?_
 refine .buildSlice (([(⟨aC.kind, aC.op, (ar.length : Int), aC.args, aC.num, aC.mem⟩ : Cell)] : List Cell).map Cell.row) dD dN rfl rfl rfl rfl rfl (ay (s := 6) (f := Cell.row) (fun _ => rfl)) rfl rfl rfl ae ?_
 refine .bs ((bp ++ ([(⟨aC.kind, aC.op, (ar.length : Int), aC.args, aC.num, aC.mem⟩ : Cell)] : List Cell)).map Cell.row) (bp ++ ([(⟨aC.kind, aC.op, (ar.length : Int), aC.args, aC.num, aC.mem⟩ : Cell)] : List Cell)).length dD dN rfl rfl rfl rfl (bL bH) (bq bH) (cE bH) bH bH ae ae ?_
 refine .fa cb ?_
 refine .aj ta rfl rfl rfl rfl rfl rfl (aH rfl) rfl (.nil ?_)
 exact ⟨ar ++ ([gx] : List Int), bp ++ ([(⟨aC.kind, aC.op, (ar.length : Int), aC.args, aC.num, aC.mem⟩ : Cell)] : List Cell), by first | exact ⟨lU.add om (fw.resolve_left cj) cj, by constructor <;> (simp only [List.length_append, List.length_cons, List.length_nil]; omega), by constructor <;> (simp only [List.length_append, List.length_cons, List.length_nil]; omega)⟩ | exact ⟨lU.qh om (fw.resolve_left cj) (Classical.not_not.1 cj), by constructor <;> (simp only [List.length_append, List.length_cons, List.length_nil]; omega), om⟩ | exact ⟨lU, om, om⟩, Le.mk (.c4 (.nil)) (.c (.cons (aS rfl kP) (.c2 (.nil))))⟩
 refine .skip (.region ?_)
 refine .fa cb ?_
 refine .ld fD ?_
 refine .vl (Y.aM eb rfl rfl (aH rfl) rfl rfl) ?_
 refine .buildSlice (([aC] : List Cell).map Cell.row) dD dN rfl rfl rfl rfl rfl (ay (s := 6) (f := Cell.row) (fun _ => rfl)) rfl rfl rfl ae ?_
 refine .bs ((bp ++ ([aC] : List Cell)).map Cell.row) (bp ++ ([aC] : List Cell)).length dD dN rfl rfl rfl rfl (bL bH) (bq bH) (cE bH) bH bH ae ae ?_
 refine .fa cb ?_
 refine .aj ta rfl rfl rfl rfl rfl rfl (aH rfl) rfl (.nil ?_)
 exact ⟨ar, bp ++ ([aC] : List Cell), by first | exact ⟨lU.add om (fw.resolve_left cj) cj, by constructor <;> (simp only [List.length_append, List.length_cons, List.length_nil]; omega), by constructor <;> (simp only [List.length_append, List.length_cons, List.length_nil]; omega)⟩ | exact ⟨lU.qh om (fw.resolve_left cj) (Classical.not_not.1 cj), by constructor <;> (simp only [List.length_append, List.length_cons, List.length_nil]; omega), om⟩ | exact ⟨lU, om, om⟩, Le.mk (.c4 (.nil)) (.c (.cons (aS rfl kP) (.c2 (.nil))))⟩
 refine .skip ?_
 exact ⟨ar, bp, by first | exact ⟨lU.add om (fw.resolve_left cj) cj, by constructor <;> (simp only [List.length_append, List.length_cons, List.length_nil]; omega), by constructor <;> (simp only [List.length_append, List.length_cons, List.length_nil]; omega)⟩ | exact ⟨lU.qh om (fw.resolve_left cj) (Classical.not_not.1 cj), by constructor <;> (simp only [List.length_append, List.length_cons, List.length_nil]; omega), om⟩ | exact ⟨lU, om, om⟩, Le.mk (.c4 (.nil)) (.c (.cons (aS rfl kP) (.c2 (.nil))))⟩
 refine .alloc 109 dN rfl rfl ae ?_
 refine .nil ⟨rfl, ?_⟩
 refine .one 7 rfl aq (.mR rfl ae ?_)
 refine .nil ⟨rfl, ?_⟩
 refine .blind 9 rfl aq (ao.extract rfl rfl rfl) ae (.one 8 rfl aq (.gp rfl rfl ae ?_))
 refine .nil ⟨rfl, ?_⟩
 refine .one 11 rfl aq (.sh (Sh.o7 (d := 127) (y := .agg [.v (.int .i64 aC.kind), .v (.int .i64 aC.op), .v (.int .i64 aC.out), .fz 1 (aC.args.map ah), .v (.int .u64 (aC.num : Int)), .v (.int .i64 aC.mem)]) rfl (by show X.lD (.agg [.v (.int .i64 aC.kind), .v (.int .i64 aC.op), .v (.int .i64 aC.out), .ep 1 (aC.args.map ah), .v (.int .u64 (aC.num : Int)), .v (.int .i64 aC.mem)]) = _; simp only [X.lD, X.iS, X.jK (da.map aD)])) (.aj eI rfl rfl rfl rfl rfl rfl (aH rfl) rfl ?_))
 refine .nil ⟨rfl, ?_⟩
 refine .one 12 rfl aq ?_
 refine .an ?_
 refine .nil ⟨rfl, ?_⟩
 refine .done aq (.le (aR := ⟨[(1, .fp (l4.row p) 0), (2, .ptr 102 0 0 0), (3, .ptr 103 0 0 0), (8, vi ic), (9, .ptr 109 0 0 0), (10, vi gx)], [(102, .cells [.v (.string ByteArray.empty), vn, vn, vn, vn, vn, vn, vn, vi 0, vi 0, vn]), (103, .cells [.v (.string nB), .aY 401 1 0 ar.length, .aY 402 6 0 bp.length, .fz 1 (b6.map ah), .fz 5 (bG.map dV.row), .fz 3 (ba.map bE.row), vn, vn, vi 0, vi 0, vn]), (109, .cells [vi aC.kind, vi aC.op, vi aC.out, .fz 1 (aC.args.map ah), .v (.int .u64 (aC.num : Int)), vi aC.mem]), (401, .rows 1 (ar.map ah)), (402, .rows 6 (bp.map Cell.row))]⟩) (Le.mk (.c4 (.c2 (.nil))) (.c4 (.c (.nil)))) (.sr ?_))
 refine .fa cL ?_
 refine .ld br ?_
 refine .vl (Y.neq rfl rfl) (.nil ?_)
 refine .aB rfl (fun oo => ?_) (fun oo => ?_)
 refine .seq (.sr ?_)
 refine .fa cL ?_
 refine .ld br ?_
 refine .vl (Y.neq rfl rfl) (.nil ?_)
 refine .aB rfl (fun wA => ?_) (fun wA => ?_)
 refine .sr ?_
 refine .fa bN ?_
 refine .ld bh ?_
 refine .vl (Y.len (n := ar.length) a7 rfl rfl) ?_
 refine .fa dx ?_
 refine .aj e8 rfl rfl rfl rfl rfl rfl (aH rfl) rfl (.nil (.region ?_))
 refine .fa bN ?_
 refine .ld bh ?_
 refine .mv ?_
 refine .buildSlice (([gx] : List Int).map ah) a7 e0 rfl rfl rfl rfl rfl (ay (s := 1) (f := ah) (fun _ => rfl)) rfl rfl rfl ae ?_
 refine .bs ((ar ++ ([gx] : List Int)).map ah) (ar ++ ([gx] : List Int)).length a7 e0 rfl rfl rfl rfl (bL bH) (bq bH) (cE bH) bH bH ae ae ?_
 refine .fa bN ?_
 refine .aj fg rfl rfl rfl rfl rfl rfl (aH rfl) rfl (.nil (.region ?_))
 refine .fa cb ?_
 refine .ld fD ?_
 refine .vl (Y.aM eb rfl rfl (aH rfl) rfl rfl) ?_
 refine .buildSlice (([(⟨aC.kind, aC.op, (ar.length : Int), aC.args, aC.num, aC.mem⟩ : Cell)] : List Cell).map Cell.row) dD dN rfl rfl rfl rfl rfl (ay (s := 6) (f := Cell.row) (fun _ => rfl)) rfl rfl rfl ae ?_
 refine .bs ((bp ++ ([(⟨aC.kind, aC.op, (ar.length : Int), aC.args, aC.num, aC.mem⟩ : Cell)] : List Cell)).map Cell.row) (bp ++ ([(⟨aC.kind, aC.op, (ar.length : Int), aC.args, aC.num, aC.mem⟩ : Cell)] : List Cell)).length dD dN rfl rfl rfl rfl (bL bH) (bq bH) (cE bH) bH bH ae ae ?_
 refine .fa cb ?_
 refine .aj ta rfl rfl rfl rfl rfl rfl (aH rfl) rfl (.nil ?_)
 exact ⟨ar ++ ([gx] : List Int), bp ++ ([(⟨aC.kind, aC.op, (ar.length : Int), aC.args, aC.num, aC.mem⟩ : Cell)] : List Cell), by first | exact ⟨lU.add om (fw.resolve_left cj) cj, by constructor <;> (simp only [List.length_append, List.length_cons, List.length_nil]; omega), by constructor <;> (simp only [List.length_append, List.length_cons, List.length_nil]; omega)⟩ | exact ⟨lU.qh om (fw.resolve_left cj) (Classical.not_not.1 cj), by constructor <;> (simp only [List.length_append, List.length_cons, List.length_nil]; omega), om⟩ | exact ⟨lU, om, om⟩, Le.mk (.c4 (.nil)) (.c (.cons (aS rfl kP) (.c2 (.nil))))⟩
 refine .skip (.region ?_)
 refine .fa cb ?_
 refine .ld fD ?_
 refine .vl (Y.aM eb rfl rfl (aH rfl) rfl rfl) ?_
 refine .buildSlice (([aC] : List Cell).map Cell.row) dD dN rfl rfl rfl rfl rfl (ay (s := 6) (f := Cell.row) (fun _ => rfl)) rfl rfl rfl ae ?_
 refine .bs ((bp ++ ([aC] : List Cell)).map Cell.row) (bp ++ ([aC] : List Cell)).length dD dN rfl rfl rfl rfl (bL bH) (bq bH) (cE bH) bH bH ae ae ?_
 refine .fa cb ?_
 refine .aj ta rfl rfl rfl rfl rfl rfl (aH rfl) rfl (.nil ?_)
 exact ⟨ar, bp ++ ([aC] : List Cell), by first | exact ⟨lU.add om (fw.resolve_left cj) cj, by constructor <;> (simp only [List.length_append, List.length_cons, List.length_nil]; omega), by constructor <;> (simp only [List.length_append, List.length_cons, List.length_nil]; omega)⟩ | exact ⟨lU.qh om (fw.resolve_left cj) (Classical.not_not.1 cj), by constructor <;> (simp only [List.length_append, List.length_cons, List.length_nil]; omega), om⟩ | exact ⟨lU, om, om⟩, Le.mk (.c4 (.nil)) (.c (.cons (aS rfl kP) (.c2 (.nil))))⟩
 refine .skip ?_
 exact ⟨ar, bp, by first | exact ⟨lU.add om (fw.resolve_left cj) cj, by constructor <;> (simp only [List.length_append, List.length_cons, List.length_nil]; omega), by constructor <;> (simp only [List.length_append, List.length_cons, List.length_nil]; omega)⟩ | exact ⟨lU.qh om (fw.resolve_left cj) (Classical.not_not.1 cj), by constructor <;> (simp only [List.length_append, List.length_cons, List.length_nil]; omega), om⟩ | exact ⟨lU, om, om⟩, Le.mk (.c4 (.nil)) (.c (.cons (aS rfl kP) (.c2 (.nil))))⟩
 refine .alloc 109 dN rfl rfl ae ?_
 refine .nil ⟨rfl, ?_⟩
 refine .one 6 rfl aq (.zp [401, 402] Iv (sG (n := (⟨nB, ar, bp, b6, bG, ba, [], [], 0, 0, []⟩ : ab)) (p := (p.parts.getD ic default)) (by show (ar).length ≤ 1048576; omega) (by show 0 < (ar).length; omega) (NO _ (getD_in om)) lU.ground (by show (b6).length ≤ 1048576; omega)) rfl (.agg (.ai rfl rfl (.cB rfl rfl (b8 om) (b9 om) (.cB rfl rfl (b8 om) (b9 om) (.ai rfl rfl (.ai rfl rfl (.ai rfl rfl (.ai rfl rfl (.ai rfl rfl (.ai rfl rfl (.ai rfl rfl (.ai rfl rfl .nil))))))))))) rfl (.ai rfl rfl .nil)) (er rfl (bl aD) (jL rfl (bl Cell.cy))) ae ?_)
 rintro _ ⟨aC, gx, fw, rfl, _⟩
 refine ⟨rfl, ⟨⟨trivial, trivial, trivial, (jI k0 _), trivial, trivial, trivial⟩, trivial, trivial⟩, ?_⟩
 refine .nil ⟨rfl, ?_⟩
 refine .one 7 rfl aq (.mR rfl ae ?_)
 refine .nil ⟨rfl, ?_⟩
 refine .blind 9 rfl aq (ao.extract rfl rfl rfl) ae (.one 8 rfl aq (.gp rfl rfl ae ?_))
 refine .nil ⟨rfl, ?_⟩
 refine .one 11 rfl aq (.sh (Sh.o7 (d := 127) (y := .agg [.v (.int .i64 aC.kind), .v (.int .i64 aC.op), .v (.int .i64 aC.out), .fz 1 (aC.args.map ah), .v (.int .u64 (aC.num : Int)), .v (.int .i64 aC.mem)]) rfl (by show X.lD (.agg [.v (.int .i64 aC.kind), .v (.int .i64 aC.op), .v (.int .i64 aC.out), .ep 1 (aC.args.map ah), .v (.int .u64 (aC.num : Int)), .v (.int .i64 aC.mem)]) = _; simp only [X.lD, X.iS, X.jK (da.map aD)])) (.aj eI rfl rfl rfl rfl rfl rfl (aH rfl) rfl ?_))
 refine .nil ⟨rfl, ?_⟩
 refine .one 12 rfl aq ?_
 refine .an ?_
 refine .nil ⟨rfl, ?_⟩
 refine .done aq (.le (aR := ⟨[(1, .fp (l4.row p) 0), (2, .ptr 102 0 0 0), (3, .ptr 103 0 0 0), (8, vi ic), (9, .ptr 109 0 0 0), (10, vi gx)], [(102, .cells [.v (.string ByteArray.empty), vn, vn, vn, vn, vn, vn, vn, vi 0, vi 0, vn]), (103, .cells [.v (.string nB), .aY 401 1 0 ar.length, .aY 402 6 0 bp.length, .fz 1 (b6.map ah), .fz 5 (bG.map dV.row), .fz 3 (ba.map bE.row), vn, vn, vi 0, vi 0, vn]), (109, .cells [vi aC.kind, vi aC.op, vi aC.out, .fz 1 (aC.args.map ah), .v (.int .u64 (aC.num : Int)), vi aC.mem]), (401, .rows 1 (ar.map ah)), (402, .rows 6 (bp.map Cell.row))]⟩) (Le.mk (.c4 (.c2 (.nil))) (.c4 (.c (.nil)))) (.sr ?_))
 refine .fa cL ?_
 refine .ld br ?_
 refine .vl (Y.neq rfl rfl) (.nil ?_)
 refine .aB rfl (fun oo => ?_) (fun oo => ?_)
 refine .seq (.sr ?_)
 refine .fa cL ?_
 refine .ld br ?_
 refine .vl (Y.neq rfl rfl) (.nil ?_)
 refine .aB rfl (fun wA => ?_) (fun wA => ?_)
 refine .sr ?_
 refine .fa bN ?_
 refine .ld bh ?_
 refine .vl (Y.len (n := ar.length) a7 rfl rfl) ?_
 refine .fa dx ?_
 refine .aj e8 rfl rfl rfl rfl rfl rfl (aH rfl) rfl (.nil (.region ?_))
 refine .fa bN ?_
 refine .ld bh ?_
 refine .mv ?_
 refine .buildSlice (([gx] : List Int).map ah) a7 e0 rfl rfl rfl rfl rfl (ay (s := 1) (f := ah) (fun _ => rfl)) rfl rfl rfl ae ?_
 refine .bs ((ar ++ ([gx] : List Int)).map ah) (ar ++ ([gx] : List Int)).length a7 e0 rfl rfl rfl rfl (bL bH) (bq bH) (cE bH) bH bH ae ae ?_
 refine .fa bN ?_
 refine .aj fg rfl rfl rfl rfl rfl rfl (aH rfl) rfl (.nil (.region ?_))
 refine .fa cb ?_
 refine .ld fD ?_
 refine .vl (Y.aM eb rfl rfl (aH rfl) rfl rfl) ?_
 refine .buildSlice (([(⟨aC.kind, aC.op, (ar.length : Int), aC.args, aC.num, aC.mem⟩ : Cell)] : List Cell).map Cell.row) dD dN rfl rfl rfl rfl rfl (ay (s := 6) (f := Cell.row) (fun _ => rfl)) rfl rfl rfl ae ?_
 refine .bs ((bp ++ ([(⟨aC.kind, aC.op, (ar.length : Int), aC.args, aC.num, aC.mem⟩ : Cell)] : List Cell)).map Cell.row) (bp ++ ([(⟨aC.kind, aC.op, (ar.length : Int), aC.args, aC.num, aC.mem⟩ : Cell)] : List Cell)).length dD dN rfl rfl rfl rfl (bL bH) (bq bH) (cE bH) bH bH ae ae ?_
 refine .fa cb ?_
 refine .aj ta rfl rfl rfl rfl rfl rfl (aH rfl) rfl (.nil ?_)
 exact ⟨ar ++ ([gx] : List Int), bp ++ ([(⟨aC.kind, aC.op, (ar.length : Int), aC.args, aC.num, aC.mem⟩ : Cell)] : List Cell), by first | exact ⟨lU.add om (fw.resolve_left cj) cj, by constructor <;> (simp only [List.length_append, List.length_cons, List.length_nil]; omega), by constructor <;> (simp only [List.length_append, List.length_cons, List.length_nil]; omega)⟩ | exact ⟨lU.qh om (fw.resolve_left cj) (Classical.not_not.1 cj), by constructor <;> (simp only [List.length_append, List.length_cons, List.length_nil]; omega), om⟩ | exact ⟨lU, om, om⟩, Le.mk (.c4 (.nil)) (.c (.cons (aS rfl kP) (.c2 (.nil))))⟩
 refine .skip (.region ?_)
 refine .fa cb ?_
 refine .ld fD ?_
 refine .vl (Y.aM eb rfl rfl (aH rfl) rfl rfl) ?_
 refine .buildSlice (([aC] : List Cell).map Cell.row) dD dN rfl rfl rfl rfl rfl (ay (s := 6) (f := Cell.row) (fun _ => rfl)) rfl rfl rfl ae ?_
 refine .bs ((bp ++ ([aC] : List Cell)).map Cell.row) (bp ++ ([aC] : List Cell)).length dD dN rfl rfl rfl rfl (bL bH) (bq bH) (cE bH) bH bH ae ae ?_
 refine .fa cb ?_
 refine .aj ta rfl rfl rfl rfl rfl rfl (aH rfl) rfl (.nil ?_)
 exact ⟨ar, bp ++ ([aC] : List Cell), by first | exact ⟨lU.add om (fw.resolve_left cj) cj, by constructor <;> (simp only [List.length_append, List.length_cons, List.length_nil]; omega), by constructor <;> (simp only [List.length_append, List.length_cons, List.length_nil]; omega)⟩ | exact ⟨lU.qh om (fw.resolve_left cj) (Classical.not_not.1 cj), by constructor <;> (simp only [List.length_append, List.length_cons, List.length_nil]; omega), om⟩ | exact ⟨lU, om, om⟩, Le.mk (.c4 (.nil)) (.c (.cons (aS rfl kP) (.c2 (.nil))))⟩
 refine .skip ?_
 exact ⟨ar, bp, by first | exact ⟨lU.add om (fw.resolve_left cj) cj, by constructor <;> (simp only [List.length_append, List.length_cons, List.length_nil]; omega), by constructor <;> (simp only [List.length_append, List.length_cons, List.length_nil]; omega)⟩ | exact ⟨lU.qh om (fw.resolve_left cj) (Classical.not_not.1 cj), by constructor <;> (simp only [List.length_append, List.length_cons, List.length_nil]; omega), om⟩ | exact ⟨lU, om, om⟩, Le.mk (.c4 (.nil)) (.c (.cons (aS rfl kP) (.c2 (.nil))))⟩
 refine .region ?_
 refine .mv ?_
 refine .vl (Y.aT rfl rfl om) ?_
 refine .an ?_
 refine .nil ?_
 exact ⟨ic + 1, jd, je, ⟨om, wz.1, wz.2.1, wz.2.2⟩, om, Le.mk (.c2 (.c (.cons (ak rfl b5) (.nil)))) (.c (.cons (aS rfl kP) (.c2 (.nil))))⟩
 refine .exit ?_
 refine .eP (fun (cq : List Cell) => ⟨[(1, .fp (l4.row p) 0), (2, .ptr 102 0 0 0), (3, .ptr 103 0 0 0)], [(102, .cells [.v (.string ByteArray.empty), vn, vn, vn, vn, vn, vn, vn, vi 0, vi 0, vn]), (103, .cells [.v (.string nB), .aY 401 1 0 ar.length, .aY 402 6 0 cq.length, .fz 1 (b6.map ah), .fz 5 (bG.map dV.row), .fz 3 (ba.map bE.row), vn, vn, vi 0, vi 0, vn]), (401, .rows 1 (ar.map ah)), (402, .rows 6 (cq.map Cell.row))]⟩) (fun cq => Gr (pn ar cq b6 bG ba) ∧ cq.length = bp.length) ?_ (fun cq FM => ?_)
 refine .sr ?_
 refine .an ?_
 refine .nil (.block ?_)
 refine .dT (fun (jo : Nat) (ie : List Cell) => ⟨[(1, .fp (l4.row p) 0), (2, .ptr 102 0 0 0), (3, .ptr 103 0 0 0), (11, vi jo)], [(102, .cells [.v (.string ByteArray.empty), vn, vn, vn, vn, vn, vn, vn, vi 0, vi 0, vn]), (103, .cells [.v (.string nB), .aY 401 1 0 ar.length, .aY 402 6 0 bp.length, .fz 1 (b6.map ah), .fz 5 (bG.map dV.row), .fz 3 (ba.map bE.row), vn, vn, vi 0, vi 0, vn]), (401, .rows 1 (ar.map ah)), (402, .rows 6 (ie.map Cell.row))]⟩) (fun jo ie => (ie.length = bp.length) ∧ (Gr (pn ar ie b6 bG ba)) ∧ (jo ≤ p.parts.length) ∧ (ie.length = bp.length)) (fun jo ie => p.parts.length - jo) 0 bp (⟨om, lU, om, rfl⟩) (Le.mk (.c2 (.c (.cons (ak rfl b5) (.nil)))) (.c4 (.nil))) (fun jo ie Ff => ?_)
 obtain ⟨OZ, Kt, Mv, DQ⟩ := Ff
 refine .seq (.sr ?_)
 refine .mv ?_
 refine .fa nZ ?_
 refine .ld vK ?_
 refine .vl (Y.len (n := p.parts.length) vN rfl dG) (.vl (Y.lss rfl rfl) ?_)
 refine .mv ?_
 refine .aE (d := 156) rfl (fun w7 => ?_) (fun w7 => ?_)
 refine .gw 156 (Y.move rfl rfl) (.gw 156 (Y.fieldAddr cb rfl rfl) (.gw 156 (Y.load fD rfl rfl rfl rfl) ?_))
 refine .gw 156 (Y.len (n := bp.length) dD rfl rfl) (.gw 156 (Y.lss rfl rfl) ?_)
 refine .pk ?_
 refine .nil ?_
 refine .aB rfl (fun NR => ?_) (fun NR => ?_)
 refine .skip (.seq (.block ?_))
 refine .region ?_
 refine .fa nZ ?_
 refine .ld vK ?_
 refine .mv ?_
 refine .vl (Y.aK (m := jo) vN rfl rfl b5 (ax (d := default) om)) (.vl (Y.aM EB rfl rfl (aH rfl) rfl rfl) ?_)
 refine .mv ?_
 refine .mL [103, 401, 402] [] Lr (y5 (nm := nB) (ws := ar) (cs := ie) (ins := b6) (aw := bG) (streams := ba) (f0 := 0) (d0 := 0) (p := (p.parts.getD jo default)) (i := jo) (cl := bp.length) om om om (NO _ (getD_in om)) om (Kt.Ep om)) rfl (.named rfl rfl (.ai rfl rfl (.ai rfl rfl .nil))) ⟨rfl, rfl, rfl, trivial⟩ rfl ae (fun _ h => by cases h) (fun _ h => by cases h) ae ae ?_
 rintro r bg ⟨rfl, rfl⟩ _
 refine ⟨⟨rfl, (by intro ob cA; simp only [List.mem_cons, List.not_mem_nil, or_false] at cA; rcases cA with rfl | rfl | rfl <;> rfl), .inl rfl⟩, ?_⟩
 refine .nil (.region ?_)
 refine .mv ?_
 refine .vl (Y.aT rfl rfl om) ?_
 refine .an ?_
 refine .nil ?_
 exact ⟨jo + 1, pV ar ie (p.parts.getD jo default) jo, ⟨bH, Kt.late om, om, (ss _ _).trans DQ⟩, om, Le.mk (.c2 (.c (.cons (ak rfl b5) (.nil)))) (.c4 (.nil))⟩
 refine .exit ?_
 exact ⟨ie, ⟨Kt, DQ⟩, Le.mk (.c2 (.c (.nil))) (.c (.cons (aS rfl kP) (.c2 (.nil))))⟩
 refine .gz 156 (.gz 156 (.gz 156 ?_))
 refine .gz 156 (.gz 156 ?_)
 refine .pk ?_
 refine .nil (.cX rfl (.exit ?_))
 exact ⟨ie, ⟨Kt, DQ⟩, Le.mk (.c2 (.c (.nil))) (.c (.cons (aS rfl kP) (.c2 (.nil))))⟩
 obtain ⟨FX, M9⟩ := FM
 refine .seq (.seq (.sh (Sh.eF 103 406 1 6 rfl rfl rfl rfl ae) ?_))
 refine .sh (Sh.eF 103 407 1 7 rfl rfl rfl rfl ae) (.sh (Sh.eF 103 410 1 10 rfl rfl rfl rfl ae) (.region ?_))
 refine .an ?_
 refine .nil (.block ?_)
 refine .iT (fun (bP : Nat) (cg : List Int) (cz : List Int) => ⟨[(1, .fp (l4.row p) 0), (2, .ptr 102 0 0 0), (3, .ptr 103 0 0 0), (12, vi bP)], [(102, .cells [.v (.string ByteArray.empty), vn, vn, vn, vn, vn, vn, vn, vi 0, vi 0, vn]), (103, .cells [.v (.string nB), .aY 401 1 0 ar.length, .aY 402 6 0 cq.length, .fz 1 (b6.map ah), .fz 5 (bG.map dV.row), .fz 3 (ba.map bE.row), .aY 406 1 0 cg.length, .aY 407 1 0 cz.length, vi 0, vi 0, .aY 410 1 0 0]), (401, .rows 1 (ar.map ah)), (402, .rows 6 (cq.map Cell.row)), (406, .rows 1 (cg.map ah)), (407, .rows 1 (cz.map ah)), (410, .rows 1 (([] : List Int).map ah))]⟩) (fun bP cg cz => ((bP : Int) ≤ (ba.length : Int)) ∧ (cg.length = bP) ∧ (cz.length = bP) ∧ (∀ j, j < bP → su ar ba cg cz j)) (fun bP cg cz => ((ba.length : Int) - (bP : Int)).toNat) 0 ([] : List Int) ([] : List Int) (⟨om, rfl, rfl, fun j hj => by omega⟩) (Le.mk (.c2 (.c (.cons (ak rfl b5) (.nil)))) (.c (.cons (aS rfl kP) (.c4 (.c (.nil)))))) (fun bP cg cz NS => ?_)
 obtain ⟨Rn, Db, uY, he⟩ := NS
 refine .seq (.sr ?_)
 refine .mv ?_
 refine .fa ef ?_
 refine .ld jS ?_
 refine .vl (Y.len (n := ba.length) gZ rfl dG) (.vl (Y.lss rfl rfl) (.nil ?_))
 refine .aB rfl (fun NT => ?_) (fun NT => ?_)
 refine .skip ?_
 refine .eP (fun (l2 : List Int) => ⟨[(1, .fp (l4.row p) 0), (2, .ptr 102 0 0 0), (3, .ptr 103 0 0 0), (12, vi bP)], [(102, .cells [.v (.string ByteArray.empty), vn, vn, vn, vn, vn, vn, vn, vi 0, vi 0, vn]), (103, .cells [.v (.string nB), .aY 401 1 0 ar.length, .aY 402 6 0 cq.length, .fz 1 (b6.map ah), .fz 5 (bG.map dV.row), .fz 3 (ba.map bE.row), .aY 406 1 0 ((cg ++ ([au ar 1 ((3 * bP) + 1)] : List Int)).length), .aY 407 1 0 ((cz ++ ([-1] : List Int)).length), vi 0, vi 0, .aY 410 1 0 0]), (401, .rows 1 (ar.map ah)), (402, .rows 6 (cq.map Cell.row)), (406, .rows 1 ((cg ++ ([au ar 1 ((3 * bP) + 1)] : List Int)).map ah)), (407, .rows 1 (l2.map ah)), (410, .rows 1 (([] : List Int).map ah))]⟩) (fun l2 => (l2.length = (cz ++ ([-1] : List Int)).length) ∧ (xa ar ba bP cz l2)) ?_ (fun l2 JF => ?_)
 refine .block (.seq ?_)
 refine .ei (⟨[(1, .fp (l4.row p) 0), (2, .ptr 102 0 0 0), (3, .ptr 103 0 0 0), (12, .v (.int .i64 (bP : Int)))], [(102, .cells [.v (.string ByteArray.empty), vn, vn, vn, vn, vn, vn, vn, .v (.int .i64 0), .v (.int .i64 0), vn]), (103, .cells [.v (.string nB), .aY 401 1 0 ar.length, .aY 402 6 0 cq.length, .fz 1 (b6.map ah), .fz 5 (bG.map dV.row), .fz 3 (ba.map bE.row), .aY 406 1 0 ((cg ++ ([au ar 1 ((3 * bP) + 1)] : List Int)).length), .aY 407 1 0 cz.length, .v (.int .i64 0), .v (.int .i64 0), .aY 410 1 0 0]), (401, .rows 1 (ar.map ah)), (402, .rows 6 (cq.map Cell.row)), (406, .rows 1 ((cg ++ ([au ar 1 ((3 * bP) + 1)] : List Int)).map ah)), (407, .rows 1 (cz.map ah)), (410, .rows 1 (([] : List Int).map ah))]⟩) rfl ?_ ?_
 refine .blind 0 rfl aq (ao.fieldAddr jQ rfl rfl) ae (.blind 3 rfl aq (ao.move rfl rfl) ae ?_)
 refine .blind 4 rfl aq (ao.bJ rfl rfl om) ae (.blind 5 rfl aq (ao.aT rfl rfl om) ae (.blind 6 rfl aq (ao.fo py sY rfl (by first | rfl | exact IntWalk.u8_in _ om)) ae (.uZ ?_)))
 refine .two 1 2 rfl rfl aq ?_ ?_
 refine .ld bh ?_
 refine .nil ⟨rfl, ?_⟩
 refine .one 2 rfl aq (.vl (Y.aM eh rfl rfl (aH rfl) rfl rfl) ?_)
 refine .nil ⟨rfl, ?_⟩
 refine .one 7 rfl aq (.iz [401, 402, 406, 407, 410] gA (iJ (n := (⟨nB, ar, cq, b6, bG, ba, cg, cz, 0, 0, ([] : List Int)⟩ : ab)) (w := 1) (k := ((3 * bP) + 1)) (by show (ar).length ≤ 1048576; omega) om) rfl (.agg (.ai rfl rfl (.cB rfl rfl (b8 bH) (b9 bH) (.cB rfl rfl (b8 bH) (b9 bH) (.ai rfl rfl (.ai rfl rfl (.ai rfl rfl (.cB rfl rfl (b8 bH) (b9 bH) (.cB rfl rfl (b8 bH) (b9 bH) (.ai rfl rfl (.ai rfl rfl (.cB rfl rfl (b8 bH) (b9 bH) .nil))))))))))) rfl (.ai rfl rfl (.ai rfl rfl .nil))) (er rfl (bl aD) (er rfl (bl Cell.cy) (er rfl (bl aD) (er rfl (bl aD) (jL rfl (bl aD)))))) ae rfl trivial ?_)
 refine .nil ⟨rfl, ?_⟩
 refine .one 8 rfl aq ?_
 refine .buildSlice (([au ar 1 ((3 * bP) + 1)] : List Int).map ah) a7 e0 rfl rfl rfl rfl rfl (ay (s := 1) (f := ah) (fun _ => rfl)) rfl rfl rfl ae ?_
 refine .nil ⟨rfl, ?_⟩
 refine .one 9 rfl aq (.bs ((cg ++ ([au ar 1 ((3 * bP) + 1)] : List Int)).map ah) (cg ++ ([au ar 1 ((3 * bP) + 1)] : List Int)).length a7 e0 rfl rfl rfl rfl (bL bH) (bq bH) (cE bH) bH bH ae ae ?_)
 refine .nil ⟨rfl, ?_⟩
 refine .one 10 rfl aq ?_
 refine .fa jQ ?_
 refine .nil ⟨rfl, ?_⟩
 refine .one 11 rfl aq (.aj fg rfl rfl rfl rfl rfl rfl (aH rfl) rfl ?_)
 refine .nil ⟨rfl, ?_⟩
 refine .done aq ?_
 exact Le.mk (.c4 (.nil)) (.c4 (.c2 (.c (.nil))))
 refine .vl (Y.aM eh rfl rfl (aH rfl) rfl rfl) ?_
 refine .nil ⟨rfl, ?_⟩
 refine .two 1 7 rfl rfl aq ?_ ?_
 refine .ld bh ?_
 refine .nil ⟨rfl, ?_⟩
 refine .one 7 rfl aq (.iz [401, 402, 406, 407, 410] gA (iJ (n := (⟨nB, ar, cq, b6, bG, ba, cg, cz, 0, 0, ([] : List Int)⟩ : ab)) (w := 1) (k := ((3 * bP) + 1)) (by show (ar).length ≤ 1048576; omega) om) rfl (.agg (.ai rfl rfl (.cB rfl rfl (b8 bH) (b9 bH) (.cB rfl rfl (b8 bH) (b9 bH) (.ai rfl rfl (.ai rfl rfl (.ai rfl rfl (.cB rfl rfl (b8 bH) (b9 bH) (.cB rfl rfl (b8 bH) (b9 bH) (.ai rfl rfl (.ai rfl rfl (.cB rfl rfl (b8 bH) (b9 bH) .nil))))))))))) rfl (.ai rfl rfl (.ai rfl rfl .nil))) (er rfl (bl aD) (er rfl (bl Cell.cy) (er rfl (bl aD) (er rfl (bl aD) (jL rfl (bl aD)))))) ae rfl trivial ?_)
 refine .nil ⟨rfl, ?_⟩
 refine .one 8 rfl aq ?_
 refine .buildSlice (([au ar 1 ((3 * bP) + 1)] : List Int).map ah) a7 e0 rfl rfl rfl rfl rfl (ay (s := 1) (f := ah) (fun _ => rfl)) rfl rfl rfl ae ?_
 refine .nil ⟨rfl, ?_⟩
 refine .one 9 rfl aq (.bs ((cg ++ ([au ar 1 ((3 * bP) + 1)] : List Int)).map ah) (cg ++ ([au ar 1 ((3 * bP) + 1)] : List Int)).length a7 e0 rfl rfl rfl rfl (bL bH) (bq bH) (cE bH) bH bH ae ae ?_)
 refine .nil ⟨rfl, ?_⟩
 refine .one 10 rfl aq ?_
 refine .fa jQ ?_
 refine .nil ⟨rfl, ?_⟩
 refine .one 11 rfl aq (.aj fg rfl rfl rfl rfl rfl rfl (aH rfl) rfl ?_)
 refine .nil ⟨rfl, ?_⟩
 refine .done aq ?_
 exact Le.mk (.c4 (.nil)) (.c4 (.c2 (.c (.nil))))
 refine .iz [401, 402, 406, 407, 410] gA (iJ (n := (⟨nB, ar, cq, b6, bG, ba, cg, cz, 0, 0, ([] : List Int)⟩ : ab)) (w := 1) (k := ((3 * bP) + 1)) (by show (ar).length ≤ 1048576; omega) om) rfl (.agg (.ai rfl rfl (.cB rfl rfl (b8 bH) (b9 bH) (.cB rfl rfl (b8 bH) (b9 bH) (.ai rfl rfl (.ai rfl rfl (.ai rfl rfl (.cB rfl rfl (b8 bH) (b9 bH) (.cB rfl rfl (b8 bH) (b9 bH) (.ai rfl rfl (.ai rfl rfl (.cB rfl rfl (b8 bH) (b9 bH) .nil))))))))))) rfl (.ai rfl rfl (.ai rfl rfl .nil))) (er rfl (bl aD) (er rfl (bl Cell.cy) (er rfl (bl aD) (er rfl (bl aD) (jL rfl (bl aD)))))) ae rfl trivial ?_
 refine .nil ⟨rfl, ?_⟩
 refine .two 1 8 rfl rfl aq ?_ ?_
 refine .ld bh ?_
 refine .nil ⟨rfl, ?_⟩
 refine .one 8 rfl aq ?_
 refine .buildSlice (([au ar 1 ((3 * bP) + 1)] : List Int).map ah) a7 e0 rfl rfl rfl rfl rfl (ay (s := 1) (f := ah) (fun _ => rfl)) rfl rfl rfl ae ?_
 refine .nil ⟨rfl, ?_⟩
 refine .one 9 rfl aq (.bs ((cg ++ ([au ar 1 ((3 * bP) + 1)] : List Int)).map ah) (cg ++ ([au ar 1 ((3 * bP) + 1)] : List Int)).length a7 e0 rfl rfl rfl rfl (bL bH) (bq bH) (cE bH) bH bH ae ae ?_)
 refine .nil ⟨rfl, ?_⟩
 refine .one 10 rfl aq ?_
 refine .fa jQ ?_
 refine .nil ⟨rfl, ?_⟩
 refine .one 11 rfl aq (.aj fg rfl rfl rfl rfl rfl rfl (aH rfl) rfl ?_)
 refine .nil ⟨rfl, ?_⟩
 refine .done aq ?_
 exact Le.mk (.c4 (.nil)) (.c4 (.c2 (.c (.nil))))
 refine .buildSlice (([au ar 1 ((3 * bP) + 1)] : List Int).map ah) a7 e0 rfl rfl rfl rfl rfl (ay (s := 1) (f := ah) (fun _ => rfl)) rfl rfl rfl ae ?_
 refine .nil ⟨rfl, ?_⟩
 refine .one 1 rfl aq ?_
 refine .ld bh ?_
 refine .nil ⟨rfl, ?_⟩
 refine .one 9 rfl aq (.bs ((cg ++ ([au ar 1 ((3 * bP) + 1)] : List Int)).map ah) (cg ++ ([au ar 1 ((3 * bP) + 1)] : List Int)).length a7 e0 rfl rfl rfl rfl (bL bH) (bq bH) (cE bH) bH bH ae ae ?_)
 refine .nil ⟨rfl, ?_⟩
 refine .one 10 rfl aq ?_
 refine .fa jQ ?_
 refine .nil ⟨rfl, ?_⟩
 refine .one 11 rfl aq (.aj fg rfl rfl rfl rfl rfl rfl (aH rfl) rfl ?_)
 refine .nil ⟨rfl, ?_⟩
 refine .done aq ?_
 exact Le.mk (.c4 (.nil)) (.c4 (.c2 (.c (.nil))))
 refine .le (aR := ⟨[(1, .fp (l4.row p) 0), (2, .ptr 102 0 0 0), (3, .ptr 103 0 0 0), (12, vi bP)], [(102, .cells [.v (.string ByteArray.empty), vn, vn, vn, vn, vn, vn, vn, vi 0, vi 0, vn]), (103, .cells [.v (.string nB), .aY 401 1 0 ar.length, .aY 402 6 0 cq.length, .fz 1 (b6.map ah), .fz 5 (bG.map dV.row), .fz 3 (ba.map bE.row), .aY 406 1 0 ((cg ++ ([au ar 1 ((3 * bP) + 1)] : List Int)).length), .aY 407 1 0 cz.length, vi 0, vi 0, .aY 410 1 0 0]), (401, .rows 1 (ar.map ah)), (402, .rows 6 (cq.map Cell.row)), (406, .rows 1 ((cg ++ ([au ar 1 ((3 * bP) + 1)] : List Int)).map ah)), (407, .rows 1 (cz.map ah)), (410, .rows 1 (([] : List Int).map ah))]⟩) (Le.mk (.c4 (.nil)) (.c4 (.c2 (.c (.nil))))) (.sr ?_)
 refine .fa kH ?_
 refine .ld bh ?_
 refine .buildSlice (([-1] : List Int).map ah) a7 e0 rfl rfl rfl rfl rfl (ay (s := 1) (f := ah) (fun _ => rfl)) rfl rfl rfl ae ?_
 refine .bs ((cz ++ ([-1] : List Int)).map ah) (cz ++ ([-1] : List Int)).length a7 e0 rfl rfl rfl rfl (bL bH) (bq bH) (cE bH) bH bH ae ae ?_
 refine .fa kH ?_
 refine .aj fg rfl rfl rfl rfl rfl rfl (aH rfl) rfl (.nil ?_)
 refine .le (aR := ⟨[(1, .fp (l4.row p) 0), (2, .ptr 102 0 0 0), (3, .ptr 103 0 0 0), (12, vi bP)], [(102, .cells [.v (.string ByteArray.empty), vn, vn, vn, vn, vn, vn, vn, vi 0, vi 0, vn]), (103, .cells [.v (.string nB), .aY 401 1 0 ar.length, .aY 402 6 0 cq.length, .fz 1 (b6.map ah), .fz 5 (bG.map dV.row), .fz 3 (ba.map bE.row), .aY 406 1 0 ((cg ++ ([au ar 1 ((3 * bP) + 1)] : List Int)).length), .aY 407 1 0 ((cz ++ ([-1] : List Int)).length), vi 0, vi 0, .aY 410 1 0 0]), (401, .rows 1 (ar.map ah)), (402, .rows 6 (cq.map Cell.row)), (406, .rows 1 ((cg ++ ([au ar 1 ((3 * bP) + 1)] : List Int)).map ah)), (407, .rows 1 ((cz ++ ([-1] : List Int)).map ah)), (410, .rows 1 (([] : List Int).map ah))]⟩) (Le.mk (.c4 (.nil)) (.c4 (.c2 (.c (.nil))))) (.sr ?_)
 refine .fa ef ?_
 refine .ld jS ?_
 refine .mv ?_
 refine .vl (Y.aK (m := bP) gZ rfl rfl b5 (ax (d := default) om)) ?_
 refine .fa kI ?_
 refine .ld vL ?_
 refine .nil ?_
 refine .cond rfl (fun NU => ?_) (fun NU => ?_)
 refine .eK [103] [102, 103, 401, 402, 406, 407, 410] rfl (.blind 0 rfl aq (ao.fieldAddr kH rfl rfl) ae (.load 1 rfl aq bh rfl rfl rfl rfl rfl ae ?_))
 refine .blind 2 rfl aq (ao.move rfl rfl) ae (.aM 3 rfl aq eh rfl rfl rfl (aH rfl) rfl rfl ae (.blind 4 rfl aq (ao.fieldAddr ef rfl rfl) ae ?_))
 refine .load 5 rfl aq jS rfl rfl rfl rfl rfl ae (.blind 6 rfl aq (ao.move rfl rfl) ae ?_)
 refine .blind 7 rfl aq (ao.aK (m := bP) gZ rfl rfl b5 (ax (d := default) om)) ae ?_
 refine .blind 8 rfl aq (ao.fieldAddr qW rfl rfl) ae (.load 9 rfl aq br rfl rfl rfl rfl rfl ae (.yn rfl rfl (bV.cells rfl rfl rfl bV.nil) ?_))
 refine .one 10 rfl aq (.iz [401, 402, 406, 407, 410] gA (iJ (n := (⟨nB, ar, cq, b6, bG, ba, cg ++ ([au ar 1 ((3 * bP) + 1)] : List Int), cz ++ ([-1] : List Int), 0, 0, ([] : List Int)⟩ : ab)) (w := ((ba.getD bP default).width)) (k := 255) (by show (ar).length ≤ 1048576; omega) om) rfl (.agg (.ai rfl rfl (.cB rfl rfl (b8 bH) (b9 bH) (.cB rfl rfl (b8 bH) (b9 bH) (.ai rfl rfl (.ai rfl rfl (.ai rfl rfl (.cB rfl rfl (b8 bH) (b9 bH) (.cB rfl rfl (b8 bH) (b9 bH) (.ai rfl rfl (.ai rfl rfl (.cB rfl rfl (b8 bH) (b9 bH) .nil))))))))))) rfl (.ai rfl rfl (.ai rfl rfl .nil))) (er rfl (bl aD) (er rfl (bl Cell.cy) (er rfl (bl aD) (er rfl (bl aD) (jL rfl (bl aD)))))) ae rfl trivial ?_)
 refine .nil ⟨rfl, ?_⟩
 refine .one 11 rfl aq (.vl (Y.bc (m := bP) a7 rfl rfl b5 bH) ?_)
 refine .nil ⟨rfl, ?_⟩
 refine .one 12 rfl aq (.dB (((cz ++ ([-1] : List Int)).set bP (au ar ((ba.getD bP default).width) 255)).map ah) e8 rfl rfl rfl rfl rfl rfl rfl (a8 (d := 0) bH) (aH rfl) (cp rfl) ?_)
 refine .nil ⟨rfl, ?_⟩
 refine .done aq ?_
 exact ⟨(cz ++ ([-1] : List Int)).set bP (au ar ((ba.getD bP default).width) 255), ⟨bH, by first | exact uo uY (cR (FX.ground.str (by show bP < ba.length; omega)).1 _) cj | exact uq uY (by simpa using cj)⟩, Le.mk (.c4 (.nil)) (.c4 (.c2 (.c (.nil))))⟩
 refine .skip ?_
 exact ⟨cz ++ ([-1] : List Int), ⟨om, by first | exact uo uY (cR (FX.ground.str (by show bP < ba.length; omega)).1 _) cj | exact uq uY (by simpa using cj)⟩, Le.mk (.c4 (.nil)) (.c4 (.c2 (.c (.nil))))⟩
 obtain ⟨GN, JG⟩ := JF
 refine .region ?_
 refine .mv ?_
 refine .vl (Y.aT rfl rfl om) ?_
 refine .an ?_
 refine .nil ?_
 exact ⟨bP + 1, cg ++ ([au ar 1 ((3 * bP) + 1)] : List Int), l2, ⟨om, by rw [List.length_append, Db]; rfl, JG.1, xG Db he (cR FX.ground.one _) JG⟩, om, Le.mk (.c2 (.c (.cons (ak rfl b5) (.nil)))) (.c (.cons (aS rfl kP) (.c4 (.c (.nil)))))⟩
 refine .exit (.seq (.sr ?_))
 refine .an ?_
 refine .nil (.block ?_)
 refine .dT (fun (dR : Nat) (dK : List Int) => ⟨[(1, .fp (l4.row p) 0), (2, .ptr 102 0 0 0), (3, .ptr 103 0 0 0), (13, vi dR)], [(102, .cells [.v (.string ByteArray.empty), vn, vn, vn, vn, vn, vn, vn, vi 0, vi 0, vn]), (103, .cells [.v (.string nB), .aY 401 1 0 ar.length, .aY 402 6 0 cq.length, .fz 1 (b6.map ah), .fz 5 (bG.map dV.row), .fz 3 (ba.map bE.row), .aY 406 1 0 cg.length, .aY 407 1 0 cz.length, vi 0, vi 0, .aY 410 1 0 dK.length]), (401, .rows 1 (ar.map ah)), (402, .rows 6 (cq.map Cell.row)), (406, .rows 1 (cg.map ah)), (407, .rows 1 (cz.map ah)), (410, .rows 1 (dK.map ah))]⟩) (fun dR dK => ((dR : Int) ≤ (p.bI.length : Int)) ∧ (∀ m ∈ dK, In m ar.length) ∧ (dK.length = dR)) (fun dR dK => ((p.bI.length : Int) - (dR : Int)).toNat) 0 ([] : List Int) (⟨om, fun m h => (by cases h), rfl⟩) (Le.mk (.c2 (.c (.cons (ak rfl b5) (.nil)))) (.c (.cons (aS rfl kP) (.c4 (.c (.nil)))))) (fun dR dK NV => ?_)
 obtain ⟨Ro, hr, CK⟩ := NV
 refine .seq (.sr ?_)
 refine .mv ?_
 refine .fa vI ?_
 refine .ld xL ?_
 refine .vl (Y.len (n := p.bI.length) xM rfl dG) (.vl (Y.lss rfl rfl) (.nil ?_))
 refine .aB rfl (fun NW => ?_) (fun NW => ?_)
 refine .skip (.seq (.block ?_))
 have wj := hk.bI (p.bI.getD dR 0) (getD_in om)
 refine .ei (⟨[(1, .fp (l4.row p) 0), (2, .ptr 102 0 0 0), (3, .ptr 103 0 0 0), (13, .v (.int .i64 (dR : Int)))], [(102, .cells [.v (.string ByteArray.empty), vn, vn, vn, vn, vn, vn, vn, .v (.int .i64 0), .v (.int .i64 0), vn]), (103, .cells [.v (.string nB), .aY 401 1 0 ar.length, .aY 402 6 0 cq.length, .fz 1 (b6.map ah), .fz 5 (bG.map dV.row), .fz 3 (ba.map bE.row), .aY 406 1 0 cg.length, .aY 407 1 0 cz.length, .v (.int .i64 0), .v (.int .i64 0), .aY 410 1 0 ((dK ++ ([((p.bI.getD dR 0 : Nat) : Int) % (ar.length : Int)] : List Int)).length)]), (401, .rows 1 (ar.map ah)), (402, .rows 6 (cq.map Cell.row)), (406, .rows 1 (cg.map ah)), (407, .rows 1 (cz.map ah)), (410, .rows 1 ((dK ++ ([((p.bI.getD dR 0 : Nat) : Int) % (ar.length : Int)] : List Int)).map ah))]⟩) rfl ?_ ?_
 refine .blind 0 rfl aq (ao.fieldAddr jy rfl rfl) ae (.blind 2 rfl aq (ao.fieldAddr vI rfl rfl) ae (.load 3 rfl aq xL rfl rfl rfl rfl rfl ae ?_))
 refine .blind 4 rfl aq (ao.move rfl rfl) ae (.blind 5 rfl aq (ao.aK (m := dR) xM rfl rfl b5 (ax (d := 0) om)) ae (.load 6 rfl aq pW rfl rfl rfl rfl rfl ae (.blind 7 rfl aq (ao.fo sY py rfl v3) ae ?_)))
 refine .blind 8 rfl aq (ao.fieldAddr bN rfl rfl) ae (.uZ ?_)
 refine .two 1 9 rfl rfl aq ?_ ?_
 refine .ld bh ?_
 refine .nil ⟨rfl, ?_⟩
 refine .one 9 rfl aq ?_
 refine .ld bh ?_
 refine .nil ⟨rfl, ?_⟩
 refine .one 10 rfl aq (.vl (Y.len (n := ar.length) a7 rfl rfl) ?_)
 refine .nil ⟨rfl, ?_⟩
 refine .one 11 rfl aq (.vl (Y.jH rfl rfl om) ?_)
 refine .nil ⟨rfl, ?_⟩
 refine .one 12 rfl aq ?_
 refine .buildSlice (([((p.bI.getD dR 0 : Nat) : Int) % (ar.length : Int)] : List Int).map ah) a7 e0 rfl rfl rfl rfl rfl (ay (s := 1) (f := ah) (fun _ => rfl)) rfl rfl rfl ae ?_
 refine .nil ⟨rfl, ?_⟩
 refine .one 13 rfl aq (.bs ((dK ++ ([((p.bI.getD dR 0 : Nat) : Int) % (ar.length : Int)] : List Int)).map ah) (dK ++ ([((p.bI.getD dR 0 : Nat) : Int) % (ar.length : Int)] : List Int)).length a7 e0 rfl rfl rfl rfl (bL bH) (bq bH) (cE bH) bH bH ae ae ?_)
 refine .nil ⟨rfl, ?_⟩
 refine .one 14 rfl aq ?_
 refine .fa jy ?_
 refine .nil ⟨rfl, ?_⟩
 refine .one 15 rfl aq (.aj fg rfl rfl rfl rfl rfl rfl (aH rfl) rfl ?_)
 refine .nil ⟨rfl, ?_⟩
 refine .done aq ?_
 exact Le.mk (.c4 (.nil)) (.c4 (.c2 (.c (.nil))))
 refine .ld bh ?_
 refine .nil ⟨rfl, ?_⟩
 refine .two 1 10 rfl rfl aq ?_ ?_
 refine .ld bh ?_
 refine .nil ⟨rfl, ?_⟩
 refine .one 10 rfl aq (.vl (Y.len (n := ar.length) a7 rfl rfl) ?_)
 refine .nil ⟨rfl, ?_⟩
 refine .one 11 rfl aq (.vl (Y.jH rfl rfl om) ?_)
 refine .nil ⟨rfl, ?_⟩
 refine .one 12 rfl aq ?_
 refine .buildSlice (([((p.bI.getD dR 0 : Nat) : Int) % (ar.length : Int)] : List Int).map ah) a7 e0 rfl rfl rfl rfl rfl (ay (s := 1) (f := ah) (fun _ => rfl)) rfl rfl rfl ae ?_
 refine .nil ⟨rfl, ?_⟩
 refine .one 13 rfl aq (.bs ((dK ++ ([((p.bI.getD dR 0 : Nat) : Int) % (ar.length : Int)] : List Int)).map ah) (dK ++ ([((p.bI.getD dR 0 : Nat) : Int) % (ar.length : Int)] : List Int)).length a7 e0 rfl rfl rfl rfl (bL bH) (bq bH) (cE bH) bH bH ae ae ?_)
 refine .nil ⟨rfl, ?_⟩
 refine .one 14 rfl aq ?_
 refine .fa jy ?_
 refine .nil ⟨rfl, ?_⟩
 refine .one 15 rfl aq (.aj fg rfl rfl rfl rfl rfl rfl (aH rfl) rfl ?_)
 refine .nil ⟨rfl, ?_⟩
 refine .done aq ?_
 exact Le.mk (.c4 (.nil)) (.c4 (.c2 (.c (.nil))))
 refine .vl (Y.len (n := ar.length) a7 rfl rfl) ?_
 refine .nil ⟨rfl, ?_⟩
 refine .blind 11 rfl aq (ao.jH rfl rfl om) ae ?_
 refine .two 1 12 rfl rfl aq ?_ ?_
 refine .ld bh ?_
 refine .nil ⟨rfl, ?_⟩
 refine .one 12 rfl aq ?_
 refine .buildSlice (([((p.bI.getD dR 0 : Nat) : Int) % (ar.length : Int)] : List Int).map ah) a7 e0 rfl rfl rfl rfl rfl (ay (s := 1) (f := ah) (fun _ => rfl)) rfl rfl rfl ae ?_
 refine .nil ⟨rfl, ?_⟩
 refine .one 13 rfl aq (.bs ((dK ++ ([((p.bI.getD dR 0 : Nat) : Int) % (ar.length : Int)] : List Int)).map ah) (dK ++ ([((p.bI.getD dR 0 : Nat) : Int) % (ar.length : Int)] : List Int)).length a7 e0 rfl rfl rfl rfl (bL bH) (bq bH) (cE bH) bH bH ae ae ?_)
 refine .nil ⟨rfl, ?_⟩
 refine .one 14 rfl aq ?_
 refine .fa jy ?_
 refine .nil ⟨rfl, ?_⟩
 refine .one 15 rfl aq (.aj fg rfl rfl rfl rfl rfl rfl (aH rfl) rfl ?_)
 refine .nil ⟨rfl, ?_⟩
 refine .done aq ?_
 exact Le.mk (.c4 (.nil)) (.c4 (.c2 (.c (.nil))))
 refine .buildSlice (([((p.bI.getD dR 0 : Nat) : Int) % (ar.length : Int)] : List Int).map ah) a7 e0 rfl rfl rfl rfl rfl (ay (s := 1) (f := ah) (fun _ => rfl)) rfl rfl rfl ae ?_
 refine .nil ⟨rfl, ?_⟩
 refine .one 1 rfl aq ?_
 refine .ld bh ?_
 refine .nil ⟨rfl, ?_⟩
 refine .one 13 rfl aq (.bs ((dK ++ ([((p.bI.getD dR 0 : Nat) : Int) % (ar.length : Int)] : List Int)).map ah) (dK ++ ([((p.bI.getD dR 0 : Nat) : Int) % (ar.length : Int)] : List Int)).length a7 e0 rfl rfl rfl rfl (bL bH) (bq bH) (cE bH) bH bH ae ae ?_)
 refine .nil ⟨rfl, ?_⟩
 refine .one 14 rfl aq ?_
 refine .fa jy ?_
 refine .nil ⟨rfl, ?_⟩
 refine .one 15 rfl aq (.aj fg rfl rfl rfl rfl rfl rfl (aH rfl) rfl ?_)
 refine .nil ⟨rfl, ?_⟩
 refine .done aq ?_
 exact Le.mk (.c4 (.nil)) (.c4 (.c2 (.c (.nil))))
 refine .region ?_
 refine .mv ?_
 refine .vl (Y.aT rfl rfl om) ?_
 refine .an ?_
 refine .nil ?_
 exact ⟨dR + 1, dK ++ ([((p.bI.getD dR 0 : Nat) : Int) % (ar.length : Int)] : List Int), ⟨om, qw hr (sR (n := pn ar cq b6 bG ba) FX.ground (by show 0 < ar.length; omega)), by rw [List.length_append, CK]; rfl⟩, om, Le.mk (.c2 (.c (.cons (ak rfl b5) (.nil)))) (.c (.cons (aS rfl kP) (.c4 (.c (.nil)))))⟩
 refine .exit (.sr (.vl (Y.aM eh rfl rfl (aH rfl) rfl rfl) ?_))
 refine .fa nZ ?_
 refine .ld vK ?_
 refine .vl (Y.len (n := p.parts.length) vN rfl dG) (.vl (Y.fo py sY rfl (by first | rfl | exact IntWalk.u8_in _ om)) (.iz [401, 402, 406, 407, 410] gA (iJ (n := (⟨nB, ar, cq, b6, bG, ba, cg, cz, 0, 0, dK⟩ : ab)) (w := 1) (k := p.parts.length) (by show (ar).length ≤ 1048576; omega) om) rfl (.agg (.ai rfl rfl (.cB rfl rfl (b8 om) (b9 om) (.cB rfl rfl (b8 om) (b9 om) (.ai rfl rfl (.ai rfl rfl (.ai rfl rfl (.cB rfl rfl (b8 om) (b9 om) (.cB rfl rfl (b8 om) (b9 om) (.ai rfl rfl (.ai rfl rfl (.cB rfl rfl (b8 om) (b9 om) .nil))))))))))) rfl (.ai rfl rfl (.ai rfl rfl .nil))) (er rfl (bl aD) (er rfl (bl Cell.cy) (er rfl (bl aD) (er rfl (bl aD) (jL rfl (bl aD)))))) ae rfl trivial ?_))
 refine .fa nY ?_
 refine .aj e8 rfl rfl rfl rfl rfl rfl (aH rfl) rfl (.nil (.sr ?_))
 refine .vl (Y.aM eh rfl rfl (aH rfl) rfl rfl) ?_
 refine .fa nZ ?_
 refine .ld vK ?_
 refine .vl (Y.len (n := p.parts.length) vN rfl dG) (.vl (Y.bJ rfl rfl om) (.vl (Y.aT rfl rfl om) (.vl (Y.conv py sY rfl (u6 ((7 * p.parts.length) + 1))) (.iz [401, 402, 406, 407, 410] gA (iJ (n := (⟨nB, ar, cq, b6, bG, ba, cg, cz, au ar 1 p.parts.length, 0, dK⟩ : ab)) (w := 1) (k := (((7 * p.parts.length) + 1) % 256)) (by show (ar).length ≤ 1048576; omega) om) rfl (.agg (.ai rfl rfl (.cB rfl rfl (b8 om) (b9 om) (.cB rfl rfl (b8 om) (b9 om) (.ai rfl rfl (.ai rfl rfl (.ai rfl rfl (.cB rfl rfl (b8 om) (b9 om) (.cB rfl rfl (b8 om) (b9 om) (.ai rfl rfl (.ai rfl rfl (.cB rfl rfl (b8 om) (b9 om) .nil))))))))))) rfl (.ai rfl rfl (.ai rfl rfl .nil))) (er rfl (bl aD) (er rfl (bl Cell.cy) (er rfl (bl aD) (er rfl (bl aD) (jL rfl (bl aD)))))) ae rfl trivial ?_))))
 refine .fa qU ?_
 refine .aj e8 rfl rfl rfl rfl rfl rfl (aH rfl) rfl (.nil (.seq ?_))
 refine .sh (Sh.oZ 103 406 6 rfl rfl rfl (bu om) (da.map aD) ae rfl rfl rfl) (.sh (Sh.oZ 103 407 7 rfl rfl rfl (bu om) (da.map aD) ae rfl rfl rfl) (.sh (Sh.oZ 103 410 10 rfl rfl rfl (bu om) (da.map aD) ae rfl rfl rfl) ?_))
 refine .region (.vl (Y.aM eh rfl rfl (aH rfl) rfl rfl) (.aj Cd rfl rfl rfl rfl rfl rfl (aH rfl) rfl ?_))
 refine .nil (.ret ?_)
 exact ⟨_, rfl, _, _, _, (Sh.IP (d := 0) 1 401 rfl rfl rfl rF rfl ae).then (Sh.IP (d := 0) 2 402 rfl rfl rfl rF rfl ae), rfl, rfl, (⟨nB, ar, cq, b6, bG, ba, cg, cz, au ar 1 p.parts.length, au ar 1 (((7 * p.parts.length) + 1) % 256), dK⟩ : ab), (FX.made om om om om om om (fun m h => (hm m h).1) (fun m h => (hs m h).1) om om (fun j hj => he j om) hr (cR FX.ground.one _) (cR FX.ground.one _)), rfl, rfl⟩
end Go.Proofs.Ytligpghohcfpnaa
/- Walks through Gj, Drivers, Ordered. -/
namespace Go.Proofs.Ytligpghohcfpnaa
open Go Go.AW Go.Proofs
theorem AN {p : l4} : az Try.prog 18 [.agg (l4.row p)] [] [] (fun r o => r = .v (.bool (decide (p.Gj))) ∧ o = []) := by
 refine az.of Try.func18 rfl rfl rfl (n := 31) ae (aH rfl) (.sr (.box 101 rfl rfl rfl rfl rfl ae ?_))
 refine .an ?_
 refine .nil (.sr ?_)
 refine .fa sT ?_
 refine .ld ur ?_
 refine .vl (Y.len (n := p.aw.length) uu rfl dG) (.vl (Y.leq rfl rfl) ?_)
 refine .mv ?_
 refine .aE (d := 7) rfl (fun c7 => ?_) (fun c7 => ?_)
 refine .gw 7 (Y.fieldAddr sU rfl rfl) (.gw 7 (Y.load ur rfl rfl rfl rfl) (.gw 7 (Y.len (n := p.streams.length) uu rfl dG) ?_))
 refine .gw 7 (Y.leq rfl rfl) ?_
 refine .pk ?_
 refine .mv ?_
 refine .aE (d := 13) rfl (fun xk => ?_) (fun xk => ?_)
 refine .gw 13 (Y.fieldAddr vH rfl rfl) (.gw 13 (Y.load xL rfl rfl rfl rfl) (.gw 13 (Y.len (n := p.ins.length) xM rfl dG) ?_))
 refine .gw 13 (Y.leq rfl rfl) ?_
 refine .pk ?_
 refine .mv ?_
 refine .aE (d := 19) rfl (fun s0 => ?_) (fun s0 => ?_)
 refine .gw 19 (Y.fieldAddr nZ rfl rfl) (.gw 19 (Y.load vK rfl rfl rfl rfl) (.gw 19 (Y.len (n := p.parts.length) vN rfl dG) ?_))
 refine .gw 19 (Y.leq rfl rfl) ?_
 refine .pk ?_
 refine .mv ?_
 refine .aE (d := 25) rfl (fun yo => ?_) (fun yo => ?_)
 refine .gw 25 (Y.fieldAddr vI rfl rfl) (.gw 25 (Y.load xL rfl rfl rfl rfl) (.gw 25 (Y.len (n := p.bI.length) xM rfl dG) ?_))
 refine .gw 25 (Y.leq rfl rfl) ?_
 refine .pk ?_
 refine .an ?_
 refine .nil (.ret ?_)
 exact .rb rfl (dd ⟨fun h => ⟨om, om, om, om, om⟩, fun h => by have h5 := h.bI; omega⟩)
 refine .gz 25 (.gz 25 (.gz 25 ?_))
 refine .gz 25 ?_
 refine .pk ?_
 refine .an ?_
 refine .nil (.ret ?_)
 exact .rb rfl (df (fun h => by have h1 := h.aw; have h2 := h.streams; have h3 := h.ins; have h4 := h.parts; have h5 := h.bI; omega))
 refine .gz 19 (.gz 19 (.gz 19 ?_))
 refine .gz 19 ?_
 refine .pk ?_
 refine .mv ?_
 refine .gz 25 (.gz 25 (.gz 25 ?_))
 refine .gz 25 ?_
 refine .pk ?_
 refine .an ?_
 refine .nil (.ret ?_)
 exact .rb rfl (df (fun h => by have h1 := h.aw; have h2 := h.streams; have h3 := h.ins; have h4 := h.parts; have h5 := h.bI; omega))
 refine .gz 13 (.gz 13 (.gz 13 ?_))
 refine .gz 13 ?_
 refine .pk ?_
 refine .mv ?_
 refine .gz 19 (.gz 19 (.gz 19 ?_))
 refine .gz 19 ?_
 refine .pk ?_
 refine .mv ?_
 refine .gz 25 (.gz 25 (.gz 25 ?_))
 refine .gz 25 ?_
 refine .pk ?_
 refine .an ?_
 refine .nil (.ret ?_)
 exact .rb rfl (df (fun h => by have h1 := h.aw; have h2 := h.streams; have h3 := h.ins; have h4 := h.parts; have h5 := h.bI; omega))
 refine .gz 7 (.gz 7 (.gz 7 ?_))
 refine .gz 7 ?_
 refine .pk ?_
 refine .mv ?_
 refine .gz 13 (.gz 13 (.gz 13 ?_))
 refine .gz 13 ?_
 refine .pk ?_
 refine .mv ?_
 refine .gz 19 (.gz 19 (.gz 19 ?_))
 refine .gz 19 ?_
 refine .pk ?_
 refine .mv ?_
 refine .gz 25 (.gz 25 (.gz 25 ?_))
 refine .gz 25 ?_
 refine .pk ?_
 refine .an ?_
 refine .nil (.ret ?_)
 exact .rb rfl (df (fun h => by have h1 := h.aw; have h2 := h.streams; have h3 := h.ins; have h4 := h.parts; have h5 := h.bI; omega))
end Go.Proofs.Ytligpghohcfpnaa
/- The walk of TimingSlack. -/
namespace Go.Proofs.Ytligpghohcfpnaa
open Go Go.AW Go.Proofs
theorem pM {p : l4} {a : Int} (hk : p.Ok) (ha : -32768 ≤ a ∧ a ≤ 32767) : az Try.prog 14 [.agg (l4.row p), .v (.int .i16 a)] [] [] (fun r o => r = .v (.bool true) ∧ o = []) := by
 refine az.of Try.func14 rfl rfl rfl (n := 73) ae (aH rfl) (.sr (.box 102 rfl rfl rfl rfl rfl ae ?_))
 refine .an ?_
 refine .nil (.seq (.sr ?_))
 refine .aP It (pa) rfl .nil ae rfl (.vl (Y.not rfl) ?_)
 refine .mv ?_
 refine .gw 14 (Y.aM I2 rfl rfl (aH rfl) rfl rfl) (.aO (d := 14) rfl ae rfl (.aP Lo (AN (p := p)) rfl (.ai rfl rfl .nil) ae rfl ?_))
 refine .gw 14 (Y.not rfl) ?_
 refine .pk ?_
 refine .nil ?_
 refine .cond rfl (fun JH => ?_) (fun JH => ?_)
 replace JH : ¬ (p.Gj) := by simpa using JH
 refine .sr (.aP It (pa) rfl .nil ae rfl ?_)
 refine .an ?_
 refine .nil (.ret ?_)
 exact .rb rfl (rfl)
 replace JH : p.Gj := by simpa using JH
 refine .skip (.sr (.vl (Y.aM I2 rfl rfl (aH rfl) rfl rfl) ?_))
 refine .kz Lp (y6 (p := p) cj hk) rfl (.ai rfl rfl .nil) ae ?_
 rintro _ ⟨qn, tF, rfl, _⟩
 refine ⟨rfl, ?_⟩
 refine .alloc 105 xN rfl rfl ae (.sh (Sh.Ai (d := 21) 1 921 qn.aa.length rfl rfl rfl ae (bu rfl)) (.sh (Sh.Ai (d := 21) 2 922 qn.cells.length rfl rfl rfl ae (bu rfl)) ?_))
 refine .aj Cd rfl rfl rfl rfl rfl rfl (aH rfl) rfl (.nil (.seq ?_))
 refine .sh (Sh.oZ 105 921 1 rfl rfl rfl (bu om) (da.map aD) ae rfl rfl rfl) (.sh (Sh.oZ 105 922 2 rfl rfl rfl (bu om) (da.map Cell.cy) ae rfl rfl rfl) (.sh (Sh.dc 105 rfl rfl) ?_))
 have hs := tF.small; have hf := tF.formed; have Kq := tF.fit; have Kr := tF.acyclic; have xW := tF.cK; have Cz := tF.cv; have Gh := tF.sS; have o9 := tF.ir; have hM := tF.vp.vt
 refine .region (.vl (Y.aM eh rfl rfl (aH rfl) rfl rfl) ?_)
 refine .mv ?_
 refine .vl (Y.fo I5 py rfl (by first | rfl | exact IntWalk.i64_in _ bw)) (.kz LI (w8 (n := qn) (p := a) hM om) rfl (.ai rfl rfl (.ai rfl rfl .nil)) ae ?_)
 rintro _ ⟨AO, Pa, CI, wB, NX, JI, rfl, _⟩
 refine ⟨rfl, ?_⟩
 refine .mR rfl ae (.gp rfl rfl ae (.vl (Y.extract rfl rfl rfl) ?_))
 refine .dU rfl ae (.sh (Sh.dF (d := 6) (CI.map ah) rfl kq (da.map aD)) ?_)
 refine .an ?_
 refine .nil (.seq (.seq ?_))
 have EX := JI.len; have Mh := (oQ hM wB).cl.len
 refine .region ?_
 refine .mv ?_
 refine .vl (Y.neq rfl rfl) ?_
 refine .mv ?_
 refine .gw 31 (Y.move rfl rfl) (.gw 31 (Y.len (n := CI.length) a7 rfl dG) (.gw 31 (Y.fieldAddr bN rfl rfl) ?_))
 refine .gw 31 (Y.load bh rfl rfl rfl rfl) (.gw 31 (Y.len (n := qn.aa.length) a7 rfl dG) (.gw 31 (Y.neq rfl rfl) ?_))
 refine .pk ?_
 refine .nil ?_
 refine .aB rfl (fun Nu => ?_) (fun Nu => ?_)
 exfalso; omega
 refine .skip (.seq (.eJ rfl ?_))
 refine .aM 0 rfl aq eh rfl rfl rfl (aH rfl) rfl rfl ae (.aM 2 rfl aq eh rfl rfl rfl (aH rfl) rfl rfl ae (.uZ ?_))
 refine .one 1 rfl aq (.kz LH (uA (n := qn) hM) rfl (.ai rfl rfl .nil) ae ?_)
 rintro _ ⟨uP, FY, rfl, _⟩
 refine ⟨rfl, ?_⟩
 refine .nil ⟨rfl, ?_⟩
 refine .one 3 rfl aq (.aP LJ (rS (n := qn) hM wB (oQ hM wB)) rfl (.ai rfl rfl .nil) ae rfl ?_)
 refine .nil ⟨rfl, ?_⟩
 refine .one 4 rfl aq (.dU rfl ae (.sh (Sh.dF (d := 8) (uP.map ah) rfl kq (da.map aD)) ?_))
 refine .nil ⟨rfl, ?_⟩
 refine .one 5 rfl aq ?_
 refine .an ?_
 refine .nil ⟨rfl, ?_⟩
 refine .done aq (.seq (.seq ?_))
 have he := NX.uniq hf wB FY; have Db := FY.len; have Bk := oQ hM wB
 refine .region ?_
 refine .mv ?_
 refine .vl (Y.len (n := CI.length) a7 rfl dG) ?_
 refine .mv ?_
 refine .nil (.block ?_)
 refine .lZ (fun (gM : Nat) => ⟨[(1, .v (.int .i16 a)), (6, .fz 1 (CI.map ah)), (8, .fz 1 (uP.map ah)), (9, .fz 1 ((jX qn AO).map ah)), (44, vi CI.length), (45, vi gM)], []⟩) (fun gM => ((gM : Int) ≤ (CI.length : Int))) (fun gM => ((CI.length : Int) - (gM : Int)).toNat) 0 om (Le.mk (.c4 (.c (.cons (ak rfl b5) (.nil)))) (.nil)) (fun gM Rp => ?_)
 have Sg := Rp
 refine .sr (.vl (Y.lss rfl rfl) (.nil ?_))
 refine .seq ?_
 refine .aB rfl (fun EY => ?_) (fun EY => ?_)
 refine .skip (.seq (.block ?_))
 refine .seq ?_
 have wj : In (gM : Int) qn.aa.length := (by unfold In; omega); have NA := FY.nz hM wB wj; have y9 := Bk.cl.lo _ wj; have NB := Bk.le hM wB wj; rw [Int.toNat_natCast] at NA y9 NB; have Pb := JI.at_ gM om; rw [he] at Pb
 refine .region ?_
 refine .mv ?_
 refine .an ?_
 refine .nil (.sr ?_)
 refine .mv ?_
 refine .vl (Y.fo I5 py rfl (by first | rfl | exact IntWalk.i64_in _ bw)) ?_
 refine .an ?_
 refine .nil ?_
 refine .eP (fun (lV : Int) => ⟨[(1, .v (.int .i16 a)), (6, .fz 1 (CI.map ah)), (8, .fz 1 (uP.map ah)), (9, .fz 1 ((jX qn AO).map ah)), (10, vi gM), (11, vi lV), (44, vi CI.length), (45, vi gM)], []⟩) (fun lV => lV = (if (jX qn AO).getD gM 0 ≥ 0 then a - (uP.getD gM 0 + (jX qn AO).getD gM 0) else a)) ?_ (fun lV FJ => ?_)
 refine .sr ?_
 refine .mv ?_
 refine .mv ?_
 refine .vl (Y.aK (m := gM) a7 rfl rfl b5 (ax (d := 0) om)) ?_
 refine .ld br ?_
 refine .vl (Y.geq rfl rfl) (.nil ?_)
 refine .aB rfl (fun DA => ?_) (fun DA => ?_)
 refine .gX rfl aq (.val (Y.move rfl rfl) ae (.val (Y.move rfl rfl) ae ?_))
 refine .val (Y.move rfl rfl) ae (.val (Y.aK (m := gM) a7 rfl rfl b5 (ax (d := 0) om)) ae ?_)
 refine .val (Y.load br rfl rfl rfl rfl) ae (.val (Y.move rfl rfl) ae (.val (Y.move rfl rfl) ae ?_))
 refine .val (Y.aK (m := gM) a7 rfl rfl b5 (ax (d := 0) om)) ae (.val (Y.load br rfl rfl rfl rfl) ae (.val (Y.aT rfl rfl om) ae (.val (Y.iy rfl rfl om) ae ?_)))
 refine .val (Y.assign rfl rfl) ae (.nil ?_)
 exact ⟨a - ((uP.getD gM 0) + ((jX qn AO).getD gM 0)), by rw [if_pos cj], Le.mk (.c4 (.c (.cons (ak rfl b5) (.c2 (.nil))))) (.nil)⟩
 refine .skip ?_
 exact ⟨a, by rw [if_neg cj], Le.mk (.c4 (.c (.cons (ak rfl b5) (.c2 (.nil))))) (.nil)⟩
 refine .sr ?_
 refine .mv ?_
 refine .mv ?_
 refine .vl (Y.aK (m := gM) a7 rfl rfl b5 (ax (d := 0) om)) ?_
 refine .ld br ?_
 refine .mv ?_
 refine .vl (Y.neq rfl rfl) (.nil ?_)
 refine .aB rfl (fun Ks => ?_) (fun Ks => ?_)
 exfalso; exact Ks (by rw [Pb, FJ]; split <;> omega)
 refine .skip (.region ?_)
 refine .vl (Y.aT rfl rfl bw) ?_
 refine .mv ?_
 refine .nil ?_
 exact ⟨gM + 1, om, om, Le.mk (.c4 (.c (.cons (ak rfl b5) (.nil)))) (.nil)⟩
 refine .exit (.sr ?_)
 refine .an ?_
 refine .nil (.ret ?_)
 exact .rb rfl (rfl)
end Go.Proofs.Ytligpghohcfpnaa
