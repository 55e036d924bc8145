/- The walk of Made. -/
import Derived.Test.YtligpghohcfpnaaNetx0
import Derived.Test.YtligpghohcfpnaaNetx2
import Derived.Test.YtligpghohcfpnaaAWx2
set_option linter.unusedSimpArgs false
set_option linter.unusedVariables false
set_option linter.unusedSectionVars false
set_option maxRecDepth 4000
set_option maxHeartbeats 8000000
namespace Go.Proofs.Ytligpghohcfpnaa
open Go Go.AW Go.Proofs
theorem made_spec {p : Pln} (hf : p.Few) (hk : p.Ok) : ACalls Try.prog 19 [.agg (Pln.row p)] [] [] (fun r o => ∃ n, MadeP n ∧ r = .agg (Netlist.orow n) ∧ o = []) := by
 refine ACalls.ofS Try.func19 rfl rfl rfl (n := 252) (by decide) (Nat.le_of_ble_eq_true rfl) ?_
 have hf1 := hf.mems; have hf2 := hf.streams; have hf3 := hf.ins; have hf4 := hf.parts; have hf5 := hf.rets; have hpp := hk.parts
 refine AWp.sr (AOps.box 101 rfl rfl rfl rfl rfl (by decide) (AOps.alloc 102 ze27 rfl rfl (by decide) ?_))
 refine AOps.nil (AWp.sr (.vl (Y.build pl27 ze27 rfl rfl rfl) ?_))
 refine AOps.alloc 103 ze27 rfl rfl (by decide) (AOps.storeC si27 rfl rfl rfl rfl rfl rfl (Nat.le_of_ble_eq_true rfl) rfl (AOps.nil ?_))
 refine AWp.seq (AWp.seq (AWp.sh (Sh.freezeO 101 rfl rfl) ?_))
 refine AWp.sh (Sh.nilCell 103 401 1 1 rfl rfl rfl rfl (by decide)) (AWp.sh (Sh.nilCell 103 402 6 2 rfl rfl rfl rfl (by decide)) (AWp.sh (Sh.nilCell 103 403 1 3 rfl rfl rfl rfl (by decide)) ?_))
 refine AWp.sh (Sh.nilCell 103 404 5 4 rfl rfl rfl rfl (by decide)) (AWp.sh (Sh.nilCell 103 405 3 5 rfl rfl rfl rfl (by decide)) (AWp.region ?_))
 refine .an ?_
 refine AOps.nil (AWp.block ?_)
 refine AWp.loop3 (fun (i4_3 : Nat) (n301_3 : List Int) (n302_3 : List Cell) => ⟨[(1, .fp (Pln.row p) 0), (2, .ptr 102 0 0 0), (3, .ptr 103 0 0 0), (4, vi (i4_3 : Int))], [(102, .cells [.v (.string ByteArray.empty), .v (.slice none 0 0), .v (.slice none 0 0), .v (.slice none 0 0), .v (.slice none 0 0), .v (.slice none 0 0), .v (.slice none 0 0), .v (.slice none 0 0), vi 0, vi 0, .v (.slice none 0 0)]), (103, .cells [.v (.string nB), .slc 401 1 0 n301_3.length, .slc 402 6 0 n302_3.length, .slc 403 1 0 0, .slc 404 5 0 0, .slc 405 3 0 0, .v (.slice none 0 0), .v (.slice none 0 0), vi 0, vi 0, .v (.slice none 0 0)]), (401, .rows 1 (n301_3.map irow)), (402, .rows 6 (n302_3.map Cell.row)), (403, .rows 1 (([] : List Int).map irow)), (404, .rows 5 (([] : List Arr).map Arr.row)), (405, .rows 3 (([] : List Strm).map Strm.row))]⟩) (fun (i4_3 : Nat) (n301_3 : List Int) (n302_3 : List Cell) => ((i4_3 : Int) ≤ 8) ∧ (n301_3 = w0L i4_3) ∧ (n302_3 = c0L i4_3) ∧ (n301_3.length = i4_3) ∧ (n302_3.length = i4_3)) (fun (i4_3 : Nat) (n301_3 : List Int) (n302_3 : List Cell) => (8 - (i4_3 : Int)).toNat) 0 ([] : List Int) ([] : List Cell) (⟨by omega, rfl, rfl, rfl, rfl⟩) (Le.mk (.c (.c (.c (.cons (look_int rfl (by first | rfl | omega)) (.nil))))) (.c (.cons (look_cells rfl (by first | rfl | (simp only [List.cons.injEq, X.v.injEq, X.slc.injEq, Value.int.injEq, and_true, true_and]; omega) | simp_all)) (.c (.c (.c (.c (.c (.nil))))))))) (fun i4_3 n301_3 n302_3 hI3 => ?_)
 obtain ⟨hb3, hw0, hc0, hwl0, hcl0⟩ := hI3
 refine AWp.seq (AWp.sr ?_)
 refine .mv ?_
 refine .vl (Y.lss rfl rfl) (AOps.nil ?_)
 refine AWp.condD rfl (fun c16 => ?_) (fun c16 => ?_)
 refine AWp.skip (AWp.seq (AWp.block ?_))
 refine AWp.seq ?_
 refine AWp.regionHeldJ0 (⟨[(1, .fp (Pln.row p) 0), (2, .ptr 102 0 0 0), (3, .ptr 103 0 0 0), (4, .v (.int .i64 (i4_3 : Int)))], [(102, .cells [.v (.string ByteArray.empty), .v (.slice none 0 0), .v (.slice none 0 0), .v (.slice none 0 0), .v (.slice none 0 0), .v (.slice none 0 0), .v (.slice none 0 0), .v (.slice none 0 0), .v (.int .i64 0), .v (.int .i64 0), .v (.slice none 0 0)]), (103, .cells [.v (.string nB), .slc 401 1 0 ((n301_3 ++ ([widthN i4_3] : List Int)).length), .slc 402 6 0 n302_3.length, .slc 403 1 0 0, .slc 404 5 0 0, .slc 405 3 0 0, .v (.slice none 0 0), .v (.slice none 0 0), .v (.int .i64 0), .v (.int .i64 0), .v (.slice none 0 0)]), (401, .rows 1 ((n301_3 ++ ([widthN i4_3] : List Int)).map irow)), (402, .rows 6 (n302_3.map Cell.row)), (403, .rows 1 (([] : List Int).map irow)), (404, .rows 5 (([] : List Arr).map Arr.row)), (405, .rows 3 (([] : List Strm).map Strm.row))]⟩) rfl ?_ ?_
 refine AFirst.blind 0 rfl (by kernel_rfl) (Blind.fieldAddr fl27_1 rfl rfl) (by decide) (AFirst.blind 2 rfl (by kernel_rfl) (Blind.move rfl rfl) (by decide) ?_)
 refine AFirst.blind 3 rfl (by kernel_rfl) (Blind.convK ii3 ii5 rfl (by first | rfl | exact IntWalk.u8_in _ (by omega))) (by decide) ?_
 refine AFirst.go0 ?_
 refine AHeld.two 1 4 rfl rfl (by kernel_rfl) ?_ ?_
 refine .ld sh22 ?_
 refine AOps.nil ⟨rfl, ?_⟩
 refine AHeld.one 4 rfl (by kernel_rfl) (AOps.callP ok53 (width_spec (k := i4_3)) rfl (.keep rfl rfl .nil) (by decide) rfl ?_)
 refine AOps.nil ⟨rfl, ?_⟩
 refine AHeld.one 5 rfl (by kernel_rfl) ?_
 refine AOps.buildSlice (([widthN i4_3] : List Int).map irow) sl22 ze3 rfl rfl rfl rfl rfl (uniform_map (s := 1) (f := irow) (fun _ => rfl)) rfl rfl rfl (by decide) ?_
 refine AOps.nil ⟨rfl, ?_⟩
 refine AHeld.one 6 rfl (by kernel_rfl) ?_
 refine AOps.appendE ((n301_3 ++ ([widthN i4_3] : List Int)).map irow) (n301_3 ++ ([widthN i4_3] : List Int)).length sl22 ze3 rfl rfl rfl rfl (app_le (by first | omega | (simp only [lateN_len]; omega) | (simp [-List.getD_eq_getElem?_getD]; done) | (simp [-List.getD_eq_getElem?_getD]; omega))) (app_map (by first | omega | (simp only [lateN_len]; omega) | (simp [-List.getD_eq_getElem?_getD]; done) | (simp [-List.getD_eq_getElem?_getD]; omega))) (app_n (by first | omega | (simp only [lateN_len]; omega) | (simp [-List.getD_eq_getElem?_getD]; done) | (simp [-List.getD_eq_getElem?_getD]; omega))) (by first | omega | (simp only [lateN_len]; omega) | (simp [-List.getD_eq_getElem?_getD]; done) | (simp [-List.getD_eq_getElem?_getD]; omega)) (by first | omega | (simp only [lateN_len]; omega) | (simp [-List.getD_eq_getElem?_getD]; done) | (simp [-List.getD_eq_getElem?_getD]; omega)) (by decide) (by decide) ?_
 refine AOps.nil ⟨rfl, ?_⟩
 refine AHeld.one 7 rfl (by kernel_rfl) ?_
 refine .fa fl27_1 ?_
 refine AOps.nil ⟨rfl, ?_⟩
 refine AHeld.one 8 rfl (by kernel_rfl) (AOps.storeC si22 rfl rfl rfl rfl rfl rfl (Nat.le_of_ble_eq_true rfl) rfl ?_)
 refine AOps.nil ⟨rfl, ?_⟩
 refine AHeld.done (by kernel_rfl) ?_
 exact Le.mk (.c (.c (.c (.c (.nil))))) (.c (.c (.c (.c (.c (.c (.c (.nil))))))))
 refine AOps.callP ok53 (width_spec (k := i4_3)) rfl (.keep rfl rfl .nil) (by decide) rfl ?_
 refine AOps.nil ⟨rfl, ?_⟩
 refine AHeld.two 1 5 rfl rfl (by kernel_rfl) ?_ ?_
 refine .ld sh22 ?_
 refine AOps.nil ⟨rfl, ?_⟩
 refine AHeld.one 5 rfl (by kernel_rfl) ?_
 refine AOps.buildSlice (([widthN i4_3] : List Int).map irow) sl22 ze3 rfl rfl rfl rfl rfl (uniform_map (s := 1) (f := irow) (fun _ => rfl)) rfl rfl rfl (by decide) ?_
 refine AOps.nil ⟨rfl, ?_⟩
 refine AHeld.one 6 rfl (by kernel_rfl) ?_
 refine AOps.appendE ((n301_3 ++ ([widthN i4_3] : List Int)).map irow) (n301_3 ++ ([widthN i4_3] : List Int)).length sl22 ze3 rfl rfl rfl rfl (app_le (by first | omega | (simp only [lateN_len]; omega) | (simp [-List.getD_eq_getElem?_getD]; done) | (simp [-List.getD_eq_getElem?_getD]; omega))) (app_map (by first | omega | (simp only [lateN_len]; omega) | (simp [-List.getD_eq_getElem?_getD]; done) | (simp [-List.getD_eq_getElem?_getD]; omega))) (app_n (by first | omega | (simp only [lateN_len]; omega) | (simp [-List.getD_eq_getElem?_getD]; done) | (simp [-List.getD_eq_getElem?_getD]; omega))) (by first | omega | (simp only [lateN_len]; omega) | (simp [-List.getD_eq_getElem?_getD]; done) | (simp [-List.getD_eq_getElem?_getD]; omega)) (by first | omega | (simp only [lateN_len]; omega) | (simp [-List.getD_eq_getElem?_getD]; done) | (simp [-List.getD_eq_getElem?_getD]; omega)) (by decide) (by decide) ?_
 refine AOps.nil ⟨rfl, ?_⟩
 refine AHeld.one 7 rfl (by kernel_rfl) ?_
 refine .fa fl27_1 ?_
 refine AOps.nil ⟨rfl, ?_⟩
 refine AHeld.one 8 rfl (by kernel_rfl) (AOps.storeC si22 rfl rfl rfl rfl rfl rfl (Nat.le_of_ble_eq_true rfl) rfl ?_)
 refine AOps.nil ⟨rfl, ?_⟩
 refine AHeld.done (by kernel_rfl) ?_
 exact Le.mk (.c (.c (.c (.c (.nil))))) (.c (.c (.c (.c (.c (.c (.c (.nil))))))))
 refine AOps.buildSlice (([widthN i4_3] : List Int).map irow) sl22 ze3 rfl rfl rfl rfl rfl (uniform_map (s := 1) (f := irow) (fun _ => rfl)) rfl rfl rfl (by decide) ?_
 refine AOps.nil ⟨rfl, ?_⟩
 refine AHeld.one 1 rfl (by kernel_rfl) ?_
 refine .ld sh22 ?_
 refine AOps.nil ⟨rfl, ?_⟩
 refine AHeld.one 6 rfl (by kernel_rfl) ?_
 refine AOps.appendE ((n301_3 ++ ([widthN i4_3] : List Int)).map irow) (n301_3 ++ ([widthN i4_3] : List Int)).length sl22 ze3 rfl rfl rfl rfl (app_le (by first | omega | (simp only [lateN_len]; omega) | (simp [-List.getD_eq_getElem?_getD]; done) | (simp [-List.getD_eq_getElem?_getD]; omega))) (app_map (by first | omega | (simp only [lateN_len]; omega) | (simp [-List.getD_eq_getElem?_getD]; done) | (simp [-List.getD_eq_getElem?_getD]; omega))) (app_n (by first | omega | (simp only [lateN_len]; omega) | (simp [-List.getD_eq_getElem?_getD]; done) | (simp [-List.getD_eq_getElem?_getD]; omega))) (by first | omega | (simp only [lateN_len]; omega) | (simp [-List.getD_eq_getElem?_getD]; done) | (simp [-List.getD_eq_getElem?_getD]; omega)) (by first | omega | (simp only [lateN_len]; omega) | (simp [-List.getD_eq_getElem?_getD]; done) | (simp [-List.getD_eq_getElem?_getD]; omega)) (by decide) (by decide) ?_
 refine AOps.nil ⟨rfl, ?_⟩
 refine AHeld.one 7 rfl (by kernel_rfl) ?_
 refine .fa fl27_1 ?_
 refine AOps.nil ⟨rfl, ?_⟩
 refine AHeld.one 8 rfl (by kernel_rfl) (AOps.storeC si22 rfl rfl rfl rfl rfl rfl (Nat.le_of_ble_eq_true rfl) rfl ?_)
 refine AOps.nil ⟨rfl, ?_⟩
 refine AHeld.done (by kernel_rfl) ?_
 exact Le.mk (.c (.c (.c (.c (.nil))))) (.c (.c (.c (.c (.c (.c (.c (.nil))))))))
 refine AWp.le (st' := ⟨[(1, .fp (Pln.row p) 0), (2, .ptr 102 0 0 0), (3, .ptr 103 0 0 0), (4, vi (i4_3 : Int))], [(102, .cells [.v (.string ByteArray.empty), .v (.slice none 0 0), .v (.slice none 0 0), .v (.slice none 0 0), .v (.slice none 0 0), .v (.slice none 0 0), .v (.slice none 0 0), .v (.slice none 0 0), vi 0, vi 0, .v (.slice none 0 0)]), (103, .cells [.v (.string nB), .slc 401 1 0 ((n301_3 ++ ([widthN i4_3] : List Int)).length), .slc 402 6 0 n302_3.length, .slc 403 1 0 0, .slc 404 5 0 0, .slc 405 3 0 0, .v (.slice none 0 0), .v (.slice none 0 0), vi 0, vi 0, .v (.slice none 0 0)]), (401, .rows 1 ((n301_3 ++ ([widthN i4_3] : List Int)).map irow)), (402, .rows 6 (n302_3.map Cell.row)), (403, .rows 1 (([] : List Int).map irow)), (404, .rows 5 (([] : List Arr).map Arr.row)), (405, .rows 3 (([] : List Strm).map Strm.row))]⟩) (Le.mk (.c (.c (.c (.c (.nil))))) (.c (.c (.c (.c (.c (.c (.c (.nil))))))))) ?_
 refine AWp.region ?_
 refine .fa fl27_2 ?_
 refine .ld sh23 ?_
 refine .mv ?_
 refine .mv ?_
 refine .vl (Y.remI rfl rfl (by omega)) ?_
 refine .vl (Y.convK ii3 ii37 rfl (by first | rfl | exact IntWalk.u64_in _ (by omega))) ?_
 refine .vl (Y.build pl39 ze39 rfl rfl rfl) (AOps.sh (Sh.fzA (d := 33) 1 3 rfl rfl) ?_)
 refine AOps.buildSlice (([(⟨1, 0, (i4_3 : Int), ([] : List Int), i4_3 % 2, 0⟩ : Cell)] : List Cell).map Cell.row) sl23 ze39 rfl rfl rfl rfl rfl (uniform_map (s := 6) (f := Cell.row) (fun _ => rfl)) rfl rfl rfl (by decide) ?_
 refine AOps.appendE ((n302_3 ++ ([(⟨1, 0, (i4_3 : Int), ([] : List Int), i4_3 % 2, 0⟩ : Cell)] : List Cell)).map Cell.row) (n302_3 ++ ([(⟨1, 0, (i4_3 : Int), ([] : List Int), i4_3 % 2, 0⟩ : Cell)] : List Cell)).length sl23 ze39 rfl rfl rfl rfl (app_le (by first | omega | (simp only [lateN_len]; omega) | (simp [-List.getD_eq_getElem?_getD]; done) | (simp [-List.getD_eq_getElem?_getD]; omega))) (app_map (by first | omega | (simp only [lateN_len]; omega) | (simp [-List.getD_eq_getElem?_getD]; done) | (simp [-List.getD_eq_getElem?_getD]; omega))) (app_n (by first | omega | (simp only [lateN_len]; omega) | (simp [-List.getD_eq_getElem?_getD]; done) | (simp [-List.getD_eq_getElem?_getD]; omega))) (by first | omega | (simp only [lateN_len]; omega) | (simp [-List.getD_eq_getElem?_getD]; done) | (simp [-List.getD_eq_getElem?_getD]; omega)) (by first | omega | (simp only [lateN_len]; omega) | (simp [-List.getD_eq_getElem?_getD]; done) | (simp [-List.getD_eq_getElem?_getD]; omega)) (by decide) (by decide) ?_
 refine .fa fl27_2 ?_
 refine AOps.storeC si23 rfl rfl rfl rfl rfl rfl (Nat.le_of_ble_eq_true rfl) rfl (AOps.nil (AWp.region ?_))
 refine .mv ?_
 refine .vl (Y.addI rfl rfl (by omega)) ?_
 refine .an ?_
 refine AOps.nil ?_
 exact ⟨i4_3 + 1, n301_3 ++ ([widthN i4_3] : List Int), n302_3 ++ ([(⟨1, 0, (i4_3 : Int), ([] : List Int), i4_3 % 2, 0⟩ : Cell)] : List Cell), ⟨by omega, by rw [hw0]; exact (w0L_succ _).symm, by rw [hc0]; exact (c0L_succ _).symm, by rw [List.length_append, hwl0]; rfl, by rw [List.length_append, hcl0]; rfl⟩, by omega, Le.mk (.c (.c (.c (.cons (look_int rfl (by first | rfl | omega)) (.nil))))) (.c (.cons (look_cells rfl (by first | rfl | (simp only [List.cons.injEq, X.v.injEq, X.slc.injEq, Value.int.injEq, and_true, true_and]; omega) | simp_all)) (.c (.c (.c (.c (.c (.nil))))))))⟩
 refine AWp.exit (AWp.seq (AWp.sr ?_))
 refine .an ?_
 refine AOps.nil (AWp.block ?_)
 refine AWp.loop2 (fun (i5_8 : Nat) (n304_8 : List Arr) => ⟨[(1, .fp (Pln.row p) 0), (2, .ptr 102 0 0 0), (3, .ptr 103 0 0 0), (5, vi (i5_8 : Int))], [(102, .cells [.v (.string ByteArray.empty), .v (.slice none 0 0), .v (.slice none 0 0), .v (.slice none 0 0), .v (.slice none 0 0), .v (.slice none 0 0), .v (.slice none 0 0), .v (.slice none 0 0), vi 0, vi 0, .v (.slice none 0 0)]), (103, .cells [.v (.string nB), .slc 401 1 0 n301_3.length, .slc 402 6 0 n302_3.length, .slc 403 1 0 0, .slc 404 5 0 n304_8.length, .slc 405 3 0 0, .v (.slice none 0 0), .v (.slice none 0 0), vi 0, vi 0, .v (.slice none 0 0)]), (401, .rows 1 (n301_3.map irow)), (402, .rows 6 (n302_3.map Cell.row)), (403, .rows 1 (([] : List Int).map irow)), (404, .rows 5 (n304_8.map Arr.row)), (405, .rows 3 (([] : List Strm).map Strm.row))]⟩) (fun (i5_8 : Nat) (n304_8 : List Arr) => ((i5_8 : Int) ≤ ((p.mems.length : Nat) : Int)) ∧ (∀ m ∈ n304_8, MemOK m ∧ ∃ k, m.width = widthN k) ∧ (n304_8.length = i5_8)) (fun (i5_8 : Nat) (n304_8 : List Arr) => (((p.mems.length : Nat) : Int) - (i5_8 : Int)).toNat) 0 ([] : List Arr) (⟨by omega, fun m h => (by cases h), rfl⟩) (Le.mk (.c (.c (.c (.cons (look_int rfl (by first | rfl | omega)) (.nil))))) (.c (.cons (look_cells rfl (by first | rfl | (simp only [List.cons.injEq, X.v.injEq, X.slc.injEq, Value.int.injEq, and_true, true_and]; omega) | simp_all)) (.c (.c (.c (.c (.c (.nil))))))))) (fun i5_8 n304_8 hI8 => ?_)
 obtain ⟨hb8, hm, hml⟩ := hI8
 refine AWp.seq (AWp.sr ?_)
 refine .mv ?_
 refine .fa fl36_0 ?_
 refine .ld sh32 ?_
 refine .vl (Y.len (n := p.mems.length) sl32 rfl (congrArg some (List.length_map ..))) (.vl (Y.lss rfl rfl) (AOps.nil ?_))
 refine AWp.condD rfl (fun c41 => ?_) (fun c41 => ?_)
 refine AWp.skip (AWp.seq (AWp.block ?_))
 have hk1 := hk.mems (p.mems.getD i5_8 default) (getD_in (by omega))
 refine AWp.regionHeldJ0 (⟨[(1, .fp (Pln.row p) 0), (2, .ptr 102 0 0 0), (3, .ptr 103 0 0 0), (5, .v (.int .i64 (i5_8 : Int)))], [(102, .cells [.v (.string ByteArray.empty), .v (.slice none 0 0), .v (.slice none 0 0), .v (.slice none 0 0), .v (.slice none 0 0), .v (.slice none 0 0), .v (.slice none 0 0), .v (.slice none 0 0), .v (.int .i64 0), .v (.int .i64 0), .v (.slice none 0 0)]), (103, .cells [.v (.string nB), .slc 401 1 0 n301_3.length, .slc 402 6 0 n302_3.length, .slc 403 1 0 0, .slc 404 5 0 ((n304_8 ++ ([(⟨mB, widthN ((p.mems.getD i5_8 default).a), 1 + ((((p.mems.getD i5_8 default).b : Nat) : Int) % 9), 0, 0⟩ : Arr)] : List Arr)).length), .slc 405 3 0 0, .v (.slice none 0 0), .v (.slice none 0 0), .v (.int .i64 0), .v (.int .i64 0), .v (.slice none 0 0)]), (401, .rows 1 (n301_3.map irow)), (402, .rows 6 (n302_3.map Cell.row)), (403, .rows 1 (([] : List Int).map irow)), (404, .rows 5 ((n304_8 ++ ([(⟨mB, widthN ((p.mems.getD i5_8 default).a), 1 + ((((p.mems.getD i5_8 default).b : Nat) : Int) % 9), 0, 0⟩ : Arr)] : List Arr)).map Arr.row)), (405, .rows 3 (([] : List Strm).map Strm.row))]⟩) rfl ?_ ?_
 refine AFirst.blind 0 rfl (by kernel_rfl) (Blind.fieldAddr fl27_4 rfl rfl) (by decide) (AFirst.blind 2 rfl (by kernel_rfl) (Blind.fieldAddr fl36_0 rfl rfl) (by decide) (AFirst.load 3 rfl (by kernel_rfl) sh32 rfl rfl rfl rfl rfl (by decide) ?_))
 refine AFirst.blind 4 rfl (by kernel_rfl) (Blind.move rfl rfl) (by decide) ?_
 refine AFirst.blind 5 rfl (by kernel_rfl) (Blind.indexF (m := i5_8) sl32 rfl rfl (by first | rfl | omega) (row_getD (d := default) (by omega))) (by decide) ?_
 refine AFirst.blind 6 rfl (by kernel_rfl) (Blind.indexP ar81 rfl rfl (m := 0) rfl (by omega) rfl) (by decide) (AFirst.load 7 rfl (by kernel_rfl) sh5 rfl rfl rfl rfl rfl (by decide) (AFirst.blind 9 rfl (by kernel_rfl) (Blind.fieldAddr fl36_0 rfl rfl) (by decide) ?_))
 refine AFirst.load 10 rfl (by kernel_rfl) sh32 rfl rfl rfl rfl rfl (by decide) (AFirst.blind 11 rfl (by kernel_rfl) (Blind.move rfl rfl) (by decide) ?_)
 refine AFirst.blind 12 rfl (by kernel_rfl) (Blind.indexF (m := i5_8) sl32 rfl rfl (by first | rfl | omega) (row_getD (d := default) (by omega))) (by decide) ?_
 refine AFirst.blind 13 rfl (by kernel_rfl) (Blind.indexP ar81 rfl rfl (m := 1) rfl (by omega) rfl) (by decide) (AFirst.load 14 rfl (by kernel_rfl) sh5 rfl rfl rfl rfl rfl (by decide) ?_)
 refine AFirst.blind 15 rfl (by kernel_rfl) (Blind.remI rfl rfl (by omega)) (by decide) ?_
 refine AFirst.blind 16 rfl (by kernel_rfl) (Blind.convK ii5 ii3 rfl (by first | rfl | exact IntWalk.i64_in _ (by omega))) (by decide) ?_
 refine AFirst.blind 17 rfl (by kernel_rfl) (Blind.addI rfl rfl (by omega)) (by decide) ?_
 refine AFirst.go0 ?_
 refine AHeld.two 1 8 rfl rfl (by kernel_rfl) ?_ ?_
 refine .ld sh24 ?_
 refine AOps.nil ⟨rfl, ?_⟩
 refine AHeld.one 8 rfl (by kernel_rfl) (AOps.callP ok53 (width_spec (k := ((p.mems.getD i5_8 default).a))) rfl (.keep rfl rfl .nil) (by decide) rfl ?_)
 refine AOps.nil ⟨rfl, ?_⟩
 refine AHeld.one 18 rfl (by kernel_rfl) (.vl (Y.build pl48 ze48 rfl rfl rfl) ?_)
 refine AOps.nil ⟨rfl, ?_⟩
 refine AHeld.one 19 rfl (by kernel_rfl) ?_
 refine AOps.buildSlice (([(⟨mB, widthN ((p.mems.getD i5_8 default).a), 1 + ((((p.mems.getD i5_8 default).b : Nat) : Int) % 9), 0, 0⟩ : Arr)] : List Arr).map Arr.row) sl24 ze48 rfl rfl rfl rfl rfl (uniform_map (s := 5) (f := Arr.row) (fun _ => rfl)) rfl rfl rfl (by decide) ?_
 refine AOps.nil ⟨rfl, ?_⟩
 refine AHeld.one 20 rfl (by kernel_rfl) ?_
 refine AOps.appendE ((n304_8 ++ ([(⟨mB, widthN ((p.mems.getD i5_8 default).a), 1 + ((((p.mems.getD i5_8 default).b : Nat) : Int) % 9), 0, 0⟩ : Arr)] : List Arr)).map Arr.row) (n304_8 ++ ([(⟨mB, widthN ((p.mems.getD i5_8 default).a), 1 + ((((p.mems.getD i5_8 default).b : Nat) : Int) % 9), 0, 0⟩ : Arr)] : List Arr)).length sl24 ze48 rfl rfl rfl rfl (app_le (by first | omega | (simp only [lateN_len]; omega) | (simp [-List.getD_eq_getElem?_getD]; done) | (simp [-List.getD_eq_getElem?_getD]; omega))) (app_map (by first | omega | (simp only [lateN_len]; omega) | (simp [-List.getD_eq_getElem?_getD]; done) | (simp [-List.getD_eq_getElem?_getD]; omega))) (app_n (by first | omega | (simp only [lateN_len]; omega) | (simp [-List.getD_eq_getElem?_getD]; done) | (simp [-List.getD_eq_getElem?_getD]; omega))) (by first | omega | (simp only [lateN_len]; omega) | (simp [-List.getD_eq_getElem?_getD]; done) | (simp [-List.getD_eq_getElem?_getD]; omega)) (by first | omega | (simp only [lateN_len]; omega) | (simp [-List.getD_eq_getElem?_getD]; done) | (simp [-List.getD_eq_getElem?_getD]; omega)) (by decide) (by decide) ?_
 refine AOps.nil ⟨rfl, ?_⟩
 refine AHeld.one 21 rfl (by kernel_rfl) ?_
 refine .fa fl27_4 ?_
 refine AOps.nil ⟨rfl, ?_⟩
 refine AHeld.one 22 rfl (by kernel_rfl) (AOps.storeC si24 rfl rfl rfl rfl rfl rfl (Nat.le_of_ble_eq_true rfl) rfl ?_)
 refine AOps.nil ⟨rfl, ?_⟩
 refine AHeld.done (by kernel_rfl) ?_
 exact Le.mk (.c (.c (.c (.c (.nil))))) (.c (.c (.c (.c (.c (.c (.c (.nil))))))))
 refine AOps.callP ok53 (width_spec (k := ((p.mems.getD i5_8 default).a))) rfl (.keep rfl rfl .nil) (by decide) rfl ?_
 refine AOps.nil ⟨rfl, ?_⟩
 refine AHeld.two 1 18 rfl rfl (by kernel_rfl) ?_ ?_
 refine .ld sh24 ?_
 refine AOps.nil ⟨rfl, ?_⟩
 refine AHeld.one 18 rfl (by kernel_rfl) (.vl (Y.build pl48 ze48 rfl rfl rfl) ?_)
 refine AOps.nil ⟨rfl, ?_⟩
 refine AHeld.one 19 rfl (by kernel_rfl) ?_
 refine AOps.buildSlice (([(⟨mB, widthN ((p.mems.getD i5_8 default).a), 1 + ((((p.mems.getD i5_8 default).b : Nat) : Int) % 9), 0, 0⟩ : Arr)] : List Arr).map Arr.row) sl24 ze48 rfl rfl rfl rfl rfl (uniform_map (s := 5) (f := Arr.row) (fun _ => rfl)) rfl rfl rfl (by decide) ?_
 refine AOps.nil ⟨rfl, ?_⟩
 refine AHeld.one 20 rfl (by kernel_rfl) ?_
 refine AOps.appendE ((n304_8 ++ ([(⟨mB, widthN ((p.mems.getD i5_8 default).a), 1 + ((((p.mems.getD i5_8 default).b : Nat) : Int) % 9), 0, 0⟩ : Arr)] : List Arr)).map Arr.row) (n304_8 ++ ([(⟨mB, widthN ((p.mems.getD i5_8 default).a), 1 + ((((p.mems.getD i5_8 default).b : Nat) : Int) % 9), 0, 0⟩ : Arr)] : List Arr)).length sl24 ze48 rfl rfl rfl rfl (app_le (by first | omega | (simp only [lateN_len]; omega) | (simp [-List.getD_eq_getElem?_getD]; done) | (simp [-List.getD_eq_getElem?_getD]; omega))) (app_map (by first | omega | (simp only [lateN_len]; omega) | (simp [-List.getD_eq_getElem?_getD]; done) | (simp [-List.getD_eq_getElem?_getD]; omega))) (app_n (by first | omega | (simp only [lateN_len]; omega) | (simp [-List.getD_eq_getElem?_getD]; done) | (simp [-List.getD_eq_getElem?_getD]; omega))) (by first | omega | (simp only [lateN_len]; omega) | (simp [-List.getD_eq_getElem?_getD]; done) | (simp [-List.getD_eq_getElem?_getD]; omega)) (by first | omega | (simp only [lateN_len]; omega) | (simp [-List.getD_eq_getElem?_getD]; done) | (simp [-List.getD_eq_getElem?_getD]; omega)) (by decide) (by decide) ?_
 refine AOps.nil ⟨rfl, ?_⟩
 refine AHeld.one 21 rfl (by kernel_rfl) ?_
 refine .fa fl27_4 ?_
 refine AOps.nil ⟨rfl, ?_⟩
 refine AHeld.one 22 rfl (by kernel_rfl) (AOps.storeC si24 rfl rfl rfl rfl rfl rfl (Nat.le_of_ble_eq_true rfl) rfl ?_)
 refine AOps.nil ⟨rfl, ?_⟩
 refine AHeld.done (by kernel_rfl) ?_
 exact Le.mk (.c (.c (.c (.c (.nil))))) (.c (.c (.c (.c (.c (.c (.c (.nil))))))))
 refine .vl (Y.build pl48 ze48 rfl rfl rfl) ?_
 refine AOps.nil ⟨rfl, ?_⟩
 refine AHeld.two 1 19 rfl rfl (by kernel_rfl) ?_ ?_
 refine .ld sh24 ?_
 refine AOps.nil ⟨rfl, ?_⟩
 refine AHeld.one 19 rfl (by kernel_rfl) ?_
 refine AOps.buildSlice (([(⟨mB, widthN ((p.mems.getD i5_8 default).a), 1 + ((((p.mems.getD i5_8 default).b : Nat) : Int) % 9), 0, 0⟩ : Arr)] : List Arr).map Arr.row) sl24 ze48 rfl rfl rfl rfl rfl (uniform_map (s := 5) (f := Arr.row) (fun _ => rfl)) rfl rfl rfl (by decide) ?_
 refine AOps.nil ⟨rfl, ?_⟩
 refine AHeld.one 20 rfl (by kernel_rfl) ?_
 refine AOps.appendE ((n304_8 ++ ([(⟨mB, widthN ((p.mems.getD i5_8 default).a), 1 + ((((p.mems.getD i5_8 default).b : Nat) : Int) % 9), 0, 0⟩ : Arr)] : List Arr)).map Arr.row) (n304_8 ++ ([(⟨mB, widthN ((p.mems.getD i5_8 default).a), 1 + ((((p.mems.getD i5_8 default).b : Nat) : Int) % 9), 0, 0⟩ : Arr)] : List Arr)).length sl24 ze48 rfl rfl rfl rfl (app_le (by first | omega | (simp only [lateN_len]; omega) | (simp [-List.getD_eq_getElem?_getD]; done) | (simp [-List.getD_eq_getElem?_getD]; omega))) (app_map (by first | omega | (simp only [lateN_len]; omega) | (simp [-List.getD_eq_getElem?_getD]; done) | (simp [-List.getD_eq_getElem?_getD]; omega))) (app_n (by first | omega | (simp only [lateN_len]; omega) | (simp [-List.getD_eq_getElem?_getD]; done) | (simp [-List.getD_eq_getElem?_getD]; omega))) (by first | omega | (simp only [lateN_len]; omega) | (simp [-List.getD_eq_getElem?_getD]; done) | (simp [-List.getD_eq_getElem?_getD]; omega)) (by first | omega | (simp only [lateN_len]; omega) | (simp [-List.getD_eq_getElem?_getD]; done) | (simp [-List.getD_eq_getElem?_getD]; omega)) (by decide) (by decide) ?_
 refine AOps.nil ⟨rfl, ?_⟩
 refine AHeld.one 21 rfl (by kernel_rfl) ?_
 refine .fa fl27_4 ?_
 refine AOps.nil ⟨rfl, ?_⟩
 refine AHeld.one 22 rfl (by kernel_rfl) (AOps.storeC si24 rfl rfl rfl rfl rfl rfl (Nat.le_of_ble_eq_true rfl) rfl ?_)
 refine AOps.nil ⟨rfl, ?_⟩
 refine AHeld.done (by kernel_rfl) ?_
 exact Le.mk (.c (.c (.c (.c (.nil))))) (.c (.c (.c (.c (.c (.c (.c (.nil))))))))
 refine AOps.buildSlice (([(⟨mB, widthN ((p.mems.getD i5_8 default).a), 1 + ((((p.mems.getD i5_8 default).b : Nat) : Int) % 9), 0, 0⟩ : Arr)] : List Arr).map Arr.row) sl24 ze48 rfl rfl rfl rfl rfl (uniform_map (s := 5) (f := Arr.row) (fun _ => rfl)) rfl rfl rfl (by decide) ?_
 refine AOps.nil ⟨rfl, ?_⟩
 refine AHeld.one 1 rfl (by kernel_rfl) ?_
 refine .ld sh24 ?_
 refine AOps.nil ⟨rfl, ?_⟩
 refine AHeld.one 20 rfl (by kernel_rfl) ?_
 refine AOps.appendE ((n304_8 ++ ([(⟨mB, widthN ((p.mems.getD i5_8 default).a), 1 + ((((p.mems.getD i5_8 default).b : Nat) : Int) % 9), 0, 0⟩ : Arr)] : List Arr)).map Arr.row) (n304_8 ++ ([(⟨mB, widthN ((p.mems.getD i5_8 default).a), 1 + ((((p.mems.getD i5_8 default).b : Nat) : Int) % 9), 0, 0⟩ : Arr)] : List Arr)).length sl24 ze48 rfl rfl rfl rfl (app_le (by first | omega | (simp only [lateN_len]; omega) | (simp [-List.getD_eq_getElem?_getD]; done) | (simp [-List.getD_eq_getElem?_getD]; omega))) (app_map (by first | omega | (simp only [lateN_len]; omega) | (simp [-List.getD_eq_getElem?_getD]; done) | (simp [-List.getD_eq_getElem?_getD]; omega))) (app_n (by first | omega | (simp only [lateN_len]; omega) | (simp [-List.getD_eq_getElem?_getD]; done) | (simp [-List.getD_eq_getElem?_getD]; omega))) (by first | omega | (simp only [lateN_len]; omega) | (simp [-List.getD_eq_getElem?_getD]; done) | (simp [-List.getD_eq_getElem?_getD]; omega)) (by first | omega | (simp only [lateN_len]; omega) | (simp [-List.getD_eq_getElem?_getD]; done) | (simp [-List.getD_eq_getElem?_getD]; omega)) (by decide) (by decide) ?_
 refine AOps.nil ⟨rfl, ?_⟩
 refine AHeld.one 21 rfl (by kernel_rfl) ?_
 refine .fa fl27_4 ?_
 refine AOps.nil ⟨rfl, ?_⟩
 refine AHeld.one 22 rfl (by kernel_rfl) (AOps.storeC si24 rfl rfl rfl rfl rfl rfl (Nat.le_of_ble_eq_true rfl) rfl ?_)
 refine AOps.nil ⟨rfl, ?_⟩
 refine AHeld.done (by kernel_rfl) ?_
 exact Le.mk (.c (.c (.c (.c (.nil))))) (.c (.c (.c (.c (.c (.c (.c (.nil))))))))
 refine AWp.region ?_
 refine .mv ?_
 refine .vl (Y.addI rfl rfl (by omega)) ?_
 refine .an ?_
 refine AOps.nil ?_
 exact ⟨i5_8 + 1, n304_8 ++ ([(⟨mB, widthN ((p.mems.getD i5_8 default).a), 1 + ((((p.mems.getD i5_8 default).b : Nat) : Int) % 9), 0, 0⟩ : Arr)] : List Arr), ⟨by omega, all_app hm (memOK_made (by omega)), by rw [List.length_append, hml]; rfl⟩, by omega, Le.mk (.c (.c (.c (.cons (look_int rfl (by first | rfl | omega)) (.nil))))) (.c (.cons (look_cells rfl (by first | rfl | (simp only [List.cons.injEq, X.v.injEq, X.slc.injEq, Value.int.injEq, and_true, true_and]; omega) | simp_all)) (.c (.c (.c (.c (.c (.nil))))))))⟩
 refine AWp.exit (AWp.seq (AWp.sr ?_))
 refine .an ?_
 refine AOps.nil (AWp.block ?_)
 refine AWp.loop2 (fun (i6_12 : Nat) (n305_12 : List Strm) => ⟨[(1, .fp (Pln.row p) 0), (2, .ptr 102 0 0 0), (3, .ptr 103 0 0 0), (6, vi (i6_12 : Int))], [(102, .cells [.v (.string ByteArray.empty), .v (.slice none 0 0), .v (.slice none 0 0), .v (.slice none 0 0), .v (.slice none 0 0), .v (.slice none 0 0), .v (.slice none 0 0), .v (.slice none 0 0), vi 0, vi 0, .v (.slice none 0 0)]), (103, .cells [.v (.string nB), .slc 401 1 0 n301_3.length, .slc 402 6 0 n302_3.length, .slc 403 1 0 0, .slc 404 5 0 n304_8.length, .slc 405 3 0 n305_12.length, .v (.slice none 0 0), .v (.slice none 0 0), vi 0, vi 0, .v (.slice none 0 0)]), (401, .rows 1 (n301_3.map irow)), (402, .rows 6 (n302_3.map Cell.row)), (403, .rows 1 (([] : List Int).map irow)), (404, .rows 5 (n304_8.map Arr.row)), (405, .rows 3 (n305_12.map Strm.row))]⟩) (fun (i6_12 : Nat) (n305_12 : List Strm) => ((i6_12 : Int) ≤ ((p.streams.length : Nat) : Int)) ∧ (∀ m ∈ n305_12, Named m.name ∧ ∃ k, m.width = widthN k) ∧ (n305_12.length = i6_12)) (fun (i6_12 : Nat) (n305_12 : List Strm) => (((p.streams.length : Nat) : Int) - (i6_12 : Int)).toNat) 0 ([] : List Strm) (⟨by omega, fun m h => (by cases h), rfl⟩) (Le.mk (.c (.c (.c (.cons (look_int rfl (by first | rfl | omega)) (.nil))))) (.c (.cons (look_cells rfl (by first | rfl | (simp only [List.cons.injEq, X.v.injEq, X.slc.injEq, Value.int.injEq, and_true, true_and]; omega) | simp_all)) (.c (.c (.c (.c (.c (.nil))))))))) (fun i6_12 n305_12 hI12 => ?_)
 obtain ⟨hb12, hs, hsl⟩ := hI12
 refine AWp.seq (AWp.sr ?_)
 refine .mv ?_
 refine .fa fl36_1 ?_
 refine .ld sh32 ?_
 refine .vl (Y.len (n := p.streams.length) sl32 rfl (congrArg some (List.length_map ..))) (.vl (Y.lss rfl rfl) (AOps.nil ?_))
 refine AWp.condD rfl (fun c70 => ?_) (fun c70 => ?_)
 refine AWp.skip (AWp.seq (AWp.block ?_))
 have hk1 := hk.streams (p.streams.getD i6_12 default) (getD_in (by omega))
 refine AWp.regionHeldJ0 (⟨[(1, .fp (Pln.row p) 0), (2, .ptr 102 0 0 0), (3, .ptr 103 0 0 0), (6, .v (.int .i64 (i6_12 : Int)))], [(102, .cells [.v (.string ByteArray.empty), .v (.slice none 0 0), .v (.slice none 0 0), .v (.slice none 0 0), .v (.slice none 0 0), .v (.slice none 0 0), .v (.slice none 0 0), .v (.slice none 0 0), .v (.int .i64 0), .v (.int .i64 0), .v (.slice none 0 0)]), (103, .cells [.v (.string nB), .slc 401 1 0 n301_3.length, .slc 402 6 0 n302_3.length, .slc 403 1 0 0, .slc 404 5 0 n304_8.length, .slc 405 3 0 ((n305_12 ++ ([(⟨sB, widthN ((p.streams.getD i6_12 default).a), decide (((((p.streams.getD i6_12 default).b : Nat) : Int) % 2) = 1)⟩ : Strm)] : List Strm)).length), .v (.slice none 0 0), .v (.slice none 0 0), .v (.int .i64 0), .v (.int .i64 0), .v (.slice none 0 0)]), (401, .rows 1 (n301_3.map irow)), (402, .rows 6 (n302_3.map Cell.row)), (403, .rows 1 (([] : List Int).map irow)), (404, .rows 5 (n304_8.map Arr.row)), (405, .rows 3 ((n305_12 ++ ([(⟨sB, widthN ((p.streams.getD i6_12 default).a), decide (((((p.streams.getD i6_12 default).b : Nat) : Int) % 2) = 1)⟩ : Strm)] : List Strm)).map Strm.row))]⟩) rfl ?_ ?_
 refine AFirst.blind 0 rfl (by kernel_rfl) (Blind.fieldAddr fl27_5 rfl rfl) (by decide) (AFirst.blind 2 rfl (by kernel_rfl) (Blind.fieldAddr fl36_1 rfl rfl) (by decide) (AFirst.load 3 rfl (by kernel_rfl) sh32 rfl rfl rfl rfl rfl (by decide) ?_))
 refine AFirst.blind 4 rfl (by kernel_rfl) (Blind.move rfl rfl) (by decide) ?_
 refine AFirst.blind 5 rfl (by kernel_rfl) (Blind.indexF (m := i6_12) sl32 rfl rfl (by first | rfl | omega) (row_getD (d := default) (by omega))) (by decide) ?_
 refine AFirst.blind 6 rfl (by kernel_rfl) (Blind.indexP ar81 rfl rfl (m := 0) rfl (by omega) rfl) (by decide) (AFirst.load 7 rfl (by kernel_rfl) sh5 rfl rfl rfl rfl rfl (by decide) (AFirst.blind 9 rfl (by kernel_rfl) (Blind.fieldAddr fl36_1 rfl rfl) (by decide) ?_))
 refine AFirst.load 10 rfl (by kernel_rfl) sh32 rfl rfl rfl rfl rfl (by decide) (AFirst.blind 11 rfl (by kernel_rfl) (Blind.move rfl rfl) (by decide) ?_)
 refine AFirst.blind 12 rfl (by kernel_rfl) (Blind.indexF (m := i6_12) sl32 rfl rfl (by first | rfl | omega) (row_getD (d := default) (by omega))) (by decide) ?_
 refine AFirst.blind 13 rfl (by kernel_rfl) (Blind.indexP ar81 rfl rfl (m := 1) rfl (by omega) rfl) (by decide) (AFirst.load 14 rfl (by kernel_rfl) sh5 rfl rfl rfl rfl rfl (by decide) ?_)
 refine AFirst.blind 15 rfl (by kernel_rfl) (Blind.remI rfl rfl (by omega)) (by decide) ?_
 refine AFirst.blind 16 rfl (by kernel_rfl) (Blind.eql rfl rfl) (by decide) (AFirst.go0 ?_)
 refine AHeld.two 1 8 rfl rfl (by kernel_rfl) ?_ ?_
 refine .ld sh25 ?_
 refine AOps.nil ⟨rfl, ?_⟩
 refine AHeld.one 8 rfl (by kernel_rfl) (AOps.callP ok53 (width_spec (k := ((p.streams.getD i6_12 default).a))) rfl (.keep rfl rfl .nil) (by decide) rfl ?_)
 refine AOps.nil ⟨rfl, ?_⟩
 refine AHeld.one 17 rfl (by kernel_rfl) (.vl (Y.build pl83 ze83 rfl rfl rfl) ?_)
 refine AOps.nil ⟨rfl, ?_⟩
 refine AHeld.one 18 rfl (by kernel_rfl) ?_
 refine AOps.buildSlice (([(⟨sB, widthN ((p.streams.getD i6_12 default).a), decide (((((p.streams.getD i6_12 default).b : Nat) : Int) % 2) = 1)⟩ : Strm)] : List Strm).map Strm.row) sl25 ze83 rfl rfl rfl rfl rfl (uniform_map (s := 3) (f := Strm.row) (fun _ => rfl)) rfl rfl rfl (by decide) ?_
 refine AOps.nil ⟨rfl, ?_⟩
 refine AHeld.one 19 rfl (by kernel_rfl) ?_
 refine AOps.appendE ((n305_12 ++ ([(⟨sB, widthN ((p.streams.getD i6_12 default).a), decide (((((p.streams.getD i6_12 default).b : Nat) : Int) % 2) = 1)⟩ : Strm)] : List Strm)).map Strm.row) (n305_12 ++ ([(⟨sB, widthN ((p.streams.getD i6_12 default).a), decide (((((p.streams.getD i6_12 default).b : Nat) : Int) % 2) = 1)⟩ : Strm)] : List Strm)).length sl25 ze83 rfl rfl rfl rfl (app_le (by first | omega | (simp only [lateN_len]; omega) | (simp [-List.getD_eq_getElem?_getD]; done) | (simp [-List.getD_eq_getElem?_getD]; omega))) (app_map (by first | omega | (simp only [lateN_len]; omega) | (simp [-List.getD_eq_getElem?_getD]; done) | (simp [-List.getD_eq_getElem?_getD]; omega))) (app_n (by first | omega | (simp only [lateN_len]; omega) | (simp [-List.getD_eq_getElem?_getD]; done) | (simp [-List.getD_eq_getElem?_getD]; omega))) (by first | omega | (simp only [lateN_len]; omega) | (simp [-List.getD_eq_getElem?_getD]; done) | (simp [-List.getD_eq_getElem?_getD]; omega)) (by first | omega | (simp only [lateN_len]; omega) | (simp [-List.getD_eq_getElem?_getD]; done) | (simp [-List.getD_eq_getElem?_getD]; omega)) (by decide) (by decide) ?_
 refine AOps.nil ⟨rfl, ?_⟩
 refine AHeld.one 20 rfl (by kernel_rfl) ?_
 refine .fa fl27_5 ?_
 refine AOps.nil ⟨rfl, ?_⟩
 refine AHeld.one 21 rfl (by kernel_rfl) (AOps.storeC si25 rfl rfl rfl rfl rfl rfl (Nat.le_of_ble_eq_true rfl) rfl ?_)
 refine AOps.nil ⟨rfl, ?_⟩
 refine AHeld.done (by kernel_rfl) ?_
 exact Le.mk (.c (.c (.c (.c (.nil))))) (.c (.c (.c (.c (.c (.c (.c (.nil))))))))
 refine AOps.callP ok53 (width_spec (k := ((p.streams.getD i6_12 default).a))) rfl (.keep rfl rfl .nil) (by decide) rfl ?_
 refine AOps.nil ⟨rfl, ?_⟩
 refine AHeld.two 1 17 rfl rfl (by kernel_rfl) ?_ ?_
 refine .ld sh25 ?_
 refine AOps.nil ⟨rfl, ?_⟩
 refine AHeld.one 17 rfl (by kernel_rfl) (.vl (Y.build pl83 ze83 rfl rfl rfl) ?_)
 refine AOps.nil ⟨rfl, ?_⟩
 refine AHeld.one 18 rfl (by kernel_rfl) ?_
 refine AOps.buildSlice (([(⟨sB, widthN ((p.streams.getD i6_12 default).a), decide (((((p.streams.getD i6_12 default).b : Nat) : Int) % 2) = 1)⟩ : Strm)] : List Strm).map Strm.row) sl25 ze83 rfl rfl rfl rfl rfl (uniform_map (s := 3) (f := Strm.row) (fun _ => rfl)) rfl rfl rfl (by decide) ?_
 refine AOps.nil ⟨rfl, ?_⟩
 refine AHeld.one 19 rfl (by kernel_rfl) ?_
 refine AOps.appendE ((n305_12 ++ ([(⟨sB, widthN ((p.streams.getD i6_12 default).a), decide (((((p.streams.getD i6_12 default).b : Nat) : Int) % 2) = 1)⟩ : Strm)] : List Strm)).map Strm.row) (n305_12 ++ ([(⟨sB, widthN ((p.streams.getD i6_12 default).a), decide (((((p.streams.getD i6_12 default).b : Nat) : Int) % 2) = 1)⟩ : Strm)] : List Strm)).length sl25 ze83 rfl rfl rfl rfl (app_le (by first | omega | (simp only [lateN_len]; omega) | (simp [-List.getD_eq_getElem?_getD]; done) | (simp [-List.getD_eq_getElem?_getD]; omega))) (app_map (by first | omega | (simp only [lateN_len]; omega) | (simp [-List.getD_eq_getElem?_getD]; done) | (simp [-List.getD_eq_getElem?_getD]; omega))) (app_n (by first | omega | (simp only [lateN_len]; omega) | (simp [-List.getD_eq_getElem?_getD]; done) | (simp [-List.getD_eq_getElem?_getD]; omega))) (by first | omega | (simp only [lateN_len]; omega) | (simp [-List.getD_eq_getElem?_getD]; done) | (simp [-List.getD_eq_getElem?_getD]; omega)) (by first | omega | (simp only [lateN_len]; omega) | (simp [-List.getD_eq_getElem?_getD]; done) | (simp [-List.getD_eq_getElem?_getD]; omega)) (by decide) (by decide) ?_
 refine AOps.nil ⟨rfl, ?_⟩
 refine AHeld.one 20 rfl (by kernel_rfl) ?_
 refine .fa fl27_5 ?_
 refine AOps.nil ⟨rfl, ?_⟩
 refine AHeld.one 21 rfl (by kernel_rfl) (AOps.storeC si25 rfl rfl rfl rfl rfl rfl (Nat.le_of_ble_eq_true rfl) rfl ?_)
 refine AOps.nil ⟨rfl, ?_⟩
 refine AHeld.done (by kernel_rfl) ?_
 exact Le.mk (.c (.c (.c (.c (.nil))))) (.c (.c (.c (.c (.c (.c (.c (.nil))))))))
 refine .vl (Y.build pl83 ze83 rfl rfl rfl) ?_
 refine AOps.nil ⟨rfl, ?_⟩
 refine AHeld.two 1 18 rfl rfl (by kernel_rfl) ?_ ?_
 refine .ld sh25 ?_
 refine AOps.nil ⟨rfl, ?_⟩
 refine AHeld.one 18 rfl (by kernel_rfl) ?_
 refine AOps.buildSlice (([(⟨sB, widthN ((p.streams.getD i6_12 default).a), decide (((((p.streams.getD i6_12 default).b : Nat) : Int) % 2) = 1)⟩ : Strm)] : List Strm).map Strm.row) sl25 ze83 rfl rfl rfl rfl rfl (uniform_map (s := 3) (f := Strm.row) (fun _ => rfl)) rfl rfl rfl (by decide) ?_
 refine AOps.nil ⟨rfl, ?_⟩
 refine AHeld.one 19 rfl (by kernel_rfl) ?_
 refine AOps.appendE ((n305_12 ++ ([(⟨sB, widthN ((p.streams.getD i6_12 default).a), decide (((((p.streams.getD i6_12 default).b : Nat) : Int) % 2) = 1)⟩ : Strm)] : List Strm)).map Strm.row) (n305_12 ++ ([(⟨sB, widthN ((p.streams.getD i6_12 default).a), decide (((((p.streams.getD i6_12 default).b : Nat) : Int) % 2) = 1)⟩ : Strm)] : List Strm)).length sl25 ze83 rfl rfl rfl rfl (app_le (by first | omega | (simp only [lateN_len]; omega) | (simp [-List.getD_eq_getElem?_getD]; done) | (simp [-List.getD_eq_getElem?_getD]; omega))) (app_map (by first | omega | (simp only [lateN_len]; omega) | (simp [-List.getD_eq_getElem?_getD]; done) | (simp [-List.getD_eq_getElem?_getD]; omega))) (app_n (by first | omega | (simp only [lateN_len]; omega) | (simp [-List.getD_eq_getElem?_getD]; done) | (simp [-List.getD_eq_getElem?_getD]; omega))) (by first | omega | (simp only [lateN_len]; omega) | (simp [-List.getD_eq_getElem?_getD]; done) | (simp [-List.getD_eq_getElem?_getD]; omega)) (by first | omega | (simp only [lateN_len]; omega) | (simp [-List.getD_eq_getElem?_getD]; done) | (simp [-List.getD_eq_getElem?_getD]; omega)) (by decide) (by decide) ?_
 refine AOps.nil ⟨rfl, ?_⟩
 refine AHeld.one 20 rfl (by kernel_rfl) ?_
 refine .fa fl27_5 ?_
 refine AOps.nil ⟨rfl, ?_⟩
 refine AHeld.one 21 rfl (by kernel_rfl) (AOps.storeC si25 rfl rfl rfl rfl rfl rfl (Nat.le_of_ble_eq_true rfl) rfl ?_)
 refine AOps.nil ⟨rfl, ?_⟩
 refine AHeld.done (by kernel_rfl) ?_
 exact Le.mk (.c (.c (.c (.c (.nil))))) (.c (.c (.c (.c (.c (.c (.c (.nil))))))))
 refine AOps.buildSlice (([(⟨sB, widthN ((p.streams.getD i6_12 default).a), decide (((((p.streams.getD i6_12 default).b : Nat) : Int) % 2) = 1)⟩ : Strm)] : List Strm).map Strm.row) sl25 ze83 rfl rfl rfl rfl rfl (uniform_map (s := 3) (f := Strm.row) (fun _ => rfl)) rfl rfl rfl (by decide) ?_
 refine AOps.nil ⟨rfl, ?_⟩
 refine AHeld.one 1 rfl (by kernel_rfl) ?_
 refine .ld sh25 ?_
 refine AOps.nil ⟨rfl, ?_⟩
 refine AHeld.one 19 rfl (by kernel_rfl) ?_
 refine AOps.appendE ((n305_12 ++ ([(⟨sB, widthN ((p.streams.getD i6_12 default).a), decide (((((p.streams.getD i6_12 default).b : Nat) : Int) % 2) = 1)⟩ : Strm)] : List Strm)).map Strm.row) (n305_12 ++ ([(⟨sB, widthN ((p.streams.getD i6_12 default).a), decide (((((p.streams.getD i6_12 default).b : Nat) : Int) % 2) = 1)⟩ : Strm)] : List Strm)).length sl25 ze83 rfl rfl rfl rfl (app_le (by first | omega | (simp only [lateN_len]; omega) | (simp [-List.getD_eq_getElem?_getD]; done) | (simp [-List.getD_eq_getElem?_getD]; omega))) (app_map (by first | omega | (simp only [lateN_len]; omega) | (simp [-List.getD_eq_getElem?_getD]; done) | (simp [-List.getD_eq_getElem?_getD]; omega))) (app_n (by first | omega | (simp only [lateN_len]; omega) | (simp [-List.getD_eq_getElem?_getD]; done) | (simp [-List.getD_eq_getElem?_getD]; omega))) (by first | omega | (simp only [lateN_len]; omega) | (simp [-List.getD_eq_getElem?_getD]; done) | (simp [-List.getD_eq_getElem?_getD]; omega)) (by first | omega | (simp only [lateN_len]; omega) | (simp [-List.getD_eq_getElem?_getD]; done) | (simp [-List.getD_eq_getElem?_getD]; omega)) (by decide) (by decide) ?_
 refine AOps.nil ⟨rfl, ?_⟩
 refine AHeld.one 20 rfl (by kernel_rfl) ?_
 refine .fa fl27_5 ?_
 refine AOps.nil ⟨rfl, ?_⟩
 refine AHeld.one 21 rfl (by kernel_rfl) (AOps.storeC si25 rfl rfl rfl rfl rfl rfl (Nat.le_of_ble_eq_true rfl) rfl ?_)
 refine AOps.nil ⟨rfl, ?_⟩
 refine AHeld.done (by kernel_rfl) ?_
 exact Le.mk (.c (.c (.c (.c (.nil))))) (.c (.c (.c (.c (.c (.c (.c (.nil))))))))
 refine AWp.region ?_
 refine .mv ?_
 refine .vl (Y.addI rfl rfl (by omega)) ?_
 refine .an ?_
 refine AOps.nil ?_
 exact ⟨i6_12 + 1, n305_12 ++ ([(⟨sB, widthN ((p.streams.getD i6_12 default).a), decide (((((p.streams.getD i6_12 default).b : Nat) : Int) % 2) = 1)⟩ : Strm)] : List Strm), ⟨by omega, all_app hs strOK_made, by rw [List.length_append, hsl]; rfl⟩, by omega, Le.mk (.c (.c (.c (.cons (look_int rfl (by first | rfl | omega)) (.nil))))) (.c (.cons (look_cells rfl (by first | rfl | (simp only [List.cons.injEq, X.v.injEq, X.slc.injEq, Value.int.injEq, and_true, true_and]; omega) | simp_all)) (.c (.c (.c (.c (.c (.nil))))))))⟩
 refine AWp.exit (AWp.seq (AWp.sr ?_))
 refine .an ?_
 refine AOps.nil (AWp.block ?_)
 refine AWp.loop2 (fun (i7_16 : Nat) (n303_16 : List Int) => ⟨[(1, .fp (Pln.row p) 0), (2, .ptr 102 0 0 0), (3, .ptr 103 0 0 0), (7, vi (i7_16 : Int))], [(102, .cells [.v (.string ByteArray.empty), .v (.slice none 0 0), .v (.slice none 0 0), .v (.slice none 0 0), .v (.slice none 0 0), .v (.slice none 0 0), .v (.slice none 0 0), .v (.slice none 0 0), vi 0, vi 0, .v (.slice none 0 0)]), (103, .cells [.v (.string nB), .slc 401 1 0 n301_3.length, .slc 402 6 0 n302_3.length, .slc 403 1 0 n303_16.length, .slc 404 5 0 n304_8.length, .slc 405 3 0 n305_12.length, .v (.slice none 0 0), .v (.slice none 0 0), vi 0, vi 0, .v (.slice none 0 0)]), (401, .rows 1 (n301_3.map irow)), (402, .rows 6 (n302_3.map Cell.row)), (403, .rows 1 (n303_16.map irow)), (404, .rows 5 (n304_8.map Arr.row)), (405, .rows 3 (n305_12.map Strm.row))]⟩) (fun (i7_16 : Nat) (n303_16 : List Int) => ((i7_16 : Int) ≤ ((p.ins.length : Nat) : Int)) ∧ (∀ m ∈ n303_16, ∃ k, m = widthN k) ∧ (n303_16.length = i7_16)) (fun (i7_16 : Nat) (n303_16 : List Int) => (((p.ins.length : Nat) : Int) - (i7_16 : Int)).toNat) 0 ([] : List Int) (⟨by omega, fun m h => (by cases h), rfl⟩) (Le.mk (.c (.c (.c (.cons (look_int rfl (by first | rfl | omega)) (.nil))))) (.c (.cons (look_cells rfl (by first | rfl | (simp only [List.cons.injEq, X.v.injEq, X.slc.injEq, Value.int.injEq, and_true, true_and]; omega) | simp_all)) (.c (.c (.c (.c (.c (.nil))))))))) (fun i7_16 n303_16 hI16 => ?_)
 obtain ⟨hb16, hin, hil⟩ := hI16
 refine AWp.seq (AWp.sr ?_)
 refine .mv ?_
 refine .fa fl36_2 ?_
 refine .ld sh33 ?_
 refine .vl (Y.len (n := p.ins.length) sl33 rfl (congrArg some (List.length_map ..))) (.vl (Y.lss rfl rfl) (AOps.nil ?_))
 refine AWp.condD rfl (fun c98 => ?_) (fun c98 => ?_)
 refine AWp.skip (AWp.seq (AWp.block ?_))
 have hk1 := hk.ins (p.ins.getD i7_16 0) (getD_in (by omega))
 refine AWp.regionHeldJ0 (⟨[(1, .fp (Pln.row p) 0), (2, .ptr 102 0 0 0), (3, .ptr 103 0 0 0), (7, .v (.int .i64 (i7_16 : Int)))], [(102, .cells [.v (.string ByteArray.empty), .v (.slice none 0 0), .v (.slice none 0 0), .v (.slice none 0 0), .v (.slice none 0 0), .v (.slice none 0 0), .v (.slice none 0 0), .v (.slice none 0 0), .v (.int .i64 0), .v (.int .i64 0), .v (.slice none 0 0)]), (103, .cells [.v (.string nB), .slc 401 1 0 n301_3.length, .slc 402 6 0 n302_3.length, .slc 403 1 0 ((n303_16 ++ ([widthN (p.ins.getD i7_16 0)] : List Int)).length), .slc 404 5 0 n304_8.length, .slc 405 3 0 n305_12.length, .v (.slice none 0 0), .v (.slice none 0 0), .v (.int .i64 0), .v (.int .i64 0), .v (.slice none 0 0)]), (401, .rows 1 (n301_3.map irow)), (402, .rows 6 (n302_3.map Cell.row)), (403, .rows 1 ((n303_16 ++ ([widthN (p.ins.getD i7_16 0)] : List Int)).map irow)), (404, .rows 5 (n304_8.map Arr.row)), (405, .rows 3 (n305_12.map Strm.row))]⟩) rfl ?_ ?_
 refine AFirst.blind 0 rfl (by kernel_rfl) (Blind.fieldAddr fl27_3 rfl rfl) (by decide) (AFirst.blind 2 rfl (by kernel_rfl) (Blind.fieldAddr fl36_2 rfl rfl) (by decide) (AFirst.load 3 rfl (by kernel_rfl) sh33 rfl rfl rfl rfl rfl (by decide) ?_))
 refine AFirst.blind 4 rfl (by kernel_rfl) (Blind.move rfl rfl) (by decide) ?_
 refine AFirst.blind 5 rfl (by kernel_rfl) (Blind.indexF (m := i7_16) sl33 rfl rfl (by first | rfl | omega) (row_getD (d := 0) (by omega))) (by decide) ?_
 refine AFirst.load 6 rfl (by kernel_rfl) sh5 rfl rfl rfl rfl rfl (by decide) (AFirst.go0 ?_)
 refine AHeld.two 1 7 rfl rfl (by kernel_rfl) ?_ ?_
 refine .ld sh22 ?_
 refine AOps.nil ⟨rfl, ?_⟩
 refine AHeld.one 7 rfl (by kernel_rfl) (AOps.callP ok53 (width_spec (k := (p.ins.getD i7_16 0))) rfl (.keep rfl rfl .nil) (by decide) rfl ?_)
 refine AOps.nil ⟨rfl, ?_⟩
 refine AHeld.one 8 rfl (by kernel_rfl) ?_
 refine AOps.buildSlice (([widthN (p.ins.getD i7_16 0)] : List Int).map irow) sl22 ze3 rfl rfl rfl rfl rfl (uniform_map (s := 1) (f := irow) (fun _ => rfl)) rfl rfl rfl (by decide) ?_
 refine AOps.nil ⟨rfl, ?_⟩
 refine AHeld.one 9 rfl (by kernel_rfl) ?_
 refine AOps.appendE ((n303_16 ++ ([widthN (p.ins.getD i7_16 0)] : List Int)).map irow) (n303_16 ++ ([widthN (p.ins.getD i7_16 0)] : List Int)).length sl22 ze3 rfl rfl rfl rfl (app_le (by first | omega | (simp only [lateN_len]; omega) | (simp [-List.getD_eq_getElem?_getD]; done) | (simp [-List.getD_eq_getElem?_getD]; omega))) (app_map (by first | omega | (simp only [lateN_len]; omega) | (simp [-List.getD_eq_getElem?_getD]; done) | (simp [-List.getD_eq_getElem?_getD]; omega))) (app_n (by first | omega | (simp only [lateN_len]; omega) | (simp [-List.getD_eq_getElem?_getD]; done) | (simp [-List.getD_eq_getElem?_getD]; omega))) (by first | omega | (simp only [lateN_len]; omega) | (simp [-List.getD_eq_getElem?_getD]; done) | (simp [-List.getD_eq_getElem?_getD]; omega)) (by first | omega | (simp only [lateN_len]; omega) | (simp [-List.getD_eq_getElem?_getD]; done) | (simp [-List.getD_eq_getElem?_getD]; omega)) (by decide) (by decide) ?_
 refine AOps.nil ⟨rfl, ?_⟩
 refine AHeld.one 10 rfl (by kernel_rfl) ?_
 refine .fa fl27_3 ?_
 refine AOps.nil ⟨rfl, ?_⟩
 refine AHeld.one 11 rfl (by kernel_rfl) (AOps.storeC si22 rfl rfl rfl rfl rfl rfl (Nat.le_of_ble_eq_true rfl) rfl ?_)
 refine AOps.nil ⟨rfl, ?_⟩
 refine AHeld.done (by kernel_rfl) ?_
 exact Le.mk (.c (.c (.c (.c (.nil))))) (.c (.c (.c (.c (.c (.c (.c (.nil))))))))
 refine AOps.callP ok53 (width_spec (k := (p.ins.getD i7_16 0))) rfl (.keep rfl rfl .nil) (by decide) rfl ?_
 refine AOps.nil ⟨rfl, ?_⟩
 refine AHeld.two 1 8 rfl rfl (by kernel_rfl) ?_ ?_
 refine .ld sh22 ?_
 refine AOps.nil ⟨rfl, ?_⟩
 refine AHeld.one 8 rfl (by kernel_rfl) ?_
 refine AOps.buildSlice (([widthN (p.ins.getD i7_16 0)] : List Int).map irow) sl22 ze3 rfl rfl rfl rfl rfl (uniform_map (s := 1) (f := irow) (fun _ => rfl)) rfl rfl rfl (by decide) ?_
 refine AOps.nil ⟨rfl, ?_⟩
 refine AHeld.one 9 rfl (by kernel_rfl) ?_
 refine AOps.appendE ((n303_16 ++ ([widthN (p.ins.getD i7_16 0)] : List Int)).map irow) (n303_16 ++ ([widthN (p.ins.getD i7_16 0)] : List Int)).length sl22 ze3 rfl rfl rfl rfl (app_le (by first | omega | (simp only [lateN_len]; omega) | (simp [-List.getD_eq_getElem?_getD]; done) | (simp [-List.getD_eq_getElem?_getD]; omega))) (app_map (by first | omega | (simp only [lateN_len]; omega) | (simp [-List.getD_eq_getElem?_getD]; done) | (simp [-List.getD_eq_getElem?_getD]; omega))) (app_n (by first | omega | (simp only [lateN_len]; omega) | (simp [-List.getD_eq_getElem?_getD]; done) | (simp [-List.getD_eq_getElem?_getD]; omega))) (by first | omega | (simp only [lateN_len]; omega) | (simp [-List.getD_eq_getElem?_getD]; done) | (simp [-List.getD_eq_getElem?_getD]; omega)) (by first | omega | (simp only [lateN_len]; omega) | (simp [-List.getD_eq_getElem?_getD]; done) | (simp [-List.getD_eq_getElem?_getD]; omega)) (by decide) (by decide) ?_
 refine AOps.nil ⟨rfl, ?_⟩
 refine AHeld.one 10 rfl (by kernel_rfl) ?_
 refine .fa fl27_3 ?_
 refine AOps.nil ⟨rfl, ?_⟩
 refine AHeld.one 11 rfl (by kernel_rfl) (AOps.storeC si22 rfl rfl rfl rfl rfl rfl (Nat.le_of_ble_eq_true rfl) rfl ?_)
 refine AOps.nil ⟨rfl, ?_⟩
 refine AHeld.done (by kernel_rfl) ?_
 exact Le.mk (.c (.c (.c (.c (.nil))))) (.c (.c (.c (.c (.c (.c (.c (.nil))))))))
 refine AOps.buildSlice (([widthN (p.ins.getD i7_16 0)] : List Int).map irow) sl22 ze3 rfl rfl rfl rfl rfl (uniform_map (s := 1) (f := irow) (fun _ => rfl)) rfl rfl rfl (by decide) ?_
 refine AOps.nil ⟨rfl, ?_⟩
 refine AHeld.one 1 rfl (by kernel_rfl) ?_
 refine .ld sh22 ?_
 refine AOps.nil ⟨rfl, ?_⟩
 refine AHeld.one 9 rfl (by kernel_rfl) ?_
 refine AOps.appendE ((n303_16 ++ ([widthN (p.ins.getD i7_16 0)] : List Int)).map irow) (n303_16 ++ ([widthN (p.ins.getD i7_16 0)] : List Int)).length sl22 ze3 rfl rfl rfl rfl (app_le (by first | omega | (simp only [lateN_len]; omega) | (simp [-List.getD_eq_getElem?_getD]; done) | (simp [-List.getD_eq_getElem?_getD]; omega))) (app_map (by first | omega | (simp only [lateN_len]; omega) | (simp [-List.getD_eq_getElem?_getD]; done) | (simp [-List.getD_eq_getElem?_getD]; omega))) (app_n (by first | omega | (simp only [lateN_len]; omega) | (simp [-List.getD_eq_getElem?_getD]; done) | (simp [-List.getD_eq_getElem?_getD]; omega))) (by first | omega | (simp only [lateN_len]; omega) | (simp [-List.getD_eq_getElem?_getD]; done) | (simp [-List.getD_eq_getElem?_getD]; omega)) (by first | omega | (simp only [lateN_len]; omega) | (simp [-List.getD_eq_getElem?_getD]; done) | (simp [-List.getD_eq_getElem?_getD]; omega)) (by decide) (by decide) ?_
 refine AOps.nil ⟨rfl, ?_⟩
 refine AHeld.one 10 rfl (by kernel_rfl) ?_
 refine .fa fl27_3 ?_
 refine AOps.nil ⟨rfl, ?_⟩
 refine AHeld.one 11 rfl (by kernel_rfl) (AOps.storeC si22 rfl rfl rfl rfl rfl rfl (Nat.le_of_ble_eq_true rfl) rfl ?_)
 refine AOps.nil ⟨rfl, ?_⟩
 refine AHeld.done (by kernel_rfl) ?_
 exact Le.mk (.c (.c (.c (.c (.nil))))) (.c (.c (.c (.c (.c (.c (.c (.nil))))))))
 refine AWp.region ?_
 refine .mv ?_
 refine .vl (Y.addI rfl rfl (by omega)) ?_
 refine .an ?_
 refine AOps.nil ?_
 exact ⟨i7_16 + 1, n303_16 ++ ([widthN (p.ins.getD i7_16 0)] : List Int), ⟨by omega, all_app hin ⟨_, rfl⟩, by rw [List.length_append, hil]; rfl⟩, by omega, Le.mk (.c (.c (.c (.cons (look_int rfl (by first | rfl | omega)) (.nil))))) (.c (.cons (look_cells rfl (by first | rfl | (simp only [List.cons.injEq, X.v.injEq, X.slc.injEq, Value.int.injEq, and_true, true_and]; omega) | simp_all)) (.c (.c (.c (.c (.c (.nil))))))))⟩
 refine AWp.exit (AWp.seq (AWp.seq ?_))
 refine AWp.sh (Sh.fzObj 103 403 3 rfl rfl rfl (len_map (by omega)) (Frees.map irow_frees) (by decide) rfl rfl rfl) ?_
 refine AWp.sh (Sh.fzObj 103 404 4 rfl rfl rfl (len_map (by omega)) (Frees.map Arr.row_frees) (by decide) rfl rfl rfl) ?_
 refine AWp.sh (Sh.fzObj 103 405 5 rfl rfl rfl (len_map (by omega)) (Frees.map Strm.row_frees) (by decide) rfl rfl rfl) ?_
 refine AWp.region ?_
 refine .an ?_
 refine AOps.nil (AWp.block ?_)
 refine AWp.loop3 (fun (i8_20 : Nat) (n301_20 : List Int) (n302_20 : List Cell) => ⟨[(1, .fp (Pln.row p) 0), (2, .ptr 102 0 0 0), (3, .ptr 103 0 0 0), (8, vi (i8_20 : Int))], [(102, .cells [.v (.string ByteArray.empty), .v (.slice none 0 0), .v (.slice none 0 0), .v (.slice none 0 0), .v (.slice none 0 0), .v (.slice none 0 0), .v (.slice none 0 0), .v (.slice none 0 0), vi 0, vi 0, .v (.slice none 0 0)]), (103, .cells [.v (.string nB), .slc 401 1 0 n301_20.length, .slc 402 6 0 n302_20.length, .fz 1 (n303_16.map irow), .fz 5 (n304_8.map Arr.row), .fz 3 (n305_12.map Strm.row), .v (.slice none 0 0), .v (.slice none 0 0), vi 0, vi 0, .v (.slice none 0 0)]), (401, .rows 1 (n301_20.map irow)), (402, .rows 6 (n302_20.map Cell.row))]⟩) (fun (i8_20 : Nat) (n301_20 : List Int) (n302_20 : List Cell) => ((i8_20 : Int) ≤ ((p.parts.length : Nat) : Int)) ∧ (Gr (pn n301_20 n302_20 n303_16 n304_8 n305_12)) ∧ (8 ≤ n302_20.length ∧ n302_20.length ≤ 8 + i8_20) ∧ (8 ≤ n301_20.length ∧ n301_20.length ≤ 8 + i8_20)) (fun (i8_20 : Nat) (n301_20 : List Int) (n302_20 : List Cell) => (((p.parts.length : Nat) : Int) - (i8_20 : Int)).toNat) 0 n301_3 n302_3 (⟨by omega, by rw [hw0, hc0, show i4_3 = 8 by omega]; exact gr0 (fun m h => (hm m h).2) (fun m h => (hs m h).2) hin, by rw [hc0, c0L_len]; omega, by rw [hw0, w0L_len]; omega⟩) (Le.mk (.c (.c (.c (.cons (look_int rfl (by first | rfl | omega)) (.nil))))) (.c (.cons (look_cells rfl (by first | rfl | (simp only [List.cons.injEq, X.v.injEq, X.slc.injEq, Value.int.injEq, and_true, true_and]; omega) | simp_all)) (.c (.c (.nil)))))) (fun i8_20 n301_20 n302_20 hI20 => ?_)
 obtain ⟨hb20, hGr, hcl, hwl⟩ := hI20
 refine AWp.seq (AWp.sr ?_)
 refine .mv ?_
 refine .fa fl36_3 ?_
 refine .ld sh34 ?_
 refine .vl (Y.len (n := p.parts.length) sl34 rfl (congrArg some (List.length_map ..))) (.vl (Y.lss rfl rfl) (AOps.nil ?_))
 refine AWp.condD rfl (fun c116 => ?_) (fun c116 => ?_)
 refine AWp.skip ?_
 refine AWp.join2 (fun (n301_j21 : List Int) (n302_j21 : List Cell) => ⟨[(1, .fp (Pln.row p) 0), (2, .ptr 102 0 0 0), (3, .ptr 103 0 0 0), (8, vi (i8_20 : Int))], [(102, .cells [.v (.string ByteArray.empty), .v (.slice none 0 0), .v (.slice none 0 0), .v (.slice none 0 0), .v (.slice none 0 0), .v (.slice none 0 0), .v (.slice none 0 0), .v (.slice none 0 0), vi 0, vi 0, .v (.slice none 0 0)]), (103, .cells [.v (.string nB), .slc 401 1 0 n301_j21.length, .slc 402 6 0 n302_j21.length, .fz 1 (n303_16.map irow), .fz 5 (n304_8.map Arr.row), .fz 3 (n305_12.map Strm.row), .v (.slice none 0 0), .v (.slice none 0 0), vi 0, vi 0, .v (.slice none 0 0)]), (401, .rows 1 (n301_j21.map irow)), (402, .rows 6 (n302_j21.map Cell.row))]⟩) (fun (n301_j21 : List Int) (n302_j21 : List Cell) => Gr (pn n301_j21 n302_j21 n303_16 n304_8 n305_12) ∧ (8 ≤ n302_j21.length ∧ n302_j21.length ≤ 8 + (i8_20 + 1)) ∧ (8 ≤ n301_j21.length ∧ n301_j21.length ≤ 8 + (i8_20 + 1))) ?_ (fun n301_j21 n302_j21 hJ21 => ?_)
 refine AWp.block (AWp.seq (AWp.regionHeld [103] [102, 103, 401, 402] rfl ?_))
 refine AFirst.loadA 0 rfl (by kernel_rfl) sh27 rfl rfl rfl (Nat.le_of_ble_eq_true rfl) rfl rfl (by decide) (AFirst.blind 1 rfl (by kernel_rfl) (Blind.fieldAddr fl36_3 rfl rfl) (by decide) (AFirst.load 2 rfl (by kernel_rfl) sh34 rfl rfl rfl rfl rfl (by decide) ?_))
 refine AFirst.blind 3 rfl (by kernel_rfl) (Blind.move rfl rfl) (by decide) ?_
 refine AFirst.blind 4 rfl (by kernel_rfl) (Blind.indexF (m := i8_20) sl34 rfl rfl (by first | rfl | omega) (row_getD (d := default) (by omega))) (by decide) ?_
 refine AFirst.loadA 5 rfl (by kernel_rfl) sh88 rfl rfl rfl (Nat.le_of_ble_eq_true rfl) rfl rfl (by decide) (AFirst.goL rfl rfl (namesIn.cells rfl rfl rfl namesIn.nil) ?_)
 refine AHeld.two 6 10 rfl rfl (by kernel_rfl) ?_ ?_
 refine AOps.callLV [401, 402] ok54 (part_spec (n := (⟨nB, n301_20, n302_20, n303_16, n304_8, n305_12, [], [], 0, 0, []⟩ : Netlist)) (p := (p.parts.getD i8_20 default)) (by show (n301_20).length ≤ 1048576; omega) (by show 0 < (n301_20).length; omega) (hpp _ (getD_in (by omega))) hGr.ground (by show (n303_16).length ≤ 1048576; omega)) rfl (.agg (.keep rfl rfl (.lend rfl rfl (lend_le (by omega)) (lend_eq (by omega)) (.lend rfl rfl (lend_le (by omega)) (lend_eq (by omega)) (.keep rfl rfl (.keep rfl rfl (.keep rfl rfl (.keep rfl rfl (.keep rfl rfl (.keep rfl rfl (.keep rfl rfl (.keep rfl rfl .nil))))))))))) rfl (.keep rfl rfl .nil)) (lend2 rfl (owns_map irow_frees) (lend1 rfl (owns_map Cell.row_frees))) (by decide) ?_
 rintro _ ⟨cP126, wP126, hP126, rfl, _⟩
 refine ⟨rfl, ⟨⟨trivial, trivial, trivial, (plainr_map irow_plains _), trivial, trivial, trivial⟩, trivial, trivial⟩, ?_⟩
 refine AOps.nil ⟨rfl, ?_⟩
 refine AHeld.two 7 10 rfl rfl (by kernel_rfl) ?_ ?_
 refine AOps.moveX rfl (by decide) ?_
 refine AOps.nil ⟨rfl, ?_⟩
 refine AHeld.blind 9 rfl (by kernel_rfl) (Blind.extract rfl rfl rfl) (by decide) ?_
 refine AHeld.two 8 10 rfl rfl (by kernel_rfl) ?_ ?_
 refine AOps.extractU rfl rfl (by decide) ?_
 refine AOps.nil ⟨rfl, ?_⟩
 refine AHeld.one 10 rfl (by kernel_rfl) (AOps.alloc 109 ze39 rfl rfl (by decide) ?_)
 refine AOps.nil ⟨rfl, ?_⟩
 refine AHeld.one 11 rfl (by kernel_rfl) ?_
 refine AOps.sh (Sh.freezeX (d := 127) (y := .agg [.v (.int .i64 cP126.kind), .v (.int .i64 cP126.op), .v (.int .i64 cP126.out), .fz 1 (cP126.args.map irow), .v (.int .u64 ((cP126.num : Nat) : Int)), .v (.int .i64 cP126.mem)]) rfl (by show X.ffz (.agg [.v (.int .i64 cP126.kind), .v (.int .i64 cP126.op), .v (.int .i64 cP126.out), .uni 1 (cP126.args.map irow), .v (.int .u64 ((cP126.num : Nat) : Int)), .v (.int .i64 cP126.mem)]) = _; simp only [X.ffz, X.ffzs, X.ffzr_frees (Frees.map irow_frees)])) ?_
 refine AOps.storeC si39 rfl rfl rfl rfl rfl rfl (Nat.le_of_ble_eq_true rfl) rfl ?_
 refine AOps.nil ⟨rfl, ?_⟩
 refine AHeld.one 12 rfl (by kernel_rfl) ?_
 refine .an ?_
 refine AOps.nil ⟨rfl, ?_⟩
 refine AHeld.done (by kernel_rfl) ?_
 refine AWp.le (st' := ⟨[(1, .fp (Pln.row p) 0), (2, .ptr 102 0 0 0), (3, .ptr 103 0 0 0), (8, vi (i8_20 : Int)), (9, .ptr 109 0 0 0), (10, vi wP126)], [(102, .cells [.v (.string ByteArray.empty), .v (.slice none 0 0), .v (.slice none 0 0), .v (.slice none 0 0), .v (.slice none 0 0), .v (.slice none 0 0), .v (.slice none 0 0), .v (.slice none 0 0), vi 0, vi 0, .v (.slice none 0 0)]), (103, .cells [.v (.string nB), .slc 401 1 0 n301_20.length, .slc 402 6 0 n302_20.length, .fz 1 (n303_16.map irow), .fz 5 (n304_8.map Arr.row), .fz 3 (n305_12.map Strm.row), .v (.slice none 0 0), .v (.slice none 0 0), vi 0, vi 0, .v (.slice none 0 0)]), (109, .cells [vi cP126.kind, vi cP126.op, vi cP126.out, .fz 1 (cP126.args.map irow), .v (.int .u64 ((cP126.num : Nat) : Int)), vi cP126.mem]), (401, .rows 1 (n301_20.map irow)), (402, .rows 6 (n302_20.map Cell.row))]⟩) (Le.mk (.c (.c (.c (.c (.c (.c (.nil))))))) (.c (.c (.c (.c (.c (.nil))))))) ?_
 refine AWp.sr ?_
 refine .fa fl39_0 ?_
 refine .ld sh3 ?_
 refine .vl (Y.neq rfl rfl) (AOps.nil ?_)
 refine AWp.condD rfl (fun c131 => ?_) (fun c131 => ?_)
 refine AWp.seq (AWp.sr ?_)
 refine .fa fl39_0 ?_
 refine .ld sh3 ?_
 refine .vl (Y.neq rfl rfl) (AOps.nil ?_)
 refine AWp.condD rfl (fun c134 => ?_) (fun c134 => ?_)
 refine AWp.sr ?_
 refine .fa fl27_1 ?_
 refine .ld sh22 ?_
 refine .vl (Y.len (n := n301_20.length) sl22 rfl rfl) ?_
 refine .fa fl39_2 ?_
 refine AOps.storeC si3 rfl rfl rfl rfl rfl rfl (Nat.le_of_ble_eq_true rfl) rfl (AOps.nil (AWp.region ?_))
 refine .fa fl27_1 ?_
 refine .ld sh22 ?_
 refine .mv ?_
 refine AOps.buildSlice (([wP126] : List Int).map irow) sl22 ze3 rfl rfl rfl rfl rfl (uniform_map (s := 1) (f := irow) (fun _ => rfl)) rfl rfl rfl (by decide) ?_
 refine AOps.appendE ((n301_20 ++ ([wP126] : List Int)).map irow) (n301_20 ++ ([wP126] : List Int)).length sl22 ze3 rfl rfl rfl rfl (app_le (by first | omega | (simp only [lateN_len]; omega) | (simp [-List.getD_eq_getElem?_getD]; done) | (simp [-List.getD_eq_getElem?_getD]; omega))) (app_map (by first | omega | (simp only [lateN_len]; omega) | (simp [-List.getD_eq_getElem?_getD]; done) | (simp [-List.getD_eq_getElem?_getD]; omega))) (app_n (by first | omega | (simp only [lateN_len]; omega) | (simp [-List.getD_eq_getElem?_getD]; done) | (simp [-List.getD_eq_getElem?_getD]; omega))) (by first | omega | (simp only [lateN_len]; omega) | (simp [-List.getD_eq_getElem?_getD]; done) | (simp [-List.getD_eq_getElem?_getD]; omega)) (by first | omega | (simp only [lateN_len]; omega) | (simp [-List.getD_eq_getElem?_getD]; done) | (simp [-List.getD_eq_getElem?_getD]; omega)) (by decide) (by decide) ?_
 refine .fa fl27_1 ?_
 refine AOps.storeC si22 rfl rfl rfl rfl rfl rfl (Nat.le_of_ble_eq_true rfl) rfl (AOps.nil (AWp.region ?_))
 refine .fa fl27_2 ?_
 refine .ld sh23 ?_
 refine .vl (Y.loadA sh39 rfl rfl (Nat.le_of_ble_eq_true rfl) rfl rfl) ?_
 refine AOps.buildSlice (([(⟨cP126.kind, cP126.op, ((n301_20.length : Nat) : Int), cP126.args, cP126.num, cP126.mem⟩ : Cell)] : List Cell).map Cell.row) sl23 ze39 rfl rfl rfl rfl rfl (uniform_map (s := 6) (f := Cell.row) (fun _ => rfl)) rfl rfl rfl (by decide) ?_
 refine AOps.appendE ((n302_20 ++ ([(⟨cP126.kind, cP126.op, ((n301_20.length : Nat) : Int), cP126.args, cP126.num, cP126.mem⟩ : Cell)] : List Cell)).map Cell.row) (n302_20 ++ ([(⟨cP126.kind, cP126.op, ((n301_20.length : Nat) : Int), cP126.args, cP126.num, cP126.mem⟩ : Cell)] : List Cell)).length sl23 ze39 rfl rfl rfl rfl (app_le (by first | omega | (simp only [lateN_len]; omega) | (simp [-List.getD_eq_getElem?_getD]; done) | (simp [-List.getD_eq_getElem?_getD]; omega))) (app_map (by first | omega | (simp only [lateN_len]; omega) | (simp [-List.getD_eq_getElem?_getD]; done) | (simp [-List.getD_eq_getElem?_getD]; omega))) (app_n (by first | omega | (simp only [lateN_len]; omega) | (simp [-List.getD_eq_getElem?_getD]; done) | (simp [-List.getD_eq_getElem?_getD]; omega))) (by first | omega | (simp only [lateN_len]; omega) | (simp [-List.getD_eq_getElem?_getD]; done) | (simp [-List.getD_eq_getElem?_getD]; omega)) (by first | omega | (simp only [lateN_len]; omega) | (simp [-List.getD_eq_getElem?_getD]; done) | (simp [-List.getD_eq_getElem?_getD]; omega)) (by decide) (by decide) ?_
 refine .fa fl27_2 ?_
 refine AOps.storeC si23 rfl rfl rfl rfl rfl rfl (Nat.le_of_ble_eq_true rfl) rfl (AOps.nil ?_)
 exact ⟨n301_20 ++ ([wP126] : List Int), n302_20 ++ ([(⟨cP126.kind, cP126.op, ((n301_20.length : Nat) : Int), cP126.args, cP126.num, cP126.mem⟩ : Cell)] : List Cell), by first | exact ⟨hGr.add (by omega) (hP126.resolve_left (by assumption)) (by assumption), by constructor <;> (simp only [List.length_append, List.length_cons, List.length_nil]; omega), by constructor <;> (simp only [List.length_append, List.length_cons, List.length_nil]; omega)⟩ | exact ⟨hGr.addW (by omega) (hP126.resolve_left (by assumption)) (Classical.not_not.1 (by assumption)), by constructor <;> (simp only [List.length_append, List.length_cons, List.length_nil]; omega), by omega⟩ | exact ⟨hGr, by omega, by omega⟩, Le.mk (.c (.c (.c (.c (.nil))))) (.c (.cons (look_cells rfl (by first | rfl | (simp only [List.cons.injEq, X.v.injEq, X.slc.injEq, Value.int.injEq, and_true, true_and]; omega) | simp_all)) (.c (.c (.nil)))))⟩
 refine AWp.skip (AWp.region ?_)
 refine .fa fl27_2 ?_
 refine .ld sh23 ?_
 refine .vl (Y.loadA sh39 rfl rfl (Nat.le_of_ble_eq_true rfl) rfl rfl) ?_
 refine AOps.buildSlice (([cP126] : List Cell).map Cell.row) sl23 ze39 rfl rfl rfl rfl rfl (uniform_map (s := 6) (f := Cell.row) (fun _ => rfl)) rfl rfl rfl (by decide) ?_
 refine AOps.appendE ((n302_20 ++ ([cP126] : List Cell)).map Cell.row) (n302_20 ++ ([cP126] : List Cell)).length sl23 ze39 rfl rfl rfl rfl (app_le (by first | omega | (simp only [lateN_len]; omega) | (simp [-List.getD_eq_getElem?_getD]; done) | (simp [-List.getD_eq_getElem?_getD]; omega))) (app_map (by first | omega | (simp only [lateN_len]; omega) | (simp [-List.getD_eq_getElem?_getD]; done) | (simp [-List.getD_eq_getElem?_getD]; omega))) (app_n (by first | omega | (simp only [lateN_len]; omega) | (simp [-List.getD_eq_getElem?_getD]; done) | (simp [-List.getD_eq_getElem?_getD]; omega))) (by first | omega | (simp only [lateN_len]; omega) | (simp [-List.getD_eq_getElem?_getD]; done) | (simp [-List.getD_eq_getElem?_getD]; omega)) (by first | omega | (simp only [lateN_len]; omega) | (simp [-List.getD_eq_getElem?_getD]; done) | (simp [-List.getD_eq_getElem?_getD]; omega)) (by decide) (by decide) ?_
 refine .fa fl27_2 ?_
 refine AOps.storeC si23 rfl rfl rfl rfl rfl rfl (Nat.le_of_ble_eq_true rfl) rfl (AOps.nil ?_)
 exact ⟨n301_20, n302_20 ++ ([cP126] : List Cell), by first | exact ⟨hGr.add (by omega) (hP126.resolve_left (by assumption)) (by assumption), by constructor <;> (simp only [List.length_append, List.length_cons, List.length_nil]; omega), by constructor <;> (simp only [List.length_append, List.length_cons, List.length_nil]; omega)⟩ | exact ⟨hGr.addW (by omega) (hP126.resolve_left (by assumption)) (Classical.not_not.1 (by assumption)), by constructor <;> (simp only [List.length_append, List.length_cons, List.length_nil]; omega), by omega⟩ | exact ⟨hGr, by omega, by omega⟩, Le.mk (.c (.c (.c (.c (.nil))))) (.c (.cons (look_cells rfl (by first | rfl | (simp only [List.cons.injEq, X.v.injEq, X.slc.injEq, Value.int.injEq, and_true, true_and]; omega) | simp_all)) (.c (.c (.nil)))))⟩
 refine AWp.skip ?_
 exact ⟨n301_20, n302_20, by first | exact ⟨hGr.add (by omega) (hP126.resolve_left (by assumption)) (by assumption), by constructor <;> (simp only [List.length_append, List.length_cons, List.length_nil]; omega), by constructor <;> (simp only [List.length_append, List.length_cons, List.length_nil]; omega)⟩ | exact ⟨hGr.addW (by omega) (hP126.resolve_left (by assumption)) (Classical.not_not.1 (by assumption)), by constructor <;> (simp only [List.length_append, List.length_cons, List.length_nil]; omega), by omega⟩ | exact ⟨hGr, by omega, by omega⟩, Le.mk (.c (.c (.c (.c (.nil))))) (.c (.cons (look_cells rfl (by first | rfl | (simp only [List.cons.injEq, X.v.injEq, X.slc.injEq, Value.int.injEq, and_true, true_and]; omega) | simp_all)) (.c (.c (.nil)))))⟩
 refine AOps.alloc 109 ze39 rfl rfl (by decide) ?_
 refine AOps.nil ⟨rfl, ?_⟩
 refine AHeld.one 8 rfl (by kernel_rfl) (AOps.extractU rfl rfl (by decide) ?_)
 refine AOps.nil ⟨rfl, ?_⟩
 refine AHeld.one 11 rfl (by kernel_rfl) ?_
 refine AOps.sh (Sh.freezeX (d := 127) (y := .agg [.v (.int .i64 cP126.kind), .v (.int .i64 cP126.op), .v (.int .i64 cP126.out), .fz 1 (cP126.args.map irow), .v (.int .u64 ((cP126.num : Nat) : Int)), .v (.int .i64 cP126.mem)]) rfl (by show X.ffz (.agg [.v (.int .i64 cP126.kind), .v (.int .i64 cP126.op), .v (.int .i64 cP126.out), .uni 1 (cP126.args.map irow), .v (.int .u64 ((cP126.num : Nat) : Int)), .v (.int .i64 cP126.mem)]) = _; simp only [X.ffz, X.ffzs, X.ffzr_frees (Frees.map irow_frees)])) ?_
 refine AOps.storeC si39 rfl rfl rfl rfl rfl rfl (Nat.le_of_ble_eq_true rfl) rfl ?_
 refine AOps.nil ⟨rfl, ?_⟩
 refine AHeld.one 12 rfl (by kernel_rfl) ?_
 refine .an ?_
 refine AOps.nil ⟨rfl, ?_⟩
 refine AHeld.done (by kernel_rfl) ?_
 refine AWp.le (st' := ⟨[(1, .fp (Pln.row p) 0), (2, .ptr 102 0 0 0), (3, .ptr 103 0 0 0), (8, vi (i8_20 : Int)), (9, .ptr 109 0 0 0), (10, vi wP126)], [(102, .cells [.v (.string ByteArray.empty), .v (.slice none 0 0), .v (.slice none 0 0), .v (.slice none 0 0), .v (.slice none 0 0), .v (.slice none 0 0), .v (.slice none 0 0), .v (.slice none 0 0), vi 0, vi 0, .v (.slice none 0 0)]), (103, .cells [.v (.string nB), .slc 401 1 0 n301_20.length, .slc 402 6 0 n302_20.length, .fz 1 (n303_16.map irow), .fz 5 (n304_8.map Arr.row), .fz 3 (n305_12.map Strm.row), .v (.slice none 0 0), .v (.slice none 0 0), vi 0, vi 0, .v (.slice none 0 0)]), (109, .cells [vi cP126.kind, vi cP126.op, vi cP126.out, .fz 1 (cP126.args.map irow), .v (.int .u64 ((cP126.num : Nat) : Int)), vi cP126.mem]), (401, .rows 1 (n301_20.map irow)), (402, .rows 6 (n302_20.map Cell.row))]⟩) (Le.mk (.c (.c (.c (.c (.c (.c (.nil))))))) (.c (.c (.c (.c (.c (.nil))))))) ?_
 refine AWp.sr ?_
 refine .fa fl39_0 ?_
 refine .ld sh3 ?_
 refine .vl (Y.neq rfl rfl) (AOps.nil ?_)
 refine AWp.condD rfl (fun c131 => ?_) (fun c131 => ?_)
 refine AWp.seq (AWp.sr ?_)
 refine .fa fl39_0 ?_
 refine .ld sh3 ?_
 refine .vl (Y.neq rfl rfl) (AOps.nil ?_)
 refine AWp.condD rfl (fun c134 => ?_) (fun c134 => ?_)
 refine AWp.sr ?_
 refine .fa fl27_1 ?_
 refine .ld sh22 ?_
 refine .vl (Y.len (n := n301_20.length) sl22 rfl rfl) ?_
 refine .fa fl39_2 ?_
 refine AOps.storeC si3 rfl rfl rfl rfl rfl rfl (Nat.le_of_ble_eq_true rfl) rfl (AOps.nil (AWp.region ?_))
 refine .fa fl27_1 ?_
 refine .ld sh22 ?_
 refine .mv ?_
 refine AOps.buildSlice (([wP126] : List Int).map irow) sl22 ze3 rfl rfl rfl rfl rfl (uniform_map (s := 1) (f := irow) (fun _ => rfl)) rfl rfl rfl (by decide) ?_
 refine AOps.appendE ((n301_20 ++ ([wP126] : List Int)).map irow) (n301_20 ++ ([wP126] : List Int)).length sl22 ze3 rfl rfl rfl rfl (app_le (by first | omega | (simp only [lateN_len]; omega) | (simp [-List.getD_eq_getElem?_getD]; done) | (simp [-List.getD_eq_getElem?_getD]; omega))) (app_map (by first | omega | (simp only [lateN_len]; omega) | (simp [-List.getD_eq_getElem?_getD]; done) | (simp [-List.getD_eq_getElem?_getD]; omega))) (app_n (by first | omega | (simp only [lateN_len]; omega) | (simp [-List.getD_eq_getElem?_getD]; done) | (simp [-List.getD_eq_getElem?_getD]; omega))) (by first | omega | (simp only [lateN_len]; omega) | (simp [-List.getD_eq_getElem?_getD]; done) | (simp [-List.getD_eq_getElem?_getD]; omega)) (by first | omega | (simp only [lateN_len]; omega) | (simp [-List.getD_eq_getElem?_getD]; done) | (simp [-List.getD_eq_getElem?_getD]; omega)) (by decide) (by decide) ?_
 refine .fa fl27_1 ?_
 refine AOps.storeC si22 rfl rfl rfl rfl rfl rfl (Nat.le_of_ble_eq_true rfl) rfl (AOps.nil (AWp.region ?_))
 refine .fa fl27_2 ?_
 refine .ld sh23 ?_
 refine .vl (Y.loadA sh39 rfl rfl (Nat.le_of_ble_eq_true rfl) rfl rfl) ?_
 refine AOps.buildSlice (([(⟨cP126.kind, cP126.op, ((n301_20.length : Nat) : Int), cP126.args, cP126.num, cP126.mem⟩ : Cell)] : List Cell).map Cell.row) sl23 ze39 rfl rfl rfl rfl rfl (uniform_map (s := 6) (f := Cell.row) (fun _ => rfl)) rfl rfl rfl (by decide) ?_
 refine AOps.appendE ((n302_20 ++ ([(⟨cP126.kind, cP126.op, ((n301_20.length : Nat) : Int), cP126.args, cP126.num, cP126.mem⟩ : Cell)] : List Cell)).map Cell.row) (n302_20 ++ ([(⟨cP126.kind, cP126.op, ((n301_20.length : Nat) : Int), cP126.args, cP126.num, cP126.mem⟩ : Cell)] : List Cell)).length sl23 ze39 rfl rfl rfl rfl (app_le (by first | omega | (simp only [lateN_len]; omega) | (simp [-List.getD_eq_getElem?_getD]; done) | (simp [-List.getD_eq_getElem?_getD]; omega))) (app_map (by first | omega | (simp only [lateN_len]; omega) | (simp [-List.getD_eq_getElem?_getD]; done) | (simp [-List.getD_eq_getElem?_getD]; omega))) (app_n (by first | omega | (simp only [lateN_len]; omega) | (simp [-List.getD_eq_getElem?_getD]; done) | (simp [-List.getD_eq_getElem?_getD]; omega))) (by first | omega | (simp only [lateN_len]; omega) | (simp [-List.getD_eq_getElem?_getD]; done) | (simp [-List.getD_eq_getElem?_getD]; omega)) (by first | omega | (simp only [lateN_len]; omega) | (simp [-List.getD_eq_getElem?_getD]; done) | (simp [-List.getD_eq_getElem?_getD]; omega)) (by decide) (by decide) ?_
 refine .fa fl27_2 ?_
 refine AOps.storeC si23 rfl rfl rfl rfl rfl rfl (Nat.le_of_ble_eq_true rfl) rfl (AOps.nil ?_)
 exact ⟨n301_20 ++ ([wP126] : List Int), n302_20 ++ ([(⟨cP126.kind, cP126.op, ((n301_20.length : Nat) : Int), cP126.args, cP126.num, cP126.mem⟩ : Cell)] : List Cell), by first | exact ⟨hGr.add (by omega) (hP126.resolve_left (by assumption)) (by assumption), by constructor <;> (simp only [List.length_append, List.length_cons, List.length_nil]; omega), by constructor <;> (simp only [List.length_append, List.length_cons, List.length_nil]; omega)⟩ | exact ⟨hGr.addW (by omega) (hP126.resolve_left (by assumption)) (Classical.not_not.1 (by assumption)), by constructor <;> (simp only [List.length_append, List.length_cons, List.length_nil]; omega), by omega⟩ | exact ⟨hGr, by omega, by omega⟩, Le.mk (.c (.c (.c (.c (.nil))))) (.c (.cons (look_cells rfl (by first | rfl | (simp only [List.cons.injEq, X.v.injEq, X.slc.injEq, Value.int.injEq, and_true, true_and]; omega) | simp_all)) (.c (.c (.nil)))))⟩
 refine AWp.skip (AWp.region ?_)
 refine .fa fl27_2 ?_
 refine .ld sh23 ?_
 refine .vl (Y.loadA sh39 rfl rfl (Nat.le_of_ble_eq_true rfl) rfl rfl) ?_
 refine AOps.buildSlice (([cP126] : List Cell).map Cell.row) sl23 ze39 rfl rfl rfl rfl rfl (uniform_map (s := 6) (f := Cell.row) (fun _ => rfl)) rfl rfl rfl (by decide) ?_
 refine AOps.appendE ((n302_20 ++ ([cP126] : List Cell)).map Cell.row) (n302_20 ++ ([cP126] : List Cell)).length sl23 ze39 rfl rfl rfl rfl (app_le (by first | omega | (simp only [lateN_len]; omega) | (simp [-List.getD_eq_getElem?_getD]; done) | (simp [-List.getD_eq_getElem?_getD]; omega))) (app_map (by first | omega | (simp only [lateN_len]; omega) | (simp [-List.getD_eq_getElem?_getD]; done) | (simp [-List.getD_eq_getElem?_getD]; omega))) (app_n (by first | omega | (simp only [lateN_len]; omega) | (simp [-List.getD_eq_getElem?_getD]; done) | (simp [-List.getD_eq_getElem?_getD]; omega))) (by first | omega | (simp only [lateN_len]; omega) | (simp [-List.getD_eq_getElem?_getD]; done) | (simp [-List.getD_eq_getElem?_getD]; omega)) (by first | omega | (simp only [lateN_len]; omega) | (simp [-List.getD_eq_getElem?_getD]; done) | (simp [-List.getD_eq_getElem?_getD]; omega)) (by decide) (by decide) ?_
 refine .fa fl27_2 ?_
 refine AOps.storeC si23 rfl rfl rfl rfl rfl rfl (Nat.le_of_ble_eq_true rfl) rfl (AOps.nil ?_)
 exact ⟨n301_20, n302_20 ++ ([cP126] : List Cell), by first | exact ⟨hGr.add (by omega) (hP126.resolve_left (by assumption)) (by assumption), by constructor <;> (simp only [List.length_append, List.length_cons, List.length_nil]; omega), by constructor <;> (simp only [List.length_append, List.length_cons, List.length_nil]; omega)⟩ | exact ⟨hGr.addW (by omega) (hP126.resolve_left (by assumption)) (Classical.not_not.1 (by assumption)), by constructor <;> (simp only [List.length_append, List.length_cons, List.length_nil]; omega), by omega⟩ | exact ⟨hGr, by omega, by omega⟩, Le.mk (.c (.c (.c (.c (.nil))))) (.c (.cons (look_cells rfl (by first | rfl | (simp only [List.cons.injEq, X.v.injEq, X.slc.injEq, Value.int.injEq, and_true, true_and]; omega) | simp_all)) (.c (.c (.nil)))))⟩
 refine AWp.skip ?_
 exact ⟨n301_20, n302_20, by first | exact ⟨hGr.add (by omega) (hP126.resolve_left (by assumption)) (by assumption), by constructor <;> (simp only [List.length_append, List.length_cons, List.length_nil]; omega), by constructor <;> (simp only [List.length_append, List.length_cons, List.length_nil]; omega)⟩ | exact ⟨hGr.addW (by omega) (hP126.resolve_left (by assumption)) (Classical.not_not.1 (by assumption)), by constructor <;> (simp only [List.length_append, List.length_cons, List.length_nil]; omega), by omega⟩ | exact ⟨hGr, by omega, by omega⟩, Le.mk (.c (.c (.c (.c (.nil))))) (.c (.cons (look_cells rfl (by first | rfl | (simp only [List.cons.injEq, X.v.injEq, X.slc.injEq, Value.int.injEq, and_true, true_and]; omega) | simp_all)) (.c (.c (.nil)))))⟩
 refine AOps.alloc 109 ze39 rfl rfl (by decide) ?_
 refine AOps.nil ⟨rfl, ?_⟩
 refine AHeld.one 7 rfl (by kernel_rfl) (AOps.moveX rfl (by decide) ?_)
 refine AOps.nil ⟨rfl, ?_⟩
 refine AHeld.blind 9 rfl (by kernel_rfl) (Blind.extract rfl rfl rfl) (by decide) (AHeld.one 8 rfl (by kernel_rfl) (AOps.extractU rfl rfl (by decide) ?_))
 refine AOps.nil ⟨rfl, ?_⟩
 refine AHeld.one 11 rfl (by kernel_rfl) ?_
 refine AOps.sh (Sh.freezeX (d := 127) (y := .agg [.v (.int .i64 cP126.kind), .v (.int .i64 cP126.op), .v (.int .i64 cP126.out), .fz 1 (cP126.args.map irow), .v (.int .u64 ((cP126.num : Nat) : Int)), .v (.int .i64 cP126.mem)]) rfl (by show X.ffz (.agg [.v (.int .i64 cP126.kind), .v (.int .i64 cP126.op), .v (.int .i64 cP126.out), .uni 1 (cP126.args.map irow), .v (.int .u64 ((cP126.num : Nat) : Int)), .v (.int .i64 cP126.mem)]) = _; simp only [X.ffz, X.ffzs, X.ffzr_frees (Frees.map irow_frees)])) ?_
 refine AOps.storeC si39 rfl rfl rfl rfl rfl rfl (Nat.le_of_ble_eq_true rfl) rfl ?_
 refine AOps.nil ⟨rfl, ?_⟩
 refine AHeld.one 12 rfl (by kernel_rfl) ?_
 refine .an ?_
 refine AOps.nil ⟨rfl, ?_⟩
 refine AHeld.done (by kernel_rfl) ?_
 refine AWp.le (st' := ⟨[(1, .fp (Pln.row p) 0), (2, .ptr 102 0 0 0), (3, .ptr 103 0 0 0), (8, vi (i8_20 : Int)), (9, .ptr 109 0 0 0), (10, vi wP126)], [(102, .cells [.v (.string ByteArray.empty), .v (.slice none 0 0), .v (.slice none 0 0), .v (.slice none 0 0), .v (.slice none 0 0), .v (.slice none 0 0), .v (.slice none 0 0), .v (.slice none 0 0), vi 0, vi 0, .v (.slice none 0 0)]), (103, .cells [.v (.string nB), .slc 401 1 0 n301_20.length, .slc 402 6 0 n302_20.length, .fz 1 (n303_16.map irow), .fz 5 (n304_8.map Arr.row), .fz 3 (n305_12.map Strm.row), .v (.slice none 0 0), .v (.slice none 0 0), vi 0, vi 0, .v (.slice none 0 0)]), (109, .cells [vi cP126.kind, vi cP126.op, vi cP126.out, .fz 1 (cP126.args.map irow), .v (.int .u64 ((cP126.num : Nat) : Int)), vi cP126.mem]), (401, .rows 1 (n301_20.map irow)), (402, .rows 6 (n302_20.map Cell.row))]⟩) (Le.mk (.c (.c (.c (.c (.c (.c (.nil))))))) (.c (.c (.c (.c (.c (.nil))))))) ?_
 refine AWp.sr ?_
 refine .fa fl39_0 ?_
 refine .ld sh3 ?_
 refine .vl (Y.neq rfl rfl) (AOps.nil ?_)
 refine AWp.condD rfl (fun c131 => ?_) (fun c131 => ?_)
 refine AWp.seq (AWp.sr ?_)
 refine .fa fl39_0 ?_
 refine .ld sh3 ?_
 refine .vl (Y.neq rfl rfl) (AOps.nil ?_)
 refine AWp.condD rfl (fun c134 => ?_) (fun c134 => ?_)
 refine AWp.sr ?_
 refine .fa fl27_1 ?_
 refine .ld sh22 ?_
 refine .vl (Y.len (n := n301_20.length) sl22 rfl rfl) ?_
 refine .fa fl39_2 ?_
 refine AOps.storeC si3 rfl rfl rfl rfl rfl rfl (Nat.le_of_ble_eq_true rfl) rfl (AOps.nil (AWp.region ?_))
 refine .fa fl27_1 ?_
 refine .ld sh22 ?_
 refine .mv ?_
 refine AOps.buildSlice (([wP126] : List Int).map irow) sl22 ze3 rfl rfl rfl rfl rfl (uniform_map (s := 1) (f := irow) (fun _ => rfl)) rfl rfl rfl (by decide) ?_
 refine AOps.appendE ((n301_20 ++ ([wP126] : List Int)).map irow) (n301_20 ++ ([wP126] : List Int)).length sl22 ze3 rfl rfl rfl rfl (app_le (by first | omega | (simp only [lateN_len]; omega) | (simp [-List.getD_eq_getElem?_getD]; done) | (simp [-List.getD_eq_getElem?_getD]; omega))) (app_map (by first | omega | (simp only [lateN_len]; omega) | (simp [-List.getD_eq_getElem?_getD]; done) | (simp [-List.getD_eq_getElem?_getD]; omega))) (app_n (by first | omega | (simp only [lateN_len]; omega) | (simp [-List.getD_eq_getElem?_getD]; done) | (simp [-List.getD_eq_getElem?_getD]; omega))) (by first | omega | (simp only [lateN_len]; omega) | (simp [-List.getD_eq_getElem?_getD]; done) | (simp [-List.getD_eq_getElem?_getD]; omega)) (by first | omega | (simp only [lateN_len]; omega) | (simp [-List.getD_eq_getElem?_getD]; done) | (simp [-List.getD_eq_getElem?_getD]; omega)) (by decide) (by decide) ?_
 refine .fa fl27_1 ?_
 refine AOps.storeC si22 rfl rfl rfl rfl rfl rfl (Nat.le_of_ble_eq_true rfl) rfl (AOps.nil (AWp.region ?_))
 refine .fa fl27_2 ?_
 refine .ld sh23 ?_
 refine .vl (Y.loadA sh39 rfl rfl (Nat.le_of_ble_eq_true rfl) rfl rfl) ?_
 refine AOps.buildSlice (([(⟨cP126.kind, cP126.op, ((n301_20.length : Nat) : Int), cP126.args, cP126.num, cP126.mem⟩ : Cell)] : List Cell).map Cell.row) sl23 ze39 rfl rfl rfl rfl rfl (uniform_map (s := 6) (f := Cell.row) (fun _ => rfl)) rfl rfl rfl (by decide) ?_
 refine AOps.appendE ((n302_20 ++ ([(⟨cP126.kind, cP126.op, ((n301_20.length : Nat) : Int), cP126.args, cP126.num, cP126.mem⟩ : Cell)] : List Cell)).map Cell.row) (n302_20 ++ ([(⟨cP126.kind, cP126.op, ((n301_20.length : Nat) : Int), cP126.args, cP126.num, cP126.mem⟩ : Cell)] : List Cell)).length sl23 ze39 rfl rfl rfl rfl (app_le (by first | omega | (simp only [lateN_len]; omega) | (simp [-List.getD_eq_getElem?_getD]; done) | (simp [-List.getD_eq_getElem?_getD]; omega))) (app_map (by first | omega | (simp only [lateN_len]; omega) | (simp [-List.getD_eq_getElem?_getD]; done) | (simp [-List.getD_eq_getElem?_getD]; omega))) (app_n (by first | omega | (simp only [lateN_len]; omega) | (simp [-List.getD_eq_getElem?_getD]; done) | (simp [-List.getD_eq_getElem?_getD]; omega))) (by first | omega | (simp only [lateN_len]; omega) | (simp [-List.getD_eq_getElem?_getD]; done) | (simp [-List.getD_eq_getElem?_getD]; omega)) (by first | omega | (simp only [lateN_len]; omega) | (simp [-List.getD_eq_getElem?_getD]; done) | (simp [-List.getD_eq_getElem?_getD]; omega)) (by decide) (by decide) ?_
 refine .fa fl27_2 ?_
 refine AOps.storeC si23 rfl rfl rfl rfl rfl rfl (Nat.le_of_ble_eq_true rfl) rfl (AOps.nil ?_)
 exact ⟨n301_20 ++ ([wP126] : List Int), n302_20 ++ ([(⟨cP126.kind, cP126.op, ((n301_20.length : Nat) : Int), cP126.args, cP126.num, cP126.mem⟩ : Cell)] : List Cell), by first | exact ⟨hGr.add (by omega) (hP126.resolve_left (by assumption)) (by assumption), by constructor <;> (simp only [List.length_append, List.length_cons, List.length_nil]; omega), by constructor <;> (simp only [List.length_append, List.length_cons, List.length_nil]; omega)⟩ | exact ⟨hGr.addW (by omega) (hP126.resolve_left (by assumption)) (Classical.not_not.1 (by assumption)), by constructor <;> (simp only [List.length_append, List.length_cons, List.length_nil]; omega), by omega⟩ | exact ⟨hGr, by omega, by omega⟩, Le.mk (.c (.c (.c (.c (.nil))))) (.c (.cons (look_cells rfl (by first | rfl | (simp only [List.cons.injEq, X.v.injEq, X.slc.injEq, Value.int.injEq, and_true, true_and]; omega) | simp_all)) (.c (.c (.nil)))))⟩
 refine AWp.skip (AWp.region ?_)
 refine .fa fl27_2 ?_
 refine .ld sh23 ?_
 refine .vl (Y.loadA sh39 rfl rfl (Nat.le_of_ble_eq_true rfl) rfl rfl) ?_
 refine AOps.buildSlice (([cP126] : List Cell).map Cell.row) sl23 ze39 rfl rfl rfl rfl rfl (uniform_map (s := 6) (f := Cell.row) (fun _ => rfl)) rfl rfl rfl (by decide) ?_
 refine AOps.appendE ((n302_20 ++ ([cP126] : List Cell)).map Cell.row) (n302_20 ++ ([cP126] : List Cell)).length sl23 ze39 rfl rfl rfl rfl (app_le (by first | omega | (simp only [lateN_len]; omega) | (simp [-List.getD_eq_getElem?_getD]; done) | (simp [-List.getD_eq_getElem?_getD]; omega))) (app_map (by first | omega | (simp only [lateN_len]; omega) | (simp [-List.getD_eq_getElem?_getD]; done) | (simp [-List.getD_eq_getElem?_getD]; omega))) (app_n (by first | omega | (simp only [lateN_len]; omega) | (simp [-List.getD_eq_getElem?_getD]; done) | (simp [-List.getD_eq_getElem?_getD]; omega))) (by first | omega | (simp only [lateN_len]; omega) | (simp [-List.getD_eq_getElem?_getD]; done) | (simp [-List.getD_eq_getElem?_getD]; omega)) (by first | omega | (simp only [lateN_len]; omega) | (simp [-List.getD_eq_getElem?_getD]; done) | (simp [-List.getD_eq_getElem?_getD]; omega)) (by decide) (by decide) ?_
 refine .fa fl27_2 ?_
 refine AOps.storeC si23 rfl rfl rfl rfl rfl rfl (Nat.le_of_ble_eq_true rfl) rfl (AOps.nil ?_)
 exact ⟨n301_20, n302_20 ++ ([cP126] : List Cell), by first | exact ⟨hGr.add (by omega) (hP126.resolve_left (by assumption)) (by assumption), by constructor <;> (simp only [List.length_append, List.length_cons, List.length_nil]; omega), by constructor <;> (simp only [List.length_append, List.length_cons, List.length_nil]; omega)⟩ | exact ⟨hGr.addW (by omega) (hP126.resolve_left (by assumption)) (Classical.not_not.1 (by assumption)), by constructor <;> (simp only [List.length_append, List.length_cons, List.length_nil]; omega), by omega⟩ | exact ⟨hGr, by omega, by omega⟩, Le.mk (.c (.c (.c (.c (.nil))))) (.c (.cons (look_cells rfl (by first | rfl | (simp only [List.cons.injEq, X.v.injEq, X.slc.injEq, Value.int.injEq, and_true, true_and]; omega) | simp_all)) (.c (.c (.nil)))))⟩
 refine AWp.skip ?_
 exact ⟨n301_20, n302_20, by first | exact ⟨hGr.add (by omega) (hP126.resolve_left (by assumption)) (by assumption), by constructor <;> (simp only [List.length_append, List.length_cons, List.length_nil]; omega), by constructor <;> (simp only [List.length_append, List.length_cons, List.length_nil]; omega)⟩ | exact ⟨hGr.addW (by omega) (hP126.resolve_left (by assumption)) (Classical.not_not.1 (by assumption)), by constructor <;> (simp only [List.length_append, List.length_cons, List.length_nil]; omega), by omega⟩ | exact ⟨hGr, by omega, by omega⟩, Le.mk (.c (.c (.c (.c (.nil))))) (.c (.cons (look_cells rfl (by first | rfl | (simp only [List.cons.injEq, X.v.injEq, X.slc.injEq, Value.int.injEq, and_true, true_and]; omega) | simp_all)) (.c (.c (.nil)))))⟩
 refine AOps.alloc 109 ze39 rfl rfl (by decide) ?_
 refine AOps.nil ⟨rfl, ?_⟩
 refine AHeld.one 6 rfl (by kernel_rfl) ?_
 refine AOps.callLV [401, 402] ok54 (part_spec (n := (⟨nB, n301_20, n302_20, n303_16, n304_8, n305_12, [], [], 0, 0, []⟩ : Netlist)) (p := (p.parts.getD i8_20 default)) (by show (n301_20).length ≤ 1048576; omega) (by show 0 < (n301_20).length; omega) (hpp _ (getD_in (by omega))) hGr.ground (by show (n303_16).length ≤ 1048576; omega)) rfl (.agg (.keep rfl rfl (.lend rfl rfl (lend_le (by omega)) (lend_eq (by omega)) (.lend rfl rfl (lend_le (by omega)) (lend_eq (by omega)) (.keep rfl rfl (.keep rfl rfl (.keep rfl rfl (.keep rfl rfl (.keep rfl rfl (.keep rfl rfl (.keep rfl rfl (.keep rfl rfl .nil))))))))))) rfl (.keep rfl rfl .nil)) (lend2 rfl (owns_map irow_frees) (lend1 rfl (owns_map Cell.row_frees))) (by decide) ?_
 rintro _ ⟨cP126, wP126, hP126, rfl, _⟩
 refine ⟨rfl, ⟨⟨trivial, trivial, trivial, (plainr_map irow_plains _), trivial, trivial, trivial⟩, trivial, trivial⟩, ?_⟩
 refine AOps.nil ⟨rfl, ?_⟩
 refine AHeld.one 7 rfl (by kernel_rfl) (AOps.moveX rfl (by decide) ?_)
 refine AOps.nil ⟨rfl, ?_⟩
 refine AHeld.blind 9 rfl (by kernel_rfl) (Blind.extract rfl rfl rfl) (by decide) (AHeld.one 8 rfl (by kernel_rfl) (AOps.extractU rfl rfl (by decide) ?_))
 refine AOps.nil ⟨rfl, ?_⟩
 refine AHeld.one 11 rfl (by kernel_rfl) ?_
 refine AOps.sh (Sh.freezeX (d := 127) (y := .agg [.v (.int .i64 cP126.kind), .v (.int .i64 cP126.op), .v (.int .i64 cP126.out), .fz 1 (cP126.args.map irow), .v (.int .u64 ((cP126.num : Nat) : Int)), .v (.int .i64 cP126.mem)]) rfl (by show X.ffz (.agg [.v (.int .i64 cP126.kind), .v (.int .i64 cP126.op), .v (.int .i64 cP126.out), .uni 1 (cP126.args.map irow), .v (.int .u64 ((cP126.num : Nat) : Int)), .v (.int .i64 cP126.mem)]) = _; simp only [X.ffz, X.ffzs, X.ffzr_frees (Frees.map irow_frees)])) ?_
 refine AOps.storeC si39 rfl rfl rfl rfl rfl rfl (Nat.le_of_ble_eq_true rfl) rfl ?_
 refine AOps.nil ⟨rfl, ?_⟩
 refine AHeld.one 12 rfl (by kernel_rfl) ?_
 refine .an ?_
 refine AOps.nil ⟨rfl, ?_⟩
 refine AHeld.done (by kernel_rfl) ?_
 refine AWp.le (st' := ⟨[(1, .fp (Pln.row p) 0), (2, .ptr 102 0 0 0), (3, .ptr 103 0 0 0), (8, vi (i8_20 : Int)), (9, .ptr 109 0 0 0), (10, vi wP126)], [(102, .cells [.v (.string ByteArray.empty), .v (.slice none 0 0), .v (.slice none 0 0), .v (.slice none 0 0), .v (.slice none 0 0), .v (.slice none 0 0), .v (.slice none 0 0), .v (.slice none 0 0), vi 0, vi 0, .v (.slice none 0 0)]), (103, .cells [.v (.string nB), .slc 401 1 0 n301_20.length, .slc 402 6 0 n302_20.length, .fz 1 (n303_16.map irow), .fz 5 (n304_8.map Arr.row), .fz 3 (n305_12.map Strm.row), .v (.slice none 0 0), .v (.slice none 0 0), vi 0, vi 0, .v (.slice none 0 0)]), (109, .cells [vi cP126.kind, vi cP126.op, vi cP126.out, .fz 1 (cP126.args.map irow), .v (.int .u64 ((cP126.num : Nat) : Int)), vi cP126.mem]), (401, .rows 1 (n301_20.map irow)), (402, .rows 6 (n302_20.map Cell.row))]⟩) (Le.mk (.c (.c (.c (.c (.c (.c (.nil))))))) (.c (.c (.c (.c (.c (.nil))))))) ?_
 refine AWp.sr ?_
 refine .fa fl39_0 ?_
 refine .ld sh3 ?_
 refine .vl (Y.neq rfl rfl) (AOps.nil ?_)
 refine AWp.condD rfl (fun c131 => ?_) (fun c131 => ?_)
 refine AWp.seq (AWp.sr ?_)
 refine .fa fl39_0 ?_
 refine .ld sh3 ?_
 refine .vl (Y.neq rfl rfl) (AOps.nil ?_)
 refine AWp.condD rfl (fun c134 => ?_) (fun c134 => ?_)
 refine AWp.sr ?_
 refine .fa fl27_1 ?_
 refine .ld sh22 ?_
 refine .vl (Y.len (n := n301_20.length) sl22 rfl rfl) ?_
 refine .fa fl39_2 ?_
 refine AOps.storeC si3 rfl rfl rfl rfl rfl rfl (Nat.le_of_ble_eq_true rfl) rfl (AOps.nil (AWp.region ?_))
 refine .fa fl27_1 ?_
 refine .ld sh22 ?_
 refine .mv ?_
 refine AOps.buildSlice (([wP126] : List Int).map irow) sl22 ze3 rfl rfl rfl rfl rfl (uniform_map (s := 1) (f := irow) (fun _ => rfl)) rfl rfl rfl (by decide) ?_
 refine AOps.appendE ((n301_20 ++ ([wP126] : List Int)).map irow) (n301_20 ++ ([wP126] : List Int)).length sl22 ze3 rfl rfl rfl rfl (app_le (by first | omega | (simp only [lateN_len]; omega) | (simp [-List.getD_eq_getElem?_getD]; done) | (simp [-List.getD_eq_getElem?_getD]; omega))) (app_map (by first | omega | (simp only [lateN_len]; omega) | (simp [-List.getD_eq_getElem?_getD]; done) | (simp [-List.getD_eq_getElem?_getD]; omega))) (app_n (by first | omega | (simp only [lateN_len]; omega) | (simp [-List.getD_eq_getElem?_getD]; done) | (simp [-List.getD_eq_getElem?_getD]; omega))) (by first | omega | (simp only [lateN_len]; omega) | (simp [-List.getD_eq_getElem?_getD]; done) | (simp [-List.getD_eq_getElem?_getD]; omega)) (by first | omega | (simp only [lateN_len]; omega) | (simp [-List.getD_eq_getElem?_getD]; done) | (simp [-List.getD_eq_getElem?_getD]; omega)) (by decide) (by decide) ?_
 refine .fa fl27_1 ?_
 refine AOps.storeC si22 rfl rfl rfl rfl rfl rfl (Nat.le_of_ble_eq_true rfl) rfl (AOps.nil (AWp.region ?_))
 refine .fa fl27_2 ?_
 refine .ld sh23 ?_
 refine .vl (Y.loadA sh39 rfl rfl (Nat.le_of_ble_eq_true rfl) rfl rfl) ?_
 refine AOps.buildSlice (([(⟨cP126.kind, cP126.op, ((n301_20.length : Nat) : Int), cP126.args, cP126.num, cP126.mem⟩ : Cell)] : List Cell).map Cell.row) sl23 ze39 rfl rfl rfl rfl rfl (uniform_map (s := 6) (f := Cell.row) (fun _ => rfl)) rfl rfl rfl (by decide) ?_
 refine AOps.appendE ((n302_20 ++ ([(⟨cP126.kind, cP126.op, ((n301_20.length : Nat) : Int), cP126.args, cP126.num, cP126.mem⟩ : Cell)] : List Cell)).map Cell.row) (n302_20 ++ ([(⟨cP126.kind, cP126.op, ((n301_20.length : Nat) : Int), cP126.args, cP126.num, cP126.mem⟩ : Cell)] : List Cell)).length sl23 ze39 rfl rfl rfl rfl (app_le (by first | omega | (simp only [lateN_len]; omega) | (simp [-List.getD_eq_getElem?_getD]; done) | (simp [-List.getD_eq_getElem?_getD]; omega))) (app_map (by first | omega | (simp only [lateN_len]; omega) | (simp [-List.getD_eq_getElem?_getD]; done) | (simp [-List.getD_eq_getElem?_getD]; omega))) (app_n (by first | omega | (simp only [lateN_len]; omega) | (simp [-List.getD_eq_getElem?_getD]; done) | (simp [-List.getD_eq_getElem?_getD]; omega))) (by first | omega | (simp only [lateN_len]; omega) | (simp [-List.getD_eq_getElem?_getD]; done) | (simp [-List.getD_eq_getElem?_getD]; omega)) (by first | omega | (simp only [lateN_len]; omega) | (simp [-List.getD_eq_getElem?_getD]; done) | (simp [-List.getD_eq_getElem?_getD]; omega)) (by decide) (by decide) ?_
 refine .fa fl27_2 ?_
 refine AOps.storeC si23 rfl rfl rfl rfl rfl rfl (Nat.le_of_ble_eq_true rfl) rfl (AOps.nil ?_)
 exact ⟨n301_20 ++ ([wP126] : List Int), n302_20 ++ ([(⟨cP126.kind, cP126.op, ((n301_20.length : Nat) : Int), cP126.args, cP126.num, cP126.mem⟩ : Cell)] : List Cell), by first | exact ⟨hGr.add (by omega) (hP126.resolve_left (by assumption)) (by assumption), by constructor <;> (simp only [List.length_append, List.length_cons, List.length_nil]; omega), by constructor <;> (simp only [List.length_append, List.length_cons, List.length_nil]; omega)⟩ | exact ⟨hGr.addW (by omega) (hP126.resolve_left (by assumption)) (Classical.not_not.1 (by assumption)), by constructor <;> (simp only [List.length_append, List.length_cons, List.length_nil]; omega), by omega⟩ | exact ⟨hGr, by omega, by omega⟩, Le.mk (.c (.c (.c (.c (.nil))))) (.c (.cons (look_cells rfl (by first | rfl | (simp only [List.cons.injEq, X.v.injEq, X.slc.injEq, Value.int.injEq, and_true, true_and]; omega) | simp_all)) (.c (.c (.nil)))))⟩
 refine AWp.skip (AWp.region ?_)
 refine .fa fl27_2 ?_
 refine .ld sh23 ?_
 refine .vl (Y.loadA sh39 rfl rfl (Nat.le_of_ble_eq_true rfl) rfl rfl) ?_
 refine AOps.buildSlice (([cP126] : List Cell).map Cell.row) sl23 ze39 rfl rfl rfl rfl rfl (uniform_map (s := 6) (f := Cell.row) (fun _ => rfl)) rfl rfl rfl (by decide) ?_
 refine AOps.appendE ((n302_20 ++ ([cP126] : List Cell)).map Cell.row) (n302_20 ++ ([cP126] : List Cell)).length sl23 ze39 rfl rfl rfl rfl (app_le (by first | omega | (simp only [lateN_len]; omega) | (simp [-List.getD_eq_getElem?_getD]; done) | (simp [-List.getD_eq_getElem?_getD]; omega))) (app_map (by first | omega | (simp only [lateN_len]; omega) | (simp [-List.getD_eq_getElem?_getD]; done) | (simp [-List.getD_eq_getElem?_getD]; omega))) (app_n (by first | omega | (simp only [lateN_len]; omega) | (simp [-List.getD_eq_getElem?_getD]; done) | (simp [-List.getD_eq_getElem?_getD]; omega))) (by first | omega | (simp only [lateN_len]; omega) | (simp [-List.getD_eq_getElem?_getD]; done) | (simp [-List.getD_eq_getElem?_getD]; omega)) (by first | omega | (simp only [lateN_len]; omega) | (simp [-List.getD_eq_getElem?_getD]; done) | (simp [-List.getD_eq_getElem?_getD]; omega)) (by decide) (by decide) ?_
 refine .fa fl27_2 ?_
 refine AOps.storeC si23 rfl rfl rfl rfl rfl rfl (Nat.le_of_ble_eq_true rfl) rfl (AOps.nil ?_)
 exact ⟨n301_20, n302_20 ++ ([cP126] : List Cell), by first | exact ⟨hGr.add (by omega) (hP126.resolve_left (by assumption)) (by assumption), by constructor <;> (simp only [List.length_append, List.length_cons, List.length_nil]; omega), by constructor <;> (simp only [List.length_append, List.length_cons, List.length_nil]; omega)⟩ | exact ⟨hGr.addW (by omega) (hP126.resolve_left (by assumption)) (Classical.not_not.1 (by assumption)), by constructor <;> (simp only [List.length_append, List.length_cons, List.length_nil]; omega), by omega⟩ | exact ⟨hGr, by omega, by omega⟩, Le.mk (.c (.c (.c (.c (.nil))))) (.c (.cons (look_cells rfl (by first | rfl | (simp only [List.cons.injEq, X.v.injEq, X.slc.injEq, Value.int.injEq, and_true, true_and]; omega) | simp_all)) (.c (.c (.nil)))))⟩
 refine AWp.skip ?_
 exact ⟨n301_20, n302_20, by first | exact ⟨hGr.add (by omega) (hP126.resolve_left (by assumption)) (by assumption), by constructor <;> (simp only [List.length_append, List.length_cons, List.length_nil]; omega), by constructor <;> (simp only [List.length_append, List.length_cons, List.length_nil]; omega)⟩ | exact ⟨hGr.addW (by omega) (hP126.resolve_left (by assumption)) (Classical.not_not.1 (by assumption)), by constructor <;> (simp only [List.length_append, List.length_cons, List.length_nil]; omega), by omega⟩ | exact ⟨hGr, by omega, by omega⟩, Le.mk (.c (.c (.c (.c (.nil))))) (.c (.cons (look_cells rfl (by first | rfl | (simp only [List.cons.injEq, X.v.injEq, X.slc.injEq, Value.int.injEq, and_true, true_and]; omega) | simp_all)) (.c (.c (.nil)))))⟩
 refine AWp.region ?_
 refine .mv ?_
 refine .vl (Y.addI rfl rfl (by omega)) ?_
 refine .an ?_
 refine AOps.nil ?_
 exact ⟨i8_20 + 1, n301_j21, n302_j21, ⟨by omega, hJ21.1, hJ21.2.1, hJ21.2.2⟩, by omega, Le.mk (.c (.c (.c (.cons (look_int rfl (by first | rfl | omega)) (.nil))))) (.c (.cons (look_cells rfl (by first | rfl | (simp only [List.cons.injEq, X.v.injEq, X.slc.injEq, Value.int.injEq, and_true, true_and]; omega) | simp_all)) (.c (.c (.nil)))))⟩
 refine AWp.exit ?_
 refine AWp.join1 (fun (n302_j32 : List Cell) => ⟨[(1, .fp (Pln.row p) 0), (2, .ptr 102 0 0 0), (3, .ptr 103 0 0 0)], [(102, .cells [.v (.string ByteArray.empty), .v (.slice none 0 0), .v (.slice none 0 0), .v (.slice none 0 0), .v (.slice none 0 0), .v (.slice none 0 0), .v (.slice none 0 0), .v (.slice none 0 0), vi 0, vi 0, .v (.slice none 0 0)]), (103, .cells [.v (.string nB), .slc 401 1 0 n301_20.length, .slc 402 6 0 n302_j32.length, .fz 1 (n303_16.map irow), .fz 5 (n304_8.map Arr.row), .fz 3 (n305_12.map Strm.row), .v (.slice none 0 0), .v (.slice none 0 0), vi 0, vi 0, .v (.slice none 0 0)]), (401, .rows 1 (n301_20.map irow)), (402, .rows 6 (n302_j32.map Cell.row))]⟩) (fun (n302_j32 : List Cell) => Gr (pn n301_20 n302_j32 n303_16 n304_8 n305_12) ∧ n302_j32.length = n302_20.length) ?_ (fun n302_j32 hJ32 => ?_)
 refine AWp.sr ?_
 refine .an ?_
 refine AOps.nil (AWp.block ?_)
 refine AWp.loop2 (fun (i11_29 : Nat) (n302_29 : List Cell) => ⟨[(1, .fp (Pln.row p) 0), (2, .ptr 102 0 0 0), (3, .ptr 103 0 0 0), (11, vi (i11_29 : Int))], [(102, .cells [.v (.string ByteArray.empty), .v (.slice none 0 0), .v (.slice none 0 0), .v (.slice none 0 0), .v (.slice none 0 0), .v (.slice none 0 0), .v (.slice none 0 0), .v (.slice none 0 0), vi 0, vi 0, .v (.slice none 0 0)]), (103, .cells [.v (.string nB), .slc 401 1 0 n301_20.length, .slc 402 6 0 n302_20.length, .fz 1 (n303_16.map irow), .fz 5 (n304_8.map Arr.row), .fz 3 (n305_12.map Strm.row), .v (.slice none 0 0), .v (.slice none 0 0), vi 0, vi 0, .v (.slice none 0 0)]), (401, .rows 1 (n301_20.map irow)), (402, .rows 6 (n302_29.map Cell.row))]⟩) (fun (i11_29 : Nat) (n302_29 : List Cell) => (n302_29.length = n302_20.length) ∧ (Gr (pn n301_20 n302_29 n303_16 n304_8 n305_12)) ∧ (i11_29 ≤ p.parts.length) ∧ (n302_29.length = n302_20.length)) (fun (i11_29 : Nat) (n302_29 : List Cell) => p.parts.length - i11_29) 0 n302_20 (⟨by omega, hGr, by omega, rfl⟩) (Le.mk (.c (.c (.c (.cons (look_int rfl (by first | rfl | omega)) (.nil))))) (.c (.c (.c (.c (.nil)))))) (fun i11_29 n302_29 hI29 => ?_)
 obtain ⟨hl402, hG2, hb29, hl2⟩ := hI29
 refine AWp.seq (AWp.sr ?_)
 refine .mv ?_
 refine .fa fl36_3 ?_
 refine .ld sh34 ?_
 refine .vl (Y.len (n := p.parts.length) sl34 rfl (congrArg some (List.length_map ..))) (.vl (Y.lss rfl rfl) ?_)
 refine .mv ?_
 refine AOps.splitD (d := 156) rfl (fun c156 => ?_) (fun c156 => ?_)
 refine .gw 156 (Y.move rfl rfl) (.gw 156 (Y.fieldAddr fl27_2 rfl rfl) (.gw 156 (Y.load sh23 rfl rfl rfl rfl) ?_))
 refine .gw 156 (Y.len (n := n302_20.length) sl23 rfl rfl) (.gw 156 (Y.lss rfl rfl) ?_)
 refine .pk ?_
 refine AOps.nil ?_
 refine AWp.condD rfl (fun c162 => ?_) (fun c162 => ?_)
 refine AWp.skip (AWp.seq (AWp.block ?_))
 refine AWp.region ?_
 refine .fa fl36_3 ?_
 refine .ld sh34 ?_
 refine .mv ?_
 refine .vl (Y.indexF (m := i11_29) sl34 rfl rfl (by first | rfl | omega) (row_getD (d := default) (by omega))) ?_
 refine .vl (Y.loadA sh88 rfl rfl (Nat.le_of_ble_eq_true rfl) rfl rfl) ?_
 refine .mv ?_
 refine AOps.callO [103, 401, 402] [] ok55 (late_spec (nm := nB) (ws := n301_20) (cs := n302_29) (ins := n303_16) (mems := n304_8) (streams := n305_12) (f0 := 0) (d0 := 0) (p := (p.parts.getD i11_29 default)) (i := i11_29) (cl := n302_20.length) (by omega) (by omega) (by omega) (hpp _ (getD_in (by omega))) (by omega) (hG2.lateIn (by omega))) rfl (.named rfl rfl (.keep rfl rfl (.keep rfl rfl .nil))) ⟨rfl, rfl, rfl, trivial⟩ rfl (by decide) (fun _ h => by cases h) (fun _ h => by cases h) (by decide) (by decide) ?_
 rintro r objs' ⟨rfl, rfl⟩ _
 refine ⟨⟨rfl, (by intro ob hob; simp only [List.mem_cons, List.not_mem_nil, or_false] at hob; rcases hob with rfl | rfl | rfl <;> rfl), .inl rfl⟩, ?_⟩
 refine AOps.nil (AWp.region ?_)
 refine .mv ?_
 refine .vl (Y.addI rfl rfl (by omega)) ?_
 refine .an ?_
 refine AOps.nil ?_
 exact ⟨i11_29 + 1, lateN n301_20 n302_29 (p.parts.getD i11_29 default) i11_29, ⟨by first | omega | (simp only [lateN_len]; omega) | (simp [-List.getD_eq_getElem?_getD]; done) | (simp [-List.getD_eq_getElem?_getD]; omega), hG2.late (by omega), by omega, (lateN_len _ _).trans hl2⟩, by omega, Le.mk (.c (.c (.c (.cons (look_int rfl (by first | rfl | omega)) (.nil))))) (.c (.c (.c (.c (.nil)))))⟩
 refine AWp.exit ?_
 exact ⟨n302_29, ⟨hG2, hl2⟩, Le.mk (.c (.c (.c (.nil)))) (.c (.cons (look_cells rfl (by first | rfl | (simp only [List.cons.injEq, X.v.injEq, X.slc.injEq, Value.int.injEq, and_true, true_and]; omega) | simp_all)) (.c (.c (.nil)))))⟩
 refine .gz 156 (.gz 156 (.gz 156 ?_))
 refine .gz 156 (.gz 156 ?_)
 refine .pk ?_
 refine AOps.nil (AWp.condF rfl (AWp.exit ?_))
 exact ⟨n302_29, ⟨hG2, hl2⟩, Le.mk (.c (.c (.c (.nil)))) (.c (.cons (look_cells rfl (by first | rfl | (simp only [List.cons.injEq, X.v.injEq, X.slc.injEq, Value.int.injEq, and_true, true_and]; omega) | simp_all)) (.c (.c (.nil)))))⟩
 obtain ⟨hG3, hl3⟩ := hJ32
 refine AWp.seq (AWp.seq (AWp.sh (Sh.nilCell 103 406 1 6 rfl rfl rfl rfl (by decide)) ?_))
 refine AWp.sh (Sh.nilCell 103 407 1 7 rfl rfl rfl rfl (by decide)) (AWp.sh (Sh.nilCell 103 410 1 10 rfl rfl rfl rfl (by decide)) (AWp.region ?_))
 refine .an ?_
 refine AOps.nil (AWp.block ?_)
 refine AWp.loop3 (fun (i12_33 : Nat) (n306_33 : List Int) (n307_33 : List Int) => ⟨[(1, .fp (Pln.row p) 0), (2, .ptr 102 0 0 0), (3, .ptr 103 0 0 0), (12, vi (i12_33 : Int))], [(102, .cells [.v (.string ByteArray.empty), .v (.slice none 0 0), .v (.slice none 0 0), .v (.slice none 0 0), .v (.slice none 0 0), .v (.slice none 0 0), .v (.slice none 0 0), .v (.slice none 0 0), vi 0, vi 0, .v (.slice none 0 0)]), (103, .cells [.v (.string nB), .slc 401 1 0 n301_20.length, .slc 402 6 0 n302_j32.length, .fz 1 (n303_16.map irow), .fz 5 (n304_8.map Arr.row), .fz 3 (n305_12.map Strm.row), .slc 406 1 0 n306_33.length, .slc 407 1 0 n307_33.length, vi 0, vi 0, .slc 410 1 0 0]), (401, .rows 1 (n301_20.map irow)), (402, .rows 6 (n302_j32.map Cell.row)), (406, .rows 1 (n306_33.map irow)), (407, .rows 1 (n307_33.map irow)), (410, .rows 1 (([] : List Int).map irow))]⟩) (fun (i12_33 : Nat) (n306_33 : List Int) (n307_33 : List Int) => ((i12_33 : Int) ≤ ((n305_12.length : Nat) : Int)) ∧ (n306_33.length = i12_33) ∧ (n307_33.length = i12_33) ∧ (∀ j, j < i12_33 → EndOK n301_20 n305_12 n306_33 n307_33 j)) (fun (i12_33 : Nat) (n306_33 : List Int) (n307_33 : List Int) => (((n305_12.length : Nat) : Int) - (i12_33 : Int)).toNat) 0 ([] : List Int) ([] : List Int) (⟨by omega, rfl, rfl, fun j hj => by omega⟩) (Le.mk (.c (.c (.c (.cons (look_int rfl (by first | rfl | omega)) (.nil))))) (.c (.cons (look_cells rfl (by first | rfl | (simp only [List.cons.injEq, X.v.injEq, X.slc.injEq, Value.int.injEq, and_true, true_and]; omega) | simp_all)) (.c (.c (.c (.c (.c (.nil))))))))) (fun i12_33 n306_33 n307_33 hI33 => ?_)
 obtain ⟨hb33, hal, hdl, he⟩ := hI33
 refine AWp.seq (AWp.sr ?_)
 refine .mv ?_
 refine .fa fl27_5 ?_
 refine .ld sh25 ?_
 refine .vl (Y.len (n := n305_12.length) sl25 rfl (congrArg some (List.length_map ..))) (.vl (Y.lss rfl rfl) (AOps.nil ?_))
 refine AWp.condD rfl (fun c176 => ?_) (fun c176 => ?_)
 refine AWp.skip ?_
 refine AWp.join1 (fun (n307_j34 : List Int) => ⟨[(1, .fp (Pln.row p) 0), (2, .ptr 102 0 0 0), (3, .ptr 103 0 0 0), (12, vi (i12_33 : Int))], [(102, .cells [.v (.string ByteArray.empty), .v (.slice none 0 0), .v (.slice none 0 0), .v (.slice none 0 0), .v (.slice none 0 0), .v (.slice none 0 0), .v (.slice none 0 0), .v (.slice none 0 0), vi 0, vi 0, .v (.slice none 0 0)]), (103, .cells [.v (.string nB), .slc 401 1 0 n301_20.length, .slc 402 6 0 n302_j32.length, .fz 1 (n303_16.map irow), .fz 5 (n304_8.map Arr.row), .fz 3 (n305_12.map Strm.row), .slc 406 1 0 ((n306_33 ++ ([pickN n301_20 1 ((3 * i12_33) + 1)] : List Int)).length), .slc 407 1 0 ((n307_33 ++ ([-1] : List Int)).length), vi 0, vi 0, .slc 410 1 0 0]), (401, .rows 1 (n301_20.map irow)), (402, .rows 6 (n302_j32.map Cell.row)), (406, .rows 1 ((n306_33 ++ ([pickN n301_20 1 ((3 * i12_33) + 1)] : List Int)).map irow)), (407, .rows 1 (n307_j34.map irow)), (410, .rows 1 (([] : List Int).map irow))]⟩) (fun (n307_j34 : List Int) => (n307_j34.length = (n307_33 ++ ([-1] : List Int)).length) ∧ (LastD n301_20 n305_12 i12_33 n307_33 n307_j34)) ?_ (fun n307_j34 hJx34 => ?_)
 refine AWp.block (AWp.seq ?_)
 refine AWp.regionHeldJ0 (⟨[(1, .fp (Pln.row p) 0), (2, .ptr 102 0 0 0), (3, .ptr 103 0 0 0), (12, .v (.int .i64 (i12_33 : Int)))], [(102, .cells [.v (.string ByteArray.empty), .v (.slice none 0 0), .v (.slice none 0 0), .v (.slice none 0 0), .v (.slice none 0 0), .v (.slice none 0 0), .v (.slice none 0 0), .v (.slice none 0 0), .v (.int .i64 0), .v (.int .i64 0), .v (.slice none 0 0)]), (103, .cells [.v (.string nB), .slc 401 1 0 n301_20.length, .slc 402 6 0 n302_j32.length, .fz 1 (n303_16.map irow), .fz 5 (n304_8.map Arr.row), .fz 3 (n305_12.map Strm.row), .slc 406 1 0 ((n306_33 ++ ([pickN n301_20 1 ((3 * i12_33) + 1)] : List Int)).length), .slc 407 1 0 n307_33.length, .v (.int .i64 0), .v (.int .i64 0), .slc 410 1 0 0]), (401, .rows 1 (n301_20.map irow)), (402, .rows 6 (n302_j32.map Cell.row)), (406, .rows 1 ((n306_33 ++ ([pickN n301_20 1 ((3 * i12_33) + 1)] : List Int)).map irow)), (407, .rows 1 (n307_33.map irow)), (410, .rows 1 (([] : List Int).map irow))]⟩) rfl ?_ ?_
 refine AFirst.blind 0 rfl (by kernel_rfl) (Blind.fieldAddr fl27_6 rfl rfl) (by decide) (AFirst.blind 3 rfl (by kernel_rfl) (Blind.move rfl rfl) (by decide) ?_)
 refine AFirst.blind 4 rfl (by kernel_rfl) (Blind.mulI rfl rfl (by omega)) (by decide) ?_
 refine AFirst.blind 5 rfl (by kernel_rfl) (Blind.addI rfl rfl (by omega)) (by decide) ?_
 refine AFirst.blind 6 rfl (by kernel_rfl) (Blind.convK ii3 ii5 rfl (by first | rfl | exact IntWalk.u8_in _ (by omega))) (by decide) ?_
 refine AFirst.go0 ?_
 refine AHeld.two 1 2 rfl rfl (by kernel_rfl) ?_ ?_
 refine .ld sh22 ?_
 refine AOps.nil ⟨rfl, ?_⟩
 refine AHeld.one 2 rfl (by kernel_rfl) (.vl (Y.loadA sh27 rfl rfl (Nat.le_of_ble_eq_true rfl) rfl rfl) ?_)
 refine AOps.nil ⟨rfl, ?_⟩
 refine AHeld.one 7 rfl (by kernel_rfl) ?_
 refine AOps.callLP [401, 402, 406, 407, 410] ok56 (pickF_spec (n := (⟨nB, n301_20, n302_j32, n303_16, n304_8, n305_12, n306_33, n307_33, 0, 0, ([] : List Int)⟩ : Netlist)) (w := 1) (k := ((3 * i12_33) + 1)) (by show (n301_20).length ≤ 1048576; omega) (by omega)) rfl (.agg (.keep rfl rfl (.lend rfl rfl (lend_le (by first | omega | (simp only [lateN_len]; omega) | (simp [-List.getD_eq_getElem?_getD]; done) | (simp [-List.getD_eq_getElem?_getD]; omega))) (lend_eq (by first | omega | (simp only [lateN_len]; omega) | (simp [-List.getD_eq_getElem?_getD]; done) | (simp [-List.getD_eq_getElem?_getD]; omega))) (.lend rfl rfl (lend_le (by first | omega | (simp only [lateN_len]; omega) | (simp [-List.getD_eq_getElem?_getD]; done) | (simp [-List.getD_eq_getElem?_getD]; omega))) (lend_eq (by first | omega | (simp only [lateN_len]; omega) | (simp [-List.getD_eq_getElem?_getD]; done) | (simp [-List.getD_eq_getElem?_getD]; omega))) (.keep rfl rfl (.keep rfl rfl (.keep rfl rfl (.lend rfl rfl (lend_le (by first | omega | (simp only [lateN_len]; omega) | (simp [-List.getD_eq_getElem?_getD]; done) | (simp [-List.getD_eq_getElem?_getD]; omega))) (lend_eq (by first | omega | (simp only [lateN_len]; omega) | (simp [-List.getD_eq_getElem?_getD]; done) | (simp [-List.getD_eq_getElem?_getD]; omega))) (.lend rfl rfl (lend_le (by first | omega | (simp only [lateN_len]; omega) | (simp [-List.getD_eq_getElem?_getD]; done) | (simp [-List.getD_eq_getElem?_getD]; omega))) (lend_eq (by first | omega | (simp only [lateN_len]; omega) | (simp [-List.getD_eq_getElem?_getD]; done) | (simp [-List.getD_eq_getElem?_getD]; omega))) (.keep rfl rfl (.keep rfl rfl (.lend rfl rfl (lend_le (by first | omega | (simp only [lateN_len]; omega) | (simp [-List.getD_eq_getElem?_getD]; done) | (simp [-List.getD_eq_getElem?_getD]; omega))) (lend_eq (by first | omega | (simp only [lateN_len]; omega) | (simp [-List.getD_eq_getElem?_getD]; done) | (simp [-List.getD_eq_getElem?_getD]; omega))) .nil))))))))))) rfl (.keep rfl rfl (.keep rfl rfl .nil))) (lend2 rfl (owns_map irow_frees) (lend2 rfl (owns_map Cell.row_frees) (lend2 rfl (owns_map irow_frees) (lend2 rfl (owns_map irow_frees) (lend1 rfl (owns_map irow_frees)))))) (by decide) rfl trivial ?_
 refine AOps.nil ⟨rfl, ?_⟩
 refine AHeld.one 8 rfl (by kernel_rfl) ?_
 refine AOps.buildSlice (([pickN n301_20 1 ((3 * i12_33) + 1)] : List Int).map irow) sl22 ze3 rfl rfl rfl rfl rfl (uniform_map (s := 1) (f := irow) (fun _ => rfl)) rfl rfl rfl (by decide) ?_
 refine AOps.nil ⟨rfl, ?_⟩
 refine AHeld.one 9 rfl (by kernel_rfl) ?_
 refine AOps.appendE ((n306_33 ++ ([pickN n301_20 1 ((3 * i12_33) + 1)] : List Int)).map irow) (n306_33 ++ ([pickN n301_20 1 ((3 * i12_33) + 1)] : List Int)).length sl22 ze3 rfl rfl rfl rfl (app_le (by first | omega | (simp only [lateN_len]; omega) | (simp [-List.getD_eq_getElem?_getD]; done) | (simp [-List.getD_eq_getElem?_getD]; omega))) (app_map (by first | omega | (simp only [lateN_len]; omega) | (simp [-List.getD_eq_getElem?_getD]; done) | (simp [-List.getD_eq_getElem?_getD]; omega))) (app_n (by first | omega | (simp only [lateN_len]; omega) | (simp [-List.getD_eq_getElem?_getD]; done) | (simp [-List.getD_eq_getElem?_getD]; omega))) (by first | omega | (simp only [lateN_len]; omega) | (simp [-List.getD_eq_getElem?_getD]; done) | (simp [-List.getD_eq_getElem?_getD]; omega)) (by first | omega | (simp only [lateN_len]; omega) | (simp [-List.getD_eq_getElem?_getD]; done) | (simp [-List.getD_eq_getElem?_getD]; omega)) (by decide) (by decide) ?_
 refine AOps.nil ⟨rfl, ?_⟩
 refine AHeld.one 10 rfl (by kernel_rfl) ?_
 refine .fa fl27_6 ?_
 refine AOps.nil ⟨rfl, ?_⟩
 refine AHeld.one 11 rfl (by kernel_rfl) (AOps.storeC si22 rfl rfl rfl rfl rfl rfl (Nat.le_of_ble_eq_true rfl) rfl ?_)
 refine AOps.nil ⟨rfl, ?_⟩
 refine AHeld.done (by kernel_rfl) ?_
 exact Le.mk (.c (.c (.c (.c (.nil))))) (.c (.c (.c (.c (.c (.c (.c (.nil))))))))
 refine .vl (Y.loadA sh27 rfl rfl (Nat.le_of_ble_eq_true rfl) rfl rfl) ?_
 refine AOps.nil ⟨rfl, ?_⟩
 refine AHeld.two 1 7 rfl rfl (by kernel_rfl) ?_ ?_
 refine .ld sh22 ?_
 refine AOps.nil ⟨rfl, ?_⟩
 refine AHeld.one 7 rfl (by kernel_rfl) ?_
 refine AOps.callLP [401, 402, 406, 407, 410] ok56 (pickF_spec (n := (⟨nB, n301_20, n302_j32, n303_16, n304_8, n305_12, n306_33, n307_33, 0, 0, ([] : List Int)⟩ : Netlist)) (w := 1) (k := ((3 * i12_33) + 1)) (by show (n301_20).length ≤ 1048576; omega) (by omega)) rfl (.agg (.keep rfl rfl (.lend rfl rfl (lend_le (by first | omega | (simp only [lateN_len]; omega) | (simp [-List.getD_eq_getElem?_getD]; done) | (simp [-List.getD_eq_getElem?_getD]; omega))) (lend_eq (by first | omega | (simp only [lateN_len]; omega) | (simp [-List.getD_eq_getElem?_getD]; done) | (simp [-List.getD_eq_getElem?_getD]; omega))) (.lend rfl rfl (lend_le (by first | omega | (simp only [lateN_len]; omega) | (simp [-List.getD_eq_getElem?_getD]; done) | (simp [-List.getD_eq_getElem?_getD]; omega))) (lend_eq (by first | omega | (simp only [lateN_len]; omega) | (simp [-List.getD_eq_getElem?_getD]; done) | (simp [-List.getD_eq_getElem?_getD]; omega))) (.keep rfl rfl (.keep rfl rfl (.keep rfl rfl (.lend rfl rfl (lend_le (by first | omega | (simp only [lateN_len]; omega) | (simp [-List.getD_eq_getElem?_getD]; done) | (simp [-List.getD_eq_getElem?_getD]; omega))) (lend_eq (by first | omega | (simp only [lateN_len]; omega) | (simp [-List.getD_eq_getElem?_getD]; done) | (simp [-List.getD_eq_getElem?_getD]; omega))) (.lend rfl rfl (lend_le (by first | omega | (simp only [lateN_len]; omega) | (simp [-List.getD_eq_getElem?_getD]; done) | (simp [-List.getD_eq_getElem?_getD]; omega))) (lend_eq (by first | omega | (simp only [lateN_len]; omega) | (simp [-List.getD_eq_getElem?_getD]; done) | (simp [-List.getD_eq_getElem?_getD]; omega))) (.keep rfl rfl (.keep rfl rfl (.lend rfl rfl (lend_le (by first | omega | (simp only [lateN_len]; omega) | (simp [-List.getD_eq_getElem?_getD]; done) | (simp [-List.getD_eq_getElem?_getD]; omega))) (lend_eq (by first | omega | (simp only [lateN_len]; omega) | (simp [-List.getD_eq_getElem?_getD]; done) | (simp [-List.getD_eq_getElem?_getD]; omega))) .nil))))))))))) rfl (.keep rfl rfl (.keep rfl rfl .nil))) (lend2 rfl (owns_map irow_frees) (lend2 rfl (owns_map Cell.row_frees) (lend2 rfl (owns_map irow_frees) (lend2 rfl (owns_map irow_frees) (lend1 rfl (owns_map irow_frees)))))) (by decide) rfl trivial ?_
 refine AOps.nil ⟨rfl, ?_⟩
 refine AHeld.one 8 rfl (by kernel_rfl) ?_
 refine AOps.buildSlice (([pickN n301_20 1 ((3 * i12_33) + 1)] : List Int).map irow) sl22 ze3 rfl rfl rfl rfl rfl (uniform_map (s := 1) (f := irow) (fun _ => rfl)) rfl rfl rfl (by decide) ?_
 refine AOps.nil ⟨rfl, ?_⟩
 refine AHeld.one 9 rfl (by kernel_rfl) ?_
 refine AOps.appendE ((n306_33 ++ ([pickN n301_20 1 ((3 * i12_33) + 1)] : List Int)).map irow) (n306_33 ++ ([pickN n301_20 1 ((3 * i12_33) + 1)] : List Int)).length sl22 ze3 rfl rfl rfl rfl (app_le (by first | omega | (simp only [lateN_len]; omega) | (simp [-List.getD_eq_getElem?_getD]; done) | (simp [-List.getD_eq_getElem?_getD]; omega))) (app_map (by first | omega | (simp only [lateN_len]; omega) | (simp [-List.getD_eq_getElem?_getD]; done) | (simp [-List.getD_eq_getElem?_getD]; omega))) (app_n (by first | omega | (simp only [lateN_len]; omega) | (simp [-List.getD_eq_getElem?_getD]; done) | (simp [-List.getD_eq_getElem?_getD]; omega))) (by first | omega | (simp only [lateN_len]; omega) | (simp [-List.getD_eq_getElem?_getD]; done) | (simp [-List.getD_eq_getElem?_getD]; omega)) (by first | omega | (simp only [lateN_len]; omega) | (simp [-List.getD_eq_getElem?_getD]; done) | (simp [-List.getD_eq_getElem?_getD]; omega)) (by decide) (by decide) ?_
 refine AOps.nil ⟨rfl, ?_⟩
 refine AHeld.one 10 rfl (by kernel_rfl) ?_
 refine .fa fl27_6 ?_
 refine AOps.nil ⟨rfl, ?_⟩
 refine AHeld.one 11 rfl (by kernel_rfl) (AOps.storeC si22 rfl rfl rfl rfl rfl rfl (Nat.le_of_ble_eq_true rfl) rfl ?_)
 refine AOps.nil ⟨rfl, ?_⟩
 refine AHeld.done (by kernel_rfl) ?_
 exact Le.mk (.c (.c (.c (.c (.nil))))) (.c (.c (.c (.c (.c (.c (.c (.nil))))))))
 refine AOps.callLP [401, 402, 406, 407, 410] ok56 (pickF_spec (n := (⟨nB, n301_20, n302_j32, n303_16, n304_8, n305_12, n306_33, n307_33, 0, 0, ([] : List Int)⟩ : Netlist)) (w := 1) (k := ((3 * i12_33) + 1)) (by show (n301_20).length ≤ 1048576; omega) (by omega)) rfl (.agg (.keep rfl rfl (.lend rfl rfl (lend_le (by first | omega | (simp only [lateN_len]; omega) | (simp [-List.getD_eq_getElem?_getD]; done) | (simp [-List.getD_eq_getElem?_getD]; omega))) (lend_eq (by first | omega | (simp only [lateN_len]; omega) | (simp [-List.getD_eq_getElem?_getD]; done) | (simp [-List.getD_eq_getElem?_getD]; omega))) (.lend rfl rfl (lend_le (by first | omega | (simp only [lateN_len]; omega) | (simp [-List.getD_eq_getElem?_getD]; done) | (simp [-List.getD_eq_getElem?_getD]; omega))) (lend_eq (by first | omega | (simp only [lateN_len]; omega) | (simp [-List.getD_eq_getElem?_getD]; done) | (simp [-List.getD_eq_getElem?_getD]; omega))) (.keep rfl rfl (.keep rfl rfl (.keep rfl rfl (.lend rfl rfl (lend_le (by first | omega | (simp only [lateN_len]; omega) | (simp [-List.getD_eq_getElem?_getD]; done) | (simp [-List.getD_eq_getElem?_getD]; omega))) (lend_eq (by first | omega | (simp only [lateN_len]; omega) | (simp [-List.getD_eq_getElem?_getD]; done) | (simp [-List.getD_eq_getElem?_getD]; omega))) (.lend rfl rfl (lend_le (by first | omega | (simp only [lateN_len]; omega) | (simp [-List.getD_eq_getElem?_getD]; done) | (simp [-List.getD_eq_getElem?_getD]; omega))) (lend_eq (by first | omega | (simp only [lateN_len]; omega) | (simp [-List.getD_eq_getElem?_getD]; done) | (simp [-List.getD_eq_getElem?_getD]; omega))) (.keep rfl rfl (.keep rfl rfl (.lend rfl rfl (lend_le (by first | omega | (simp only [lateN_len]; omega) | (simp [-List.getD_eq_getElem?_getD]; done) | (simp [-List.getD_eq_getElem?_getD]; omega))) (lend_eq (by first | omega | (simp only [lateN_len]; omega) | (simp [-List.getD_eq_getElem?_getD]; done) | (simp [-List.getD_eq_getElem?_getD]; omega))) .nil))))))))))) rfl (.keep rfl rfl (.keep rfl rfl .nil))) (lend2 rfl (owns_map irow_frees) (lend2 rfl (owns_map Cell.row_frees) (lend2 rfl (owns_map irow_frees) (lend2 rfl (owns_map irow_frees) (lend1 rfl (owns_map irow_frees)))))) (by decide) rfl trivial ?_
 refine AOps.nil ⟨rfl, ?_⟩
 refine AHeld.two 1 8 rfl rfl (by kernel_rfl) ?_ ?_
 refine .ld sh22 ?_
 refine AOps.nil ⟨rfl, ?_⟩
 refine AHeld.one 8 rfl (by kernel_rfl) ?_
 refine AOps.buildSlice (([pickN n301_20 1 ((3 * i12_33) + 1)] : List Int).map irow) sl22 ze3 rfl rfl rfl rfl rfl (uniform_map (s := 1) (f := irow) (fun _ => rfl)) rfl rfl rfl (by decide) ?_
 refine AOps.nil ⟨rfl, ?_⟩
 refine AHeld.one 9 rfl (by kernel_rfl) ?_
 refine AOps.appendE ((n306_33 ++ ([pickN n301_20 1 ((3 * i12_33) + 1)] : List Int)).map irow) (n306_33 ++ ([pickN n301_20 1 ((3 * i12_33) + 1)] : List Int)).length sl22 ze3 rfl rfl rfl rfl (app_le (by first | omega | (simp only [lateN_len]; omega) | (simp [-List.getD_eq_getElem?_getD]; done) | (simp [-List.getD_eq_getElem?_getD]; omega))) (app_map (by first | omega | (simp only [lateN_len]; omega) | (simp [-List.getD_eq_getElem?_getD]; done) | (simp [-List.getD_eq_getElem?_getD]; omega))) (app_n (by first | omega | (simp only [lateN_len]; omega) | (simp [-List.getD_eq_getElem?_getD]; done) | (simp [-List.getD_eq_getElem?_getD]; omega))) (by first | omega | (simp only [lateN_len]; omega) | (simp [-List.getD_eq_getElem?_getD]; done) | (simp [-List.getD_eq_getElem?_getD]; omega)) (by first | omega | (simp only [lateN_len]; omega) | (simp [-List.getD_eq_getElem?_getD]; done) | (simp [-List.getD_eq_getElem?_getD]; omega)) (by decide) (by decide) ?_
 refine AOps.nil ⟨rfl, ?_⟩
 refine AHeld.one 10 rfl (by kernel_rfl) ?_
 refine .fa fl27_6 ?_
 refine AOps.nil ⟨rfl, ?_⟩
 refine AHeld.one 11 rfl (by kernel_rfl) (AOps.storeC si22 rfl rfl rfl rfl rfl rfl (Nat.le_of_ble_eq_true rfl) rfl ?_)
 refine AOps.nil ⟨rfl, ?_⟩
 refine AHeld.done (by kernel_rfl) ?_
 exact Le.mk (.c (.c (.c (.c (.nil))))) (.c (.c (.c (.c (.c (.c (.c (.nil))))))))
 refine AOps.buildSlice (([pickN n301_20 1 ((3 * i12_33) + 1)] : List Int).map irow) sl22 ze3 rfl rfl rfl rfl rfl (uniform_map (s := 1) (f := irow) (fun _ => rfl)) rfl rfl rfl (by decide) ?_
 refine AOps.nil ⟨rfl, ?_⟩
 refine AHeld.one 1 rfl (by kernel_rfl) ?_
 refine .ld sh22 ?_
 refine AOps.nil ⟨rfl, ?_⟩
 refine AHeld.one 9 rfl (by kernel_rfl) ?_
 refine AOps.appendE ((n306_33 ++ ([pickN n301_20 1 ((3 * i12_33) + 1)] : List Int)).map irow) (n306_33 ++ ([pickN n301_20 1 ((3 * i12_33) + 1)] : List Int)).length sl22 ze3 rfl rfl rfl rfl (app_le (by first | omega | (simp only [lateN_len]; omega) | (simp [-List.getD_eq_getElem?_getD]; done) | (simp [-List.getD_eq_getElem?_getD]; omega))) (app_map (by first | omega | (simp only [lateN_len]; omega) | (simp [-List.getD_eq_getElem?_getD]; done) | (simp [-List.getD_eq_getElem?_getD]; omega))) (app_n (by first | omega | (simp only [lateN_len]; omega) | (simp [-List.getD_eq_getElem?_getD]; done) | (simp [-List.getD_eq_getElem?_getD]; omega))) (by first | omega | (simp only [lateN_len]; omega) | (simp [-List.getD_eq_getElem?_getD]; done) | (simp [-List.getD_eq_getElem?_getD]; omega)) (by first | omega | (simp only [lateN_len]; omega) | (simp [-List.getD_eq_getElem?_getD]; done) | (simp [-List.getD_eq_getElem?_getD]; omega)) (by decide) (by decide) ?_
 refine AOps.nil ⟨rfl, ?_⟩
 refine AHeld.one 10 rfl (by kernel_rfl) ?_
 refine .fa fl27_6 ?_
 refine AOps.nil ⟨rfl, ?_⟩
 refine AHeld.one 11 rfl (by kernel_rfl) (AOps.storeC si22 rfl rfl rfl rfl rfl rfl (Nat.le_of_ble_eq_true rfl) rfl ?_)
 refine AOps.nil ⟨rfl, ?_⟩
 refine AHeld.done (by kernel_rfl) ?_
 exact Le.mk (.c (.c (.c (.c (.nil))))) (.c (.c (.c (.c (.c (.c (.c (.nil))))))))
 refine AWp.le (st' := ⟨[(1, .fp (Pln.row p) 0), (2, .ptr 102 0 0 0), (3, .ptr 103 0 0 0), (12, vi (i12_33 : Int))], [(102, .cells [.v (.string ByteArray.empty), .v (.slice none 0 0), .v (.slice none 0 0), .v (.slice none 0 0), .v (.slice none 0 0), .v (.slice none 0 0), .v (.slice none 0 0), .v (.slice none 0 0), vi 0, vi 0, .v (.slice none 0 0)]), (103, .cells [.v (.string nB), .slc 401 1 0 n301_20.length, .slc 402 6 0 n302_j32.length, .fz 1 (n303_16.map irow), .fz 5 (n304_8.map Arr.row), .fz 3 (n305_12.map Strm.row), .slc 406 1 0 ((n306_33 ++ ([pickN n301_20 1 ((3 * i12_33) + 1)] : List Int)).length), .slc 407 1 0 n307_33.length, vi 0, vi 0, .slc 410 1 0 0]), (401, .rows 1 (n301_20.map irow)), (402, .rows 6 (n302_j32.map Cell.row)), (406, .rows 1 ((n306_33 ++ ([pickN n301_20 1 ((3 * i12_33) + 1)] : List Int)).map irow)), (407, .rows 1 (n307_33.map irow)), (410, .rows 1 (([] : List Int).map irow))]⟩) (Le.mk (.c (.c (.c (.c (.nil))))) (.c (.c (.c (.c (.c (.c (.c (.nil))))))))) ?_
 refine AWp.sr ?_
 refine .fa fl27_7 ?_
 refine .ld sh22 ?_
 refine AOps.buildSlice (([-1] : List Int).map irow) sl22 ze3 rfl rfl rfl rfl rfl (uniform_map (s := 1) (f := irow) (fun _ => rfl)) rfl rfl rfl (by decide) ?_
 refine AOps.appendE ((n307_33 ++ ([-1] : List Int)).map irow) (n307_33 ++ ([-1] : List Int)).length sl22 ze3 rfl rfl rfl rfl (app_le (by first | omega | (simp only [lateN_len]; omega) | (simp [-List.getD_eq_getElem?_getD]; done) | (simp [-List.getD_eq_getElem?_getD]; omega))) (app_map (by first | omega | (simp only [lateN_len]; omega) | (simp [-List.getD_eq_getElem?_getD]; done) | (simp [-List.getD_eq_getElem?_getD]; omega))) (app_n (by first | omega | (simp only [lateN_len]; omega) | (simp [-List.getD_eq_getElem?_getD]; done) | (simp [-List.getD_eq_getElem?_getD]; omega))) (by first | omega | (simp only [lateN_len]; omega) | (simp [-List.getD_eq_getElem?_getD]; done) | (simp [-List.getD_eq_getElem?_getD]; omega)) (by first | omega | (simp only [lateN_len]; omega) | (simp [-List.getD_eq_getElem?_getD]; done) | (simp [-List.getD_eq_getElem?_getD]; omega)) (by decide) (by decide) ?_
 refine .fa fl27_7 ?_
 refine AOps.storeC si22 rfl rfl rfl rfl rfl rfl (Nat.le_of_ble_eq_true rfl) rfl (AOps.nil ?_)
 refine AWp.le (st' := ⟨[(1, .fp (Pln.row p) 0), (2, .ptr 102 0 0 0), (3, .ptr 103 0 0 0), (12, vi (i12_33 : Int))], [(102, .cells [.v (.string ByteArray.empty), .v (.slice none 0 0), .v (.slice none 0 0), .v (.slice none 0 0), .v (.slice none 0 0), .v (.slice none 0 0), .v (.slice none 0 0), .v (.slice none 0 0), vi 0, vi 0, .v (.slice none 0 0)]), (103, .cells [.v (.string nB), .slc 401 1 0 n301_20.length, .slc 402 6 0 n302_j32.length, .fz 1 (n303_16.map irow), .fz 5 (n304_8.map Arr.row), .fz 3 (n305_12.map Strm.row), .slc 406 1 0 ((n306_33 ++ ([pickN n301_20 1 ((3 * i12_33) + 1)] : List Int)).length), .slc 407 1 0 ((n307_33 ++ ([-1] : List Int)).length), vi 0, vi 0, .slc 410 1 0 0]), (401, .rows 1 (n301_20.map irow)), (402, .rows 6 (n302_j32.map Cell.row)), (406, .rows 1 ((n306_33 ++ ([pickN n301_20 1 ((3 * i12_33) + 1)] : List Int)).map irow)), (407, .rows 1 ((n307_33 ++ ([-1] : List Int)).map irow)), (410, .rows 1 (([] : List Int).map irow))]⟩) (Le.mk (.c (.c (.c (.c (.nil))))) (.c (.c (.c (.c (.c (.c (.c (.nil))))))))) ?_
 refine AWp.sr ?_
 refine .fa fl27_5 ?_
 refine .ld sh25 ?_
 refine .mv ?_
 refine .vl (Y.indexF (m := i12_33) sl25 rfl rfl (by first | rfl | omega) (row_getD (d := default) (by omega))) ?_
 refine .fa fl83_2 ?_
 refine .ld sh4 ?_
 refine AOps.nil ?_
 refine AWp.cond rfl (fun c200 => ?_) (fun c200 => ?_)
 refine AWp.regionHeld [103] [102, 103, 401, 402, 406, 407, 410] rfl (AFirst.blind 0 rfl (by kernel_rfl) (Blind.fieldAddr fl27_7 rfl rfl) (by decide) (AFirst.load 1 rfl (by kernel_rfl) sh22 rfl rfl rfl rfl rfl (by decide) ?_))
 refine AFirst.blind 2 rfl (by kernel_rfl) (Blind.move rfl rfl) (by decide) (AFirst.loadA 3 rfl (by kernel_rfl) sh27 rfl rfl rfl (Nat.le_of_ble_eq_true rfl) rfl rfl (by decide) (AFirst.blind 4 rfl (by kernel_rfl) (Blind.fieldAddr fl27_5 rfl rfl) (by decide) ?_))
 refine AFirst.load 5 rfl (by kernel_rfl) sh25 rfl rfl rfl rfl rfl (by decide) (AFirst.blind 6 rfl (by kernel_rfl) (Blind.move rfl rfl) (by decide) ?_)
 refine AFirst.blind 7 rfl (by kernel_rfl) (Blind.indexF (m := i12_33) sl25 rfl rfl (by first | rfl | omega) (row_getD (d := default) (by omega))) (by decide) ?_
 refine AFirst.blind 8 rfl (by kernel_rfl) (Blind.fieldAddr fl83_1 rfl rfl) (by decide) (AFirst.load 9 rfl (by kernel_rfl) sh3 rfl rfl rfl rfl rfl (by decide) (AFirst.goL rfl rfl (namesIn.cells rfl rfl rfl namesIn.nil) ?_))
 refine AHeld.one 10 rfl (by kernel_rfl) ?_
 refine AOps.callLP [401, 402, 406, 407, 410] ok56 (pickF_spec (n := (⟨nB, n301_20, n302_j32, n303_16, n304_8, n305_12, n306_33 ++ ([pickN n301_20 1 ((3 * i12_33) + 1)] : List Int), n307_33 ++ ([-1] : List Int), 0, 0, ([] : List Int)⟩ : Netlist)) (w := ((n305_12.getD i12_33 default).width)) (k := 255) (by show (n301_20).length ≤ 1048576; omega) (by omega)) rfl (.agg (.keep rfl rfl (.lend rfl rfl (lend_le (by first | omega | (simp only [lateN_len]; omega) | (simp [-List.getD_eq_getElem?_getD]; done) | (simp [-List.getD_eq_getElem?_getD]; omega))) (lend_eq (by first | omega | (simp only [lateN_len]; omega) | (simp [-List.getD_eq_getElem?_getD]; done) | (simp [-List.getD_eq_getElem?_getD]; omega))) (.lend rfl rfl (lend_le (by first | omega | (simp only [lateN_len]; omega) | (simp [-List.getD_eq_getElem?_getD]; done) | (simp [-List.getD_eq_getElem?_getD]; omega))) (lend_eq (by first | omega | (simp only [lateN_len]; omega) | (simp [-List.getD_eq_getElem?_getD]; done) | (simp [-List.getD_eq_getElem?_getD]; omega))) (.keep rfl rfl (.keep rfl rfl (.keep rfl rfl (.lend rfl rfl (lend_le (by first | omega | (simp only [lateN_len]; omega) | (simp [-List.getD_eq_getElem?_getD]; done) | (simp [-List.getD_eq_getElem?_getD]; omega))) (lend_eq (by first | omega | (simp only [lateN_len]; omega) | (simp [-List.getD_eq_getElem?_getD]; done) | (simp [-List.getD_eq_getElem?_getD]; omega))) (.lend rfl rfl (lend_le (by first | omega | (simp only [lateN_len]; omega) | (simp [-List.getD_eq_getElem?_getD]; done) | (simp [-List.getD_eq_getElem?_getD]; omega))) (lend_eq (by first | omega | (simp only [lateN_len]; omega) | (simp [-List.getD_eq_getElem?_getD]; done) | (simp [-List.getD_eq_getElem?_getD]; omega))) (.keep rfl rfl (.keep rfl rfl (.lend rfl rfl (lend_le (by first | omega | (simp only [lateN_len]; omega) | (simp [-List.getD_eq_getElem?_getD]; done) | (simp [-List.getD_eq_getElem?_getD]; omega))) (lend_eq (by first | omega | (simp only [lateN_len]; omega) | (simp [-List.getD_eq_getElem?_getD]; done) | (simp [-List.getD_eq_getElem?_getD]; omega))) .nil))))))))))) rfl (.keep rfl rfl (.keep rfl rfl .nil))) (lend2 rfl (owns_map irow_frees) (lend2 rfl (owns_map Cell.row_frees) (lend2 rfl (owns_map irow_frees) (lend2 rfl (owns_map irow_frees) (lend1 rfl (owns_map irow_frees)))))) (by decide) rfl trivial ?_
 refine AOps.nil ⟨rfl, ?_⟩
 refine AHeld.one 11 rfl (by kernel_rfl) ?_
 refine .vl (Y.indexO (m := i12_33) sl22 rfl rfl (by first | rfl | omega) (by first | omega | (simp only [lateN_len]; omega) | (simp [-List.getD_eq_getElem?_getD]; done) | (simp [-List.getD_eq_getElem?_getD]; omega))) ?_
 refine AOps.nil ⟨rfl, ?_⟩
 refine AHeld.one 12 rfl (by kernel_rfl) ?_
 refine AOps.storeE (((n307_33 ++ ([-1] : List Int)).set i12_33 (pickN n301_20 ((n305_12.getD i12_33 default).width) 255)).map irow) si3 rfl rfl rfl rfl rfl rfl rfl (row_getD0 (d := 0) (by first | omega | (simp only [lateN_len]; omega) | (simp [-List.getD_eq_getElem?_getD]; done) | (simp [-List.getD_eq_getElem?_getD]; omega))) (Nat.le_of_ble_eq_true rfl) (set_map0 rfl) ?_
 refine AOps.nil ⟨rfl, ?_⟩
 refine AHeld.done (by kernel_rfl) ?_
 exact ⟨(n307_33 ++ ([-1] : List Int)).set i12_33 (pickN n301_20 ((n305_12.getD i12_33 default).width) 255), ⟨by first | omega | (simp only [lateN_len]; omega) | (simp [-List.getD_eq_getElem?_getD]; done) | (simp [-List.getD_eq_getElem?_getD]; omega), by first | exact lastD_in hdl (pickN_ok (hG3.ground.str (by show i12_33 < n305_12.length; omega)).1 _) (by assumption) | exact lastD_no hdl (by simpa using (by assumption))⟩, Le.mk (.c (.c (.c (.c (.nil))))) (.c (.c (.c (.c (.c (.c (.c (.nil))))))))⟩
 refine AWp.skip ?_
 exact ⟨n307_33 ++ ([-1] : List Int), ⟨by omega, by first | exact lastD_in hdl (pickN_ok (hG3.ground.str (by show i12_33 < n305_12.length; omega)).1 _) (by assumption) | exact lastD_no hdl (by simpa using (by assumption))⟩, Le.mk (.c (.c (.c (.c (.nil))))) (.c (.c (.c (.c (.c (.c (.c (.nil))))))))⟩
 obtain ⟨hlj34_407, hJ34⟩ := hJx34
 refine AWp.region ?_
 refine .mv ?_
 refine .vl (Y.addI rfl rfl (by omega)) ?_
 refine .an ?_
 refine AOps.nil ?_
 exact ⟨i12_33 + 1, n306_33 ++ ([pickN n301_20 1 ((3 * i12_33) + 1)] : List Int), n307_j34, ⟨by omega, by rw [List.length_append, hal]; rfl, hJ34.1, ends_step hal he (pickN_ok hG3.ground.one _) hJ34⟩, by omega, Le.mk (.c (.c (.c (.cons (look_int rfl (by first | rfl | omega)) (.nil))))) (.c (.cons (look_cells rfl (by first | rfl | (simp only [List.cons.injEq, X.v.injEq, X.slc.injEq, Value.int.injEq, and_true, true_and]; omega) | simp_all)) (.c (.c (.c (.c (.c (.nil))))))))⟩
 refine AWp.exit (AWp.seq (AWp.sr ?_))
 refine .an ?_
 refine AOps.nil (AWp.block ?_)
 refine AWp.loop2 (fun (i13_40 : Nat) (n310_40 : List Int) => ⟨[(1, .fp (Pln.row p) 0), (2, .ptr 102 0 0 0), (3, .ptr 103 0 0 0), (13, vi (i13_40 : Int))], [(102, .cells [.v (.string ByteArray.empty), .v (.slice none 0 0), .v (.slice none 0 0), .v (.slice none 0 0), .v (.slice none 0 0), .v (.slice none 0 0), .v (.slice none 0 0), .v (.slice none 0 0), vi 0, vi 0, .v (.slice none 0 0)]), (103, .cells [.v (.string nB), .slc 401 1 0 n301_20.length, .slc 402 6 0 n302_j32.length, .fz 1 (n303_16.map irow), .fz 5 (n304_8.map Arr.row), .fz 3 (n305_12.map Strm.row), .slc 406 1 0 n306_33.length, .slc 407 1 0 n307_33.length, vi 0, vi 0, .slc 410 1 0 n310_40.length]), (401, .rows 1 (n301_20.map irow)), (402, .rows 6 (n302_j32.map Cell.row)), (406, .rows 1 (n306_33.map irow)), (407, .rows 1 (n307_33.map irow)), (410, .rows 1 (n310_40.map irow))]⟩) (fun (i13_40 : Nat) (n310_40 : List Int) => ((i13_40 : Int) ≤ ((p.rets.length : Nat) : Int)) ∧ (∀ m ∈ n310_40, In m n301_20.length) ∧ (n310_40.length = i13_40)) (fun (i13_40 : Nat) (n310_40 : List Int) => (((p.rets.length : Nat) : Int) - (i13_40 : Int)).toNat) 0 ([] : List Int) (⟨by omega, fun m h => (by cases h), rfl⟩) (Le.mk (.c (.c (.c (.cons (look_int rfl (by first | rfl | omega)) (.nil))))) (.c (.cons (look_cells rfl (by first | rfl | (simp only [List.cons.injEq, X.v.injEq, X.slc.injEq, Value.int.injEq, and_true, true_and]; omega) | simp_all)) (.c (.c (.c (.c (.c (.nil))))))))) (fun i13_40 n310_40 hI40 => ?_)
 obtain ⟨hb40, hr, hrl⟩ := hI40
 refine AWp.seq (AWp.sr ?_)
 refine .mv ?_
 refine .fa fl36_4 ?_
 refine .ld sh33 ?_
 refine .vl (Y.len (n := p.rets.length) sl33 rfl (congrArg some (List.length_map ..))) (.vl (Y.lss rfl rfl) (AOps.nil ?_))
 refine AWp.condD rfl (fun c217 => ?_) (fun c217 => ?_)
 refine AWp.skip (AWp.seq (AWp.block ?_))
 have hk1 := hk.rets (p.rets.getD i13_40 0) (getD_in (by omega))
 refine AWp.regionHeldJ0 (⟨[(1, .fp (Pln.row p) 0), (2, .ptr 102 0 0 0), (3, .ptr 103 0 0 0), (13, .v (.int .i64 (i13_40 : Int)))], [(102, .cells [.v (.string ByteArray.empty), .v (.slice none 0 0), .v (.slice none 0 0), .v (.slice none 0 0), .v (.slice none 0 0), .v (.slice none 0 0), .v (.slice none 0 0), .v (.slice none 0 0), .v (.int .i64 0), .v (.int .i64 0), .v (.slice none 0 0)]), (103, .cells [.v (.string nB), .slc 401 1 0 n301_20.length, .slc 402 6 0 n302_j32.length, .fz 1 (n303_16.map irow), .fz 5 (n304_8.map Arr.row), .fz 3 (n305_12.map Strm.row), .slc 406 1 0 n306_33.length, .slc 407 1 0 n307_33.length, .v (.int .i64 0), .v (.int .i64 0), .slc 410 1 0 ((n310_40 ++ ([((p.rets.getD i13_40 0 : Nat) : Int) % ((n301_20.length : Nat) : Int)] : List Int)).length)]), (401, .rows 1 (n301_20.map irow)), (402, .rows 6 (n302_j32.map Cell.row)), (406, .rows 1 (n306_33.map irow)), (407, .rows 1 (n307_33.map irow)), (410, .rows 1 ((n310_40 ++ ([((p.rets.getD i13_40 0 : Nat) : Int) % ((n301_20.length : Nat) : Int)] : List Int)).map irow))]⟩) rfl ?_ ?_
 refine AFirst.blind 0 rfl (by kernel_rfl) (Blind.fieldAddr fl27_10 rfl rfl) (by decide) (AFirst.blind 2 rfl (by kernel_rfl) (Blind.fieldAddr fl36_4 rfl rfl) (by decide) (AFirst.load 3 rfl (by kernel_rfl) sh33 rfl rfl rfl rfl rfl (by decide) ?_))
 refine AFirst.blind 4 rfl (by kernel_rfl) (Blind.move rfl rfl) (by decide) ?_
 refine AFirst.blind 5 rfl (by kernel_rfl) (Blind.indexF (m := i13_40) sl33 rfl rfl (by first | rfl | omega) (row_getD (d := 0) (by omega))) (by decide) ?_
 refine AFirst.load 6 rfl (by kernel_rfl) sh5 rfl rfl rfl rfl rfl (by decide) ?_
 refine AFirst.blind 7 rfl (by kernel_rfl) (Blind.convK ii5 ii3 rfl (by first | rfl | exact IntWalk.i64_in _ (by omega))) (by decide) ?_
 refine AFirst.blind 8 rfl (by kernel_rfl) (Blind.fieldAddr fl27_1 rfl rfl) (by decide) (AFirst.go0 ?_)
 refine AHeld.two 1 9 rfl rfl (by kernel_rfl) ?_ ?_
 refine .ld sh22 ?_
 refine AOps.nil ⟨rfl, ?_⟩
 refine AHeld.one 9 rfl (by kernel_rfl) ?_
 refine .ld sh22 ?_
 refine AOps.nil ⟨rfl, ?_⟩
 refine AHeld.one 10 rfl (by kernel_rfl) (.vl (Y.len (n := n301_20.length) sl22 rfl rfl) ?_)
 refine AOps.nil ⟨rfl, ?_⟩
 refine AHeld.one 11 rfl (by kernel_rfl) ?_
 refine .vl (Y.remI rfl rfl (by omega)) ?_
 refine AOps.nil ⟨rfl, ?_⟩
 refine AHeld.one 12 rfl (by kernel_rfl) ?_
 refine AOps.buildSlice (([((p.rets.getD i13_40 0 : Nat) : Int) % ((n301_20.length : Nat) : Int)] : List Int).map irow) sl22 ze3 rfl rfl rfl rfl rfl (uniform_map (s := 1) (f := irow) (fun _ => rfl)) rfl rfl rfl (by decide) ?_
 refine AOps.nil ⟨rfl, ?_⟩
 refine AHeld.one 13 rfl (by kernel_rfl) ?_
 refine AOps.appendE ((n310_40 ++ ([((p.rets.getD i13_40 0 : Nat) : Int) % ((n301_20.length : Nat) : Int)] : List Int)).map irow) (n310_40 ++ ([((p.rets.getD i13_40 0 : Nat) : Int) % ((n301_20.length : Nat) : Int)] : List Int)).length sl22 ze3 rfl rfl rfl rfl (app_le (by first | omega | (simp only [lateN_len]; omega) | (simp [-List.getD_eq_getElem?_getD]; done) | (simp [-List.getD_eq_getElem?_getD]; omega))) (app_map (by first | omega | (simp only [lateN_len]; omega) | (simp [-List.getD_eq_getElem?_getD]; done) | (simp [-List.getD_eq_getElem?_getD]; omega))) (app_n (by first | omega | (simp only [lateN_len]; omega) | (simp [-List.getD_eq_getElem?_getD]; done) | (simp [-List.getD_eq_getElem?_getD]; omega))) (by first | omega | (simp only [lateN_len]; omega) | (simp [-List.getD_eq_getElem?_getD]; done) | (simp [-List.getD_eq_getElem?_getD]; omega)) (by first | omega | (simp only [lateN_len]; omega) | (simp [-List.getD_eq_getElem?_getD]; done) | (simp [-List.getD_eq_getElem?_getD]; omega)) (by decide) (by decide) ?_
 refine AOps.nil ⟨rfl, ?_⟩
 refine AHeld.one 14 rfl (by kernel_rfl) ?_
 refine .fa fl27_10 ?_
 refine AOps.nil ⟨rfl, ?_⟩
 refine AHeld.one 15 rfl (by kernel_rfl) (AOps.storeC si22 rfl rfl rfl rfl rfl rfl (Nat.le_of_ble_eq_true rfl) rfl ?_)
 refine AOps.nil ⟨rfl, ?_⟩
 refine AHeld.done (by kernel_rfl) ?_
 exact Le.mk (.c (.c (.c (.c (.nil))))) (.c (.c (.c (.c (.c (.c (.c (.nil))))))))
 refine .ld sh22 ?_
 refine AOps.nil ⟨rfl, ?_⟩
 refine AHeld.two 1 10 rfl rfl (by kernel_rfl) ?_ ?_
 refine .ld sh22 ?_
 refine AOps.nil ⟨rfl, ?_⟩
 refine AHeld.one 10 rfl (by kernel_rfl) (.vl (Y.len (n := n301_20.length) sl22 rfl rfl) ?_)
 refine AOps.nil ⟨rfl, ?_⟩
 refine AHeld.one 11 rfl (by kernel_rfl) ?_
 refine .vl (Y.remI rfl rfl (by omega)) ?_
 refine AOps.nil ⟨rfl, ?_⟩
 refine AHeld.one 12 rfl (by kernel_rfl) ?_
 refine AOps.buildSlice (([((p.rets.getD i13_40 0 : Nat) : Int) % ((n301_20.length : Nat) : Int)] : List Int).map irow) sl22 ze3 rfl rfl rfl rfl rfl (uniform_map (s := 1) (f := irow) (fun _ => rfl)) rfl rfl rfl (by decide) ?_
 refine AOps.nil ⟨rfl, ?_⟩
 refine AHeld.one 13 rfl (by kernel_rfl) ?_
 refine AOps.appendE ((n310_40 ++ ([((p.rets.getD i13_40 0 : Nat) : Int) % ((n301_20.length : Nat) : Int)] : List Int)).map irow) (n310_40 ++ ([((p.rets.getD i13_40 0 : Nat) : Int) % ((n301_20.length : Nat) : Int)] : List Int)).length sl22 ze3 rfl rfl rfl rfl (app_le (by first | omega | (simp only [lateN_len]; omega) | (simp [-List.getD_eq_getElem?_getD]; done) | (simp [-List.getD_eq_getElem?_getD]; omega))) (app_map (by first | omega | (simp only [lateN_len]; omega) | (simp [-List.getD_eq_getElem?_getD]; done) | (simp [-List.getD_eq_getElem?_getD]; omega))) (app_n (by first | omega | (simp only [lateN_len]; omega) | (simp [-List.getD_eq_getElem?_getD]; done) | (simp [-List.getD_eq_getElem?_getD]; omega))) (by first | omega | (simp only [lateN_len]; omega) | (simp [-List.getD_eq_getElem?_getD]; done) | (simp [-List.getD_eq_getElem?_getD]; omega)) (by first | omega | (simp only [lateN_len]; omega) | (simp [-List.getD_eq_getElem?_getD]; done) | (simp [-List.getD_eq_getElem?_getD]; omega)) (by decide) (by decide) ?_
 refine AOps.nil ⟨rfl, ?_⟩
 refine AHeld.one 14 rfl (by kernel_rfl) ?_
 refine .fa fl27_10 ?_
 refine AOps.nil ⟨rfl, ?_⟩
 refine AHeld.one 15 rfl (by kernel_rfl) (AOps.storeC si22 rfl rfl rfl rfl rfl rfl (Nat.le_of_ble_eq_true rfl) rfl ?_)
 refine AOps.nil ⟨rfl, ?_⟩
 refine AHeld.done (by kernel_rfl) ?_
 exact Le.mk (.c (.c (.c (.c (.nil))))) (.c (.c (.c (.c (.c (.c (.c (.nil))))))))
 refine .vl (Y.len (n := n301_20.length) sl22 rfl rfl) ?_
 refine AOps.nil ⟨rfl, ?_⟩
 refine AHeld.blind 11 rfl (by kernel_rfl) (Blind.remI rfl rfl (by omega)) (by decide) ?_
 refine AHeld.two 1 12 rfl rfl (by kernel_rfl) ?_ ?_
 refine .ld sh22 ?_
 refine AOps.nil ⟨rfl, ?_⟩
 refine AHeld.one 12 rfl (by kernel_rfl) ?_
 refine AOps.buildSlice (([((p.rets.getD i13_40 0 : Nat) : Int) % ((n301_20.length : Nat) : Int)] : List Int).map irow) sl22 ze3 rfl rfl rfl rfl rfl (uniform_map (s := 1) (f := irow) (fun _ => rfl)) rfl rfl rfl (by decide) ?_
 refine AOps.nil ⟨rfl, ?_⟩
 refine AHeld.one 13 rfl (by kernel_rfl) ?_
 refine AOps.appendE ((n310_40 ++ ([((p.rets.getD i13_40 0 : Nat) : Int) % ((n301_20.length : Nat) : Int)] : List Int)).map irow) (n310_40 ++ ([((p.rets.getD i13_40 0 : Nat) : Int) % ((n301_20.length : Nat) : Int)] : List Int)).length sl22 ze3 rfl rfl rfl rfl (app_le (by first | omega | (simp only [lateN_len]; omega) | (simp [-List.getD_eq_getElem?_getD]; done) | (simp [-List.getD_eq_getElem?_getD]; omega))) (app_map (by first | omega | (simp only [lateN_len]; omega) | (simp [-List.getD_eq_getElem?_getD]; done) | (simp [-List.getD_eq_getElem?_getD]; omega))) (app_n (by first | omega | (simp only [lateN_len]; omega) | (simp [-List.getD_eq_getElem?_getD]; done) | (simp [-List.getD_eq_getElem?_getD]; omega))) (by first | omega | (simp only [lateN_len]; omega) | (simp [-List.getD_eq_getElem?_getD]; done) | (simp [-List.getD_eq_getElem?_getD]; omega)) (by first | omega | (simp only [lateN_len]; omega) | (simp [-List.getD_eq_getElem?_getD]; done) | (simp [-List.getD_eq_getElem?_getD]; omega)) (by decide) (by decide) ?_
 refine AOps.nil ⟨rfl, ?_⟩
 refine AHeld.one 14 rfl (by kernel_rfl) ?_
 refine .fa fl27_10 ?_
 refine AOps.nil ⟨rfl, ?_⟩
 refine AHeld.one 15 rfl (by kernel_rfl) (AOps.storeC si22 rfl rfl rfl rfl rfl rfl (Nat.le_of_ble_eq_true rfl) rfl ?_)
 refine AOps.nil ⟨rfl, ?_⟩
 refine AHeld.done (by kernel_rfl) ?_
 exact Le.mk (.c (.c (.c (.c (.nil))))) (.c (.c (.c (.c (.c (.c (.c (.nil))))))))
 refine AOps.buildSlice (([((p.rets.getD i13_40 0 : Nat) : Int) % ((n301_20.length : Nat) : Int)] : List Int).map irow) sl22 ze3 rfl rfl rfl rfl rfl (uniform_map (s := 1) (f := irow) (fun _ => rfl)) rfl rfl rfl (by decide) ?_
 refine AOps.nil ⟨rfl, ?_⟩
 refine AHeld.one 1 rfl (by kernel_rfl) ?_
 refine .ld sh22 ?_
 refine AOps.nil ⟨rfl, ?_⟩
 refine AHeld.one 13 rfl (by kernel_rfl) ?_
 refine AOps.appendE ((n310_40 ++ ([((p.rets.getD i13_40 0 : Nat) : Int) % ((n301_20.length : Nat) : Int)] : List Int)).map irow) (n310_40 ++ ([((p.rets.getD i13_40 0 : Nat) : Int) % ((n301_20.length : Nat) : Int)] : List Int)).length sl22 ze3 rfl rfl rfl rfl (app_le (by first | omega | (simp only [lateN_len]; omega) | (simp [-List.getD_eq_getElem?_getD]; done) | (simp [-List.getD_eq_getElem?_getD]; omega))) (app_map (by first | omega | (simp only [lateN_len]; omega) | (simp [-List.getD_eq_getElem?_getD]; done) | (simp [-List.getD_eq_getElem?_getD]; omega))) (app_n (by first | omega | (simp only [lateN_len]; omega) | (simp [-List.getD_eq_getElem?_getD]; done) | (simp [-List.getD_eq_getElem?_getD]; omega))) (by first | omega | (simp only [lateN_len]; omega) | (simp [-List.getD_eq_getElem?_getD]; done) | (simp [-List.getD_eq_getElem?_getD]; omega)) (by first | omega | (simp only [lateN_len]; omega) | (simp [-List.getD_eq_getElem?_getD]; done) | (simp [-List.getD_eq_getElem?_getD]; omega)) (by decide) (by decide) ?_
 refine AOps.nil ⟨rfl, ?_⟩
 refine AHeld.one 14 rfl (by kernel_rfl) ?_
 refine .fa fl27_10 ?_
 refine AOps.nil ⟨rfl, ?_⟩
 refine AHeld.one 15 rfl (by kernel_rfl) (AOps.storeC si22 rfl rfl rfl rfl rfl rfl (Nat.le_of_ble_eq_true rfl) rfl ?_)
 refine AOps.nil ⟨rfl, ?_⟩
 refine AHeld.done (by kernel_rfl) ?_
 exact Le.mk (.c (.c (.c (.c (.nil))))) (.c (.c (.c (.c (.c (.c (.c (.nil))))))))
 refine AWp.region ?_
 refine .mv ?_
 refine .vl (Y.addI rfl rfl (by omega)) ?_
 refine .an ?_
 refine AOps.nil ?_
 exact ⟨i13_40 + 1, n310_40 ++ ([((p.rets.getD i13_40 0 : Nat) : Int) % ((n301_20.length : Nat) : Int)] : List Int), ⟨by omega, all_app hr (mod_in (n := pn n301_20 n302_j32 n303_16 n304_8 n305_12) hG3.ground (by show 0 < n301_20.length; omega)), by rw [List.length_append, hrl]; rfl⟩, by omega, Le.mk (.c (.c (.c (.cons (look_int rfl (by first | rfl | omega)) (.nil))))) (.c (.cons (look_cells rfl (by first | rfl | (simp only [List.cons.injEq, X.v.injEq, X.slc.injEq, Value.int.injEq, and_true, true_and]; omega) | simp_all)) (.c (.c (.c (.c (.c (.nil))))))))⟩
 refine AWp.exit (AWp.sr (.vl (Y.loadA sh27 rfl rfl (Nat.le_of_ble_eq_true rfl) rfl rfl) ?_))
 refine .fa fl36_3 ?_
 refine .ld sh34 ?_
 refine .vl (Y.len (n := p.parts.length) sl34 rfl (congrArg some (List.length_map ..))) ?_
 refine .vl (Y.convK ii3 ii5 rfl (by first | rfl | exact IntWalk.u8_in _ (by omega))) ?_
 refine AOps.callLP [401, 402, 406, 407, 410] ok56 (pickF_spec (n := (⟨nB, n301_20, n302_j32, n303_16, n304_8, n305_12, n306_33, n307_33, 0, 0, n310_40⟩ : Netlist)) (w := 1) (k := p.parts.length) (by show (n301_20).length ≤ 1048576; omega) (by omega)) rfl (.agg (.keep rfl rfl (.lend rfl rfl (lend_le (by omega)) (lend_eq (by omega)) (.lend rfl rfl (lend_le (by omega)) (lend_eq (by omega)) (.keep rfl rfl (.keep rfl rfl (.keep rfl rfl (.lend rfl rfl (lend_le (by omega)) (lend_eq (by omega)) (.lend rfl rfl (lend_le (by omega)) (lend_eq (by omega)) (.keep rfl rfl (.keep rfl rfl (.lend rfl rfl (lend_le (by omega)) (lend_eq (by omega)) .nil))))))))))) rfl (.keep rfl rfl (.keep rfl rfl .nil))) (lend2 rfl (owns_map irow_frees) (lend2 rfl (owns_map Cell.row_frees) (lend2 rfl (owns_map irow_frees) (lend2 rfl (owns_map irow_frees) (lend1 rfl (owns_map irow_frees)))))) (by decide) rfl trivial ?_
 refine .fa fl27_8 ?_
 refine AOps.storeC si3 rfl rfl rfl rfl rfl rfl (Nat.le_of_ble_eq_true rfl) rfl (AOps.nil (AWp.sr ?_))
 refine .vl (Y.loadA sh27 rfl rfl (Nat.le_of_ble_eq_true rfl) rfl rfl) ?_
 refine .fa fl36_3 ?_
 refine .ld sh34 ?_
 refine .vl (Y.len (n := p.parts.length) sl34 rfl (congrArg some (List.length_map ..))) ?_
 refine .vl (Y.mulI rfl rfl (by omega)) ?_
 refine .vl (Y.addI rfl rfl (by omega)) ?_
 refine .vl (Y.conv ii3 ii5 rfl (wrap_u8_nat ((7 * p.parts.length) + 1))) ?_
 refine AOps.callLP [401, 402, 406, 407, 410] ok56 (pickF_spec (n := (⟨nB, n301_20, n302_j32, n303_16, n304_8, n305_12, n306_33, n307_33, pickN n301_20 1 p.parts.length, 0, n310_40⟩ : Netlist)) (w := 1) (k := (((7 * p.parts.length) + 1) % 256)) (by show (n301_20).length ≤ 1048576; omega) (by omega)) rfl (.agg (.keep rfl rfl (.lend rfl rfl (lend_le (by omega)) (lend_eq (by omega)) (.lend rfl rfl (lend_le (by omega)) (lend_eq (by omega)) (.keep rfl rfl (.keep rfl rfl (.keep rfl rfl (.lend rfl rfl (lend_le (by omega)) (lend_eq (by omega)) (.lend rfl rfl (lend_le (by omega)) (lend_eq (by omega)) (.keep rfl rfl (.keep rfl rfl (.lend rfl rfl (lend_le (by omega)) (lend_eq (by omega)) .nil))))))))))) rfl (.keep rfl rfl (.keep rfl rfl .nil))) (lend2 rfl (owns_map irow_frees) (lend2 rfl (owns_map Cell.row_frees) (lend2 rfl (owns_map irow_frees) (lend2 rfl (owns_map irow_frees) (lend1 rfl (owns_map irow_frees)))))) (by decide) rfl trivial ?_
 refine .fa fl27_9 ?_
 refine AOps.storeC si3 rfl rfl rfl rfl rfl rfl (Nat.le_of_ble_eq_true rfl) rfl (AOps.nil (AWp.seq ?_))
 refine AWp.sh (Sh.fzObj 103 406 6 rfl rfl rfl (len_map (by omega)) (Frees.map irow_frees) (by decide) rfl rfl rfl) ?_
 refine AWp.sh (Sh.fzObj 103 407 7 rfl rfl rfl (len_map (by omega)) (Frees.map irow_frees) (by decide) rfl rfl rfl) ?_
 refine AWp.sh (Sh.fzObj 103 410 10 rfl rfl rfl (len_map (by omega)) (Frees.map irow_frees) (by decide) rfl rfl rfl) ?_
 refine AWp.region (.vl (Y.loadA sh27 rfl rfl (Nat.le_of_ble_eq_true rfl) rfl rfl) (AOps.storeC si27 rfl rfl rfl rfl rfl rfl (Nat.le_of_ble_eq_true rfl) rfl ?_))
 refine AOps.nil (AWp.ret ?_)
 exact ⟨_, rfl, _, _, _, (Sh.ownA (d := 0) 1 401 rfl rfl rfl (by first | rfl | exact len_map rfl | exact len_map (by omega)) rfl (by decide)).then (Sh.ownA (d := 0) 2 402 rfl rfl rfl (by first | rfl | exact len_map rfl | exact len_map (by omega)) rfl (by decide)), rfl, rfl, (⟨nB, n301_20, n302_j32, n303_16, n304_8, n305_12, n306_33, n307_33, pickN n301_20 1 p.parts.length, pickN n301_20 1 (((7 * p.parts.length) + 1) % 256), n310_40⟩ : Netlist), (hG3.made (by omega) (by omega) (by omega) (by omega) (by omega) (by omega) (fun m h => (hm m h).1) (fun m h => (hs m h).1) (by omega) (by omega) (fun j hj => he j (by omega)) hr (pickN_ok hG3.ground.one _) (pickN_ok hG3.ground.one _)), rfl, rfl⟩
end Go.Proofs.Ytligpghohcfpnaa
/- Drivers of wires, and places in an order, in plain Lean. -/
namespace Go.Proofs.Ytligpghohcfpnaa
open Go Go.AW

noncomputable instance (p : Pln) : Decidable p.Few := Classical.propDecidable _
structure DrvBy (n : Netlist) (by_ : List Int) : Prop where
 len : by_.length = n.widths.length
 drv : ∀ w : Int, In w n.widths.length → Drives n (by_.getD w.toNat 0) w
def DrvTo (n : Netlist) (k : Nat) (by_ : List Int) : Prop := by_.length = n.widths.length ∧ ∀ j w : Int, Drives n j w → j < k → by_.getD w.toNat 0 = j
theorem DrvTo.done {n : Netlist} {by_ : List Int} (hf : Formed n) (h : DrvTo n n.cells.length by_) : DrvBy n by_ := by
 refine ⟨h.1, fun w hw => ?_⟩
 obtain ⟨i, hi⟩ := hf.driver hw
 rw [h.2 i w hi hi.1.2]; exact hi
theorem DrvTo.set {n : Netlist} {k : Nat} {by_ : List Int} (hf : Formed n) (h : DrvTo n k by_) (hk : k < n.cells.length) (h0 : (n.cells.getD k default).out ≥ 0) : DrvTo n (k + 1) (by_.set (n.cells.getD k default).out.toNat (k : Int)) := by
 refine ⟨by rw [List.length_set]; exact h.1, fun j w hd hj => ?_⟩
 have hc := hf.cells k hk
 have h7 : (n.cells.getD k default).kind ≠ 7 := fun e => by have := hc.2.2.1 e; omega
 have hdk : Drives n (k : Int) (n.cells.getD k default).out := ⟨⟨by omega, by omega⟩, h7, rfl⟩
 have hw := hf.outIn hd; have hwk := hf.outIn hdk
 unfold In at hw hwk
 rw [getD_set]
 by_cases e : (n.cells.getD k default).out.toNat = w.toNat ∧ (n.cells.getD k default).out.toNat < by_.length
 ·rw [if_pos e]
  have e2 : (n.cells.getD k default).out = w := by omega
  exact hf.unique (e2 ▸ hdk) hd
 ·rw [if_neg e]
  have hne : j ≠ (k : Int) := by
   rintro rfl
   apply e
   have e2 : (n.cells.getD k default).out = w := hd.2.2
   have := h.1
   omega
  exact h.2 j w hd (by omega)
theorem DrvTo.skip {n : Netlist} {k : Nat} {by_ : List Int} (hf : Formed n) (h : DrvTo n k by_) (h0 : ¬ (n.cells.getD k default).out ≥ 0) : DrvTo n (k + 1) by_ := by
 refine ⟨h.1, fun j w hd hj => ?_⟩
 have hw := hf.outIn hd
 unfold In at hw
 have hne : j ≠ (k : Int) := by
  rintro rfl
  have : (n.cells.getD k default).out = w := hd.2.2
  omega
 exact h.2 j w hd (by omega)
structure Plc (n : Netlist) (l : List Int) (k : Nat) (pl : List Int) : Prop where
 len : pl.length = n.cells.length
 at_ : ∀ j, j < k → pl.getD (l.getD j 0).toNat 0 = (j : Int) + 1
 none_ : ∀ c : Int, In c n.cells.length → (∀ j, j < k → l.getD j 0 ≠ c) → pl.getD c.toNat 0 = 0
theorem nodup_getD {l : List Int} (h : l.Nodup) {i j : Nat} (hi : i < l.length) (hj : j < l.length) (e : l.getD i 0 = l.getD j 0) : i = j := by
 rw [List.getD_eq_getElem?_getD, List.getD_eq_getElem?_getD, List.getElem?_eq_getElem hi, List.getElem?_eq_getElem hj] at e
 simp only [Option.getD_some] at e
 rw [List.Nodup, List.pairwise_iff_getElem] at h
 rcases Nat.lt_trichotomy i j with h1 | h1 | h1
 ·exact absurd e (h i j hi hj h1)
 ·exact h1
 ·exact absurd e.symm (h j i hj hi h1)
theorem Plc.init (n : Netlist) (l : List Int) : Plc n l 0 (List.replicate n.cells.length 0) :=
 ⟨by simp, fun j hj => by omega, fun c hc _ => by
  unfold In at hc
  rw [List.getD_eq_getElem?_getD, List.getElem?_eq_getElem (by simp; omega)]; simp⟩
theorem Plc.step {n : Netlist} {l pl : List Int} {k : Nat} (ho : Ord n l) (h : Plc n l k pl) (hk : k < l.length) : Plc n l (k + 1) (pl.set (l.getD k 0).toNat ((k : Int) + 1)) := by
 have hr := ho.rng _ (getD_mem hk)
 have hl := h.len
 refine ⟨by rw [List.length_set]; exact hl, fun j hj => ?_, fun c hc hne => ?_⟩
 ·rw [getD_set]
  rcases Nat.lt_or_ge j k with h1 | h1
  ·have hr2 := ho.rng _ (getD_mem (l := l) (i := j) (by omega))
   rw [if_neg (fun e => by have := nodup_getD ho.nd hk (by omega : j < l.length) (by omega); omega)]
   exact h.at_ j h1
  ·obtain rfl : j = k := by omega
   rw [if_pos ⟨rfl, by omega⟩]
 ·have h1 := hne k (by omega)
  unfold In at hc
  rw [getD_set, if_neg (fun e => h1 (by omega))]
  exact h.none_ c hc (fun j hj => hne j (by omega))
theorem Ord.mem {n : Netlist} {l : List Int} (ho : Ord n l) {i : Int} (hi : 0 ≤ i ∧ i < n.cells.length) : i ∈ l := by
 refine Classical.byContradiction fun hn => ?_
 have h1 : ∀ x ∈ i :: l, x ∈ (List.range n.cells.length).map (fun (j : Nat) => (j : Int)) := by
  intro x hx
  have hr : 0 ≤ x ∧ x < n.cells.length := by
   rcases List.mem_cons.1 hx with rfl | hx
   ·exact hi
   ·exact ho.rng x hx
  exact List.mem_map.2 ⟨x.toNat, List.mem_range.2 (by omega), by omega⟩
 have h2 := length_le_of_subset (List.nodup_cons.2 ⟨hn, ho.nd⟩) h1
 simp only [List.length_cons, List.length_map, List.length_range, ho.len] at h2
 omega
theorem OrderRes.ok {n : Netlist} {l : List Int} {e : Int} (h : OrderRes n l e) (hf : Formed n) (ht : Fit n) (ha : Acyclic n) : Ord n l ∧ e = 0 := by
 rcases h with ⟨h1, _⟩ | ⟨_, h2, _⟩ | ⟨_, _, h3, _⟩ | ⟨_, _, _, h4, h5⟩
 ·exact absurd hf h1
 ·exact absurd ht h2
 ·exact absurd ha h3
 ·exact ⟨h4, h5⟩
end Go.Proofs.Ytligpghohcfpnaa
/- Walks through Few, Drivers, Ordered. -/
namespace Go.Proofs.Ytligpghohcfpnaa
open Go Go.AW Go.Proofs
theorem few_spec {p : Pln} : ACalls Try.prog 18 [.agg (Pln.row p)] [] [] (fun r o => r = .v (.bool (decide (p.Few))) ∧ o = []) := by
 refine ACalls.of Try.func18 rfl rfl rfl (n := 31) (by decide) (Nat.le_of_ble_eq_true rfl) (AWp.sr (AOps.box 101 rfl rfl rfl rfl rfl (by decide) ?_))
 refine .an ?_
 refine AOps.nil (AWp.sr ?_)
 refine .fa fl36_0 ?_
 refine .ld sh32 ?_
 refine .vl (Y.len (n := p.mems.length) sl32 rfl (congrArg some (List.length_map ..))) (.vl (Y.leq rfl rfl) ?_)
 refine .mv ?_
 refine AOps.splitD (d := 7) rfl (fun c7 => ?_) (fun c7 => ?_)
 refine .gw 7 (Y.fieldAddr fl36_1 rfl rfl) (.gw 7 (Y.load sh32 rfl rfl rfl rfl) (.gw 7 (Y.len (n := p.streams.length) sl32 rfl (congrArg some (List.length_map ..))) ?_))
 refine .gw 7 (Y.leq rfl rfl) ?_
 refine .pk ?_
 refine .mv ?_
 refine AOps.splitD (d := 13) rfl (fun c13 => ?_) (fun c13 => ?_)
 refine .gw 13 (Y.fieldAddr fl36_2 rfl rfl) (.gw 13 (Y.load sh33 rfl rfl rfl rfl) (.gw 13 (Y.len (n := p.ins.length) sl33 rfl (congrArg some (List.length_map ..))) ?_))
 refine .gw 13 (Y.leq rfl rfl) ?_
 refine .pk ?_
 refine .mv ?_
 refine AOps.splitD (d := 19) rfl (fun c19 => ?_) (fun c19 => ?_)
 refine .gw 19 (Y.fieldAddr fl36_3 rfl rfl) (.gw 19 (Y.load sh34 rfl rfl rfl rfl) (.gw 19 (Y.len (n := p.parts.length) sl34 rfl (congrArg some (List.length_map ..))) ?_))
 refine .gw 19 (Y.leq rfl rfl) ?_
 refine .pk ?_
 refine .mv ?_
 refine AOps.splitD (d := 25) rfl (fun c25 => ?_) (fun c25 => ?_)
 refine .gw 25 (Y.fieldAddr fl36_4 rfl rfl) (.gw 25 (Y.load sh33 rfl rfl rfl rfl) (.gw 25 (Y.len (n := p.rets.length) sl33 rfl (congrArg some (List.length_map ..))) ?_))
 refine .gw 25 (Y.leq rfl rfl) ?_
 refine .pk ?_
 refine .an ?_
 refine AOps.nil (AWp.ret ?_)
 exact .rb rfl (dd ⟨fun h => ⟨by omega, by omega, by omega, by omega, by omega⟩, fun h => by have h5 := h.rets; omega⟩)
 refine .gz 25 (.gz 25 (.gz 25 ?_))
 refine .gz 25 ?_
 refine .pk ?_
 refine .an ?_
 refine AOps.nil (AWp.ret ?_)
 exact .rb rfl (df (fun h => by have h1 := h.mems; have h2 := h.streams; have h3 := h.ins; have h4 := h.parts; have h5 := h.rets; omega))
 refine .gz 19 (.gz 19 (.gz 19 ?_))
 refine .gz 19 ?_
 refine .pk ?_
 refine .mv ?_
 refine .gz 25 (.gz 25 (.gz 25 ?_))
 refine .gz 25 ?_
 refine .pk ?_
 refine .an ?_
 refine AOps.nil (AWp.ret ?_)
 exact .rb rfl (df (fun h => by have h1 := h.mems; have h2 := h.streams; have h3 := h.ins; have h4 := h.parts; have h5 := h.rets; omega))
 refine .gz 13 (.gz 13 (.gz 13 ?_))
 refine .gz 13 ?_
 refine .pk ?_
 refine .mv ?_
 refine .gz 19 (.gz 19 (.gz 19 ?_))
 refine .gz 19 ?_
 refine .pk ?_
 refine .mv ?_
 refine .gz 25 (.gz 25 (.gz 25 ?_))
 refine .gz 25 ?_
 refine .pk ?_
 refine .an ?_
 refine AOps.nil (AWp.ret ?_)
 exact .rb rfl (df (fun h => by have h1 := h.mems; have h2 := h.streams; have h3 := h.ins; have h4 := h.parts; have h5 := h.rets; omega))
 refine .gz 7 (.gz 7 (.gz 7 ?_))
 refine .gz 7 ?_
 refine .pk ?_
 refine .mv ?_
 refine .gz 13 (.gz 13 (.gz 13 ?_))
 refine .gz 13 ?_
 refine .pk ?_
 refine .mv ?_
 refine .gz 19 (.gz 19 (.gz 19 ?_))
 refine .gz 19 ?_
 refine .pk ?_
 refine .mv ?_
 refine .gz 25 (.gz 25 (.gz 25 ?_))
 refine .gz 25 ?_
 refine .pk ?_
 refine .an ?_
 refine AOps.nil (AWp.ret ?_)
 exact .rb rfl (df (fun h => by have h1 := h.mems; have h2 := h.streams; have h3 := h.ins; have h4 := h.parts; have h5 := h.rets; omega))
theorem drivers_spec {n : Netlist} (hs : n.Small) (hf : Formed n) : ACalls Try.prog 38 [.agg (Netlist.row n)] [] [] (fun r o => ∃ l, DrvBy n l ∧ r = .uni 1 (l.map irow) ∧ o = []) := by
 refine ACalls.of Try.func38 rfl rfl rfl (n := 33) (by decide) (Nat.le_of_ble_eq_true rfl) ?_
 have hs1 := hs.widths; have hs2 := hs.cells
 refine AWp.sr (AOps.box 101 rfl rfl rfl rfl rfl (by decide) ?_)
 refine .an ?_
 refine AOps.nil (AWp.sr ?_)
 refine .fa fl27_1 ?_
 refine .ld sh22 ?_
 refine .vl (Y.len (n := n.widths.length) sl22 rfl (congrArg some (List.length_map ..))) ?_
 refine AOps.makeSlice (n := n.widths.length) sl22 ze3 rfl rfl rfl rfl (by omega) (by omega) (by decide) ?_
 refine AOps.assignX rfl (by decide) (AOps.sh (Sh.adoptE (d := 3) (n := n.widths.length) 103 ((List.replicate n.widths.length 0).map irow) rfl (by first | rfl | exact rep_map rfl) (len_map (by simp)) (by decide)) (AOps.nil ?_))
 refine AWp.seq (AWp.sr ?_)
 refine .an ?_
 refine AOps.nil (AWp.block ?_)
 refine AWp.loop2 (fun (i4_3 : Nat) (out3_3 : List Int) => ⟨[(1, .ptr 101 0 0 0), (3, .slc 103 1 0 n.widths.length), (4, vi (i4_3 : Int))], [(101, .cells (Netlist.row n)), (103, .rows 1 (out3_3.map irow))]⟩) (fun (i4_3 : Nat) (out3_3 : List Int) => (out3_3.length = n.widths.length) ∧ ((i4_3 : Int) ≤ ((n.cells.length : Nat) : Int)) ∧ (DrvTo n i4_3 out3_3)) (fun (i4_3 : Nat) (out3_3 : List Int) => (((n.cells.length : Nat) : Int) - (i4_3 : Int)).toNat) 0 (List.replicate n.widths.length 0) (⟨by first | omega | (simp [-List.getD_eq_getElem?_getD]; done) | (simp [-List.getD_eq_getElem?_getD]; omega), by first | omega | (simp [-List.getD_eq_getElem?_getD]; done) | (simp [-List.getD_eq_getElem?_getD]; omega), ⟨by simp, fun j w hd hj => by have := hd.1; omega⟩⟩) (Le.mk (.c (.c (.cons (look_int rfl (by first | rfl | omega)) (.nil)))) (.c (.c (.nil)))) (fun i4_3 out3_3 hI3 => ?_)
 obtain ⟨hl103, hb3, hD⟩ := hI3
 refine AWp.seq (AWp.sr ?_)
 refine .mv ?_
 refine .fa fl27_2 ?_
 refine .ld sh23 ?_
 refine .vl (Y.len (n := n.cells.length) sl23 rfl (congrArg some (List.length_map ..))) (.vl (Y.lss rfl rfl) (AOps.nil ?_))
 refine AWp.condD rfl (fun c13 => ?_) (fun c13 => ?_)
 refine AWp.skip ?_
 refine AWp.join1 (fun (out3_j4 : List Int) => ⟨[(1, .ptr 101 0 0 0), (3, .slc 103 1 0 n.widths.length), (4, vi (i4_3 : Int))], [(101, .cells (Netlist.row n)), (103, .rows 1 (out3_j4.map irow))]⟩) (fun (out3_j4 : List Int) => (out3_j4.length = n.widths.length) ∧ (DrvTo n (i4_3 + 1) out3_j4)) ?_ (fun out3_j4 hJx4 => ?_)
 refine AWp.block (AWp.sr ?_)
 refine .fa fl27_2 ?_
 refine .ld sh23 ?_
 refine .mv ?_
 refine .vl (Y.indexF (m := i4_3) sl23 rfl rfl (by first | rfl | omega) (row_getD (d := default) (by omega))) ?_
 refine .fa fl39_2 ?_
 refine .ld sh3 ?_
 refine .vl (Y.geq rfl rfl) (AOps.nil ?_)
 refine AWp.condD rfl (fun c22 => ?_) (fun c22 => ?_)
 have ho6 : In (n.cells.getD i4_3 default).out n.widths.length := (hf.cells i4_3 (by omega)).2.2.2 (fun e => by have := (hf.cells i4_3 (by omega)).2.2.1 e; omega)
 unfold In at ho6
 refine AWp.region ?_
 refine .mv ?_
 refine .fa fl27_2 ?_
 refine .ld sh23 ?_
 refine .mv ?_
 refine .vl (Y.indexF (m := i4_3) sl23 rfl rfl (by first | rfl | omega) (row_getD (d := default) (by omega))) ?_
 refine .fa fl39_2 ?_
 refine .ld sh3 ?_
 refine .mv ?_
 refine .vl (Y.indexO (m := ((n.cells.getD i4_3 default).out).toNat) sl22 rfl rfl (by omega) (by omega)) ?_
 refine AOps.storeE ((out3_3.set (((n.cells.getD i4_3 default).out).toNat) (i4_3 : Int)).map irow) si3 rfl rfl rfl rfl rfl rfl rfl (row_getD0 (d := 0) (by omega)) (Nat.le_of_ble_eq_true rfl) (set_map0 rfl) ?_
 refine AOps.nil ?_
 exact ⟨out3_3.set (((n.cells.getD i4_3 default).out).toNat) (i4_3 : Int), ⟨by first | omega | (simp [-List.getD_eq_getElem?_getD]; done) | (simp [-List.getD_eq_getElem?_getD]; omega), by first | exact hD.set hf (by omega) (by assumption) | exact hD.skip hf (by assumption)⟩, Le.mk (.c (.c (.c (.nil)))) (.c (.c (.nil)))⟩
 refine AWp.skip ?_
 exact ⟨out3_3, ⟨by omega, by first | exact hD.set hf (by omega) (by assumption) | exact hD.skip hf (by assumption)⟩, Le.mk (.c (.c (.c (.nil)))) (.c (.c (.nil)))⟩
 obtain ⟨hlj4_103, hJ4⟩ := hJx4
 refine AWp.region ?_
 refine .mv ?_
 refine .vl (Y.addI rfl rfl (by omega)) ?_
 refine .an ?_
 refine AOps.nil ?_
 exact ⟨i4_3 + 1, out3_j4, ⟨by omega, by omega, hJ4⟩, by omega, Le.mk (.c (.c (.cons (look_int rfl (by first | rfl | omega)) (.nil)))) (.c (.c (.nil)))⟩
 refine AWp.exit (AWp.sr ?_)
 refine .mv ?_
 refine .an ?_
 refine AOps.sh (Sh.detach (d := 2) (o := 103) rfl rfl (len_map (by omega)) (by decide)) ?_
 refine AOps.nil (AWp.ret ?_)
 exact ⟨_, _, rfl, rfl, out3_3, DrvTo.done hf (by rw [show n.cells.length = i4_3 by omega]; exact hD), rfl, rfl⟩
end Go.Proofs.Ytligpghohcfpnaa
/- Cones: what a search marks, in plain Lean. -/
namespace Go.Proofs.Ytligpghohcfpnaa
open Go Go.AW

inductive Rch (n : Netlist) (ws : List Int) : Int → Prop where
 | root {w i : Int} (hw : w ∈ ws) (h : Drives n i w) : Rch n ws i
 | step {i x j : Int} (hi : Rch n ws i) (hc : Comb (n.cell i).kind) (hx : x ∈ (n.cell i).args) (h : Drives n j x) : Rch n ws j
def unseen (l : List Bool) : Nat := l.countP (fun b => !b)
theorem unseen_le (l : List Bool) : unseen l ≤ l.length := List.countP_le_length
theorem unseen_set : ∀ {l : List Bool} {i : Nat}, i < l.length → l.getD i false = false → unseen (l.set i true) + 1 = unseen l
 | [], _, h, _ => by simp at h
 | b :: r, 0, _, hb => by
  simp only [List.getD_cons_zero] at hb
  subst hb
  simp [unseen]
 | b :: r, i + 1, h, hb => by
  have := unseen_set (l := r) (i := i) (by simpa using h) (by simpa using hb)
  unfold unseen at this ⊢
  simp only [List.set_cons_succ, List.countP_cons]
  omega
structure Srch (n : Netlist) (by_ ws : List Int) (l : List Int) (seen : List Bool) : Prop where
 len : seen.length = n.cells.length
 rng : ∀ w ∈ l, In w n.widths.length
 snd : ∀ w ∈ l, ∀ i, Drives n i w → Rch n ws i
 mrk : ∀ i : Nat, i < n.cells.length → seen.getD i false = true → Rch n ws i
 root : ∀ w ∈ ws, seen.getD (by_.getD w.toNat 0).toNat false = true ∨ w ∈ l
 clo : ∀ i : Nat, i < n.cells.length → seen.getD i false = true → Comb (n.cells.getD i default).kind → ∀ x ∈ (n.cells.getD i default).args, seen.getD (by_.getD x.toNat 0).toNat false = true ∨ x ∈ l
 sz : l.length + 4 * unseen seen ≤ ws.length + 4 * n.cells.length
theorem getD_rep {k i : Nat} : (List.replicate k false).getD i false = false := by
 rw [List.getD_eq_getElem?_getD]
 by_cases h : i < k
 ·rw [List.getElem?_eq_getElem (by simpa using h)]; simp
 ·rw [List.getElem?_eq_none (by simpa using h)]; rfl
theorem Srch.init {n : Netlist} {by_ ws : List Int} (hw : ∀ w ∈ ws, In w n.widths.length) : Srch n by_ ws ws (List.replicate n.cells.length false) where
 len := by simp
 rng := hw
 snd := fun w hw i hi => .root hw hi
 mrk := fun i _ h => by rw [getD_rep] at h; cases h
 root := fun w hw => .inr hw
 clo := fun i _ h => by rw [getD_rep] at h; cases h
 sz := by have := unseen_le (List.replicate n.cells.length false); simp at this; omega
section
variable {n : Netlist} {by_ ws l : List Int} {seen : List Bool}
theorem take_last {l : List Int} (h : 0 < l.length) {x : Int} (hx : x ∈ l) : x = l.getD (l.length - 1) 0 ∨ x ∈ l.take (l.length - 1) := by
 obtain ⟨i, hi, rfl⟩ := List.mem_iff_getElem.1 hx
 by_cases e : i = l.length - 1
 ·left; subst e; rw [List.getD_eq_getElem?_getD, List.getElem?_eq_getElem hi]; rfl
 ·right
  refine List.mem_iff_getElem.2 ⟨i, by simp; omega, by simp⟩
theorem Srch.skip (h : Srch n by_ ws l seen) (h0 : 0 < l.length) (hs : seen.getD (by_.getD (l.getD (l.length - 1) 0).toNat 0).toNat false = true) : Srch n by_ ws (l.take (l.length - 1)) seen where
 len := h.len
 rng := fun w hw => h.rng w (List.mem_of_mem_take hw)
 snd := fun w hw => h.snd w (List.mem_of_mem_take hw)
 mrk := h.mrk
 root := fun w hw => by
  rcases h.root w hw with h1 | h1
  ·exact .inl h1
  ·rcases take_last h0 h1 with h2 | h2
   ·exact .inl (by rw [h2]; exact hs)
   ·exact .inr h2
 clo := fun i hi hm hc x hx => by
  rcases h.clo i hi hm hc x hx with h1 | h1
  ·exact .inl h1
  ·rcases take_last h0 h1 with h2 | h2
   ·exact .inl (by rw [h2]; exact hs)
   ·exact .inr h2
 sz := by have := h.sz; simp only [List.length_take]; omega
theorem Srch.mark (hb : DrvBy n by_) (hna : ∀ c ∈ n.cells, c.args.length ≤ 4) (hf : Formed n) (h : Srch n by_ ws l seen) (h0 : 0 < l.length) (hs : seen.getD (by_.getD (l.getD (l.length - 1) 0).toNat 0).toNat false = false) {more : List Int}
  (hm : (Comb (n.cells.getD (by_.getD (l.getD (l.length - 1) 0).toNat 0).toNat default).kind ∧ more = (n.cells.getD (by_.getD (l.getD (l.length - 1) 0).toNat 0).toNat default).args) ∨ (¬ Comb (n.cells.getD (by_.getD (l.getD (l.length - 1) 0).toNat 0).toNat default).kind ∧ more = [])) :
  Srch n by_ ws (l.take (l.length - 1) ++ more) (seen.set (by_.getD (l.getD (l.length - 1) 0).toNat 0).toNat true) ∧ unseen (seen.set (by_.getD (l.getD (l.length - 1) 0).toNat 0).toNat true) + 1 = unseen seen ∧ more.length ≤ 4 := by
 have hw := h.rng _ (getD_mem (l := l) (i := l.length - 1) (by omega))
 have hd := hb.drv _ hw
 have hr := h.snd _ (getD_mem (l := l) (i := l.length - 1) (by omega)) _ hd
 generalize hwe : l.getD (l.length - 1) 0 = w at *
 generalize hie : by_.getD w.toNat 0 = i at *
 have hi := hd.1
 have hc : n.cell i = n.cells.getD i.toNat default := rfl
 have hl := h.len
 have get : ∀ k, (seen.set i.toNat true).getD k false = if i.toNat = k ∧ i.toNat < seen.length then true else seen.getD k false := fun k => getD_set ..
 have keep : ∀ k, seen.getD k false = true → (seen.set i.toNat true).getD k false = true := fun k hk => by rw [get]; split <;> simp_all
 have hml : more.length ≤ 4 := by
  rcases hm with ⟨_, rfl⟩ | ⟨_, rfl⟩
  ·exact hna _ (getD_in (by omega))
  ·simp
 have hu := unseen_set (l := seen) (i := i.toNat) (by omega) hs
 refine ⟨?_, hu, hml⟩
 exact {
  len := by rw [List.length_set]; exact hl
  rng := fun x hx => by
   rcases List.mem_append.1 hx with h1 | h1
   ·exact h.rng x (List.mem_of_mem_take h1)
   ·rcases hm with ⟨_, rfl⟩ | ⟨_, rfl⟩
    ·exact hf.argIn hi h1
    ·cases h1
  snd := fun x hx j hj => by
   rcases List.mem_append.1 hx with h1 | h1
   ·exact h.snd x (List.mem_of_mem_take h1) j hj
   ·rcases hm with ⟨h2, rfl⟩ | ⟨_, rfl⟩
    ·exact .step hr h2 h1 hj
    ·cases h1
  mrk := fun k hk hkm => by
   rw [get] at hkm
   by_cases e : i.toNat = k ∧ i.toNat < seen.length
   ·rw [show (k : Int) = i by omega]; exact hr
   ·rw [if_neg e] at hkm; exact h.mrk k hk hkm
  root := fun x hx => by
   rcases h.root x hx with h1 | h1
   ·exact .inl (keep _ h1)
   ·rcases take_last h0 h1 with h2 | h2
    ·left
     rw [hwe] at h2
     rw [h2, hie, get, if_pos ⟨rfl, by omega⟩]
    ·exact .inr (List.mem_append.2 (.inl h2))
  clo := fun k hk hkm hkc x hx => by
   rw [get] at hkm
   by_cases e : i.toNat = k ∧ i.toNat < seen.length
   ·rcases hm with ⟨_, rfl⟩ | ⟨h2, _⟩
    ·right
     rw [← e.1] at hx
     exact List.mem_append.2 (.inr hx)
    ·rw [← e.1] at hkc; exact absurd hkc h2
   ·rw [if_neg e] at hkm
    rcases h.clo k hk hkm hkc x hx with h1 | h1
    ·exact .inl (keep _ h1)
    ·rcases take_last h0 h1 with h2 | h2
     ·left
      rw [hwe] at h2
      rw [h2, hie, get, if_pos ⟨rfl, by omega⟩]
     ·exact .inr (List.mem_append.2 (.inl h2))
  sz := by
   have h1 := h.sz
   simp only [List.length_append, List.length_take]
   omega }
theorem Srch.mark0 (hb : DrvBy n by_) (hna : ∀ c ∈ n.cells, c.args.length ≤ 4) (hf : Formed n) (h : Srch n by_ ws l seen) (h0 : 0 < l.length) (hs : seen.getD (by_.getD (l.getD (l.length - 1) 0).toNat 0).toNat false = false)
  (hc : ¬ Comb (n.cells.getD (by_.getD (l.getD (l.length - 1) 0).toNat 0).toNat default).kind) : Srch n by_ ws (l.take (l.length - 1)) (seen.set (by_.getD (l.getD (l.length - 1) 0).toNat 0).toNat true) ∧ unseen (seen.set (by_.getD (l.getD (l.length - 1) 0).toNat 0).toNat true) + 1 = unseen seen := by
 have := h.mark hb hna hf h0 hs (more := []) (.inr ⟨hc, rfl⟩)
 rw [List.append_nil] at this
 exact ⟨this.1, this.2.1⟩
theorem Srch.last (hb : DrvBy n by_) (h : Srch n by_ ws l seen) (h0 : 0 < l.length) : (0 ≤ l.getD (l.length - 1) 0 ∧ l.getD (l.length - 1) 0 < n.widths.length) ∧ (0 ≤ by_.getD (l.getD (l.length - 1) 0).toNat 0 ∧ by_.getD (l.getD (l.length - 1) 0).toNat 0 < n.cells.length) := by
 have hw := h.rng _ (getD_mem (l := l) (i := l.length - 1) (by omega))
 exact ⟨hw, (hb.drv _ hw).1⟩
theorem natsub {a b : Nat} (h : b ≤ a ∧ a ≤ 4611686018427387904) : IntKind.i64.wrap ((a : Int) - (b : Int)) = ((a - b : Nat) : Int) := by
 rw [show ((a : Int) - (b : Int)) = ((a - b : Nat) : Int) by omega]
 exact IntWalk.i64_in _ (by omega)
theorem take_le {α : Type} {f : α → List X} {l : List α} {k : Nat} (h : k ≤ l.length) : 0 + k ≤ (l.map f).length := by simp; omega
theorem take_he {α : Type} {f : α → List X} {l : List α} {k : Nat} : ((l.map f).drop 0).take k = (l.take k).map f := by rw [List.drop_zero, List.map_take]
theorem take_len {α : Type} {l : List α} {k : Nat} (h : k ≤ l.length) : (l.take k).length = k := by rw [List.length_take]; omega
theorem mapW {α : Type} {f : Int → α} {d : α} {l : List Int} {i : Nat} (h : i < l.length) : (l.map f).getD i d = f (l.getD i 0) := by
 rw [List.getD_eq_getElem?_getD, List.getD_eq_getElem?_getD, List.getElem?_map, List.getElem?_eq_getElem h]; rfl
theorem take_one {α : Type} {d : α} {l : List α} {k : Nat} (h : k < l.length) : l.take (k + 1) = l.take k ++ [l.getD k d] := by
 rw [List.take_add_one, List.getElem?_eq_getElem h, List.getD_eq_getElem?_getD, List.getElem?_eq_getElem h]; rfl
theorem Srch.ref (hb : DrvBy n by_) (hna : ∀ c ∈ n.cells, c.args.length ≤ 4) (hf : Formed n) (h : Srch n by_ ws l seen) (h0 : 0 < l.length) {v : Int} (hv : v = by_.getD (l.getD (l.length - 1) 0).toNat 0) (hs : seen.getD v.toNat false = false) {O : List Int} {k : Nat}
  (hO : O = (l.take (l.length - 1)).map (fun x => by_.getD x.toNat 0) ++ ((n.cells.getD v.toNat default).args.take k).map (fun x => by_.getD x.toNat 0)) (hk : 0 < k → Comb (n.cells.getD v.toNat default).kind)
  (hkl : k ≤ (n.cells.getD v.toNat default).args.length) (he : ¬ k < (n.cells.getD v.toNat default).args.length ∨ ¬ Comb (n.cells.getD v.toNat default).kind) :
  ∃ L', O = L'.map (fun x => by_.getD x.toNat 0) ∧ Srch n by_ ws L' (seen.set v.toNat true) ∧ L'.length ≤ l.length - 1 + 4 ∧ unseen (seen.set v.toNat true) + 1 = unseen seen := by
 subst hv
 by_cases hc : Comb (n.cells.getD (by_.getD (l.getD (l.length - 1) 0).toNat 0).toNat default).kind
 ·have hke : k = (n.cells.getD (by_.getD (l.getD (l.length - 1) 0).toNat 0).toNat default).args.length := by
   rcases he with h1 | h1
   ·omega
   ·exact absurd hc h1
  obtain ⟨a1, a2, a3⟩ := h.mark hb hna hf h0 hs (.inl ⟨hc, rfl⟩)
  refine ⟨_, ?_, a1, ?_, a2⟩
  ·rw [hO, hke, List.take_length, List.map_append]
  ·simp only [List.length_append, List.length_take]; omega
 ·have hke : k = 0 := by
   rcases Nat.eq_zero_or_pos k with h1 | h1
   ·exact h1
   ·exact absurd (hk h1) hc
  obtain ⟨a1, a2⟩ := h.mark0 hb hna hf h0 hs hc
  refine ⟨_, ?_, a1, ?_, a2⟩
  ·rw [hO, hke]; simp
  ·simp only [List.length_take]; omega
def ConeL (n : Netlist) (ws : List Int) (seen : List Bool) : Prop := seen.length = n.cells.length ∧ ∀ i : Nat, i < n.cells.length → (seen.getD i false = true ↔ Rch n ws i)
theorem Srch.done (hb : DrvBy n by_) (hf : Formed n) (h : Srch n by_ ws l seen) (h0 : l.length = 0) (hw : ∀ w ∈ ws, In w n.widths.length) : ConeL n ws seen := by
 have hl : l = [] := List.eq_nil_of_length_eq_zero h0
 subst hl
 refine ⟨h.len, fun i hi => ⟨h.mrk i hi, fun hr => ?_⟩⟩
 have key : ∀ j : Int, Rch n ws j → 0 ≤ j ∧ j < n.cells.length ∧ seen.getD j.toNat false = true := by
  intro j hj
  induction hj with
  | root hw' hd =>
   rcases h.root _ hw' with h1 | h1
   ·rw [hf.unique (hb.drv _ (hw _ hw')) hd] at h1
    exact ⟨hd.1.1, hd.1.2, h1⟩
   ·cases h1
  | @step i x j hi hc hx hd ih =>
   rcases h.clo i.toNat (by omega) ih.2.2 hc x hx with h1 | h1
   ·rw [hf.unique (hb.drv _ (hf.argIn ⟨ih.1, ih.2.1⟩ hx)) hd] at h1
    exact ⟨hd.1.1, hd.1.2, h1⟩
   ·cases h1
 exact (key _ hr).2.2
end
def outL (s : List Bool) (i : Nat) : List Int := ((List.range i).filter (fun j => s.getD j false)).map (fun (j : Nat) => (j : Int))
theorem outL_yes {s : List Bool} {i : Nat} (h : s.getD i false = true) : outL s (i + 1) = outL s i ++ [(i : Int)] := by
 simp only [outL, List.range_succ, List.filter_append, List.map_append, List.filter_cons, h, if_true, List.filter_nil, List.map_cons, List.map_nil]
theorem outL_no {s : List Bool} {i : Nat} (h : s.getD i false = false) : outL s (i + 1) = outL s i := by
 simp only [outL, List.range_succ, List.filter_append, List.filter_cons, h, List.filter_nil, List.append_nil, Bool.false_eq_true, if_false]
theorem outL_len (s : List Bool) (i : Nat) : (outL s i).length ≤ i := by
 have := List.length_filter_le (fun j => s.getD j false) (List.range i)
 simp only [outL, List.length_map]; rw [List.length_range] at this; exact this
theorem outL_pre (s : List Bool) {i k : Nat} (h : i ≤ k) : ∃ r, outL s k = outL s i ++ r := by
 induction k with
 | zero => exact ⟨[], by rw [show i = 0 by omega]; simp⟩
 | succ k ih =>
  rcases Nat.lt_or_ge k i with h1 | h1
  ·exact ⟨[], by rw [show i = k + 1 by omega]; simp⟩
  ·obtain ⟨r, hr⟩ := ih h1
   cases hb : s.getD k false with
   | true => exact ⟨r ++ [(k : Int)], by rw [outL_yes hb, hr, List.append_assoc]⟩
   | false => exact ⟨r, by rw [outL_no hb, hr]⟩
theorem outL_at {s : List Bool} {i k : Nat} (hi : i < k) (hb : s.getD i false = true) : (outL s i).length < (outL s k).length ∧ (outL s k).getD (outL s i).length 0 = (i : Int) := by
 obtain ⟨r, hr⟩ := outL_pre s (show i + 1 ≤ k by omega)
 rw [hr, outL_yes hb]
 refine ⟨by simp, ?_⟩
 rw [List.append_assoc, List.getD_eq_getElem?_getD, List.getElem?_append_right (Nat.le_refl _), Nat.sub_self]; rfl
theorem ConeL.eq {n : Netlist} {ws : List Int} {s t : List Bool} (hs : ConeL n ws s) (ht : ConeL n ws t) : s = t := by
 refine List.ext_getElem (by rw [hs.1, ht.1]) fun i h1 h2 => ?_
 have e1 := hs.2 i (by have := hs.1; omega)
 have e2 := ht.2 i (by have := hs.1; omega)
 rw [List.getD_eq_getElem?_getD, List.getElem?_eq_getElem h1] at e1
 rw [List.getD_eq_getElem?_getD, List.getElem?_eq_getElem h2] at e2
 simp only [Option.getD_some] at e1 e2
 cases h3 : s[i] <;> cases h4 : t[i] <;> simp_all
end Go.Proofs.Ytligpghohcfpnaa
/- Walks of the search. -/
namespace Go.Proofs.Ytligpghohcfpnaa
open Go Go.AW Go.Proofs
theorem drivers2_spec {n : Netlist} (hs : n.Small) (hf : Formed n) : ACalls Try.prog 70 [.agg (Netlist.row n)] [] [] (fun r o => ∃ l, DrvBy n l ∧ r = .uni 1 (l.map irow) ∧ o = []) := by
 refine ACalls.of Try.func70 rfl rfl rfl (n := 28) (by decide) (Nat.le_of_ble_eq_true rfl) ?_
 have hs1 := hs.widths; have hs2 := hs.cells
 refine AWp.sr (AOps.box 101 rfl rfl rfl rfl rfl (by decide) ?_)
 refine .an ?_
 refine AOps.nil (AWp.sr ?_)
 refine .fa fl27_1 ?_
 refine .ld sh22 ?_
 refine .vl (Y.len (n := n.widths.length) sl22 rfl (congrArg some (List.length_map ..))) ?_
 refine AOps.makeSlice (n := n.widths.length) sl22 ze3 rfl rfl rfl rfl (by omega) (by omega) (by decide) ?_
 refine AOps.assignX rfl (by decide) (AOps.sh (Sh.adoptE (d := 3) (n := n.widths.length) 103 ((List.replicate n.widths.length 0).map irow) rfl (by first | rfl | exact rep_map rfl) (len_map (by simp)) (by decide)) (AOps.nil ?_))
 refine AWp.seq (AWp.sr ?_)
 refine .fa fl27_2 ?_
 refine .ld sh23 ?_
 refine .vl (Y.len (n := n.cells.length) sl23 rfl (congrArg some (List.length_map ..))) ?_
 refine .mv ?_
 refine AOps.nil (AWp.block ?_)
 refine AWp.loop2 (fun (n13_3 : Nat) (out3_3 : List Int) => ⟨[(3, .slc 103 1 0 n.widths.length), (11, .fz 6 (n.cells.map Cell.row)), (12, vi ((n.cells.length : Nat) : Int)), (13, vi (n13_3 : Int))], [(103, .rows 1 (out3_3.map irow))]⟩) (fun (n13_3 : Nat) (out3_3 : List Int) => (out3_3.length = n.widths.length) ∧ ((n13_3 : Int) ≤ ((n.cells.length : Nat) : Int)) ∧ (DrvTo n n13_3 out3_3)) (fun (n13_3 : Nat) (out3_3 : List Int) => (((n.cells.length : Nat) : Int) - (n13_3 : Int)).toNat) 0 (List.replicate n.widths.length 0) (⟨by first | omega | (simp [-List.getD_eq_getElem?_getD]; done) | (simp [-List.getD_eq_getElem?_getD]; omega), by first | omega | (simp [-List.getD_eq_getElem?_getD]; done) | (simp [-List.getD_eq_getElem?_getD]; omega), ⟨by simp, fun j w hd hj => by have := hd.1; omega⟩⟩) (Le.mk (.c (.c (.c (.cons (look_int rfl (by first | rfl | omega)) (.nil))))) (.c (.nil))) (fun n13_3 out3_3 hI3 => ?_)
 obtain ⟨hl103, hb3, hD⟩ := hI3
 refine AWp.sr (.vl (Y.lss rfl rfl) (AOps.nil ?_))
 refine AWp.seq ?_
 refine AWp.condD rfl (fun c14 => ?_) (fun c14 => ?_)
 refine AWp.skip ?_
 refine AWp.join1 (fun (out3_j7 : List Int) => ⟨[(3, .slc 103 1 0 n.widths.length), (11, .fz 6 (n.cells.map Cell.row)), (12, vi ((n.cells.length : Nat) : Int)), (13, vi (n13_3 : Int))], [(103, .rows 1 (out3_j7.map irow))]⟩) (fun (out3_j7 : List Int) => (out3_j7.length = n.widths.length) ∧ (DrvTo n (n13_3 + 1) out3_j7)) ?_ (fun out3_j7 hJx7 => ?_)
 refine AWp.block (AWp.sr ?_)
 refine .mv ?_
 refine .vl (Y.indexF (m := n13_3) sl23 rfl rfl (by first | rfl | omega) (row_getD (d := default) (by omega))) ?_
 refine .vl (Y.loadA sh39 rfl rfl (Nat.le_of_ble_eq_true rfl) rfl rfl) (AOps.alloc 105 ze39 rfl rfl (by decide) ?_)
 refine .an ?_
 refine AOps.storeC si39 rfl rfl rfl rfl rfl rfl (Nat.le_of_ble_eq_true rfl) rfl (AOps.nil (AWp.sr ?_))
 refine .fa fl39_2 ?_
 refine .ld sh3 ?_
 refine .vl (Y.geq rfl rfl) (AOps.nil ?_)
 refine AWp.condD rfl (fun c20 => ?_) (fun c20 => ?_)
 have ho6 : In (n.cells.getD n13_3 default).out n.widths.length := (hf.cells n13_3 (by omega)).2.2.2 (fun e => by have := (hf.cells n13_3 (by omega)).2.2.1 e; omega)
 unfold In at ho6
 refine AWp.region ?_
 refine .mv ?_
 refine .fa fl39_2 ?_
 refine .ld sh3 ?_
 refine .mv ?_
 refine .vl (Y.indexO (m := ((n.cells.getD n13_3 default).out).toNat) sl22 rfl rfl (by omega) (by omega)) ?_
 refine AOps.storeE ((out3_3.set (((n.cells.getD n13_3 default).out).toNat) (n13_3 : Int)).map irow) si3 rfl rfl rfl rfl rfl rfl rfl (row_getD0 (d := 0) (by omega)) (Nat.le_of_ble_eq_true rfl) (set_map0 rfl) ?_
 refine AOps.nil ?_
 exact ⟨out3_3.set (((n.cells.getD n13_3 default).out).toNat) (n13_3 : Int), ⟨by first | omega | (simp [-List.getD_eq_getElem?_getD]; done) | (simp [-List.getD_eq_getElem?_getD]; omega), by first | exact hD.set hf (by omega) (by assumption) | exact hD.skip hf (by assumption)⟩, Le.mk (.c (.c (.c (.c (.nil))))) (.c (.nil))⟩
 refine AWp.skip ?_
 exact ⟨out3_3, ⟨by omega, by first | exact hD.set hf (by omega) (by assumption) | exact hD.skip hf (by assumption)⟩, Le.mk (.c (.c (.c (.c (.nil))))) (.c (.nil))⟩
 obtain ⟨hlj7_103, hJ7⟩ := hJx7
 refine AWp.region ?_
 refine .vl (Y.addI rfl rfl (by omega)) ?_
 refine .mv ?_
 refine AOps.nil ?_
 exact ⟨n13_3 + 1, out3_j7, ⟨by omega, by omega, hJ7⟩, by omega, Le.mk (.c (.c (.c (.cons (look_int rfl (by first | rfl | omega)) (.nil))))) (.c (.nil))⟩
 refine AWp.exit (AWp.sr ?_)
 refine .mv ?_
 refine .an ?_
 refine AOps.sh (Sh.detach (d := 2) (o := 103) rfl rfl (len_map (by omega)) (by decide)) ?_
 refine AOps.nil (AWp.ret ?_)
 exact ⟨_, _, rfl, rfl, out3_3, DrvTo.done hf (by rw [show n.cells.length = n13_3 by omega]; exact hD), rfl, rfl⟩
theorem mark_spec {n : Netlist} {by_ ws : List Int} (hM : MadeP n) (hb : DrvBy n by_) (hw : ∀ w ∈ ws, In w n.widths.length) (hwl : ws.length ≤ 1000) : ACalls Try.prog 69 [.agg (Netlist.row n), .fz 1 (by_.map irow), .slc 0 1 0 n.cells.length, .fz 1 (ws.map irow)] [.rows 1 ((List.replicate n.cells.length false).map brow)] [0] (fun r o => ∃ s : List Bool, ConeL n ws s ∧ r = .tup [] ∧ o = [.rows 1 (s.map brow)]) := by
 refine ACalls.of Try.func69 rfl rfl rfl (n := 51) (by decide) (Nat.le_of_ble_eq_true rfl) ?_
 have hs := hM.small; have hf := hM.formed; have hFt := hM.fit; have hAc := hM.acyclic; have hnc := hM.ncells; have hnw := hM.nwidths; have hni := hM.nins; have hna := hM.nargs; have hbl := hb.len
 refine AWp.sr (AOps.box 104 rfl rfl rfl rfl rfl (by decide) (AOps.nil ?_))
 refine AWp.sr ?_
 refine .mv ?_
 refine AOps.callP ok68 (cloneInt_spec (l := ws) ((by omega))) rfl (.keep rfl rfl .nil) (by decide) rfl ?_
 refine AOps.assignX rfl (by decide) (AOps.sh (Sh.adoptE (d := 8) (n := ws.length) 108 (ws.map irow) rfl (by first | rfl | exact rep_map rfl) (len_map rfl) (by decide)) (AOps.nil ?_))
 refine AWp.block ?_
 refine AWp.loop2 (fun (ob0_2 : List Bool) (work8_2 : List Int) => ⟨[(1, .fz 1 (by_.map irow)), (2, .slc 0 1 0 n.cells.length), (4, .ptr 104 0 0 0), (8, .slc 108 1 0 work8_2.length)], [(0, .rows 1 (ob0_2.map brow)), (104, .cells (Netlist.row n)), (108, .rows 1 (work8_2.map irow))]⟩) (fun (ob0_2 : List Bool) (work8_2 : List Int) => (ob0_2.length = n.cells.length) ∧ (Srch n by_ ws work8_2 ob0_2)) (fun (ob0_2 : List Bool) (work8_2 : List Int) => work8_2.length + 5 * unseen ob0_2) (List.replicate n.cells.length false) ws (⟨by first | omega | (simp [-List.getD_eq_getElem?_getD]; done) | (simp [-List.getD_eq_getElem?_getD]; omega), Srch.init hw⟩) (Le.mk (.c (.c (.c (.cons (look_slc rfl (by first | omega | simp [-List.getD_eq_getElem?_getD] <;> omega)) (.nil))))) (.c (.c (.c (.nil))))) (fun ob0_2 work8_2 hI2 => ?_)
 obtain ⟨hl0, hS⟩ := hI2
 refine AWp.seq (AWp.sr ?_)
 refine .mv ?_
 refine .vl (Y.len (n := work8_2.length) sl22 rfl rfl) (.vl (Y.gtr rfl rfl) (AOps.nil ?_))
 refine AWp.condD rfl (fun c14 => ?_) (fun c14 => ?_)
 refine AWp.skip (AWp.block (AWp.seq ?_))
 have hlast := hS.last hb (by omega)
 have hsz := hS.sz
 refine AWp.region ?_
 refine .mv ?_
 refine .mv ?_
 refine .mv ?_
 refine .vl (Y.len (n := work8_2.length) sl22 rfl rfl) (.vl (Y.sub rfl rfl (natsub (a := work8_2.length) (b := 1) (by omega))) ?_)
 refine .vl (Y.indexO (m := work8_2.length - 1) sl22 rfl rfl (by first | rfl | omega) (by omega)) ?_
 refine .vl (Y.load sh3 rfl (row_getD0 (d := 0) (by omega)) rfl rfl) ?_
 refine .vl (Y.indexF (m := (work8_2.getD (work8_2.length - 1) 0).toNat) sl22 rfl rfl (by omega) (row_getD (d := 0) (by omega))) ?_
 refine .ld sh3 ?_
 refine .an ?_
 refine AOps.nil (AWp.sr ?_)
 refine .mv ?_
 refine .mv ?_
 refine .vl (Y.len (n := work8_2.length) sl22 rfl rfl) (.vl (Y.sub rfl rfl (natsub (a := work8_2.length) (b := 1) (by omega))) ?_)
 refine .vl (Y.sliceO (l := 0) (h := work8_2.length - 1) sl22 rfl (.none _) (.some rfl) (by omega) (by omega)) ?_
 refine AOps.sh (Sh.trimE (d := 28) (o := 108) ((work8_2.take (work8_2.length - 1)).map irow) rfl rfl (take_le (by omega)) take_he (by decide)) ?_
 refine .an ?_
 refine AOps.nil (AWp.seq (AWp.sr ?_))
 refine .mv ?_
 refine .mv ?_
 refine .vl (Y.indexO (m := (by_.getD ((work8_2.getD (work8_2.length - 1) 0).toNat) 0).toNat) sl63 rfl rfl (by omega) (by omega)) ?_
 refine .vl (Y.load sh4 rfl (row_getD0 (d := false) (by omega)) rfl rfl) ?_
 refine AOps.nil ?_
 refine AWp.cond rfl (fun c32 => ?_) (fun c32 => ?_)
 refine AWp.exit ?_
 exact ⟨ob0_2, work8_2.take (work8_2.length - 1), ⟨by first | omega | (simp [-List.getD_eq_getElem?_getD]; done) | (simp [-List.getD_eq_getElem?_getD]; omega), by first | exact hS.skip (by omega) (by assumption) | exact (hS.mark hb hna hf (by omega) (by assumption) (.inl ⟨by assumption, rfl⟩)).1 | exact (hS.mark0 hb hna hf (by omega) (by assumption) (by assumption)).1⟩, by first | (have h1 := (hS.mark hb hna hf (by omega) (by assumption) (.inl ⟨by assumption, rfl⟩)).2; simp only [List.length_append, List.length_take]; omega) | (have h1 := (hS.mark0 hb hna hf (by omega) (by assumption) (by assumption)).2; simp only [List.length_take]; omega) | (simp only [List.length_take]; omega), Le.mk (.c (.c (.c (.cons (look_slc rfl (by first | omega | simp [-List.getD_eq_getElem?_getD] <;> omega)) (.nil))))) (.c (.c (.c (.nil))))⟩
 refine AWp.skip (AWp.sr ?_)
 refine .mv ?_
 refine .mv ?_
 refine .vl (Y.indexO (m := (by_.getD ((work8_2.getD (work8_2.length - 1) 0).toNat) 0).toNat) sl63 rfl rfl (by omega) (by omega)) ?_
 refine AOps.storeE ((ob0_2.set ((by_.getD ((work8_2.getD (work8_2.length - 1) 0).toNat) 0).toNat) true).map brow) si4 rfl rfl rfl rfl rfl rfl rfl (row_getD0 (d := false) (by omega)) (Nat.le_of_ble_eq_true rfl) (set_map0 rfl) ?_
 refine AOps.nil (AWp.sr ?_)
 refine .fa fl27_2 ?_
 refine .ld sh23 ?_
 refine .mv ?_
 refine .vl (Y.indexF (m := (by_.getD ((work8_2.getD (work8_2.length - 1) 0).toNat) 0).toNat) sl23 rfl rfl (by omega) (row_getD (d := default) (by omega))) ?_
 refine .fa fl39_0 ?_
 refine .ld sh3 ?_
 refine AOps.callP ok21 (comb_spec (w := ((n.cells.getD ((by_.getD ((work8_2.getD (work8_2.length - 1) 0).toNat) 0).toNat) default).kind))) rfl (.keep rfl rfl .nil) (by decide) rfl (AOps.nil ?_)
 refine AWp.condD rfl (fun c42 => ?_) (fun c42 => ?_)
 have hn4 := hna (n.cells.getD (by_.getD (work8_2.getD (work8_2.length - 1) 0).toNat 0).toNat default) (getD_in (by omega))
 have htl := take_len (l := work8_2) (k := work8_2.length - 1) (by omega)
 refine AWp.region ?_
 refine .mv ?_
 refine .fa fl27_2 ?_
 refine .ld sh23 ?_
 refine .mv ?_
 refine .vl (Y.indexF (m := (by_.getD ((work8_2.getD (work8_2.length - 1) 0).toNat) 0).toNat) sl23 rfl rfl (by omega) (row_getD (d := default) (by omega))) ?_
 refine .fa fl39_3 ?_
 refine .ld sh22 ?_
 refine AOps.appendFE (((work8_2.take (work8_2.length - 1)) ++ ((n.cells.getD ((by_.getD ((work8_2.getD (work8_2.length - 1) 0).toNat) 0).toNat) default).args)).map irow) ((work8_2.take (work8_2.length - 1)) ++ ((n.cells.getD ((by_.getD ((work8_2.getD (work8_2.length - 1) 0).toNat) 0).toNat) default).args)).length sl22 ze3 rfl rfl rfl rfl (app_le (by first | omega | simp [-List.getD_eq_getElem?_getD] <;> omega)) (app_map (by first | omega | simp [-List.getD_eq_getElem?_getD] <;> omega)) (app_n (by first | omega | simp [-List.getD_eq_getElem?_getD] <;> omega)) (by first | omega | simp [-List.getD_eq_getElem?_getD] <;> omega) (by first | omega | simp [-List.getD_eq_getElem?_getD] <;> omega) (by decide) (by decide) ?_
 refine .an ?_
 refine AOps.nil ?_
 exact ⟨ob0_2.set ((by_.getD ((work8_2.getD (work8_2.length - 1) 0).toNat) 0).toNat) true, (work8_2.take (work8_2.length - 1)) ++ ((n.cells.getD ((by_.getD ((work8_2.getD (work8_2.length - 1) 0).toNat) 0).toNat) default).args), ⟨by first | omega | (simp [-List.getD_eq_getElem?_getD]; done) | (simp [-List.getD_eq_getElem?_getD]; omega), by first | exact hS.skip (by omega) (by assumption) | exact (hS.mark hb hna hf (by omega) (by assumption) (.inl ⟨by assumption, rfl⟩)).1 | exact (hS.mark0 hb hna hf (by omega) (by assumption) (by assumption)).1⟩, by first | (have h1 := (hS.mark hb hna hf (by omega) (by assumption) (.inl ⟨by assumption, rfl⟩)).2; simp only [List.length_append, List.length_take]; omega) | (have h1 := (hS.mark0 hb hna hf (by omega) (by assumption) (by assumption)).2; simp only [List.length_take]; omega) | (simp only [List.length_take]; omega), Le.mk (.c (.c (.c (.cons (look_slc rfl (by first | omega | simp [-List.getD_eq_getElem?_getD] <;> omega)) (.nil))))) (.c (.c (.c (.nil))))⟩
 refine AWp.skip ?_
 exact ⟨ob0_2.set ((by_.getD ((work8_2.getD (work8_2.length - 1) 0).toNat) 0).toNat) true, work8_2.take (work8_2.length - 1), ⟨by first | omega | (simp [-List.getD_eq_getElem?_getD]; done) | (simp [-List.getD_eq_getElem?_getD]; omega), by first | exact hS.skip (by omega) (by assumption) | exact (hS.mark hb hna hf (by omega) (by assumption) (.inl ⟨by assumption, rfl⟩)).1 | exact (hS.mark0 hb hna hf (by omega) (by assumption) (by assumption)).1⟩, by first | (have h1 := (hS.mark hb hna hf (by omega) (by assumption) (.inl ⟨by assumption, rfl⟩)).2; simp only [List.length_append, List.length_take]; omega) | (have h1 := (hS.mark0 hb hna hf (by omega) (by assumption) (by assumption)).2; simp only [List.length_take]; omega) | (simp only [List.length_take]; omega), Le.mk (.c (.c (.c (.cons (look_slc rfl (by first | omega | simp [-List.getD_eq_getElem?_getD] <;> omega)) (.nil))))) (.c (.c (.c (.nil))))⟩
 refine AWp.exit ?_
 exact ⟨_, _, rfl, rfl, ob0_2, hS.done hb hf (by omega) hw, rfl, rfl⟩
end Go.Proofs.Ytligpghohcfpnaa
