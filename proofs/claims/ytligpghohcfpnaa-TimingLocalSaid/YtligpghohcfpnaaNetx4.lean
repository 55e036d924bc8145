/- The walk of Made. -/
import Derived.Test.YtligpghohcfpnaaNetx0
import Derived.Test.YtligpghohcfpnaaNetx3
import Derived.Test.YtligpghohcfpnaaAWx2
import Derived.Test.YtligpghohcfpnaaNetx1
import Derived.Test.YtligpghohcfpnaaAWx3
set_option linter.unusedSimpArgs false
set_option linter.unusedVariables false
set_option linter.unusedSectionVars false
set_option maxRecDepth 4000
set_option maxHeartbeats 8000000
namespace Go.Proofs.Ytligpghohcfpnaa
open Go Go.AW Go.Proofs
theorem made_spec {p : Pln} (hf : p.Few) (hk : p.Ok) : ACalls Try.prog 19 [.agg (Pln.row p)] [] [] (fun r o => ∃ n, MadeP n ∧ r = .agg (Netlist.orow n) ∧ o = []) := by
 refine ACalls.ofS Try.func19 rfl rfl rfl (n := 252) (by decide) (nbE rfl) ?_
 have hf1 := hf.mems; have hf2 := hf.streams; have hf3 := hf.ins; have hf4 := hf.parts; have hf5 := hf.rets; have hpp := hk.parts
 refine .sr (.box 101 rfl rfl rfl rfl rfl (by decide) (.alloc 102 ze27 rfl rfl (by decide) ?_))
 refine .nil (.sr (.vl (Y.build pl27 ze27 rfl rfl rfl) ?_))
 refine .alloc 103 ze27 rfl rfl (by decide) (.storeC si27 rfl rfl rfl rfl rfl rfl (nbE rfl) rfl (.nil ?_))
 refine .seq (.seq (.sh (Sh.freezeO 101 rfl rfl) ?_))
 refine .sh (Sh.nilCell 103 401 1 1 rfl rfl rfl rfl (by decide)) (.sh (Sh.nilCell 103 402 6 2 rfl rfl rfl rfl (by decide)) (.sh (Sh.nilCell 103 403 1 3 rfl rfl rfl rfl (by decide)) ?_))
 refine .sh (Sh.nilCell 103 404 5 4 rfl rfl rfl rfl (by decide)) (.sh (Sh.nilCell 103 405 3 5 rfl rfl rfl rfl (by decide)) (.region ?_))
 refine .an ?_
 refine .nil (.block ?_)
 refine .loop3 (fun (i4_3 : Nat) (n301_3 : List Int) (n302_3 : List Cell) => ⟨[(1, .fp (Pln.row p) 0), (2, .ptr 102 0 0 0), (3, .ptr 103 0 0 0), (4, vi (i4_3 : Int))], [(102, .cells [.v (.string ByteArray.empty), .v (.slice none 0 0), .v (.slice none 0 0), .v (.slice none 0 0), .v (.slice none 0 0), .v (.slice none 0 0), .v (.slice none 0 0), .v (.slice none 0 0), vi 0, vi 0, .v (.slice none 0 0)]), (103, .cells [.v (.string nB), .slc 401 1 0 n301_3.length, .slc 402 6 0 n302_3.length, .slc 403 1 0 0, .slc 404 5 0 0, .slc 405 3 0 0, .v (.slice none 0 0), .v (.slice none 0 0), vi 0, vi 0, .v (.slice none 0 0)]), (401, .rows 1 (n301_3.map irow)), (402, .rows 6 (n302_3.map Cell.row)), (403, .rows 1 (([] : List Int).map irow)), (404, .rows 5 (([] : List Arr).map Arr.row)), (405, .rows 3 (([] : List Strm).map Strm.row))]⟩) (fun (i4_3 : Nat) (n301_3 : List Int) (n302_3 : List Cell) => ((i4_3 : Int) ≤ 8) ∧ (n301_3 = w0L i4_3) ∧ (n302_3 = c0L i4_3) ∧ (n301_3.length = i4_3) ∧ (n302_3.length = i4_3)) (fun (i4_3 : Nat) (n301_3 : List Int) (n302_3 : List Cell) => (8 - (i4_3 : Int)).toNat) 0 ([] : List Int) ([] : List Cell) (⟨by omega, rfl, rfl, rfl, rfl⟩) (Le.mk (.c (.c (.c (.cons (look_int rfl (by first | rfl | omega)) (.nil))))) (.c (.cons (look_cells rfl (by first | rfl | (simp only [List.cons.injEq, X.v.injEq, X.slc.injEq, Value.int.injEq, and_true, true_and]; omega) | simp_all)) (.c (.c (.c (.c (.c (.nil))))))))) (fun i4_3 n301_3 n302_3 hI3 => ?_)
 obtain ⟨hb3, hw0, hc0, hwl0, hcl0⟩ := hI3
 refine .seq (.sr ?_)
 refine .mv ?_
 refine .vl (Y.lss rfl rfl) (.nil ?_)
 refine .condD rfl (fun c16 => ?_) (fun c16 => ?_)
 refine .skip (.seq (.block ?_))
 refine .seq ?_
 refine .regionHeldJ0 (⟨[(1, .fp (Pln.row p) 0), (2, .ptr 102 0 0 0), (3, .ptr 103 0 0 0), (4, .v (.int .i64 (i4_3 : Int)))], [(102, .cells [.v (.string ByteArray.empty), .v (.slice none 0 0), .v (.slice none 0 0), .v (.slice none 0 0), .v (.slice none 0 0), .v (.slice none 0 0), .v (.slice none 0 0), .v (.slice none 0 0), .v (.int .i64 0), .v (.int .i64 0), .v (.slice none 0 0)]), (103, .cells [.v (.string nB), .slc 401 1 0 ((n301_3 ++ ([widthN i4_3] : List Int)).length), .slc 402 6 0 n302_3.length, .slc 403 1 0 0, .slc 404 5 0 0, .slc 405 3 0 0, .v (.slice none 0 0), .v (.slice none 0 0), .v (.int .i64 0), .v (.int .i64 0), .v (.slice none 0 0)]), (401, .rows 1 ((n301_3 ++ ([widthN i4_3] : List Int)).map irow)), (402, .rows 6 (n302_3.map Cell.row)), (403, .rows 1 (([] : List Int).map irow)), (404, .rows 5 (([] : List Arr).map Arr.row)), (405, .rows 3 (([] : List Strm).map Strm.row))]⟩) rfl ?_ ?_
 refine .blind 0 rfl (by kernel_rfl) (Blind.fieldAddr fl27_1 rfl rfl) (by decide) (.blind 2 rfl (by kernel_rfl) (Blind.move rfl rfl) (by decide) ?_)
 refine .blind 3 rfl (by kernel_rfl) (Blind.convK ii3 ii5 rfl (by first | rfl | exact IntWalk.u8_in _ (by omega))) (by decide) ?_
 refine .go0 ?_
 refine .two 1 4 rfl rfl (by kernel_rfl) ?_ ?_
 refine .ld sh22 ?_
 refine .nil ⟨rfl, ?_⟩
 refine .one 4 rfl (by kernel_rfl) (.callP ok53 (width_spec (k := i4_3)) rfl (.keep rfl rfl .nil) (by decide) rfl ?_)
 refine .nil ⟨rfl, ?_⟩
 refine .one 5 rfl (by kernel_rfl) ?_
 refine .buildSlice (([widthN i4_3] : List Int).map irow) sl22 ze3 rfl rfl rfl rfl rfl (uniform_map (s := 1) (f := irow) (fun _ => rfl)) rfl rfl rfl (by decide) ?_
 refine .nil ⟨rfl, ?_⟩
 refine .one 6 rfl (by kernel_rfl) ?_
 refine .appendE ((n301_3 ++ ([widthN i4_3] : List Int)).map irow) (n301_3 ++ ([widthN i4_3] : List Int)).length sl22 ze3 rfl rfl rfl rfl (app_le (by first | omega | (simp only [lateN_len]; omega) | (simp [-List.getD_eq_getElem?_getD]; done) | (simp [-List.getD_eq_getElem?_getD]; omega))) (app_map (by first | omega | (simp only [lateN_len]; omega) | (simp [-List.getD_eq_getElem?_getD]; done) | (simp [-List.getD_eq_getElem?_getD]; omega))) (app_n (by first | omega | (simp only [lateN_len]; omega) | (simp [-List.getD_eq_getElem?_getD]; done) | (simp [-List.getD_eq_getElem?_getD]; omega))) (by first | omega | (simp only [lateN_len]; omega) | (simp [-List.getD_eq_getElem?_getD]; done) | (simp [-List.getD_eq_getElem?_getD]; omega)) (by first | omega | (simp only [lateN_len]; omega) | (simp [-List.getD_eq_getElem?_getD]; done) | (simp [-List.getD_eq_getElem?_getD]; omega)) (by decide) (by decide) ?_
 refine .nil ⟨rfl, ?_⟩
 refine .one 7 rfl (by kernel_rfl) ?_
 refine .fa fl27_1 ?_
 refine .nil ⟨rfl, ?_⟩
 refine .one 8 rfl (by kernel_rfl) (.storeC si22 rfl rfl rfl rfl rfl rfl (nbE rfl) rfl ?_)
 refine .nil ⟨rfl, ?_⟩
 refine .done (by kernel_rfl) ?_
 exact Le.mk (.c (.c (.c (.c (.nil))))) (.c (.c (.c (.c (.c (.c (.c (.nil))))))))
 refine .callP ok53 (width_spec (k := i4_3)) rfl (.keep rfl rfl .nil) (by decide) rfl ?_
 refine .nil ⟨rfl, ?_⟩
 refine .two 1 5 rfl rfl (by kernel_rfl) ?_ ?_
 refine .ld sh22 ?_
 refine .nil ⟨rfl, ?_⟩
 refine .one 5 rfl (by kernel_rfl) ?_
 refine .buildSlice (([widthN i4_3] : List Int).map irow) sl22 ze3 rfl rfl rfl rfl rfl (uniform_map (s := 1) (f := irow) (fun _ => rfl)) rfl rfl rfl (by decide) ?_
 refine .nil ⟨rfl, ?_⟩
 refine .one 6 rfl (by kernel_rfl) ?_
 refine .appendE ((n301_3 ++ ([widthN i4_3] : List Int)).map irow) (n301_3 ++ ([widthN i4_3] : List Int)).length sl22 ze3 rfl rfl rfl rfl (app_le (by first | omega | (simp only [lateN_len]; omega) | (simp [-List.getD_eq_getElem?_getD]; done) | (simp [-List.getD_eq_getElem?_getD]; omega))) (app_map (by first | omega | (simp only [lateN_len]; omega) | (simp [-List.getD_eq_getElem?_getD]; done) | (simp [-List.getD_eq_getElem?_getD]; omega))) (app_n (by first | omega | (simp only [lateN_len]; omega) | (simp [-List.getD_eq_getElem?_getD]; done) | (simp [-List.getD_eq_getElem?_getD]; omega))) (by first | omega | (simp only [lateN_len]; omega) | (simp [-List.getD_eq_getElem?_getD]; done) | (simp [-List.getD_eq_getElem?_getD]; omega)) (by first | omega | (simp only [lateN_len]; omega) | (simp [-List.getD_eq_getElem?_getD]; done) | (simp [-List.getD_eq_getElem?_getD]; omega)) (by decide) (by decide) ?_
 refine .nil ⟨rfl, ?_⟩
 refine .one 7 rfl (by kernel_rfl) ?_
 refine .fa fl27_1 ?_
 refine .nil ⟨rfl, ?_⟩
 refine .one 8 rfl (by kernel_rfl) (.storeC si22 rfl rfl rfl rfl rfl rfl (nbE rfl) rfl ?_)
 refine .nil ⟨rfl, ?_⟩
 refine .done (by kernel_rfl) ?_
 exact Le.mk (.c (.c (.c (.c (.nil))))) (.c (.c (.c (.c (.c (.c (.c (.nil))))))))
 refine .buildSlice (([widthN i4_3] : List Int).map irow) sl22 ze3 rfl rfl rfl rfl rfl (uniform_map (s := 1) (f := irow) (fun _ => rfl)) rfl rfl rfl (by decide) ?_
 refine .nil ⟨rfl, ?_⟩
 refine .one 1 rfl (by kernel_rfl) ?_
 refine .ld sh22 ?_
 refine .nil ⟨rfl, ?_⟩
 refine .one 6 rfl (by kernel_rfl) ?_
 refine .appendE ((n301_3 ++ ([widthN i4_3] : List Int)).map irow) (n301_3 ++ ([widthN i4_3] : List Int)).length sl22 ze3 rfl rfl rfl rfl (app_le (by first | omega | (simp only [lateN_len]; omega) | (simp [-List.getD_eq_getElem?_getD]; done) | (simp [-List.getD_eq_getElem?_getD]; omega))) (app_map (by first | omega | (simp only [lateN_len]; omega) | (simp [-List.getD_eq_getElem?_getD]; done) | (simp [-List.getD_eq_getElem?_getD]; omega))) (app_n (by first | omega | (simp only [lateN_len]; omega) | (simp [-List.getD_eq_getElem?_getD]; done) | (simp [-List.getD_eq_getElem?_getD]; omega))) (by first | omega | (simp only [lateN_len]; omega) | (simp [-List.getD_eq_getElem?_getD]; done) | (simp [-List.getD_eq_getElem?_getD]; omega)) (by first | omega | (simp only [lateN_len]; omega) | (simp [-List.getD_eq_getElem?_getD]; done) | (simp [-List.getD_eq_getElem?_getD]; omega)) (by decide) (by decide) ?_
 refine .nil ⟨rfl, ?_⟩
 refine .one 7 rfl (by kernel_rfl) ?_
 refine .fa fl27_1 ?_
 refine .nil ⟨rfl, ?_⟩
 refine .one 8 rfl (by kernel_rfl) (.storeC si22 rfl rfl rfl rfl rfl rfl (nbE rfl) rfl ?_)
 refine .nil ⟨rfl, ?_⟩
 refine .done (by kernel_rfl) ?_
 exact Le.mk (.c (.c (.c (.c (.nil))))) (.c (.c (.c (.c (.c (.c (.c (.nil))))))))
 refine .le (st' := ⟨[(1, .fp (Pln.row p) 0), (2, .ptr 102 0 0 0), (3, .ptr 103 0 0 0), (4, vi (i4_3 : Int))], [(102, .cells [.v (.string ByteArray.empty), .v (.slice none 0 0), .v (.slice none 0 0), .v (.slice none 0 0), .v (.slice none 0 0), .v (.slice none 0 0), .v (.slice none 0 0), .v (.slice none 0 0), vi 0, vi 0, .v (.slice none 0 0)]), (103, .cells [.v (.string nB), .slc 401 1 0 ((n301_3 ++ ([widthN i4_3] : List Int)).length), .slc 402 6 0 n302_3.length, .slc 403 1 0 0, .slc 404 5 0 0, .slc 405 3 0 0, .v (.slice none 0 0), .v (.slice none 0 0), vi 0, vi 0, .v (.slice none 0 0)]), (401, .rows 1 ((n301_3 ++ ([widthN i4_3] : List Int)).map irow)), (402, .rows 6 (n302_3.map Cell.row)), (403, .rows 1 (([] : List Int).map irow)), (404, .rows 5 (([] : List Arr).map Arr.row)), (405, .rows 3 (([] : List Strm).map Strm.row))]⟩) (Le.mk (.c (.c (.c (.c (.nil))))) (.c (.c (.c (.c (.c (.c (.c (.nil))))))))) ?_
 refine .region ?_
 refine .fa fl27_2 ?_
 refine .ld sh23 ?_
 refine .mv ?_
 refine .mv ?_
 refine .vl (Y.remI rfl rfl (by omega)) ?_
 refine .vl (Y.convK ii3 ii37 rfl (by first | rfl | exact IntWalk.u64_in _ (by omega))) ?_
 refine .vl (Y.build pl39 ze39 rfl rfl rfl) (.sh (Sh.fzA (d := 33) 1 3 rfl rfl) ?_)
 refine .buildSlice (([(⟨1, 0, (i4_3 : Int), ([] : List Int), i4_3 % 2, 0⟩ : Cell)] : List Cell).map Cell.row) sl23 ze39 rfl rfl rfl rfl rfl (uniform_map (s := 6) (f := Cell.row) (fun _ => rfl)) rfl rfl rfl (by decide) ?_
 refine .appendE ((n302_3 ++ ([(⟨1, 0, (i4_3 : Int), ([] : List Int), i4_3 % 2, 0⟩ : Cell)] : List Cell)).map Cell.row) (n302_3 ++ ([(⟨1, 0, (i4_3 : Int), ([] : List Int), i4_3 % 2, 0⟩ : Cell)] : List Cell)).length sl23 ze39 rfl rfl rfl rfl (app_le (by first | omega | (simp only [lateN_len]; omega) | (simp [-List.getD_eq_getElem?_getD]; done) | (simp [-List.getD_eq_getElem?_getD]; omega))) (app_map (by first | omega | (simp only [lateN_len]; omega) | (simp [-List.getD_eq_getElem?_getD]; done) | (simp [-List.getD_eq_getElem?_getD]; omega))) (app_n (by first | omega | (simp only [lateN_len]; omega) | (simp [-List.getD_eq_getElem?_getD]; done) | (simp [-List.getD_eq_getElem?_getD]; omega))) (by first | omega | (simp only [lateN_len]; omega) | (simp [-List.getD_eq_getElem?_getD]; done) | (simp [-List.getD_eq_getElem?_getD]; omega)) (by first | omega | (simp only [lateN_len]; omega) | (simp [-List.getD_eq_getElem?_getD]; done) | (simp [-List.getD_eq_getElem?_getD]; omega)) (by decide) (by decide) ?_
 refine .fa fl27_2 ?_
 refine .storeC si23 rfl rfl rfl rfl rfl rfl (nbE rfl) rfl (.nil (.region ?_))
 refine .mv ?_
 refine .vl (Y.addI rfl rfl (by omega)) ?_
 refine .an ?_
 refine .nil ?_
 exact ⟨i4_3 + 1, n301_3 ++ ([widthN i4_3] : List Int), n302_3 ++ ([(⟨1, 0, (i4_3 : Int), ([] : List Int), i4_3 % 2, 0⟩ : Cell)] : List Cell), ⟨by omega, by rw [hw0]; exact (w0L_succ _).symm, by rw [hc0]; exact (c0L_succ _).symm, by rw [List.length_append, hwl0]; rfl, by rw [List.length_append, hcl0]; rfl⟩, by omega, Le.mk (.c (.c (.c (.cons (look_int rfl (by first | rfl | omega)) (.nil))))) (.c (.cons (look_cells rfl (by first | rfl | (simp only [List.cons.injEq, X.v.injEq, X.slc.injEq, Value.int.injEq, and_true, true_and]; omega) | simp_all)) (.c (.c (.c (.c (.c (.nil))))))))⟩
 refine .exit (.seq (.sr ?_))
 refine .an ?_
 refine .nil (.block ?_)
 refine .loop2 (fun (i5_8 : Nat) (n304_8 : List Arr) => ⟨[(1, .fp (Pln.row p) 0), (2, .ptr 102 0 0 0), (3, .ptr 103 0 0 0), (5, vi (i5_8 : Int))], [(102, .cells [.v (.string ByteArray.empty), .v (.slice none 0 0), .v (.slice none 0 0), .v (.slice none 0 0), .v (.slice none 0 0), .v (.slice none 0 0), .v (.slice none 0 0), .v (.slice none 0 0), vi 0, vi 0, .v (.slice none 0 0)]), (103, .cells [.v (.string nB), .slc 401 1 0 n301_3.length, .slc 402 6 0 n302_3.length, .slc 403 1 0 0, .slc 404 5 0 n304_8.length, .slc 405 3 0 0, .v (.slice none 0 0), .v (.slice none 0 0), vi 0, vi 0, .v (.slice none 0 0)]), (401, .rows 1 (n301_3.map irow)), (402, .rows 6 (n302_3.map Cell.row)), (403, .rows 1 (([] : List Int).map irow)), (404, .rows 5 (n304_8.map Arr.row)), (405, .rows 3 (([] : List Strm).map Strm.row))]⟩) (fun (i5_8 : Nat) (n304_8 : List Arr) => ((i5_8 : Int) ≤ ((p.mems.length : Nat) : Int)) ∧ (∀ m ∈ n304_8, MemOK m ∧ ∃ k, m.width = widthN k) ∧ (n304_8.length = i5_8)) (fun (i5_8 : Nat) (n304_8 : List Arr) => (((p.mems.length : Nat) : Int) - (i5_8 : Int)).toNat) 0 ([] : List Arr) (⟨by omega, fun m h => (by cases h), rfl⟩) (Le.mk (.c (.c (.c (.cons (look_int rfl (by first | rfl | omega)) (.nil))))) (.c (.cons (look_cells rfl (by first | rfl | (simp only [List.cons.injEq, X.v.injEq, X.slc.injEq, Value.int.injEq, and_true, true_and]; omega) | simp_all)) (.c (.c (.c (.c (.c (.nil))))))))) (fun i5_8 n304_8 hI8 => ?_)
 obtain ⟨hb8, hm, hml⟩ := hI8
 refine .seq (.sr ?_)
 refine .mv ?_
 refine .fa fl36_0 ?_
 refine .ld sh32 ?_
 refine .vl (Y.len (n := p.mems.length) sl32 rfl (congrArg some (List.length_map ..))) (.vl (Y.lss rfl rfl) (.nil ?_))
 refine .condD rfl (fun c41 => ?_) (fun c41 => ?_)
 refine .skip (.seq (.block ?_))
 have hk1 := hk.mems (p.mems.getD i5_8 default) (getD_in (by omega))
 refine .regionHeldJ0 (⟨[(1, .fp (Pln.row p) 0), (2, .ptr 102 0 0 0), (3, .ptr 103 0 0 0), (5, .v (.int .i64 (i5_8 : Int)))], [(102, .cells [.v (.string ByteArray.empty), .v (.slice none 0 0), .v (.slice none 0 0), .v (.slice none 0 0), .v (.slice none 0 0), .v (.slice none 0 0), .v (.slice none 0 0), .v (.slice none 0 0), .v (.int .i64 0), .v (.int .i64 0), .v (.slice none 0 0)]), (103, .cells [.v (.string nB), .slc 401 1 0 n301_3.length, .slc 402 6 0 n302_3.length, .slc 403 1 0 0, .slc 404 5 0 ((n304_8 ++ ([(⟨mB, widthN ((p.mems.getD i5_8 default).a), 1 + ((((p.mems.getD i5_8 default).b : Nat) : Int) % 9), 0, 0⟩ : Arr)] : List Arr)).length), .slc 405 3 0 0, .v (.slice none 0 0), .v (.slice none 0 0), .v (.int .i64 0), .v (.int .i64 0), .v (.slice none 0 0)]), (401, .rows 1 (n301_3.map irow)), (402, .rows 6 (n302_3.map Cell.row)), (403, .rows 1 (([] : List Int).map irow)), (404, .rows 5 ((n304_8 ++ ([(⟨mB, widthN ((p.mems.getD i5_8 default).a), 1 + ((((p.mems.getD i5_8 default).b : Nat) : Int) % 9), 0, 0⟩ : Arr)] : List Arr)).map Arr.row)), (405, .rows 3 (([] : List Strm).map Strm.row))]⟩) rfl ?_ ?_
 refine .blind 0 rfl (by kernel_rfl) (Blind.fieldAddr fl27_4 rfl rfl) (by decide) (.blind 2 rfl (by kernel_rfl) (Blind.fieldAddr fl36_0 rfl rfl) (by decide) (.load 3 rfl (by kernel_rfl) sh32 rfl rfl rfl rfl rfl (by decide) ?_))
 refine .blind 4 rfl (by kernel_rfl) (Blind.move rfl rfl) (by decide) ?_
 refine .blind 5 rfl (by kernel_rfl) (Blind.indexF (m := i5_8) sl32 rfl rfl (by first | rfl | omega) (row_getD (d := default) (by omega))) (by decide) ?_
 refine .blind 6 rfl (by kernel_rfl) (Blind.indexP ar81 rfl rfl (m := 0) rfl (by omega) rfl) (by decide) (.load 7 rfl (by kernel_rfl) sh5 rfl rfl rfl rfl rfl (by decide) (.blind 9 rfl (by kernel_rfl) (Blind.fieldAddr fl36_0 rfl rfl) (by decide) ?_))
 refine .load 10 rfl (by kernel_rfl) sh32 rfl rfl rfl rfl rfl (by decide) (.blind 11 rfl (by kernel_rfl) (Blind.move rfl rfl) (by decide) ?_)
 refine .blind 12 rfl (by kernel_rfl) (Blind.indexF (m := i5_8) sl32 rfl rfl (by first | rfl | omega) (row_getD (d := default) (by omega))) (by decide) ?_
 refine .blind 13 rfl (by kernel_rfl) (Blind.indexP ar81 rfl rfl (m := 1) rfl (by omega) rfl) (by decide) (.load 14 rfl (by kernel_rfl) sh5 rfl rfl rfl rfl rfl (by decide) ?_)
 refine .blind 15 rfl (by kernel_rfl) (Blind.remI rfl rfl (by omega)) (by decide) ?_
 refine .blind 16 rfl (by kernel_rfl) (Blind.convK ii5 ii3 rfl (by first | rfl | exact IntWalk.i64_in _ (by omega))) (by decide) ?_
 refine .blind 17 rfl (by kernel_rfl) (Blind.addI rfl rfl (by omega)) (by decide) ?_
 refine .go0 ?_
 refine .two 1 8 rfl rfl (by kernel_rfl) ?_ ?_
 refine .ld sh24 ?_
 refine .nil ⟨rfl, ?_⟩
 refine .one 8 rfl (by kernel_rfl) (.callP ok53 (width_spec (k := ((p.mems.getD i5_8 default).a))) rfl (.keep rfl rfl .nil) (by decide) rfl ?_)
 refine .nil ⟨rfl, ?_⟩
 refine .one 18 rfl (by kernel_rfl) (.vl (Y.build pl48 ze48 rfl rfl rfl) ?_)
 refine .nil ⟨rfl, ?_⟩
 refine .one 19 rfl (by kernel_rfl) ?_
 refine .buildSlice (([(⟨mB, widthN ((p.mems.getD i5_8 default).a), 1 + ((((p.mems.getD i5_8 default).b : Nat) : Int) % 9), 0, 0⟩ : Arr)] : List Arr).map Arr.row) sl24 ze48 rfl rfl rfl rfl rfl (uniform_map (s := 5) (f := Arr.row) (fun _ => rfl)) rfl rfl rfl (by decide) ?_
 refine .nil ⟨rfl, ?_⟩
 refine .one 20 rfl (by kernel_rfl) ?_
 refine .appendE ((n304_8 ++ ([(⟨mB, widthN ((p.mems.getD i5_8 default).a), 1 + ((((p.mems.getD i5_8 default).b : Nat) : Int) % 9), 0, 0⟩ : Arr)] : List Arr)).map Arr.row) (n304_8 ++ ([(⟨mB, widthN ((p.mems.getD i5_8 default).a), 1 + ((((p.mems.getD i5_8 default).b : Nat) : Int) % 9), 0, 0⟩ : Arr)] : List Arr)).length sl24 ze48 rfl rfl rfl rfl (app_le (by first | omega | (simp only [lateN_len]; omega) | (simp [-List.getD_eq_getElem?_getD]; done) | (simp [-List.getD_eq_getElem?_getD]; omega))) (app_map (by first | omega | (simp only [lateN_len]; omega) | (simp [-List.getD_eq_getElem?_getD]; done) | (simp [-List.getD_eq_getElem?_getD]; omega))) (app_n (by first | omega | (simp only [lateN_len]; omega) | (simp [-List.getD_eq_getElem?_getD]; done) | (simp [-List.getD_eq_getElem?_getD]; omega))) (by first | omega | (simp only [lateN_len]; omega) | (simp [-List.getD_eq_getElem?_getD]; done) | (simp [-List.getD_eq_getElem?_getD]; omega)) (by first | omega | (simp only [lateN_len]; omega) | (simp [-List.getD_eq_getElem?_getD]; done) | (simp [-List.getD_eq_getElem?_getD]; omega)) (by decide) (by decide) ?_
 refine .nil ⟨rfl, ?_⟩
 refine .one 21 rfl (by kernel_rfl) ?_
 refine .fa fl27_4 ?_
 refine .nil ⟨rfl, ?_⟩
 refine .one 22 rfl (by kernel_rfl) (.storeC si24 rfl rfl rfl rfl rfl rfl (nbE rfl) rfl ?_)
 refine .nil ⟨rfl, ?_⟩
 refine .done (by kernel_rfl) ?_
 exact Le.mk (.c (.c (.c (.c (.nil))))) (.c (.c (.c (.c (.c (.c (.c (.nil))))))))
 refine .callP ok53 (width_spec (k := ((p.mems.getD i5_8 default).a))) rfl (.keep rfl rfl .nil) (by decide) rfl ?_
 refine .nil ⟨rfl, ?_⟩
 refine .two 1 18 rfl rfl (by kernel_rfl) ?_ ?_
 refine .ld sh24 ?_
 refine .nil ⟨rfl, ?_⟩
 refine .one 18 rfl (by kernel_rfl) (.vl (Y.build pl48 ze48 rfl rfl rfl) ?_)
 refine .nil ⟨rfl, ?_⟩
 refine .one 19 rfl (by kernel_rfl) ?_
 refine .buildSlice (([(⟨mB, widthN ((p.mems.getD i5_8 default).a), 1 + ((((p.mems.getD i5_8 default).b : Nat) : Int) % 9), 0, 0⟩ : Arr)] : List Arr).map Arr.row) sl24 ze48 rfl rfl rfl rfl rfl (uniform_map (s := 5) (f := Arr.row) (fun _ => rfl)) rfl rfl rfl (by decide) ?_
 refine .nil ⟨rfl, ?_⟩
 refine .one 20 rfl (by kernel_rfl) ?_
 refine .appendE ((n304_8 ++ ([(⟨mB, widthN ((p.mems.getD i5_8 default).a), 1 + ((((p.mems.getD i5_8 default).b : Nat) : Int) % 9), 0, 0⟩ : Arr)] : List Arr)).map Arr.row) (n304_8 ++ ([(⟨mB, widthN ((p.mems.getD i5_8 default).a), 1 + ((((p.mems.getD i5_8 default).b : Nat) : Int) % 9), 0, 0⟩ : Arr)] : List Arr)).length sl24 ze48 rfl rfl rfl rfl (app_le (by first | omega | (simp only [lateN_len]; omega) | (simp [-List.getD_eq_getElem?_getD]; done) | (simp [-List.getD_eq_getElem?_getD]; omega))) (app_map (by first | omega | (simp only [lateN_len]; omega) | (simp [-List.getD_eq_getElem?_getD]; done) | (simp [-List.getD_eq_getElem?_getD]; omega))) (app_n (by first | omega | (simp only [lateN_len]; omega) | (simp [-List.getD_eq_getElem?_getD]; done) | (simp [-List.getD_eq_getElem?_getD]; omega))) (by first | omega | (simp only [lateN_len]; omega) | (simp [-List.getD_eq_getElem?_getD]; done) | (simp [-List.getD_eq_getElem?_getD]; omega)) (by first | omega | (simp only [lateN_len]; omega) | (simp [-List.getD_eq_getElem?_getD]; done) | (simp [-List.getD_eq_getElem?_getD]; omega)) (by decide) (by decide) ?_
 refine .nil ⟨rfl, ?_⟩
 refine .one 21 rfl (by kernel_rfl) ?_
 refine .fa fl27_4 ?_
 refine .nil ⟨rfl, ?_⟩
 refine .one 22 rfl (by kernel_rfl) (.storeC si24 rfl rfl rfl rfl rfl rfl (nbE rfl) rfl ?_)
 refine .nil ⟨rfl, ?_⟩
 refine .done (by kernel_rfl) ?_
 exact Le.mk (.c (.c (.c (.c (.nil))))) (.c (.c (.c (.c (.c (.c (.c (.nil))))))))
 refine .vl (Y.build pl48 ze48 rfl rfl rfl) ?_
 refine .nil ⟨rfl, ?_⟩
 refine .two 1 19 rfl rfl (by kernel_rfl) ?_ ?_
 refine .ld sh24 ?_
 refine .nil ⟨rfl, ?_⟩
 refine .one 19 rfl (by kernel_rfl) ?_
 refine .buildSlice (([(⟨mB, widthN ((p.mems.getD i5_8 default).a), 1 + ((((p.mems.getD i5_8 default).b : Nat) : Int) % 9), 0, 0⟩ : Arr)] : List Arr).map Arr.row) sl24 ze48 rfl rfl rfl rfl rfl (uniform_map (s := 5) (f := Arr.row) (fun _ => rfl)) rfl rfl rfl (by decide) ?_
 refine .nil ⟨rfl, ?_⟩
 refine .one 20 rfl (by kernel_rfl) ?_
 refine .appendE ((n304_8 ++ ([(⟨mB, widthN ((p.mems.getD i5_8 default).a), 1 + ((((p.mems.getD i5_8 default).b : Nat) : Int) % 9), 0, 0⟩ : Arr)] : List Arr)).map Arr.row) (n304_8 ++ ([(⟨mB, widthN ((p.mems.getD i5_8 default).a), 1 + ((((p.mems.getD i5_8 default).b : Nat) : Int) % 9), 0, 0⟩ : Arr)] : List Arr)).length sl24 ze48 rfl rfl rfl rfl (app_le (by first | omega | (simp only [lateN_len]; omega) | (simp [-List.getD_eq_getElem?_getD]; done) | (simp [-List.getD_eq_getElem?_getD]; omega))) (app_map (by first | omega | (simp only [lateN_len]; omega) | (simp [-List.getD_eq_getElem?_getD]; done) | (simp [-List.getD_eq_getElem?_getD]; omega))) (app_n (by first | omega | (simp only [lateN_len]; omega) | (simp [-List.getD_eq_getElem?_getD]; done) | (simp [-List.getD_eq_getElem?_getD]; omega))) (by first | omega | (simp only [lateN_len]; omega) | (simp [-List.getD_eq_getElem?_getD]; done) | (simp [-List.getD_eq_getElem?_getD]; omega)) (by first | omega | (simp only [lateN_len]; omega) | (simp [-List.getD_eq_getElem?_getD]; done) | (simp [-List.getD_eq_getElem?_getD]; omega)) (by decide) (by decide) ?_
 refine .nil ⟨rfl, ?_⟩
 refine .one 21 rfl (by kernel_rfl) ?_
 refine .fa fl27_4 ?_
 refine .nil ⟨rfl, ?_⟩
 refine .one 22 rfl (by kernel_rfl) (.storeC si24 rfl rfl rfl rfl rfl rfl (nbE rfl) rfl ?_)
 refine .nil ⟨rfl, ?_⟩
 refine .done (by kernel_rfl) ?_
 exact Le.mk (.c (.c (.c (.c (.nil))))) (.c (.c (.c (.c (.c (.c (.c (.nil))))))))
 refine .buildSlice (([(⟨mB, widthN ((p.mems.getD i5_8 default).a), 1 + ((((p.mems.getD i5_8 default).b : Nat) : Int) % 9), 0, 0⟩ : Arr)] : List Arr).map Arr.row) sl24 ze48 rfl rfl rfl rfl rfl (uniform_map (s := 5) (f := Arr.row) (fun _ => rfl)) rfl rfl rfl (by decide) ?_
 refine .nil ⟨rfl, ?_⟩
 refine .one 1 rfl (by kernel_rfl) ?_
 refine .ld sh24 ?_
 refine .nil ⟨rfl, ?_⟩
 refine .one 20 rfl (by kernel_rfl) ?_
 refine .appendE ((n304_8 ++ ([(⟨mB, widthN ((p.mems.getD i5_8 default).a), 1 + ((((p.mems.getD i5_8 default).b : Nat) : Int) % 9), 0, 0⟩ : Arr)] : List Arr)).map Arr.row) (n304_8 ++ ([(⟨mB, widthN ((p.mems.getD i5_8 default).a), 1 + ((((p.mems.getD i5_8 default).b : Nat) : Int) % 9), 0, 0⟩ : Arr)] : List Arr)).length sl24 ze48 rfl rfl rfl rfl (app_le (by first | omega | (simp only [lateN_len]; omega) | (simp [-List.getD_eq_getElem?_getD]; done) | (simp [-List.getD_eq_getElem?_getD]; omega))) (app_map (by first | omega | (simp only [lateN_len]; omega) | (simp [-List.getD_eq_getElem?_getD]; done) | (simp [-List.getD_eq_getElem?_getD]; omega))) (app_n (by first | omega | (simp only [lateN_len]; omega) | (simp [-List.getD_eq_getElem?_getD]; done) | (simp [-List.getD_eq_getElem?_getD]; omega))) (by first | omega | (simp only [lateN_len]; omega) | (simp [-List.getD_eq_getElem?_getD]; done) | (simp [-List.getD_eq_getElem?_getD]; omega)) (by first | omega | (simp only [lateN_len]; omega) | (simp [-List.getD_eq_getElem?_getD]; done) | (simp [-List.getD_eq_getElem?_getD]; omega)) (by decide) (by decide) ?_
 refine .nil ⟨rfl, ?_⟩
 refine .one 21 rfl (by kernel_rfl) ?_
 refine .fa fl27_4 ?_
 refine .nil ⟨rfl, ?_⟩
 refine .one 22 rfl (by kernel_rfl) (.storeC si24 rfl rfl rfl rfl rfl rfl (nbE rfl) rfl ?_)
 refine .nil ⟨rfl, ?_⟩
 refine .done (by kernel_rfl) ?_
 exact Le.mk (.c (.c (.c (.c (.nil))))) (.c (.c (.c (.c (.c (.c (.c (.nil))))))))
 refine .region ?_
 refine .mv ?_
 refine .vl (Y.addI rfl rfl (by omega)) ?_
 refine .an ?_
 refine .nil ?_
 exact ⟨i5_8 + 1, n304_8 ++ ([(⟨mB, widthN ((p.mems.getD i5_8 default).a), 1 + ((((p.mems.getD i5_8 default).b : Nat) : Int) % 9), 0, 0⟩ : Arr)] : List Arr), ⟨by omega, all_app hm (memOK_made (by omega)), by rw [List.length_append, hml]; rfl⟩, by omega, Le.mk (.c (.c (.c (.cons (look_int rfl (by first | rfl | omega)) (.nil))))) (.c (.cons (look_cells rfl (by first | rfl | (simp only [List.cons.injEq, X.v.injEq, X.slc.injEq, Value.int.injEq, and_true, true_and]; omega) | simp_all)) (.c (.c (.c (.c (.c (.nil))))))))⟩
 refine .exit (.seq (.sr ?_))
 refine .an ?_
 refine .nil (.block ?_)
 refine .loop2 (fun (i6_12 : Nat) (n305_12 : List Strm) => ⟨[(1, .fp (Pln.row p) 0), (2, .ptr 102 0 0 0), (3, .ptr 103 0 0 0), (6, vi (i6_12 : Int))], [(102, .cells [.v (.string ByteArray.empty), .v (.slice none 0 0), .v (.slice none 0 0), .v (.slice none 0 0), .v (.slice none 0 0), .v (.slice none 0 0), .v (.slice none 0 0), .v (.slice none 0 0), vi 0, vi 0, .v (.slice none 0 0)]), (103, .cells [.v (.string nB), .slc 401 1 0 n301_3.length, .slc 402 6 0 n302_3.length, .slc 403 1 0 0, .slc 404 5 0 n304_8.length, .slc 405 3 0 n305_12.length, .v (.slice none 0 0), .v (.slice none 0 0), vi 0, vi 0, .v (.slice none 0 0)]), (401, .rows 1 (n301_3.map irow)), (402, .rows 6 (n302_3.map Cell.row)), (403, .rows 1 (([] : List Int).map irow)), (404, .rows 5 (n304_8.map Arr.row)), (405, .rows 3 (n305_12.map Strm.row))]⟩) (fun (i6_12 : Nat) (n305_12 : List Strm) => ((i6_12 : Int) ≤ ((p.streams.length : Nat) : Int)) ∧ (∀ m ∈ n305_12, Named m.name ∧ ∃ k, m.width = widthN k) ∧ (n305_12.length = i6_12)) (fun (i6_12 : Nat) (n305_12 : List Strm) => (((p.streams.length : Nat) : Int) - (i6_12 : Int)).toNat) 0 ([] : List Strm) (⟨by omega, fun m h => (by cases h), rfl⟩) (Le.mk (.c (.c (.c (.cons (look_int rfl (by first | rfl | omega)) (.nil))))) (.c (.cons (look_cells rfl (by first | rfl | (simp only [List.cons.injEq, X.v.injEq, X.slc.injEq, Value.int.injEq, and_true, true_and]; omega) | simp_all)) (.c (.c (.c (.c (.c (.nil))))))))) (fun i6_12 n305_12 hI12 => ?_)
 obtain ⟨hb12, hs, hsl⟩ := hI12
 refine .seq (.sr ?_)
 refine .mv ?_
 refine .fa fl36_1 ?_
 refine .ld sh32 ?_
 refine .vl (Y.len (n := p.streams.length) sl32 rfl (congrArg some (List.length_map ..))) (.vl (Y.lss rfl rfl) (.nil ?_))
 refine .condD rfl (fun c70 => ?_) (fun c70 => ?_)
 refine .skip (.seq (.block ?_))
 have hk1 := hk.streams (p.streams.getD i6_12 default) (getD_in (by omega))
 refine .regionHeldJ0 (⟨[(1, .fp (Pln.row p) 0), (2, .ptr 102 0 0 0), (3, .ptr 103 0 0 0), (6, .v (.int .i64 (i6_12 : Int)))], [(102, .cells [.v (.string ByteArray.empty), .v (.slice none 0 0), .v (.slice none 0 0), .v (.slice none 0 0), .v (.slice none 0 0), .v (.slice none 0 0), .v (.slice none 0 0), .v (.slice none 0 0), .v (.int .i64 0), .v (.int .i64 0), .v (.slice none 0 0)]), (103, .cells [.v (.string nB), .slc 401 1 0 n301_3.length, .slc 402 6 0 n302_3.length, .slc 403 1 0 0, .slc 404 5 0 n304_8.length, .slc 405 3 0 ((n305_12 ++ ([(⟨sB, widthN ((p.streams.getD i6_12 default).a), decide (((((p.streams.getD i6_12 default).b : Nat) : Int) % 2) = 1)⟩ : Strm)] : List Strm)).length), .v (.slice none 0 0), .v (.slice none 0 0), .v (.int .i64 0), .v (.int .i64 0), .v (.slice none 0 0)]), (401, .rows 1 (n301_3.map irow)), (402, .rows 6 (n302_3.map Cell.row)), (403, .rows 1 (([] : List Int).map irow)), (404, .rows 5 (n304_8.map Arr.row)), (405, .rows 3 ((n305_12 ++ ([(⟨sB, widthN ((p.streams.getD i6_12 default).a), decide (((((p.streams.getD i6_12 default).b : Nat) : Int) % 2) = 1)⟩ : Strm)] : List Strm)).map Strm.row))]⟩) rfl ?_ ?_
 refine .blind 0 rfl (by kernel_rfl) (Blind.fieldAddr fl27_5 rfl rfl) (by decide) (.blind 2 rfl (by kernel_rfl) (Blind.fieldAddr fl36_1 rfl rfl) (by decide) (.load 3 rfl (by kernel_rfl) sh32 rfl rfl rfl rfl rfl (by decide) ?_))
 refine .blind 4 rfl (by kernel_rfl) (Blind.move rfl rfl) (by decide) ?_
 refine .blind 5 rfl (by kernel_rfl) (Blind.indexF (m := i6_12) sl32 rfl rfl (by first | rfl | omega) (row_getD (d := default) (by omega))) (by decide) ?_
 refine .blind 6 rfl (by kernel_rfl) (Blind.indexP ar81 rfl rfl (m := 0) rfl (by omega) rfl) (by decide) (.load 7 rfl (by kernel_rfl) sh5 rfl rfl rfl rfl rfl (by decide) (.blind 9 rfl (by kernel_rfl) (Blind.fieldAddr fl36_1 rfl rfl) (by decide) ?_))
 refine .load 10 rfl (by kernel_rfl) sh32 rfl rfl rfl rfl rfl (by decide) (.blind 11 rfl (by kernel_rfl) (Blind.move rfl rfl) (by decide) ?_)
 refine .blind 12 rfl (by kernel_rfl) (Blind.indexF (m := i6_12) sl32 rfl rfl (by first | rfl | omega) (row_getD (d := default) (by omega))) (by decide) ?_
 refine .blind 13 rfl (by kernel_rfl) (Blind.indexP ar81 rfl rfl (m := 1) rfl (by omega) rfl) (by decide) (.load 14 rfl (by kernel_rfl) sh5 rfl rfl rfl rfl rfl (by decide) ?_)
 refine .blind 15 rfl (by kernel_rfl) (Blind.remI rfl rfl (by omega)) (by decide) ?_
 refine .blind 16 rfl (by kernel_rfl) (Blind.eql rfl rfl) (by decide) (.go0 ?_)
 refine .two 1 8 rfl rfl (by kernel_rfl) ?_ ?_
 refine .ld sh25 ?_
 refine .nil ⟨rfl, ?_⟩
 refine .one 8 rfl (by kernel_rfl) (.callP ok53 (width_spec (k := ((p.streams.getD i6_12 default).a))) rfl (.keep rfl rfl .nil) (by decide) rfl ?_)
 refine .nil ⟨rfl, ?_⟩
 refine .one 17 rfl (by kernel_rfl) (.vl (Y.build pl83 ze83 rfl rfl rfl) ?_)
 refine .nil ⟨rfl, ?_⟩
 refine .one 18 rfl (by kernel_rfl) ?_
 refine .buildSlice (([(⟨sB, widthN ((p.streams.getD i6_12 default).a), decide (((((p.streams.getD i6_12 default).b : Nat) : Int) % 2) = 1)⟩ : Strm)] : List Strm).map Strm.row) sl25 ze83 rfl rfl rfl rfl rfl (uniform_map (s := 3) (f := Strm.row) (fun _ => rfl)) rfl rfl rfl (by decide) ?_
 refine .nil ⟨rfl, ?_⟩
 refine .one 19 rfl (by kernel_rfl) ?_
 refine .appendE ((n305_12 ++ ([(⟨sB, widthN ((p.streams.getD i6_12 default).a), decide (((((p.streams.getD i6_12 default).b : Nat) : Int) % 2) = 1)⟩ : Strm)] : List Strm)).map Strm.row) (n305_12 ++ ([(⟨sB, widthN ((p.streams.getD i6_12 default).a), decide (((((p.streams.getD i6_12 default).b : Nat) : Int) % 2) = 1)⟩ : Strm)] : List Strm)).length sl25 ze83 rfl rfl rfl rfl (app_le (by first | omega | (simp only [lateN_len]; omega) | (simp [-List.getD_eq_getElem?_getD]; done) | (simp [-List.getD_eq_getElem?_getD]; omega))) (app_map (by first | omega | (simp only [lateN_len]; omega) | (simp [-List.getD_eq_getElem?_getD]; done) | (simp [-List.getD_eq_getElem?_getD]; omega))) (app_n (by first | omega | (simp only [lateN_len]; omega) | (simp [-List.getD_eq_getElem?_getD]; done) | (simp [-List.getD_eq_getElem?_getD]; omega))) (by first | omega | (simp only [lateN_len]; omega) | (simp [-List.getD_eq_getElem?_getD]; done) | (simp [-List.getD_eq_getElem?_getD]; omega)) (by first | omega | (simp only [lateN_len]; omega) | (simp [-List.getD_eq_getElem?_getD]; done) | (simp [-List.getD_eq_getElem?_getD]; omega)) (by decide) (by decide) ?_
 refine .nil ⟨rfl, ?_⟩
 refine .one 20 rfl (by kernel_rfl) ?_
 refine .fa fl27_5 ?_
 refine .nil ⟨rfl, ?_⟩
 refine .one 21 rfl (by kernel_rfl) (.storeC si25 rfl rfl rfl rfl rfl rfl (nbE rfl) rfl ?_)
 refine .nil ⟨rfl, ?_⟩
 refine .done (by kernel_rfl) ?_
 exact Le.mk (.c (.c (.c (.c (.nil))))) (.c (.c (.c (.c (.c (.c (.c (.nil))))))))
 refine .callP ok53 (width_spec (k := ((p.streams.getD i6_12 default).a))) rfl (.keep rfl rfl .nil) (by decide) rfl ?_
 refine .nil ⟨rfl, ?_⟩
 refine .two 1 17 rfl rfl (by kernel_rfl) ?_ ?_
 refine .ld sh25 ?_
 refine .nil ⟨rfl, ?_⟩
 refine .one 17 rfl (by kernel_rfl) (.vl (Y.build pl83 ze83 rfl rfl rfl) ?_)
 refine .nil ⟨rfl, ?_⟩
 refine .one 18 rfl (by kernel_rfl) ?_
 refine .buildSlice (([(⟨sB, widthN ((p.streams.getD i6_12 default).a), decide (((((p.streams.getD i6_12 default).b : Nat) : Int) % 2) = 1)⟩ : Strm)] : List Strm).map Strm.row) sl25 ze83 rfl rfl rfl rfl rfl (uniform_map (s := 3) (f := Strm.row) (fun _ => rfl)) rfl rfl rfl (by decide) ?_
 refine .nil ⟨rfl, ?_⟩
 refine .one 19 rfl (by kernel_rfl) ?_
 refine .appendE ((n305_12 ++ ([(⟨sB, widthN ((p.streams.getD i6_12 default).a), decide (((((p.streams.getD i6_12 default).b : Nat) : Int) % 2) = 1)⟩ : Strm)] : List Strm)).map Strm.row) (n305_12 ++ ([(⟨sB, widthN ((p.streams.getD i6_12 default).a), decide (((((p.streams.getD i6_12 default).b : Nat) : Int) % 2) = 1)⟩ : Strm)] : List Strm)).length sl25 ze83 rfl rfl rfl rfl (app_le (by first | omega | (simp only [lateN_len]; omega) | (simp [-List.getD_eq_getElem?_getD]; done) | (simp [-List.getD_eq_getElem?_getD]; omega))) (app_map (by first | omega | (simp only [lateN_len]; omega) | (simp [-List.getD_eq_getElem?_getD]; done) | (simp [-List.getD_eq_getElem?_getD]; omega))) (app_n (by first | omega | (simp only [lateN_len]; omega) | (simp [-List.getD_eq_getElem?_getD]; done) | (simp [-List.getD_eq_getElem?_getD]; omega))) (by first | omega | (simp only [lateN_len]; omega) | (simp [-List.getD_eq_getElem?_getD]; done) | (simp [-List.getD_eq_getElem?_getD]; omega)) (by first | omega | (simp only [lateN_len]; omega) | (simp [-List.getD_eq_getElem?_getD]; done) | (simp [-List.getD_eq_getElem?_getD]; omega)) (by decide) (by decide) ?_
 refine .nil ⟨rfl, ?_⟩
 refine .one 20 rfl (by kernel_rfl) ?_
 refine .fa fl27_5 ?_
 refine .nil ⟨rfl, ?_⟩
 refine .one 21 rfl (by kernel_rfl) (.storeC si25 rfl rfl rfl rfl rfl rfl (nbE rfl) rfl ?_)
 refine .nil ⟨rfl, ?_⟩
 refine .done (by kernel_rfl) ?_
 exact Le.mk (.c (.c (.c (.c (.nil))))) (.c (.c (.c (.c (.c (.c (.c (.nil))))))))
 refine .vl (Y.build pl83 ze83 rfl rfl rfl) ?_
 refine .nil ⟨rfl, ?_⟩
 refine .two 1 18 rfl rfl (by kernel_rfl) ?_ ?_
 refine .ld sh25 ?_
 refine .nil ⟨rfl, ?_⟩
 refine .one 18 rfl (by kernel_rfl) ?_
 refine .buildSlice (([(⟨sB, widthN ((p.streams.getD i6_12 default).a), decide (((((p.streams.getD i6_12 default).b : Nat) : Int) % 2) = 1)⟩ : Strm)] : List Strm).map Strm.row) sl25 ze83 rfl rfl rfl rfl rfl (uniform_map (s := 3) (f := Strm.row) (fun _ => rfl)) rfl rfl rfl (by decide) ?_
 refine .nil ⟨rfl, ?_⟩
 refine .one 19 rfl (by kernel_rfl) ?_
 refine .appendE ((n305_12 ++ ([(⟨sB, widthN ((p.streams.getD i6_12 default).a), decide (((((p.streams.getD i6_12 default).b : Nat) : Int) % 2) = 1)⟩ : Strm)] : List Strm)).map Strm.row) (n305_12 ++ ([(⟨sB, widthN ((p.streams.getD i6_12 default).a), decide (((((p.streams.getD i6_12 default).b : Nat) : Int) % 2) = 1)⟩ : Strm)] : List Strm)).length sl25 ze83 rfl rfl rfl rfl (app_le (by first | omega | (simp only [lateN_len]; omega) | (simp [-List.getD_eq_getElem?_getD]; done) | (simp [-List.getD_eq_getElem?_getD]; omega))) (app_map (by first | omega | (simp only [lateN_len]; omega) | (simp [-List.getD_eq_getElem?_getD]; done) | (simp [-List.getD_eq_getElem?_getD]; omega))) (app_n (by first | omega | (simp only [lateN_len]; omega) | (simp [-List.getD_eq_getElem?_getD]; done) | (simp [-List.getD_eq_getElem?_getD]; omega))) (by first | omega | (simp only [lateN_len]; omega) | (simp [-List.getD_eq_getElem?_getD]; done) | (simp [-List.getD_eq_getElem?_getD]; omega)) (by first | omega | (simp only [lateN_len]; omega) | (simp [-List.getD_eq_getElem?_getD]; done) | (simp [-List.getD_eq_getElem?_getD]; omega)) (by decide) (by decide) ?_
 refine .nil ⟨rfl, ?_⟩
 refine .one 20 rfl (by kernel_rfl) ?_
 refine .fa fl27_5 ?_
 refine .nil ⟨rfl, ?_⟩
 refine .one 21 rfl (by kernel_rfl) (.storeC si25 rfl rfl rfl rfl rfl rfl (nbE rfl) rfl ?_)
 refine .nil ⟨rfl, ?_⟩
 refine .done (by kernel_rfl) ?_
 exact Le.mk (.c (.c (.c (.c (.nil))))) (.c (.c (.c (.c (.c (.c (.c (.nil))))))))
 refine .buildSlice (([(⟨sB, widthN ((p.streams.getD i6_12 default).a), decide (((((p.streams.getD i6_12 default).b : Nat) : Int) % 2) = 1)⟩ : Strm)] : List Strm).map Strm.row) sl25 ze83 rfl rfl rfl rfl rfl (uniform_map (s := 3) (f := Strm.row) (fun _ => rfl)) rfl rfl rfl (by decide) ?_
 refine .nil ⟨rfl, ?_⟩
 refine .one 1 rfl (by kernel_rfl) ?_
 refine .ld sh25 ?_
 refine .nil ⟨rfl, ?_⟩
 refine .one 19 rfl (by kernel_rfl) ?_
 refine .appendE ((n305_12 ++ ([(⟨sB, widthN ((p.streams.getD i6_12 default).a), decide (((((p.streams.getD i6_12 default).b : Nat) : Int) % 2) = 1)⟩ : Strm)] : List Strm)).map Strm.row) (n305_12 ++ ([(⟨sB, widthN ((p.streams.getD i6_12 default).a), decide (((((p.streams.getD i6_12 default).b : Nat) : Int) % 2) = 1)⟩ : Strm)] : List Strm)).length sl25 ze83 rfl rfl rfl rfl (app_le (by first | omega | (simp only [lateN_len]; omega) | (simp [-List.getD_eq_getElem?_getD]; done) | (simp [-List.getD_eq_getElem?_getD]; omega))) (app_map (by first | omega | (simp only [lateN_len]; omega) | (simp [-List.getD_eq_getElem?_getD]; done) | (simp [-List.getD_eq_getElem?_getD]; omega))) (app_n (by first | omega | (simp only [lateN_len]; omega) | (simp [-List.getD_eq_getElem?_getD]; done) | (simp [-List.getD_eq_getElem?_getD]; omega))) (by first | omega | (simp only [lateN_len]; omega) | (simp [-List.getD_eq_getElem?_getD]; done) | (simp [-List.getD_eq_getElem?_getD]; omega)) (by first | omega | (simp only [lateN_len]; omega) | (simp [-List.getD_eq_getElem?_getD]; done) | (simp [-List.getD_eq_getElem?_getD]; omega)) (by decide) (by decide) ?_
 refine .nil ⟨rfl, ?_⟩
 refine .one 20 rfl (by kernel_rfl) ?_
 refine .fa fl27_5 ?_
 refine .nil ⟨rfl, ?_⟩
 refine .one 21 rfl (by kernel_rfl) (.storeC si25 rfl rfl rfl rfl rfl rfl (nbE rfl) rfl ?_)
 refine .nil ⟨rfl, ?_⟩
 refine .done (by kernel_rfl) ?_
 exact Le.mk (.c (.c (.c (.c (.nil))))) (.c (.c (.c (.c (.c (.c (.c (.nil))))))))
 refine .region ?_
 refine .mv ?_
 refine .vl (Y.addI rfl rfl (by omega)) ?_
 refine .an ?_
 refine .nil ?_
 exact ⟨i6_12 + 1, n305_12 ++ ([(⟨sB, widthN ((p.streams.getD i6_12 default).a), decide (((((p.streams.getD i6_12 default).b : Nat) : Int) % 2) = 1)⟩ : Strm)] : List Strm), ⟨by omega, all_app hs strOK_made, by rw [List.length_append, hsl]; rfl⟩, by omega, Le.mk (.c (.c (.c (.cons (look_int rfl (by first | rfl | omega)) (.nil))))) (.c (.cons (look_cells rfl (by first | rfl | (simp only [List.cons.injEq, X.v.injEq, X.slc.injEq, Value.int.injEq, and_true, true_and]; omega) | simp_all)) (.c (.c (.c (.c (.c (.nil))))))))⟩
 refine .exit (.seq (.sr ?_))
 refine .an ?_
 refine .nil (.block ?_)
 refine .loop2 (fun (i7_16 : Nat) (n303_16 : List Int) => ⟨[(1, .fp (Pln.row p) 0), (2, .ptr 102 0 0 0), (3, .ptr 103 0 0 0), (7, vi (i7_16 : Int))], [(102, .cells [.v (.string ByteArray.empty), .v (.slice none 0 0), .v (.slice none 0 0), .v (.slice none 0 0), .v (.slice none 0 0), .v (.slice none 0 0), .v (.slice none 0 0), .v (.slice none 0 0), vi 0, vi 0, .v (.slice none 0 0)]), (103, .cells [.v (.string nB), .slc 401 1 0 n301_3.length, .slc 402 6 0 n302_3.length, .slc 403 1 0 n303_16.length, .slc 404 5 0 n304_8.length, .slc 405 3 0 n305_12.length, .v (.slice none 0 0), .v (.slice none 0 0), vi 0, vi 0, .v (.slice none 0 0)]), (401, .rows 1 (n301_3.map irow)), (402, .rows 6 (n302_3.map Cell.row)), (403, .rows 1 (n303_16.map irow)), (404, .rows 5 (n304_8.map Arr.row)), (405, .rows 3 (n305_12.map Strm.row))]⟩) (fun (i7_16 : Nat) (n303_16 : List Int) => ((i7_16 : Int) ≤ ((p.ins.length : Nat) : Int)) ∧ (∀ m ∈ n303_16, ∃ k, m = widthN k) ∧ (n303_16.length = i7_16)) (fun (i7_16 : Nat) (n303_16 : List Int) => (((p.ins.length : Nat) : Int) - (i7_16 : Int)).toNat) 0 ([] : List Int) (⟨by omega, fun m h => (by cases h), rfl⟩) (Le.mk (.c (.c (.c (.cons (look_int rfl (by first | rfl | omega)) (.nil))))) (.c (.cons (look_cells rfl (by first | rfl | (simp only [List.cons.injEq, X.v.injEq, X.slc.injEq, Value.int.injEq, and_true, true_and]; omega) | simp_all)) (.c (.c (.c (.c (.c (.nil))))))))) (fun i7_16 n303_16 hI16 => ?_)
 obtain ⟨hb16, hin, hil⟩ := hI16
 refine .seq (.sr ?_)
 refine .mv ?_
 refine .fa fl36_2 ?_
 refine .ld sh33 ?_
 refine .vl (Y.len (n := p.ins.length) sl33 rfl (congrArg some (List.length_map ..))) (.vl (Y.lss rfl rfl) (.nil ?_))
 refine .condD rfl (fun c98 => ?_) (fun c98 => ?_)
 refine .skip (.seq (.block ?_))
 have hk1 := hk.ins (p.ins.getD i7_16 0) (getD_in (by omega))
 refine .regionHeldJ0 (⟨[(1, .fp (Pln.row p) 0), (2, .ptr 102 0 0 0), (3, .ptr 103 0 0 0), (7, .v (.int .i64 (i7_16 : Int)))], [(102, .cells [.v (.string ByteArray.empty), .v (.slice none 0 0), .v (.slice none 0 0), .v (.slice none 0 0), .v (.slice none 0 0), .v (.slice none 0 0), .v (.slice none 0 0), .v (.slice none 0 0), .v (.int .i64 0), .v (.int .i64 0), .v (.slice none 0 0)]), (103, .cells [.v (.string nB), .slc 401 1 0 n301_3.length, .slc 402 6 0 n302_3.length, .slc 403 1 0 ((n303_16 ++ ([widthN (p.ins.getD i7_16 0)] : List Int)).length), .slc 404 5 0 n304_8.length, .slc 405 3 0 n305_12.length, .v (.slice none 0 0), .v (.slice none 0 0), .v (.int .i64 0), .v (.int .i64 0), .v (.slice none 0 0)]), (401, .rows 1 (n301_3.map irow)), (402, .rows 6 (n302_3.map Cell.row)), (403, .rows 1 ((n303_16 ++ ([widthN (p.ins.getD i7_16 0)] : List Int)).map irow)), (404, .rows 5 (n304_8.map Arr.row)), (405, .rows 3 (n305_12.map Strm.row))]⟩) rfl ?_ ?_
 refine .blind 0 rfl (by kernel_rfl) (Blind.fieldAddr fl27_3 rfl rfl) (by decide) (.blind 2 rfl (by kernel_rfl) (Blind.fieldAddr fl36_2 rfl rfl) (by decide) (.load 3 rfl (by kernel_rfl) sh33 rfl rfl rfl rfl rfl (by decide) ?_))
 refine .blind 4 rfl (by kernel_rfl) (Blind.move rfl rfl) (by decide) ?_
 refine .blind 5 rfl (by kernel_rfl) (Blind.indexF (m := i7_16) sl33 rfl rfl (by first | rfl | omega) (row_getD (d := 0) (by omega))) (by decide) ?_
 refine .load 6 rfl (by kernel_rfl) sh5 rfl rfl rfl rfl rfl (by decide) (.go0 ?_)
 refine .two 1 7 rfl rfl (by kernel_rfl) ?_ ?_
 refine .ld sh22 ?_
 refine .nil ⟨rfl, ?_⟩
 refine .one 7 rfl (by kernel_rfl) (.callP ok53 (width_spec (k := (p.ins.getD i7_16 0))) rfl (.keep rfl rfl .nil) (by decide) rfl ?_)
 refine .nil ⟨rfl, ?_⟩
 refine .one 8 rfl (by kernel_rfl) ?_
 refine .buildSlice (([widthN (p.ins.getD i7_16 0)] : List Int).map irow) sl22 ze3 rfl rfl rfl rfl rfl (uniform_map (s := 1) (f := irow) (fun _ => rfl)) rfl rfl rfl (by decide) ?_
 refine .nil ⟨rfl, ?_⟩
 refine .one 9 rfl (by kernel_rfl) ?_
 refine .appendE ((n303_16 ++ ([widthN (p.ins.getD i7_16 0)] : List Int)).map irow) (n303_16 ++ ([widthN (p.ins.getD i7_16 0)] : List Int)).length sl22 ze3 rfl rfl rfl rfl (app_le (by first | omega | (simp only [lateN_len]; omega) | (simp [-List.getD_eq_getElem?_getD]; done) | (simp [-List.getD_eq_getElem?_getD]; omega))) (app_map (by first | omega | (simp only [lateN_len]; omega) | (simp [-List.getD_eq_getElem?_getD]; done) | (simp [-List.getD_eq_getElem?_getD]; omega))) (app_n (by first | omega | (simp only [lateN_len]; omega) | (simp [-List.getD_eq_getElem?_getD]; done) | (simp [-List.getD_eq_getElem?_getD]; omega))) (by first | omega | (simp only [lateN_len]; omega) | (simp [-List.getD_eq_getElem?_getD]; done) | (simp [-List.getD_eq_getElem?_getD]; omega)) (by first | omega | (simp only [lateN_len]; omega) | (simp [-List.getD_eq_getElem?_getD]; done) | (simp [-List.getD_eq_getElem?_getD]; omega)) (by decide) (by decide) ?_
 refine .nil ⟨rfl, ?_⟩
 refine .one 10 rfl (by kernel_rfl) ?_
 refine .fa fl27_3 ?_
 refine .nil ⟨rfl, ?_⟩
 refine .one 11 rfl (by kernel_rfl) (.storeC si22 rfl rfl rfl rfl rfl rfl (nbE rfl) rfl ?_)
 refine .nil ⟨rfl, ?_⟩
 refine .done (by kernel_rfl) ?_
 exact Le.mk (.c (.c (.c (.c (.nil))))) (.c (.c (.c (.c (.c (.c (.c (.nil))))))))
 refine .callP ok53 (width_spec (k := (p.ins.getD i7_16 0))) rfl (.keep rfl rfl .nil) (by decide) rfl ?_
 refine .nil ⟨rfl, ?_⟩
 refine .two 1 8 rfl rfl (by kernel_rfl) ?_ ?_
 refine .ld sh22 ?_
 refine .nil ⟨rfl, ?_⟩
 refine .one 8 rfl (by kernel_rfl) ?_
 refine .buildSlice (([widthN (p.ins.getD i7_16 0)] : List Int).map irow) sl22 ze3 rfl rfl rfl rfl rfl (uniform_map (s := 1) (f := irow) (fun _ => rfl)) rfl rfl rfl (by decide) ?_
 refine .nil ⟨rfl, ?_⟩
 refine .one 9 rfl (by kernel_rfl) ?_
 refine .appendE ((n303_16 ++ ([widthN (p.ins.getD i7_16 0)] : List Int)).map irow) (n303_16 ++ ([widthN (p.ins.getD i7_16 0)] : List Int)).length sl22 ze3 rfl rfl rfl rfl (app_le (by first | omega | (simp only [lateN_len]; omega) | (simp [-List.getD_eq_getElem?_getD]; done) | (simp [-List.getD_eq_getElem?_getD]; omega))) (app_map (by first | omega | (simp only [lateN_len]; omega) | (simp [-List.getD_eq_getElem?_getD]; done) | (simp [-List.getD_eq_getElem?_getD]; omega))) (app_n (by first | omega | (simp only [lateN_len]; omega) | (simp [-List.getD_eq_getElem?_getD]; done) | (simp [-List.getD_eq_getElem?_getD]; omega))) (by first | omega | (simp only [lateN_len]; omega) | (simp [-List.getD_eq_getElem?_getD]; done) | (simp [-List.getD_eq_getElem?_getD]; omega)) (by first | omega | (simp only [lateN_len]; omega) | (simp [-List.getD_eq_getElem?_getD]; done) | (simp [-List.getD_eq_getElem?_getD]; omega)) (by decide) (by decide) ?_
 refine .nil ⟨rfl, ?_⟩
 refine .one 10 rfl (by kernel_rfl) ?_
 refine .fa fl27_3 ?_
 refine .nil ⟨rfl, ?_⟩
 refine .one 11 rfl (by kernel_rfl) (.storeC si22 rfl rfl rfl rfl rfl rfl (nbE rfl) rfl ?_)
 refine .nil ⟨rfl, ?_⟩
 refine .done (by kernel_rfl) ?_
 exact Le.mk (.c (.c (.c (.c (.nil))))) (.c (.c (.c (.c (.c (.c (.c (.nil))))))))
 refine .buildSlice (([widthN (p.ins.getD i7_16 0)] : List Int).map irow) sl22 ze3 rfl rfl rfl rfl rfl (uniform_map (s := 1) (f := irow) (fun _ => rfl)) rfl rfl rfl (by decide) ?_
 refine .nil ⟨rfl, ?_⟩
 refine .one 1 rfl (by kernel_rfl) ?_
 refine .ld sh22 ?_
 refine .nil ⟨rfl, ?_⟩
 refine .one 9 rfl (by kernel_rfl) ?_
 refine .appendE ((n303_16 ++ ([widthN (p.ins.getD i7_16 0)] : List Int)).map irow) (n303_16 ++ ([widthN (p.ins.getD i7_16 0)] : List Int)).length sl22 ze3 rfl rfl rfl rfl (app_le (by first | omega | (simp only [lateN_len]; omega) | (simp [-List.getD_eq_getElem?_getD]; done) | (simp [-List.getD_eq_getElem?_getD]; omega))) (app_map (by first | omega | (simp only [lateN_len]; omega) | (simp [-List.getD_eq_getElem?_getD]; done) | (simp [-List.getD_eq_getElem?_getD]; omega))) (app_n (by first | omega | (simp only [lateN_len]; omega) | (simp [-List.getD_eq_getElem?_getD]; done) | (simp [-List.getD_eq_getElem?_getD]; omega))) (by first | omega | (simp only [lateN_len]; omega) | (simp [-List.getD_eq_getElem?_getD]; done) | (simp [-List.getD_eq_getElem?_getD]; omega)) (by first | omega | (simp only [lateN_len]; omega) | (simp [-List.getD_eq_getElem?_getD]; done) | (simp [-List.getD_eq_getElem?_getD]; omega)) (by decide) (by decide) ?_
 refine .nil ⟨rfl, ?_⟩
 refine .one 10 rfl (by kernel_rfl) ?_
 refine .fa fl27_3 ?_
 refine .nil ⟨rfl, ?_⟩
 refine .one 11 rfl (by kernel_rfl) (.storeC si22 rfl rfl rfl rfl rfl rfl (nbE rfl) rfl ?_)
 refine .nil ⟨rfl, ?_⟩
 refine .done (by kernel_rfl) ?_
 exact Le.mk (.c (.c (.c (.c (.nil))))) (.c (.c (.c (.c (.c (.c (.c (.nil))))))))
 refine .region ?_
 refine .mv ?_
 refine .vl (Y.addI rfl rfl (by omega)) ?_
 refine .an ?_
 refine .nil ?_
 exact ⟨i7_16 + 1, n303_16 ++ ([widthN (p.ins.getD i7_16 0)] : List Int), ⟨by omega, all_app hin ⟨_, rfl⟩, by rw [List.length_append, hil]; rfl⟩, by omega, Le.mk (.c (.c (.c (.cons (look_int rfl (by first | rfl | omega)) (.nil))))) (.c (.cons (look_cells rfl (by first | rfl | (simp only [List.cons.injEq, X.v.injEq, X.slc.injEq, Value.int.injEq, and_true, true_and]; omega) | simp_all)) (.c (.c (.c (.c (.c (.nil))))))))⟩
 refine .exit (.seq (.seq ?_))
 refine .sh (Sh.fzObj 103 403 3 rfl rfl rfl (len_map (by omega)) (Frees.map irow_frees) (by decide) rfl rfl rfl) ?_
 refine .sh (Sh.fzObj 103 404 4 rfl rfl rfl (len_map (by omega)) (Frees.map Arr.row_frees) (by decide) rfl rfl rfl) ?_
 refine .sh (Sh.fzObj 103 405 5 rfl rfl rfl (len_map (by omega)) (Frees.map Strm.row_frees) (by decide) rfl rfl rfl) ?_
 refine .region ?_
 refine .an ?_
 refine .nil (.block ?_)
 refine .loop3 (fun (i8_20 : Nat) (n301_20 : List Int) (n302_20 : List Cell) => ⟨[(1, .fp (Pln.row p) 0), (2, .ptr 102 0 0 0), (3, .ptr 103 0 0 0), (8, vi (i8_20 : Int))], [(102, .cells [.v (.string ByteArray.empty), .v (.slice none 0 0), .v (.slice none 0 0), .v (.slice none 0 0), .v (.slice none 0 0), .v (.slice none 0 0), .v (.slice none 0 0), .v (.slice none 0 0), vi 0, vi 0, .v (.slice none 0 0)]), (103, .cells [.v (.string nB), .slc 401 1 0 n301_20.length, .slc 402 6 0 n302_20.length, .fz 1 (n303_16.map irow), .fz 5 (n304_8.map Arr.row), .fz 3 (n305_12.map Strm.row), .v (.slice none 0 0), .v (.slice none 0 0), vi 0, vi 0, .v (.slice none 0 0)]), (401, .rows 1 (n301_20.map irow)), (402, .rows 6 (n302_20.map Cell.row))]⟩) (fun (i8_20 : Nat) (n301_20 : List Int) (n302_20 : List Cell) => ((i8_20 : Int) ≤ ((p.parts.length : Nat) : Int)) ∧ (Gr (pn n301_20 n302_20 n303_16 n304_8 n305_12)) ∧ (8 ≤ n302_20.length ∧ n302_20.length ≤ 8 + i8_20) ∧ (8 ≤ n301_20.length ∧ n301_20.length ≤ 8 + i8_20)) (fun (i8_20 : Nat) (n301_20 : List Int) (n302_20 : List Cell) => (((p.parts.length : Nat) : Int) - (i8_20 : Int)).toNat) 0 n301_3 n302_3 (⟨by omega, by rw [hw0, hc0, show i4_3 = 8 by omega]; exact gr0 (fun m h => (hm m h).2) (fun m h => (hs m h).2) hin, by rw [hc0, c0L_len]; omega, by rw [hw0, w0L_len]; omega⟩) (Le.mk (.c (.c (.c (.cons (look_int rfl (by first | rfl | omega)) (.nil))))) (.c (.cons (look_cells rfl (by first | rfl | (simp only [List.cons.injEq, X.v.injEq, X.slc.injEq, Value.int.injEq, and_true, true_and]; omega) | simp_all)) (.c (.c (.nil)))))) (fun i8_20 n301_20 n302_20 hI20 => ?_)
 obtain ⟨hb20, hGr, hcl, hwl⟩ := hI20
 refine .seq (.sr ?_)
 refine .mv ?_
 refine .fa fl36_3 ?_
 refine .ld sh34 ?_
 refine .vl (Y.len (n := p.parts.length) sl34 rfl (congrArg some (List.length_map ..))) (.vl (Y.lss rfl rfl) (.nil ?_))
 refine .condD rfl (fun c116 => ?_) (fun c116 => ?_)
 refine .skip ?_
 refine .join2 (fun (n301_j21 : List Int) (n302_j21 : List Cell) => ⟨[(1, .fp (Pln.row p) 0), (2, .ptr 102 0 0 0), (3, .ptr 103 0 0 0), (8, vi (i8_20 : Int))], [(102, .cells [.v (.string ByteArray.empty), .v (.slice none 0 0), .v (.slice none 0 0), .v (.slice none 0 0), .v (.slice none 0 0), .v (.slice none 0 0), .v (.slice none 0 0), .v (.slice none 0 0), vi 0, vi 0, .v (.slice none 0 0)]), (103, .cells [.v (.string nB), .slc 401 1 0 n301_j21.length, .slc 402 6 0 n302_j21.length, .fz 1 (n303_16.map irow), .fz 5 (n304_8.map Arr.row), .fz 3 (n305_12.map Strm.row), .v (.slice none 0 0), .v (.slice none 0 0), vi 0, vi 0, .v (.slice none 0 0)]), (401, .rows 1 (n301_j21.map irow)), (402, .rows 6 (n302_j21.map Cell.row))]⟩) (fun (n301_j21 : List Int) (n302_j21 : List Cell) => Gr (pn n301_j21 n302_j21 n303_16 n304_8 n305_12) ∧ (8 ≤ n302_j21.length ∧ n302_j21.length ≤ 8 + (i8_20 + 1)) ∧ (8 ≤ n301_j21.length ∧ n301_j21.length ≤ 8 + (i8_20 + 1))) ?_ (fun n301_j21 n302_j21 hJ21 => ?_)
 refine .block (.seq (.regionHeld [103] [102, 103, 401, 402] rfl ?_))
 refine .loadA 0 rfl (by kernel_rfl) sh27 rfl rfl rfl (nbE rfl) rfl rfl (by decide) (.blind 1 rfl (by kernel_rfl) (Blind.fieldAddr fl36_3 rfl rfl) (by decide) (.load 2 rfl (by kernel_rfl) sh34 rfl rfl rfl rfl rfl (by decide) ?_))
 refine .blind 3 rfl (by kernel_rfl) (Blind.move rfl rfl) (by decide) ?_
 refine .blind 4 rfl (by kernel_rfl) (Blind.indexF (m := i8_20) sl34 rfl rfl (by first | rfl | omega) (row_getD (d := default) (by omega))) (by decide) ?_
 refine .loadA 5 rfl (by kernel_rfl) sh88 rfl rfl rfl (nbE rfl) rfl rfl (by decide) (.goL rfl rfl (namesIn.cells rfl rfl rfl namesIn.nil) ?_)
 refine .two 6 10 rfl rfl (by kernel_rfl) ?_ ?_
 refine .callLV [401, 402] ok54 (part_spec (n := (⟨nB, n301_20, n302_20, n303_16, n304_8, n305_12, [], [], 0, 0, []⟩ : Netlist)) (p := (p.parts.getD i8_20 default)) (by show (n301_20).length ≤ 1048576; omega) (by show 0 < (n301_20).length; omega) (hpp _ (getD_in (by omega))) hGr.ground (by show (n303_16).length ≤ 1048576; omega)) rfl (.agg (.keep rfl rfl (.lend rfl rfl (lend_le (by omega)) (lend_eq (by omega)) (.lend rfl rfl (lend_le (by omega)) (lend_eq (by omega)) (.keep rfl rfl (.keep rfl rfl (.keep rfl rfl (.keep rfl rfl (.keep rfl rfl (.keep rfl rfl (.keep rfl rfl (.keep rfl rfl .nil))))))))))) rfl (.keep rfl rfl .nil)) (lend2 rfl (owns_map irow_frees) (lend1 rfl (owns_map Cell.row_frees))) (by decide) ?_
 rintro _ ⟨cP126, wP126, hP126, rfl, _⟩
 refine ⟨rfl, ⟨⟨trivial, trivial, trivial, (plainr_map irow_plains _), trivial, trivial, trivial⟩, trivial, trivial⟩, ?_⟩
 refine .nil ⟨rfl, ?_⟩
 refine .two 7 10 rfl rfl (by kernel_rfl) ?_ ?_
 refine .moveX rfl (by decide) ?_
 refine .nil ⟨rfl, ?_⟩
 refine .blind 9 rfl (by kernel_rfl) (Blind.extract rfl rfl rfl) (by decide) ?_
 refine .two 8 10 rfl rfl (by kernel_rfl) ?_ ?_
 refine .extractU rfl rfl (by decide) ?_
 refine .nil ⟨rfl, ?_⟩
 refine .one 10 rfl (by kernel_rfl) (.alloc 109 ze39 rfl rfl (by decide) ?_)
 refine .nil ⟨rfl, ?_⟩
 refine .one 11 rfl (by kernel_rfl) ?_
 refine .sh (Sh.freezeX (d := 127) (y := .agg [.v (.int .i64 cP126.kind), .v (.int .i64 cP126.op), .v (.int .i64 cP126.out), .fz 1 (cP126.args.map irow), .v (.int .u64 ((cP126.num : Nat) : Int)), .v (.int .i64 cP126.mem)]) rfl (by show X.ffz (.agg [.v (.int .i64 cP126.kind), .v (.int .i64 cP126.op), .v (.int .i64 cP126.out), .uni 1 (cP126.args.map irow), .v (.int .u64 ((cP126.num : Nat) : Int)), .v (.int .i64 cP126.mem)]) = _; simp only [X.ffz, X.ffzs, X.ffzr_frees (Frees.map irow_frees)])) ?_
 refine .storeC si39 rfl rfl rfl rfl rfl rfl (nbE rfl) rfl ?_
 refine .nil ⟨rfl, ?_⟩
 refine .one 12 rfl (by kernel_rfl) ?_
 refine .an ?_
 refine .nil ⟨rfl, ?_⟩
 refine .done (by kernel_rfl) ?_
 refine .le (st' := ⟨[(1, .fp (Pln.row p) 0), (2, .ptr 102 0 0 0), (3, .ptr 103 0 0 0), (8, vi (i8_20 : Int)), (9, .ptr 109 0 0 0), (10, vi wP126)], [(102, .cells [.v (.string ByteArray.empty), .v (.slice none 0 0), .v (.slice none 0 0), .v (.slice none 0 0), .v (.slice none 0 0), .v (.slice none 0 0), .v (.slice none 0 0), .v (.slice none 0 0), vi 0, vi 0, .v (.slice none 0 0)]), (103, .cells [.v (.string nB), .slc 401 1 0 n301_20.length, .slc 402 6 0 n302_20.length, .fz 1 (n303_16.map irow), .fz 5 (n304_8.map Arr.row), .fz 3 (n305_12.map Strm.row), .v (.slice none 0 0), .v (.slice none 0 0), vi 0, vi 0, .v (.slice none 0 0)]), (109, .cells [vi cP126.kind, vi cP126.op, vi cP126.out, .fz 1 (cP126.args.map irow), .v (.int .u64 ((cP126.num : Nat) : Int)), vi cP126.mem]), (401, .rows 1 (n301_20.map irow)), (402, .rows 6 (n302_20.map Cell.row))]⟩) (Le.mk (.c (.c (.c (.c (.c (.c (.nil))))))) (.c (.c (.c (.c (.c (.nil))))))) ?_
 refine .sr ?_
 refine .fa fl39_0 ?_
 refine .ld sh3 ?_
 refine .vl (Y.neq rfl rfl) (.nil ?_)
 refine .condD rfl (fun c131 => ?_) (fun c131 => ?_)
 refine .seq (.sr ?_)
 refine .fa fl39_0 ?_
 refine .ld sh3 ?_
 refine .vl (Y.neq rfl rfl) (.nil ?_)
 refine .condD rfl (fun c134 => ?_) (fun c134 => ?_)
 refine .sr ?_
 refine .fa fl27_1 ?_
 refine .ld sh22 ?_
 refine .vl (Y.len (n := n301_20.length) sl22 rfl rfl) ?_
 refine .fa fl39_2 ?_
 refine .storeC si3 rfl rfl rfl rfl rfl rfl (nbE rfl) rfl (.nil (.region ?_))
 refine .fa fl27_1 ?_
 refine .ld sh22 ?_
 refine .mv ?_
 refine .buildSlice (([wP126] : List Int).map irow) sl22 ze3 rfl rfl rfl rfl rfl (uniform_map (s := 1) (f := irow) (fun _ => rfl)) rfl rfl rfl (by decide) ?_
 refine .appendE ((n301_20 ++ ([wP126] : List Int)).map irow) (n301_20 ++ ([wP126] : List Int)).length sl22 ze3 rfl rfl rfl rfl (app_le (by first | omega | (simp only [lateN_len]; omega) | (simp [-List.getD_eq_getElem?_getD]; done) | (simp [-List.getD_eq_getElem?_getD]; omega))) (app_map (by first | omega | (simp only [lateN_len]; omega) | (simp [-List.getD_eq_getElem?_getD]; done) | (simp [-List.getD_eq_getElem?_getD]; omega))) (app_n (by first | omega | (simp only [lateN_len]; omega) | (simp [-List.getD_eq_getElem?_getD]; done) | (simp [-List.getD_eq_getElem?_getD]; omega))) (by first | omega | (simp only [lateN_len]; omega) | (simp [-List.getD_eq_getElem?_getD]; done) | (simp [-List.getD_eq_getElem?_getD]; omega)) (by first | omega | (simp only [lateN_len]; omega) | (simp [-List.getD_eq_getElem?_getD]; done) | (simp [-List.getD_eq_getElem?_getD]; omega)) (by decide) (by decide) ?_
 refine .fa fl27_1 ?_
 refine .storeC si22 rfl rfl rfl rfl rfl rfl (nbE rfl) rfl (.nil (.region ?_))
 refine .fa fl27_2 ?_
 refine .ld sh23 ?_
 refine .vl (Y.loadA sh39 rfl rfl (nbE rfl) rfl rfl) ?_
 refine .buildSlice (([(⟨cP126.kind, cP126.op, ((n301_20.length : Nat) : Int), cP126.args, cP126.num, cP126.mem⟩ : Cell)] : List Cell).map Cell.row) sl23 ze39 rfl rfl rfl rfl rfl (uniform_map (s := 6) (f := Cell.row) (fun _ => rfl)) rfl rfl rfl (by decide) ?_
 refine .appendE ((n302_20 ++ ([(⟨cP126.kind, cP126.op, ((n301_20.length : Nat) : Int), cP126.args, cP126.num, cP126.mem⟩ : Cell)] : List Cell)).map Cell.row) (n302_20 ++ ([(⟨cP126.kind, cP126.op, ((n301_20.length : Nat) : Int), cP126.args, cP126.num, cP126.mem⟩ : Cell)] : List Cell)).length sl23 ze39 rfl rfl rfl rfl (app_le (by first | omega | (simp only [lateN_len]; omega) | (simp [-List.getD_eq_getElem?_getD]; done) | (simp [-List.getD_eq_getElem?_getD]; omega))) (app_map (by first | omega | (simp only [lateN_len]; omega) | (simp [-List.getD_eq_getElem?_getD]; done) | (simp [-List.getD_eq_getElem?_getD]; omega))) (app_n (by first | omega | (simp only [lateN_len]; omega) | (simp [-List.getD_eq_getElem?_getD]; done) | (simp [-List.getD_eq_getElem?_getD]; omega))) (by first | omega | (simp only [lateN_len]; omega) | (simp [-List.getD_eq_getElem?_getD]; done) | (simp [-List.getD_eq_getElem?_getD]; omega)) (by first | omega | (simp only [lateN_len]; omega) | (simp [-List.getD_eq_getElem?_getD]; done) | (simp [-List.getD_eq_getElem?_getD]; omega)) (by decide) (by decide) ?_
 refine .fa fl27_2 ?_
 refine .storeC si23 rfl rfl rfl rfl rfl rfl (nbE rfl) rfl (.nil ?_)
 exact ⟨n301_20 ++ ([wP126] : List Int), n302_20 ++ ([(⟨cP126.kind, cP126.op, ((n301_20.length : Nat) : Int), cP126.args, cP126.num, cP126.mem⟩ : Cell)] : List Cell), by first | exact ⟨hGr.add (by omega) (hP126.resolve_left (by assumption)) (by assumption), by constructor <;> (simp only [List.length_append, List.length_cons, List.length_nil]; omega), by constructor <;> (simp only [List.length_append, List.length_cons, List.length_nil]; omega)⟩ | exact ⟨hGr.addW (by omega) (hP126.resolve_left (by assumption)) (Classical.not_not.1 (by assumption)), by constructor <;> (simp only [List.length_append, List.length_cons, List.length_nil]; omega), by omega⟩ | exact ⟨hGr, by omega, by omega⟩, Le.mk (.c (.c (.c (.c (.nil))))) (.c (.cons (look_cells rfl (by first | rfl | (simp only [List.cons.injEq, X.v.injEq, X.slc.injEq, Value.int.injEq, and_true, true_and]; omega) | simp_all)) (.c (.c (.nil)))))⟩
 refine .skip (.region ?_)
 refine .fa fl27_2 ?_
 refine .ld sh23 ?_
 refine .vl (Y.loadA sh39 rfl rfl (nbE rfl) rfl rfl) ?_
 refine .buildSlice (([cP126] : List Cell).map Cell.row) sl23 ze39 rfl rfl rfl rfl rfl (uniform_map (s := 6) (f := Cell.row) (fun _ => rfl)) rfl rfl rfl (by decide) ?_
 refine .appendE ((n302_20 ++ ([cP126] : List Cell)).map Cell.row) (n302_20 ++ ([cP126] : List Cell)).length sl23 ze39 rfl rfl rfl rfl (app_le (by first | omega | (simp only [lateN_len]; omega) | (simp [-List.getD_eq_getElem?_getD]; done) | (simp [-List.getD_eq_getElem?_getD]; omega))) (app_map (by first | omega | (simp only [lateN_len]; omega) | (simp [-List.getD_eq_getElem?_getD]; done) | (simp [-List.getD_eq_getElem?_getD]; omega))) (app_n (by first | omega | (simp only [lateN_len]; omega) | (simp [-List.getD_eq_getElem?_getD]; done) | (simp [-List.getD_eq_getElem?_getD]; omega))) (by first | omega | (simp only [lateN_len]; omega) | (simp [-List.getD_eq_getElem?_getD]; done) | (simp [-List.getD_eq_getElem?_getD]; omega)) (by first | omega | (simp only [lateN_len]; omega) | (simp [-List.getD_eq_getElem?_getD]; done) | (simp [-List.getD_eq_getElem?_getD]; omega)) (by decide) (by decide) ?_
 refine .fa fl27_2 ?_
 refine .storeC si23 rfl rfl rfl rfl rfl rfl (nbE rfl) rfl (.nil ?_)
 exact ⟨n301_20, n302_20 ++ ([cP126] : List Cell), by first | exact ⟨hGr.add (by omega) (hP126.resolve_left (by assumption)) (by assumption), by constructor <;> (simp only [List.length_append, List.length_cons, List.length_nil]; omega), by constructor <;> (simp only [List.length_append, List.length_cons, List.length_nil]; omega)⟩ | exact ⟨hGr.addW (by omega) (hP126.resolve_left (by assumption)) (Classical.not_not.1 (by assumption)), by constructor <;> (simp only [List.length_append, List.length_cons, List.length_nil]; omega), by omega⟩ | exact ⟨hGr, by omega, by omega⟩, Le.mk (.c (.c (.c (.c (.nil))))) (.c (.cons (look_cells rfl (by first | rfl | (simp only [List.cons.injEq, X.v.injEq, X.slc.injEq, Value.int.injEq, and_true, true_and]; omega) | simp_all)) (.c (.c (.nil)))))⟩
 refine .skip ?_
 exact ⟨n301_20, n302_20, by first | exact ⟨hGr.add (by omega) (hP126.resolve_left (by assumption)) (by assumption), by constructor <;> (simp only [List.length_append, List.length_cons, List.length_nil]; omega), by constructor <;> (simp only [List.length_append, List.length_cons, List.length_nil]; omega)⟩ | exact ⟨hGr.addW (by omega) (hP126.resolve_left (by assumption)) (Classical.not_not.1 (by assumption)), by constructor <;> (simp only [List.length_append, List.length_cons, List.length_nil]; omega), by omega⟩ | exact ⟨hGr, by omega, by omega⟩, Le.mk (.c (.c (.c (.c (.nil))))) (.c (.cons (look_cells rfl (by first | rfl | (simp only [List.cons.injEq, X.v.injEq, X.slc.injEq, Value.int.injEq, and_true, true_and]; omega) | simp_all)) (.c (.c (.nil)))))⟩
 refine .alloc 109 ze39 rfl rfl (by decide) ?_
 refine .nil ⟨rfl, ?_⟩
 refine .one 8 rfl (by kernel_rfl) (.extractU rfl rfl (by decide) ?_)
 refine .nil ⟨rfl, ?_⟩
 refine .one 11 rfl (by kernel_rfl) ?_
 refine .sh (Sh.freezeX (d := 127) (y := .agg [.v (.int .i64 cP126.kind), .v (.int .i64 cP126.op), .v (.int .i64 cP126.out), .fz 1 (cP126.args.map irow), .v (.int .u64 ((cP126.num : Nat) : Int)), .v (.int .i64 cP126.mem)]) rfl (by show X.ffz (.agg [.v (.int .i64 cP126.kind), .v (.int .i64 cP126.op), .v (.int .i64 cP126.out), .uni 1 (cP126.args.map irow), .v (.int .u64 ((cP126.num : Nat) : Int)), .v (.int .i64 cP126.mem)]) = _; simp only [X.ffz, X.ffzs, X.ffzr_frees (Frees.map irow_frees)])) ?_
 refine .storeC si39 rfl rfl rfl rfl rfl rfl (nbE rfl) rfl ?_
 refine .nil ⟨rfl, ?_⟩
 refine .one 12 rfl (by kernel_rfl) ?_
 refine .an ?_
 refine .nil ⟨rfl, ?_⟩
 refine .done (by kernel_rfl) ?_
 refine .le (st' := ⟨[(1, .fp (Pln.row p) 0), (2, .ptr 102 0 0 0), (3, .ptr 103 0 0 0), (8, vi (i8_20 : Int)), (9, .ptr 109 0 0 0), (10, vi wP126)], [(102, .cells [.v (.string ByteArray.empty), .v (.slice none 0 0), .v (.slice none 0 0), .v (.slice none 0 0), .v (.slice none 0 0), .v (.slice none 0 0), .v (.slice none 0 0), .v (.slice none 0 0), vi 0, vi 0, .v (.slice none 0 0)]), (103, .cells [.v (.string nB), .slc 401 1 0 n301_20.length, .slc 402 6 0 n302_20.length, .fz 1 (n303_16.map irow), .fz 5 (n304_8.map Arr.row), .fz 3 (n305_12.map Strm.row), .v (.slice none 0 0), .v (.slice none 0 0), vi 0, vi 0, .v (.slice none 0 0)]), (109, .cells [vi cP126.kind, vi cP126.op, vi cP126.out, .fz 1 (cP126.args.map irow), .v (.int .u64 ((cP126.num : Nat) : Int)), vi cP126.mem]), (401, .rows 1 (n301_20.map irow)), (402, .rows 6 (n302_20.map Cell.row))]⟩) (Le.mk (.c (.c (.c (.c (.c (.c (.nil))))))) (.c (.c (.c (.c (.c (.nil))))))) ?_
 refine .sr ?_
 refine .fa fl39_0 ?_
 refine .ld sh3 ?_
 refine .vl (Y.neq rfl rfl) (.nil ?_)
 refine .condD rfl (fun c131 => ?_) (fun c131 => ?_)
 refine .seq (.sr ?_)
 refine .fa fl39_0 ?_
 refine .ld sh3 ?_
 refine .vl (Y.neq rfl rfl) (.nil ?_)
 refine .condD rfl (fun c134 => ?_) (fun c134 => ?_)
 refine .sr ?_
 refine .fa fl27_1 ?_
 refine .ld sh22 ?_
 refine .vl (Y.len (n := n301_20.length) sl22 rfl rfl) ?_
 refine .fa fl39_2 ?_
 refine .storeC si3 rfl rfl rfl rfl rfl rfl (nbE rfl) rfl (.nil (.region ?_))
 refine .fa fl27_1 ?_
 refine .ld sh22 ?_
 refine .mv ?_
 refine .buildSlice (([wP126] : List Int).map irow) sl22 ze3 rfl rfl rfl rfl rfl (uniform_map (s := 1) (f := irow) (fun _ => rfl)) rfl rfl rfl (by decide) ?_
 refine .appendE ((n301_20 ++ ([wP126] : List Int)).map irow) (n301_20 ++ ([wP126] : List Int)).length sl22 ze3 rfl rfl rfl rfl (app_le (by first | omega | (simp only [lateN_len]; omega) | (simp [-List.getD_eq_getElem?_getD]; done) | (simp [-List.getD_eq_getElem?_getD]; omega))) (app_map (by first | omega | (simp only [lateN_len]; omega) | (simp [-List.getD_eq_getElem?_getD]; done) | (simp [-List.getD_eq_getElem?_getD]; omega))) (app_n (by first | omega | (simp only [lateN_len]; omega) | (simp [-List.getD_eq_getElem?_getD]; done) | (simp [-List.getD_eq_getElem?_getD]; omega))) (by first | omega | (simp only [lateN_len]; omega) | (simp [-List.getD_eq_getElem?_getD]; done) | (simp [-List.getD_eq_getElem?_getD]; omega)) (by first | omega | (simp only [lateN_len]; omega) | (simp [-List.getD_eq_getElem?_getD]; done) | (simp [-List.getD_eq_getElem?_getD]; omega)) (by decide) (by decide) ?_
 refine .fa fl27_1 ?_
 refine .storeC si22 rfl rfl rfl rfl rfl rfl (nbE rfl) rfl (.nil (.region ?_))
 refine .fa fl27_2 ?_
 refine .ld sh23 ?_
 refine .vl (Y.loadA sh39 rfl rfl (nbE rfl) rfl rfl) ?_
 refine .buildSlice (([(⟨cP126.kind, cP126.op, ((n301_20.length : Nat) : Int), cP126.args, cP126.num, cP126.mem⟩ : Cell)] : List Cell).map Cell.row) sl23 ze39 rfl rfl rfl rfl rfl (uniform_map (s := 6) (f := Cell.row) (fun _ => rfl)) rfl rfl rfl (by decide) ?_
 refine .appendE ((n302_20 ++ ([(⟨cP126.kind, cP126.op, ((n301_20.length : Nat) : Int), cP126.args, cP126.num, cP126.mem⟩ : Cell)] : List Cell)).map Cell.row) (n302_20 ++ ([(⟨cP126.kind, cP126.op, ((n301_20.length : Nat) : Int), cP126.args, cP126.num, cP126.mem⟩ : Cell)] : List Cell)).length sl23 ze39 rfl rfl rfl rfl (app_le (by first | omega | (simp only [lateN_len]; omega) | (simp [-List.getD_eq_getElem?_getD]; done) | (simp [-List.getD_eq_getElem?_getD]; omega))) (app_map (by first | omega | (simp only [lateN_len]; omega) | (simp [-List.getD_eq_getElem?_getD]; done) | (simp [-List.getD_eq_getElem?_getD]; omega))) (app_n (by first | omega | (simp only [lateN_len]; omega) | (simp [-List.getD_eq_getElem?_getD]; done) | (simp [-List.getD_eq_getElem?_getD]; omega))) (by first | omega | (simp only [lateN_len]; omega) | (simp [-List.getD_eq_getElem?_getD]; done) | (simp [-List.getD_eq_getElem?_getD]; omega)) (by first | omega | (simp only [lateN_len]; omega) | (simp [-List.getD_eq_getElem?_getD]; done) | (simp [-List.getD_eq_getElem?_getD]; omega)) (by decide) (by decide) ?_
 refine .fa fl27_2 ?_
 refine .storeC si23 rfl rfl rfl rfl rfl rfl (nbE rfl) rfl (.nil ?_)
 exact ⟨n301_20 ++ ([wP126] : List Int), n302_20 ++ ([(⟨cP126.kind, cP126.op, ((n301_20.length : Nat) : Int), cP126.args, cP126.num, cP126.mem⟩ : Cell)] : List Cell), by first | exact ⟨hGr.add (by omega) (hP126.resolve_left (by assumption)) (by assumption), by constructor <;> (simp only [List.length_append, List.length_cons, List.length_nil]; omega), by constructor <;> (simp only [List.length_append, List.length_cons, List.length_nil]; omega)⟩ | exact ⟨hGr.addW (by omega) (hP126.resolve_left (by assumption)) (Classical.not_not.1 (by assumption)), by constructor <;> (simp only [List.length_append, List.length_cons, List.length_nil]; omega), by omega⟩ | exact ⟨hGr, by omega, by omega⟩, Le.mk (.c (.c (.c (.c (.nil))))) (.c (.cons (look_cells rfl (by first | rfl | (simp only [List.cons.injEq, X.v.injEq, X.slc.injEq, Value.int.injEq, and_true, true_and]; omega) | simp_all)) (.c (.c (.nil)))))⟩
 refine .skip (.region ?_)
 refine .fa fl27_2 ?_
 refine .ld sh23 ?_
 refine .vl (Y.loadA sh39 rfl rfl (nbE rfl) rfl rfl) ?_
 refine .buildSlice (([cP126] : List Cell).map Cell.row) sl23 ze39 rfl rfl rfl rfl rfl (uniform_map (s := 6) (f := Cell.row) (fun _ => rfl)) rfl rfl rfl (by decide) ?_
 refine .appendE ((n302_20 ++ ([cP126] : List Cell)).map Cell.row) (n302_20 ++ ([cP126] : List Cell)).length sl23 ze39 rfl rfl rfl rfl (app_le (by first | omega | (simp only [lateN_len]; omega) | (simp [-List.getD_eq_getElem?_getD]; done) | (simp [-List.getD_eq_getElem?_getD]; omega))) (app_map (by first | omega | (simp only [lateN_len]; omega) | (simp [-List.getD_eq_getElem?_getD]; done) | (simp [-List.getD_eq_getElem?_getD]; omega))) (app_n (by first | omega | (simp only [lateN_len]; omega) | (simp [-List.getD_eq_getElem?_getD]; done) | (simp [-List.getD_eq_getElem?_getD]; omega))) (by first | omega | (simp only [lateN_len]; omega) | (simp [-List.getD_eq_getElem?_getD]; done) | (simp [-List.getD_eq_getElem?_getD]; omega)) (by first | omega | (simp only [lateN_len]; omega) | (simp [-List.getD_eq_getElem?_getD]; done) | (simp [-List.getD_eq_getElem?_getD]; omega)) (by decide) (by decide) ?_
 refine .fa fl27_2 ?_
 refine .storeC si23 rfl rfl rfl rfl rfl rfl (nbE rfl) rfl (.nil ?_)
 exact ⟨n301_20, n302_20 ++ ([cP126] : List Cell), by first | exact ⟨hGr.add (by omega) (hP126.resolve_left (by assumption)) (by assumption), by constructor <;> (simp only [List.length_append, List.length_cons, List.length_nil]; omega), by constructor <;> (simp only [List.length_append, List.length_cons, List.length_nil]; omega)⟩ | exact ⟨hGr.addW (by omega) (hP126.resolve_left (by assumption)) (Classical.not_not.1 (by assumption)), by constructor <;> (simp only [List.length_append, List.length_cons, List.length_nil]; omega), by omega⟩ | exact ⟨hGr, by omega, by omega⟩, Le.mk (.c (.c (.c (.c (.nil))))) (.c (.cons (look_cells rfl (by first | rfl | (simp only [List.cons.injEq, X.v.injEq, X.slc.injEq, Value.int.injEq, and_true, true_and]; omega) | simp_all)) (.c (.c (.nil)))))⟩
 refine .skip ?_
 exact ⟨n301_20, n302_20, by first | exact ⟨hGr.add (by omega) (hP126.resolve_left (by assumption)) (by assumption), by constructor <;> (simp only [List.length_append, List.length_cons, List.length_nil]; omega), by constructor <;> (simp only [List.length_append, List.length_cons, List.length_nil]; omega)⟩ | exact ⟨hGr.addW (by omega) (hP126.resolve_left (by assumption)) (Classical.not_not.1 (by assumption)), by constructor <;> (simp only [List.length_append, List.length_cons, List.length_nil]; omega), by omega⟩ | exact ⟨hGr, by omega, by omega⟩, Le.mk (.c (.c (.c (.c (.nil))))) (.c (.cons (look_cells rfl (by first | rfl | (simp only [List.cons.injEq, X.v.injEq, X.slc.injEq, Value.int.injEq, and_true, true_and]; omega) | simp_all)) (.c (.c (.nil)))))⟩
 refine .alloc 109 ze39 rfl rfl (by decide) ?_
 refine .nil ⟨rfl, ?_⟩
 refine .one 7 rfl (by kernel_rfl) (.moveX rfl (by decide) ?_)
 refine .nil ⟨rfl, ?_⟩
 refine .blind 9 rfl (by kernel_rfl) (Blind.extract rfl rfl rfl) (by decide) (.one 8 rfl (by kernel_rfl) (.extractU rfl rfl (by decide) ?_))
 refine .nil ⟨rfl, ?_⟩
 refine .one 11 rfl (by kernel_rfl) ?_
 refine .sh (Sh.freezeX (d := 127) (y := .agg [.v (.int .i64 cP126.kind), .v (.int .i64 cP126.op), .v (.int .i64 cP126.out), .fz 1 (cP126.args.map irow), .v (.int .u64 ((cP126.num : Nat) : Int)), .v (.int .i64 cP126.mem)]) rfl (by show X.ffz (.agg [.v (.int .i64 cP126.kind), .v (.int .i64 cP126.op), .v (.int .i64 cP126.out), .uni 1 (cP126.args.map irow), .v (.int .u64 ((cP126.num : Nat) : Int)), .v (.int .i64 cP126.mem)]) = _; simp only [X.ffz, X.ffzs, X.ffzr_frees (Frees.map irow_frees)])) ?_
 refine .storeC si39 rfl rfl rfl rfl rfl rfl (nbE rfl) rfl ?_
 refine .nil ⟨rfl, ?_⟩
 refine .one 12 rfl (by kernel_rfl) ?_
 refine .an ?_
 refine .nil ⟨rfl, ?_⟩
 refine .done (by kernel_rfl) ?_
 refine .le (st' := ⟨[(1, .fp (Pln.row p) 0), (2, .ptr 102 0 0 0), (3, .ptr 103 0 0 0), (8, vi (i8_20 : Int)), (9, .ptr 109 0 0 0), (10, vi wP126)], [(102, .cells [.v (.string ByteArray.empty), .v (.slice none 0 0), .v (.slice none 0 0), .v (.slice none 0 0), .v (.slice none 0 0), .v (.slice none 0 0), .v (.slice none 0 0), .v (.slice none 0 0), vi 0, vi 0, .v (.slice none 0 0)]), (103, .cells [.v (.string nB), .slc 401 1 0 n301_20.length, .slc 402 6 0 n302_20.length, .fz 1 (n303_16.map irow), .fz 5 (n304_8.map Arr.row), .fz 3 (n305_12.map Strm.row), .v (.slice none 0 0), .v (.slice none 0 0), vi 0, vi 0, .v (.slice none 0 0)]), (109, .cells [vi cP126.kind, vi cP126.op, vi cP126.out, .fz 1 (cP126.args.map irow), .v (.int .u64 ((cP126.num : Nat) : Int)), vi cP126.mem]), (401, .rows 1 (n301_20.map irow)), (402, .rows 6 (n302_20.map Cell.row))]⟩) (Le.mk (.c (.c (.c (.c (.c (.c (.nil))))))) (.c (.c (.c (.c (.c (.nil))))))) ?_
 refine .sr ?_
 refine .fa fl39_0 ?_
 refine .ld sh3 ?_
 refine .vl (Y.neq rfl rfl) (.nil ?_)
 refine .condD rfl (fun c131 => ?_) (fun c131 => ?_)
 refine .seq (.sr ?_)
 refine .fa fl39_0 ?_
 refine .ld sh3 ?_
 refine .vl (Y.neq rfl rfl) (.nil ?_)
 refine .condD rfl (fun c134 => ?_) (fun c134 => ?_)
 refine .sr ?_
 refine .fa fl27_1 ?_
 refine .ld sh22 ?_
 refine .vl (Y.len (n := n301_20.length) sl22 rfl rfl) ?_
 refine .fa fl39_2 ?_
 refine .storeC si3 rfl rfl rfl rfl rfl rfl (nbE rfl) rfl (.nil (.region ?_))
 refine .fa fl27_1 ?_
 refine .ld sh22 ?_
 refine .mv ?_
 refine .buildSlice (([wP126] : List Int).map irow) sl22 ze3 rfl rfl rfl rfl rfl (uniform_map (s := 1) (f := irow) (fun _ => rfl)) rfl rfl rfl (by decide) ?_
 refine .appendE ((n301_20 ++ ([wP126] : List Int)).map irow) (n301_20 ++ ([wP126] : List Int)).length sl22 ze3 rfl rfl rfl rfl (app_le (by first | omega | (simp only [lateN_len]; omega) | (simp [-List.getD_eq_getElem?_getD]; done) | (simp [-List.getD_eq_getElem?_getD]; omega))) (app_map (by first | omega | (simp only [lateN_len]; omega) | (simp [-List.getD_eq_getElem?_getD]; done) | (simp [-List.getD_eq_getElem?_getD]; omega))) (app_n (by first | omega | (simp only [lateN_len]; omega) | (simp [-List.getD_eq_getElem?_getD]; done) | (simp [-List.getD_eq_getElem?_getD]; omega))) (by first | omega | (simp only [lateN_len]; omega) | (simp [-List.getD_eq_getElem?_getD]; done) | (simp [-List.getD_eq_getElem?_getD]; omega)) (by first | omega | (simp only [lateN_len]; omega) | (simp [-List.getD_eq_getElem?_getD]; done) | (simp [-List.getD_eq_getElem?_getD]; omega)) (by decide) (by decide) ?_
 refine .fa fl27_1 ?_
 refine .storeC si22 rfl rfl rfl rfl rfl rfl (nbE rfl) rfl (.nil (.region ?_))
 refine .fa fl27_2 ?_
 refine .ld sh23 ?_
 refine .vl (Y.loadA sh39 rfl rfl (nbE rfl) rfl rfl) ?_
 refine .buildSlice (([(⟨cP126.kind, cP126.op, ((n301_20.length : Nat) : Int), cP126.args, cP126.num, cP126.mem⟩ : Cell)] : List Cell).map Cell.row) sl23 ze39 rfl rfl rfl rfl rfl (uniform_map (s := 6) (f := Cell.row) (fun _ => rfl)) rfl rfl rfl (by decide) ?_
 refine .appendE ((n302_20 ++ ([(⟨cP126.kind, cP126.op, ((n301_20.length : Nat) : Int), cP126.args, cP126.num, cP126.mem⟩ : Cell)] : List Cell)).map Cell.row) (n302_20 ++ ([(⟨cP126.kind, cP126.op, ((n301_20.length : Nat) : Int), cP126.args, cP126.num, cP126.mem⟩ : Cell)] : List Cell)).length sl23 ze39 rfl rfl rfl rfl (app_le (by first | omega | (simp only [lateN_len]; omega) | (simp [-List.getD_eq_getElem?_getD]; done) | (simp [-List.getD_eq_getElem?_getD]; omega))) (app_map (by first | omega | (simp only [lateN_len]; omega) | (simp [-List.getD_eq_getElem?_getD]; done) | (simp [-List.getD_eq_getElem?_getD]; omega))) (app_n (by first | omega | (simp only [lateN_len]; omega) | (simp [-List.getD_eq_getElem?_getD]; done) | (simp [-List.getD_eq_getElem?_getD]; omega))) (by first | omega | (simp only [lateN_len]; omega) | (simp [-List.getD_eq_getElem?_getD]; done) | (simp [-List.getD_eq_getElem?_getD]; omega)) (by first | omega | (simp only [lateN_len]; omega) | (simp [-List.getD_eq_getElem?_getD]; done) | (simp [-List.getD_eq_getElem?_getD]; omega)) (by decide) (by decide) ?_
 refine .fa fl27_2 ?_
 refine .storeC si23 rfl rfl rfl rfl rfl rfl (nbE rfl) rfl (.nil ?_)
 exact ⟨n301_20 ++ ([wP126] : List Int), n302_20 ++ ([(⟨cP126.kind, cP126.op, ((n301_20.length : Nat) : Int), cP126.args, cP126.num, cP126.mem⟩ : Cell)] : List Cell), by first | exact ⟨hGr.add (by omega) (hP126.resolve_left (by assumption)) (by assumption), by constructor <;> (simp only [List.length_append, List.length_cons, List.length_nil]; omega), by constructor <;> (simp only [List.length_append, List.length_cons, List.length_nil]; omega)⟩ | exact ⟨hGr.addW (by omega) (hP126.resolve_left (by assumption)) (Classical.not_not.1 (by assumption)), by constructor <;> (simp only [List.length_append, List.length_cons, List.length_nil]; omega), by omega⟩ | exact ⟨hGr, by omega, by omega⟩, Le.mk (.c (.c (.c (.c (.nil))))) (.c (.cons (look_cells rfl (by first | rfl | (simp only [List.cons.injEq, X.v.injEq, X.slc.injEq, Value.int.injEq, and_true, true_and]; omega) | simp_all)) (.c (.c (.nil)))))⟩
 refine .skip (.region ?_)
 refine .fa fl27_2 ?_
 refine .ld sh23 ?_
 refine .vl (Y.loadA sh39 rfl rfl (nbE rfl) rfl rfl) ?_
 refine .buildSlice (([cP126] : List Cell).map Cell.row) sl23 ze39 rfl rfl rfl rfl rfl (uniform_map (s := 6) (f := Cell.row) (fun _ => rfl)) rfl rfl rfl (by decide) ?_
 refine .appendE ((n302_20 ++ ([cP126] : List Cell)).map Cell.row) (n302_20 ++ ([cP126] : List Cell)).length sl23 ze39 rfl rfl rfl rfl (app_le (by first | omega | (simp only [lateN_len]; omega) | (simp [-List.getD_eq_getElem?_getD]; done) | (simp [-List.getD_eq_getElem?_getD]; omega))) (app_map (by first | omega | (simp only [lateN_len]; omega) | (simp [-List.getD_eq_getElem?_getD]; done) | (simp [-List.getD_eq_getElem?_getD]; omega))) (app_n (by first | omega | (simp only [lateN_len]; omega) | (simp [-List.getD_eq_getElem?_getD]; done) | (simp [-List.getD_eq_getElem?_getD]; omega))) (by first | omega | (simp only [lateN_len]; omega) | (simp [-List.getD_eq_getElem?_getD]; done) | (simp [-List.getD_eq_getElem?_getD]; omega)) (by first | omega | (simp only [lateN_len]; omega) | (simp [-List.getD_eq_getElem?_getD]; done) | (simp [-List.getD_eq_getElem?_getD]; omega)) (by decide) (by decide) ?_
 refine .fa fl27_2 ?_
 refine .storeC si23 rfl rfl rfl rfl rfl rfl (nbE rfl) rfl (.nil ?_)
 exact ⟨n301_20, n302_20 ++ ([cP126] : List Cell), by first | exact ⟨hGr.add (by omega) (hP126.resolve_left (by assumption)) (by assumption), by constructor <;> (simp only [List.length_append, List.length_cons, List.length_nil]; omega), by constructor <;> (simp only [List.length_append, List.length_cons, List.length_nil]; omega)⟩ | exact ⟨hGr.addW (by omega) (hP126.resolve_left (by assumption)) (Classical.not_not.1 (by assumption)), by constructor <;> (simp only [List.length_append, List.length_cons, List.length_nil]; omega), by omega⟩ | exact ⟨hGr, by omega, by omega⟩, Le.mk (.c (.c (.c (.c (.nil))))) (.c (.cons (look_cells rfl (by first | rfl | (simp only [List.cons.injEq, X.v.injEq, X.slc.injEq, Value.int.injEq, and_true, true_and]; omega) | simp_all)) (.c (.c (.nil)))))⟩
 refine .skip ?_
 exact ⟨n301_20, n302_20, by first | exact ⟨hGr.add (by omega) (hP126.resolve_left (by assumption)) (by assumption), by constructor <;> (simp only [List.length_append, List.length_cons, List.length_nil]; omega), by constructor <;> (simp only [List.length_append, List.length_cons, List.length_nil]; omega)⟩ | exact ⟨hGr.addW (by omega) (hP126.resolve_left (by assumption)) (Classical.not_not.1 (by assumption)), by constructor <;> (simp only [List.length_append, List.length_cons, List.length_nil]; omega), by omega⟩ | exact ⟨hGr, by omega, by omega⟩, Le.mk (.c (.c (.c (.c (.nil))))) (.c (.cons (look_cells rfl (by first | rfl | (simp only [List.cons.injEq, X.v.injEq, X.slc.injEq, Value.int.injEq, and_true, true_and]; omega) | simp_all)) (.c (.c (.nil)))))⟩
 refine .alloc 109 ze39 rfl rfl (by decide) ?_
 refine .nil ⟨rfl, ?_⟩
 refine .one 6 rfl (by kernel_rfl) ?_
 refine .callLV [401, 402] ok54 (part_spec (n := (⟨nB, n301_20, n302_20, n303_16, n304_8, n305_12, [], [], 0, 0, []⟩ : Netlist)) (p := (p.parts.getD i8_20 default)) (by show (n301_20).length ≤ 1048576; omega) (by show 0 < (n301_20).length; omega) (hpp _ (getD_in (by omega))) hGr.ground (by show (n303_16).length ≤ 1048576; omega)) rfl (.agg (.keep rfl rfl (.lend rfl rfl (lend_le (by omega)) (lend_eq (by omega)) (.lend rfl rfl (lend_le (by omega)) (lend_eq (by omega)) (.keep rfl rfl (.keep rfl rfl (.keep rfl rfl (.keep rfl rfl (.keep rfl rfl (.keep rfl rfl (.keep rfl rfl (.keep rfl rfl .nil))))))))))) rfl (.keep rfl rfl .nil)) (lend2 rfl (owns_map irow_frees) (lend1 rfl (owns_map Cell.row_frees))) (by decide) ?_
 rintro _ ⟨cP126, wP126, hP126, rfl, _⟩
 refine ⟨rfl, ⟨⟨trivial, trivial, trivial, (plainr_map irow_plains _), trivial, trivial, trivial⟩, trivial, trivial⟩, ?_⟩
 refine .nil ⟨rfl, ?_⟩
 refine .one 7 rfl (by kernel_rfl) (.moveX rfl (by decide) ?_)
 refine .nil ⟨rfl, ?_⟩
 refine .blind 9 rfl (by kernel_rfl) (Blind.extract rfl rfl rfl) (by decide) (.one 8 rfl (by kernel_rfl) (.extractU rfl rfl (by decide) ?_))
 refine .nil ⟨rfl, ?_⟩
 refine .one 11 rfl (by kernel_rfl) ?_
 refine .sh (Sh.freezeX (d := 127) (y := .agg [.v (.int .i64 cP126.kind), .v (.int .i64 cP126.op), .v (.int .i64 cP126.out), .fz 1 (cP126.args.map irow), .v (.int .u64 ((cP126.num : Nat) : Int)), .v (.int .i64 cP126.mem)]) rfl (by show X.ffz (.agg [.v (.int .i64 cP126.kind), .v (.int .i64 cP126.op), .v (.int .i64 cP126.out), .uni 1 (cP126.args.map irow), .v (.int .u64 ((cP126.num : Nat) : Int)), .v (.int .i64 cP126.mem)]) = _; simp only [X.ffz, X.ffzs, X.ffzr_frees (Frees.map irow_frees)])) ?_
 refine .storeC si39 rfl rfl rfl rfl rfl rfl (nbE rfl) rfl ?_
 refine .nil ⟨rfl, ?_⟩
 refine .one 12 rfl (by kernel_rfl) ?_
 refine .an ?_
 refine .nil ⟨rfl, ?_⟩
 refine .done (by kernel_rfl) ?_
 refine .le (st' := ⟨[(1, .fp (Pln.row p) 0), (2, .ptr 102 0 0 0), (3, .ptr 103 0 0 0), (8, vi (i8_20 : Int)), (9, .ptr 109 0 0 0), (10, vi wP126)], [(102, .cells [.v (.string ByteArray.empty), .v (.slice none 0 0), .v (.slice none 0 0), .v (.slice none 0 0), .v (.slice none 0 0), .v (.slice none 0 0), .v (.slice none 0 0), .v (.slice none 0 0), vi 0, vi 0, .v (.slice none 0 0)]), (103, .cells [.v (.string nB), .slc 401 1 0 n301_20.length, .slc 402 6 0 n302_20.length, .fz 1 (n303_16.map irow), .fz 5 (n304_8.map Arr.row), .fz 3 (n305_12.map Strm.row), .v (.slice none 0 0), .v (.slice none 0 0), vi 0, vi 0, .v (.slice none 0 0)]), (109, .cells [vi cP126.kind, vi cP126.op, vi cP126.out, .fz 1 (cP126.args.map irow), .v (.int .u64 ((cP126.num : Nat) : Int)), vi cP126.mem]), (401, .rows 1 (n301_20.map irow)), (402, .rows 6 (n302_20.map Cell.row))]⟩) (Le.mk (.c (.c (.c (.c (.c (.c (.nil))))))) (.c (.c (.c (.c (.c (.nil))))))) ?_
 refine .sr ?_
 refine .fa fl39_0 ?_
 refine .ld sh3 ?_
 refine .vl (Y.neq rfl rfl) (.nil ?_)
 refine .condD rfl (fun c131 => ?_) (fun c131 => ?_)
 refine .seq (.sr ?_)
 refine .fa fl39_0 ?_
 refine .ld sh3 ?_
 refine .vl (Y.neq rfl rfl) (.nil ?_)
 refine .condD rfl (fun c134 => ?_) (fun c134 => ?_)
 refine .sr ?_
 refine .fa fl27_1 ?_
 refine .ld sh22 ?_
 refine .vl (Y.len (n := n301_20.length) sl22 rfl rfl) ?_
 refine .fa fl39_2 ?_
 refine .storeC si3 rfl rfl rfl rfl rfl rfl (nbE rfl) rfl (.nil (.region ?_))
 refine .fa fl27_1 ?_
 refine .ld sh22 ?_
 refine .mv ?_
 refine .buildSlice (([wP126] : List Int).map irow) sl22 ze3 rfl rfl rfl rfl rfl (uniform_map (s := 1) (f := irow) (fun _ => rfl)) rfl rfl rfl (by decide) ?_
 refine .appendE ((n301_20 ++ ([wP126] : List Int)).map irow) (n301_20 ++ ([wP126] : List Int)).length sl22 ze3 rfl rfl rfl rfl (app_le (by first | omega | (simp only [lateN_len]; omega) | (simp [-List.getD_eq_getElem?_getD]; done) | (simp [-List.getD_eq_getElem?_getD]; omega))) (app_map (by first | omega | (simp only [lateN_len]; omega) | (simp [-List.getD_eq_getElem?_getD]; done) | (simp [-List.getD_eq_getElem?_getD]; omega))) (app_n (by first | omega | (simp only [lateN_len]; omega) | (simp [-List.getD_eq_getElem?_getD]; done) | (simp [-List.getD_eq_getElem?_getD]; omega))) (by first | omega | (simp only [lateN_len]; omega) | (simp [-List.getD_eq_getElem?_getD]; done) | (simp [-List.getD_eq_getElem?_getD]; omega)) (by first | omega | (simp only [lateN_len]; omega) | (simp [-List.getD_eq_getElem?_getD]; done) | (simp [-List.getD_eq_getElem?_getD]; omega)) (by decide) (by decide) ?_
 refine .fa fl27_1 ?_
 refine .storeC si22 rfl rfl rfl rfl rfl rfl (nbE rfl) rfl (.nil (.region ?_))
 refine .fa fl27_2 ?_
 refine .ld sh23 ?_
 refine .vl (Y.loadA sh39 rfl rfl (nbE rfl) rfl rfl) ?_
 refine .buildSlice (([(⟨cP126.kind, cP126.op, ((n301_20.length : Nat) : Int), cP126.args, cP126.num, cP126.mem⟩ : Cell)] : List Cell).map Cell.row) sl23 ze39 rfl rfl rfl rfl rfl (uniform_map (s := 6) (f := Cell.row) (fun _ => rfl)) rfl rfl rfl (by decide) ?_
 refine .appendE ((n302_20 ++ ([(⟨cP126.kind, cP126.op, ((n301_20.length : Nat) : Int), cP126.args, cP126.num, cP126.mem⟩ : Cell)] : List Cell)).map Cell.row) (n302_20 ++ ([(⟨cP126.kind, cP126.op, ((n301_20.length : Nat) : Int), cP126.args, cP126.num, cP126.mem⟩ : Cell)] : List Cell)).length sl23 ze39 rfl rfl rfl rfl (app_le (by first | omega | (simp only [lateN_len]; omega) | (simp [-List.getD_eq_getElem?_getD]; done) | (simp [-List.getD_eq_getElem?_getD]; omega))) (app_map (by first | omega | (simp only [lateN_len]; omega) | (simp [-List.getD_eq_getElem?_getD]; done) | (simp [-List.getD_eq_getElem?_getD]; omega))) (app_n (by first | omega | (simp only [lateN_len]; omega) | (simp [-List.getD_eq_getElem?_getD]; done) | (simp [-List.getD_eq_getElem?_getD]; omega))) (by first | omega | (simp only [lateN_len]; omega) | (simp [-List.getD_eq_getElem?_getD]; done) | (simp [-List.getD_eq_getElem?_getD]; omega)) (by first | omega | (simp only [lateN_len]; omega) | (simp [-List.getD_eq_getElem?_getD]; done) | (simp [-List.getD_eq_getElem?_getD]; omega)) (by decide) (by decide) ?_
 refine .fa fl27_2 ?_
 refine .storeC si23 rfl rfl rfl rfl rfl rfl (nbE rfl) rfl (.nil ?_)
 exact ⟨n301_20 ++ ([wP126] : List Int), n302_20 ++ ([(⟨cP126.kind, cP126.op, ((n301_20.length : Nat) : Int), cP126.args, cP126.num, cP126.mem⟩ : Cell)] : List Cell), by first | exact ⟨hGr.add (by omega) (hP126.resolve_left (by assumption)) (by assumption), by constructor <;> (simp only [List.length_append, List.length_cons, List.length_nil]; omega), by constructor <;> (simp only [List.length_append, List.length_cons, List.length_nil]; omega)⟩ | exact ⟨hGr.addW (by omega) (hP126.resolve_left (by assumption)) (Classical.not_not.1 (by assumption)), by constructor <;> (simp only [List.length_append, List.length_cons, List.length_nil]; omega), by omega⟩ | exact ⟨hGr, by omega, by omega⟩, Le.mk (.c (.c (.c (.c (.nil))))) (.c (.cons (look_cells rfl (by first | rfl | (simp only [List.cons.injEq, X.v.injEq, X.slc.injEq, Value.int.injEq, and_true, true_and]; omega) | simp_all)) (.c (.c (.nil)))))⟩
 refine .skip (.region ?_)
 refine .fa fl27_2 ?_
 refine .ld sh23 ?_
 refine .vl (Y.loadA sh39 rfl rfl (nbE rfl) rfl rfl) ?_
 refine .buildSlice (([cP126] : List Cell).map Cell.row) sl23 ze39 rfl rfl rfl rfl rfl (uniform_map (s := 6) (f := Cell.row) (fun _ => rfl)) rfl rfl rfl (by decide) ?_
 refine .appendE ((n302_20 ++ ([cP126] : List Cell)).map Cell.row) (n302_20 ++ ([cP126] : List Cell)).length sl23 ze39 rfl rfl rfl rfl (app_le (by first | omega | (simp only [lateN_len]; omega) | (simp [-List.getD_eq_getElem?_getD]; done) | (simp [-List.getD_eq_getElem?_getD]; omega))) (app_map (by first | omega | (simp only [lateN_len]; omega) | (simp [-List.getD_eq_getElem?_getD]; done) | (simp [-List.getD_eq_getElem?_getD]; omega))) (app_n (by first | omega | (simp only [lateN_len]; omega) | (simp [-List.getD_eq_getElem?_getD]; done) | (simp [-List.getD_eq_getElem?_getD]; omega))) (by first | omega | (simp only [lateN_len]; omega) | (simp [-List.getD_eq_getElem?_getD]; done) | (simp [-List.getD_eq_getElem?_getD]; omega)) (by first | omega | (simp only [lateN_len]; omega) | (simp [-List.getD_eq_getElem?_getD]; done) | (simp [-List.getD_eq_getElem?_getD]; omega)) (by decide) (by decide) ?_
 refine .fa fl27_2 ?_
 refine .storeC si23 rfl rfl rfl rfl rfl rfl (nbE rfl) rfl (.nil ?_)
 exact ⟨n301_20, n302_20 ++ ([cP126] : List Cell), by first | exact ⟨hGr.add (by omega) (hP126.resolve_left (by assumption)) (by assumption), by constructor <;> (simp only [List.length_append, List.length_cons, List.length_nil]; omega), by constructor <;> (simp only [List.length_append, List.length_cons, List.length_nil]; omega)⟩ | exact ⟨hGr.addW (by omega) (hP126.resolve_left (by assumption)) (Classical.not_not.1 (by assumption)), by constructor <;> (simp only [List.length_append, List.length_cons, List.length_nil]; omega), by omega⟩ | exact ⟨hGr, by omega, by omega⟩, Le.mk (.c (.c (.c (.c (.nil))))) (.c (.cons (look_cells rfl (by first | rfl | (simp only [List.cons.injEq, X.v.injEq, X.slc.injEq, Value.int.injEq, and_true, true_and]; omega) | simp_all)) (.c (.c (.nil)))))⟩
 refine .skip ?_
 exact ⟨n301_20, n302_20, by first | exact ⟨hGr.add (by omega) (hP126.resolve_left (by assumption)) (by assumption), by constructor <;> (simp only [List.length_append, List.length_cons, List.length_nil]; omega), by constructor <;> (simp only [List.length_append, List.length_cons, List.length_nil]; omega)⟩ | exact ⟨hGr.addW (by omega) (hP126.resolve_left (by assumption)) (Classical.not_not.1 (by assumption)), by constructor <;> (simp only [List.length_append, List.length_cons, List.length_nil]; omega), by omega⟩ | exact ⟨hGr, by omega, by omega⟩, Le.mk (.c (.c (.c (.c (.nil))))) (.c (.cons (look_cells rfl (by first | rfl | (simp only [List.cons.injEq, X.v.injEq, X.slc.injEq, Value.int.injEq, and_true, true_and]; omega) | simp_all)) (.c (.c (.nil)))))⟩
 refine .region ?_
 refine .mv ?_
 refine .vl (Y.addI rfl rfl (by omega)) ?_
 refine .an ?_
 refine .nil ?_
 exact ⟨i8_20 + 1, n301_j21, n302_j21, ⟨by omega, hJ21.1, hJ21.2.1, hJ21.2.2⟩, by omega, Le.mk (.c (.c (.c (.cons (look_int rfl (by first | rfl | omega)) (.nil))))) (.c (.cons (look_cells rfl (by first | rfl | (simp only [List.cons.injEq, X.v.injEq, X.slc.injEq, Value.int.injEq, and_true, true_and]; omega) | simp_all)) (.c (.c (.nil)))))⟩
 refine .exit ?_
 refine .join1 (fun (n302_j32 : List Cell) => ⟨[(1, .fp (Pln.row p) 0), (2, .ptr 102 0 0 0), (3, .ptr 103 0 0 0)], [(102, .cells [.v (.string ByteArray.empty), .v (.slice none 0 0), .v (.slice none 0 0), .v (.slice none 0 0), .v (.slice none 0 0), .v (.slice none 0 0), .v (.slice none 0 0), .v (.slice none 0 0), vi 0, vi 0, .v (.slice none 0 0)]), (103, .cells [.v (.string nB), .slc 401 1 0 n301_20.length, .slc 402 6 0 n302_j32.length, .fz 1 (n303_16.map irow), .fz 5 (n304_8.map Arr.row), .fz 3 (n305_12.map Strm.row), .v (.slice none 0 0), .v (.slice none 0 0), vi 0, vi 0, .v (.slice none 0 0)]), (401, .rows 1 (n301_20.map irow)), (402, .rows 6 (n302_j32.map Cell.row))]⟩) (fun (n302_j32 : List Cell) => Gr (pn n301_20 n302_j32 n303_16 n304_8 n305_12) ∧ n302_j32.length = n302_20.length) ?_ (fun n302_j32 hJ32 => ?_)
 refine .sr ?_
 refine .an ?_
 refine .nil (.block ?_)
 refine .loop2 (fun (i11_29 : Nat) (n302_29 : List Cell) => ⟨[(1, .fp (Pln.row p) 0), (2, .ptr 102 0 0 0), (3, .ptr 103 0 0 0), (11, vi (i11_29 : Int))], [(102, .cells [.v (.string ByteArray.empty), .v (.slice none 0 0), .v (.slice none 0 0), .v (.slice none 0 0), .v (.slice none 0 0), .v (.slice none 0 0), .v (.slice none 0 0), .v (.slice none 0 0), vi 0, vi 0, .v (.slice none 0 0)]), (103, .cells [.v (.string nB), .slc 401 1 0 n301_20.length, .slc 402 6 0 n302_20.length, .fz 1 (n303_16.map irow), .fz 5 (n304_8.map Arr.row), .fz 3 (n305_12.map Strm.row), .v (.slice none 0 0), .v (.slice none 0 0), vi 0, vi 0, .v (.slice none 0 0)]), (401, .rows 1 (n301_20.map irow)), (402, .rows 6 (n302_29.map Cell.row))]⟩) (fun (i11_29 : Nat) (n302_29 : List Cell) => (n302_29.length = n302_20.length) ∧ (Gr (pn n301_20 n302_29 n303_16 n304_8 n305_12)) ∧ (i11_29 ≤ p.parts.length) ∧ (n302_29.length = n302_20.length)) (fun (i11_29 : Nat) (n302_29 : List Cell) => p.parts.length - i11_29) 0 n302_20 (⟨by omega, hGr, by omega, rfl⟩) (Le.mk (.c (.c (.c (.cons (look_int rfl (by first | rfl | omega)) (.nil))))) (.c (.c (.c (.c (.nil)))))) (fun i11_29 n302_29 hI29 => ?_)
 obtain ⟨hl402, hG2, hb29, hl2⟩ := hI29
 refine .seq (.sr ?_)
 refine .mv ?_
 refine .fa fl36_3 ?_
 refine .ld sh34 ?_
 refine .vl (Y.len (n := p.parts.length) sl34 rfl (congrArg some (List.length_map ..))) (.vl (Y.lss rfl rfl) ?_)
 refine .mv ?_
 refine .splitD (d := 156) rfl (fun c156 => ?_) (fun c156 => ?_)
 refine .gw 156 (Y.move rfl rfl) (.gw 156 (Y.fieldAddr fl27_2 rfl rfl) (.gw 156 (Y.load sh23 rfl rfl rfl rfl) ?_))
 refine .gw 156 (Y.len (n := n302_20.length) sl23 rfl rfl) (.gw 156 (Y.lss rfl rfl) ?_)
 refine .pk ?_
 refine .nil ?_
 refine .condD rfl (fun c162 => ?_) (fun c162 => ?_)
 refine .skip (.seq (.block ?_))
 refine .region ?_
 refine .fa fl36_3 ?_
 refine .ld sh34 ?_
 refine .mv ?_
 refine .vl (Y.indexF (m := i11_29) sl34 rfl rfl (by first | rfl | omega) (row_getD (d := default) (by omega))) ?_
 refine .vl (Y.loadA sh88 rfl rfl (nbE rfl) rfl rfl) ?_
 refine .mv ?_
 refine .callO [103, 401, 402] [] ok55 (late_spec (nm := nB) (ws := n301_20) (cs := n302_29) (ins := n303_16) (mems := n304_8) (streams := n305_12) (f0 := 0) (d0 := 0) (p := (p.parts.getD i11_29 default)) (i := i11_29) (cl := n302_20.length) (by omega) (by omega) (by omega) (hpp _ (getD_in (by omega))) (by omega) (hG2.lateIn (by omega))) rfl (.named rfl rfl (.keep rfl rfl (.keep rfl rfl .nil))) ⟨rfl, rfl, rfl, trivial⟩ rfl (by decide) (fun _ h => by cases h) (fun _ h => by cases h) (by decide) (by decide) ?_
 rintro r objs' ⟨rfl, rfl⟩ _
 refine ⟨⟨rfl, (by intro ob hob; simp only [List.mem_cons, List.not_mem_nil, or_false] at hob; rcases hob with rfl | rfl | rfl <;> rfl), .inl rfl⟩, ?_⟩
 refine .nil (.region ?_)
 refine .mv ?_
 refine .vl (Y.addI rfl rfl (by omega)) ?_
 refine .an ?_
 refine .nil ?_
 exact ⟨i11_29 + 1, lateN n301_20 n302_29 (p.parts.getD i11_29 default) i11_29, ⟨by first | omega | (simp only [lateN_len]; omega) | (simp [-List.getD_eq_getElem?_getD]; done) | (simp [-List.getD_eq_getElem?_getD]; omega), hG2.late (by omega), by omega, (lateN_len _ _).trans hl2⟩, by omega, Le.mk (.c (.c (.c (.cons (look_int rfl (by first | rfl | omega)) (.nil))))) (.c (.c (.c (.c (.nil)))))⟩
 refine .exit ?_
 exact ⟨n302_29, ⟨hG2, hl2⟩, Le.mk (.c (.c (.c (.nil)))) (.c (.cons (look_cells rfl (by first | rfl | (simp only [List.cons.injEq, X.v.injEq, X.slc.injEq, Value.int.injEq, and_true, true_and]; omega) | simp_all)) (.c (.c (.nil)))))⟩
 refine .gz 156 (.gz 156 (.gz 156 ?_))
 refine .gz 156 (.gz 156 ?_)
 refine .pk ?_
 refine .nil (.condF rfl (.exit ?_))
 exact ⟨n302_29, ⟨hG2, hl2⟩, Le.mk (.c (.c (.c (.nil)))) (.c (.cons (look_cells rfl (by first | rfl | (simp only [List.cons.injEq, X.v.injEq, X.slc.injEq, Value.int.injEq, and_true, true_and]; omega) | simp_all)) (.c (.c (.nil)))))⟩
 obtain ⟨hG3, hl3⟩ := hJ32
 refine .seq (.seq (.sh (Sh.nilCell 103 406 1 6 rfl rfl rfl rfl (by decide)) ?_))
 refine .sh (Sh.nilCell 103 407 1 7 rfl rfl rfl rfl (by decide)) (.sh (Sh.nilCell 103 410 1 10 rfl rfl rfl rfl (by decide)) (.region ?_))
 refine .an ?_
 refine .nil (.block ?_)
 refine .loop3 (fun (i12_33 : Nat) (n306_33 : List Int) (n307_33 : List Int) => ⟨[(1, .fp (Pln.row p) 0), (2, .ptr 102 0 0 0), (3, .ptr 103 0 0 0), (12, vi (i12_33 : Int))], [(102, .cells [.v (.string ByteArray.empty), .v (.slice none 0 0), .v (.slice none 0 0), .v (.slice none 0 0), .v (.slice none 0 0), .v (.slice none 0 0), .v (.slice none 0 0), .v (.slice none 0 0), vi 0, vi 0, .v (.slice none 0 0)]), (103, .cells [.v (.string nB), .slc 401 1 0 n301_20.length, .slc 402 6 0 n302_j32.length, .fz 1 (n303_16.map irow), .fz 5 (n304_8.map Arr.row), .fz 3 (n305_12.map Strm.row), .slc 406 1 0 n306_33.length, .slc 407 1 0 n307_33.length, vi 0, vi 0, .slc 410 1 0 0]), (401, .rows 1 (n301_20.map irow)), (402, .rows 6 (n302_j32.map Cell.row)), (406, .rows 1 (n306_33.map irow)), (407, .rows 1 (n307_33.map irow)), (410, .rows 1 (([] : List Int).map irow))]⟩) (fun (i12_33 : Nat) (n306_33 : List Int) (n307_33 : List Int) => ((i12_33 : Int) ≤ ((n305_12.length : Nat) : Int)) ∧ (n306_33.length = i12_33) ∧ (n307_33.length = i12_33) ∧ (∀ j, j < i12_33 → EndOK n301_20 n305_12 n306_33 n307_33 j)) (fun (i12_33 : Nat) (n306_33 : List Int) (n307_33 : List Int) => (((n305_12.length : Nat) : Int) - (i12_33 : Int)).toNat) 0 ([] : List Int) ([] : List Int) (⟨by omega, rfl, rfl, fun j hj => by omega⟩) (Le.mk (.c (.c (.c (.cons (look_int rfl (by first | rfl | omega)) (.nil))))) (.c (.cons (look_cells rfl (by first | rfl | (simp only [List.cons.injEq, X.v.injEq, X.slc.injEq, Value.int.injEq, and_true, true_and]; omega) | simp_all)) (.c (.c (.c (.c (.c (.nil))))))))) (fun i12_33 n306_33 n307_33 hI33 => ?_)
 obtain ⟨hb33, hal, hdl, he⟩ := hI33
 refine .seq (.sr ?_)
 refine .mv ?_
 refine .fa fl27_5 ?_
 refine .ld sh25 ?_
 refine .vl (Y.len (n := n305_12.length) sl25 rfl (congrArg some (List.length_map ..))) (.vl (Y.lss rfl rfl) (.nil ?_))
 refine .condD rfl (fun c176 => ?_) (fun c176 => ?_)
 refine .skip ?_
 refine .join1 (fun (n307_j34 : List Int) => ⟨[(1, .fp (Pln.row p) 0), (2, .ptr 102 0 0 0), (3, .ptr 103 0 0 0), (12, vi (i12_33 : Int))], [(102, .cells [.v (.string ByteArray.empty), .v (.slice none 0 0), .v (.slice none 0 0), .v (.slice none 0 0), .v (.slice none 0 0), .v (.slice none 0 0), .v (.slice none 0 0), .v (.slice none 0 0), vi 0, vi 0, .v (.slice none 0 0)]), (103, .cells [.v (.string nB), .slc 401 1 0 n301_20.length, .slc 402 6 0 n302_j32.length, .fz 1 (n303_16.map irow), .fz 5 (n304_8.map Arr.row), .fz 3 (n305_12.map Strm.row), .slc 406 1 0 ((n306_33 ++ ([pickN n301_20 1 ((3 * i12_33) + 1)] : List Int)).length), .slc 407 1 0 ((n307_33 ++ ([-1] : List Int)).length), vi 0, vi 0, .slc 410 1 0 0]), (401, .rows 1 (n301_20.map irow)), (402, .rows 6 (n302_j32.map Cell.row)), (406, .rows 1 ((n306_33 ++ ([pickN n301_20 1 ((3 * i12_33) + 1)] : List Int)).map irow)), (407, .rows 1 (n307_j34.map irow)), (410, .rows 1 (([] : List Int).map irow))]⟩) (fun (n307_j34 : List Int) => (n307_j34.length = (n307_33 ++ ([-1] : List Int)).length) ∧ (LastD n301_20 n305_12 i12_33 n307_33 n307_j34)) ?_ (fun n307_j34 hJx34 => ?_)
 refine .block (.seq ?_)
 refine .regionHeldJ0 (⟨[(1, .fp (Pln.row p) 0), (2, .ptr 102 0 0 0), (3, .ptr 103 0 0 0), (12, .v (.int .i64 (i12_33 : Int)))], [(102, .cells [.v (.string ByteArray.empty), .v (.slice none 0 0), .v (.slice none 0 0), .v (.slice none 0 0), .v (.slice none 0 0), .v (.slice none 0 0), .v (.slice none 0 0), .v (.slice none 0 0), .v (.int .i64 0), .v (.int .i64 0), .v (.slice none 0 0)]), (103, .cells [.v (.string nB), .slc 401 1 0 n301_20.length, .slc 402 6 0 n302_j32.length, .fz 1 (n303_16.map irow), .fz 5 (n304_8.map Arr.row), .fz 3 (n305_12.map Strm.row), .slc 406 1 0 ((n306_33 ++ ([pickN n301_20 1 ((3 * i12_33) + 1)] : List Int)).length), .slc 407 1 0 n307_33.length, .v (.int .i64 0), .v (.int .i64 0), .slc 410 1 0 0]), (401, .rows 1 (n301_20.map irow)), (402, .rows 6 (n302_j32.map Cell.row)), (406, .rows 1 ((n306_33 ++ ([pickN n301_20 1 ((3 * i12_33) + 1)] : List Int)).map irow)), (407, .rows 1 (n307_33.map irow)), (410, .rows 1 (([] : List Int).map irow))]⟩) rfl ?_ ?_
 refine .blind 0 rfl (by kernel_rfl) (Blind.fieldAddr fl27_6 rfl rfl) (by decide) (.blind 3 rfl (by kernel_rfl) (Blind.move rfl rfl) (by decide) ?_)
 refine .blind 4 rfl (by kernel_rfl) (Blind.mulI rfl rfl (by omega)) (by decide) ?_
 refine .blind 5 rfl (by kernel_rfl) (Blind.addI rfl rfl (by omega)) (by decide) ?_
 refine .blind 6 rfl (by kernel_rfl) (Blind.convK ii3 ii5 rfl (by first | rfl | exact IntWalk.u8_in _ (by omega))) (by decide) ?_
 refine .go0 ?_
 refine .two 1 2 rfl rfl (by kernel_rfl) ?_ ?_
 refine .ld sh22 ?_
 refine .nil ⟨rfl, ?_⟩
 refine .one 2 rfl (by kernel_rfl) (.vl (Y.loadA sh27 rfl rfl (nbE rfl) rfl rfl) ?_)
 refine .nil ⟨rfl, ?_⟩
 refine .one 7 rfl (by kernel_rfl) ?_
 refine .callLP [401, 402, 406, 407, 410] ok56 (pickF_spec (n := (⟨nB, n301_20, n302_j32, n303_16, n304_8, n305_12, n306_33, n307_33, 0, 0, ([] : List Int)⟩ : Netlist)) (w := 1) (k := ((3 * i12_33) + 1)) (by show (n301_20).length ≤ 1048576; omega) (by omega)) rfl (.agg (.keep rfl rfl (.lend rfl rfl (lend_le (by first | omega | (simp only [lateN_len]; omega) | (simp [-List.getD_eq_getElem?_getD]; done) | (simp [-List.getD_eq_getElem?_getD]; omega))) (lend_eq (by first | omega | (simp only [lateN_len]; omega) | (simp [-List.getD_eq_getElem?_getD]; done) | (simp [-List.getD_eq_getElem?_getD]; omega))) (.lend rfl rfl (lend_le (by first | omega | (simp only [lateN_len]; omega) | (simp [-List.getD_eq_getElem?_getD]; done) | (simp [-List.getD_eq_getElem?_getD]; omega))) (lend_eq (by first | omega | (simp only [lateN_len]; omega) | (simp [-List.getD_eq_getElem?_getD]; done) | (simp [-List.getD_eq_getElem?_getD]; omega))) (.keep rfl rfl (.keep rfl rfl (.keep rfl rfl (.lend rfl rfl (lend_le (by first | omega | (simp only [lateN_len]; omega) | (simp [-List.getD_eq_getElem?_getD]; done) | (simp [-List.getD_eq_getElem?_getD]; omega))) (lend_eq (by first | omega | (simp only [lateN_len]; omega) | (simp [-List.getD_eq_getElem?_getD]; done) | (simp [-List.getD_eq_getElem?_getD]; omega))) (.lend rfl rfl (lend_le (by first | omega | (simp only [lateN_len]; omega) | (simp [-List.getD_eq_getElem?_getD]; done) | (simp [-List.getD_eq_getElem?_getD]; omega))) (lend_eq (by first | omega | (simp only [lateN_len]; omega) | (simp [-List.getD_eq_getElem?_getD]; done) | (simp [-List.getD_eq_getElem?_getD]; omega))) (.keep rfl rfl (.keep rfl rfl (.lend rfl rfl (lend_le (by first | omega | (simp only [lateN_len]; omega) | (simp [-List.getD_eq_getElem?_getD]; done) | (simp [-List.getD_eq_getElem?_getD]; omega))) (lend_eq (by first | omega | (simp only [lateN_len]; omega) | (simp [-List.getD_eq_getElem?_getD]; done) | (simp [-List.getD_eq_getElem?_getD]; omega))) .nil))))))))))) rfl (.keep rfl rfl (.keep rfl rfl .nil))) (lend2 rfl (owns_map irow_frees) (lend2 rfl (owns_map Cell.row_frees) (lend2 rfl (owns_map irow_frees) (lend2 rfl (owns_map irow_frees) (lend1 rfl (owns_map irow_frees)))))) (by decide) rfl trivial ?_
 refine .nil ⟨rfl, ?_⟩
 refine .one 8 rfl (by kernel_rfl) ?_
 refine .buildSlice (([pickN n301_20 1 ((3 * i12_33) + 1)] : List Int).map irow) sl22 ze3 rfl rfl rfl rfl rfl (uniform_map (s := 1) (f := irow) (fun _ => rfl)) rfl rfl rfl (by decide) ?_
 refine .nil ⟨rfl, ?_⟩
 refine .one 9 rfl (by kernel_rfl) ?_
 refine .appendE ((n306_33 ++ ([pickN n301_20 1 ((3 * i12_33) + 1)] : List Int)).map irow) (n306_33 ++ ([pickN n301_20 1 ((3 * i12_33) + 1)] : List Int)).length sl22 ze3 rfl rfl rfl rfl (app_le (by first | omega | (simp only [lateN_len]; omega) | (simp [-List.getD_eq_getElem?_getD]; done) | (simp [-List.getD_eq_getElem?_getD]; omega))) (app_map (by first | omega | (simp only [lateN_len]; omega) | (simp [-List.getD_eq_getElem?_getD]; done) | (simp [-List.getD_eq_getElem?_getD]; omega))) (app_n (by first | omega | (simp only [lateN_len]; omega) | (simp [-List.getD_eq_getElem?_getD]; done) | (simp [-List.getD_eq_getElem?_getD]; omega))) (by first | omega | (simp only [lateN_len]; omega) | (simp [-List.getD_eq_getElem?_getD]; done) | (simp [-List.getD_eq_getElem?_getD]; omega)) (by first | omega | (simp only [lateN_len]; omega) | (simp [-List.getD_eq_getElem?_getD]; done) | (simp [-List.getD_eq_getElem?_getD]; omega)) (by decide) (by decide) ?_
 refine .nil ⟨rfl, ?_⟩
 refine .one 10 rfl (by kernel_rfl) ?_
 refine .fa fl27_6 ?_
 refine .nil ⟨rfl, ?_⟩
 refine .one 11 rfl (by kernel_rfl) (.storeC si22 rfl rfl rfl rfl rfl rfl (nbE rfl) rfl ?_)
 refine .nil ⟨rfl, ?_⟩
 refine .done (by kernel_rfl) ?_
 exact Le.mk (.c (.c (.c (.c (.nil))))) (.c (.c (.c (.c (.c (.c (.c (.nil))))))))
 refine .vl (Y.loadA sh27 rfl rfl (nbE rfl) rfl rfl) ?_
 refine .nil ⟨rfl, ?_⟩
 refine .two 1 7 rfl rfl (by kernel_rfl) ?_ ?_
 refine .ld sh22 ?_
 refine .nil ⟨rfl, ?_⟩
 refine .one 7 rfl (by kernel_rfl) ?_
 refine .callLP [401, 402, 406, 407, 410] ok56 (pickF_spec (n := (⟨nB, n301_20, n302_j32, n303_16, n304_8, n305_12, n306_33, n307_33, 0, 0, ([] : List Int)⟩ : Netlist)) (w := 1) (k := ((3 * i12_33) + 1)) (by show (n301_20).length ≤ 1048576; omega) (by omega)) rfl (.agg (.keep rfl rfl (.lend rfl rfl (lend_le (by first | omega | (simp only [lateN_len]; omega) | (simp [-List.getD_eq_getElem?_getD]; done) | (simp [-List.getD_eq_getElem?_getD]; omega))) (lend_eq (by first | omega | (simp only [lateN_len]; omega) | (simp [-List.getD_eq_getElem?_getD]; done) | (simp [-List.getD_eq_getElem?_getD]; omega))) (.lend rfl rfl (lend_le (by first | omega | (simp only [lateN_len]; omega) | (simp [-List.getD_eq_getElem?_getD]; done) | (simp [-List.getD_eq_getElem?_getD]; omega))) (lend_eq (by first | omega | (simp only [lateN_len]; omega) | (simp [-List.getD_eq_getElem?_getD]; done) | (simp [-List.getD_eq_getElem?_getD]; omega))) (.keep rfl rfl (.keep rfl rfl (.keep rfl rfl (.lend rfl rfl (lend_le (by first | omega | (simp only [lateN_len]; omega) | (simp [-List.getD_eq_getElem?_getD]; done) | (simp [-List.getD_eq_getElem?_getD]; omega))) (lend_eq (by first | omega | (simp only [lateN_len]; omega) | (simp [-List.getD_eq_getElem?_getD]; done) | (simp [-List.getD_eq_getElem?_getD]; omega))) (.lend rfl rfl (lend_le (by first | omega | (simp only [lateN_len]; omega) | (simp [-List.getD_eq_getElem?_getD]; done) | (simp [-List.getD_eq_getElem?_getD]; omega))) (lend_eq (by first | omega | (simp only [lateN_len]; omega) | (simp [-List.getD_eq_getElem?_getD]; done) | (simp [-List.getD_eq_getElem?_getD]; omega))) (.keep rfl rfl (.keep rfl rfl (.lend rfl rfl (lend_le (by first | omega | (simp only [lateN_len]; omega) | (simp [-List.getD_eq_getElem?_getD]; done) | (simp [-List.getD_eq_getElem?_getD]; omega))) (lend_eq (by first | omega | (simp only [lateN_len]; omega) | (simp [-List.getD_eq_getElem?_getD]; done) | (simp [-List.getD_eq_getElem?_getD]; omega))) .nil))))))))))) rfl (.keep rfl rfl (.keep rfl rfl .nil))) (lend2 rfl (owns_map irow_frees) (lend2 rfl (owns_map Cell.row_frees) (lend2 rfl (owns_map irow_frees) (lend2 rfl (owns_map irow_frees) (lend1 rfl (owns_map irow_frees)))))) (by decide) rfl trivial ?_
 refine .nil ⟨rfl, ?_⟩
 refine .one 8 rfl (by kernel_rfl) ?_
 refine .buildSlice (([pickN n301_20 1 ((3 * i12_33) + 1)] : List Int).map irow) sl22 ze3 rfl rfl rfl rfl rfl (uniform_map (s := 1) (f := irow) (fun _ => rfl)) rfl rfl rfl (by decide) ?_
 refine .nil ⟨rfl, ?_⟩
 refine .one 9 rfl (by kernel_rfl) ?_
 refine .appendE ((n306_33 ++ ([pickN n301_20 1 ((3 * i12_33) + 1)] : List Int)).map irow) (n306_33 ++ ([pickN n301_20 1 ((3 * i12_33) + 1)] : List Int)).length sl22 ze3 rfl rfl rfl rfl (app_le (by first | omega | (simp only [lateN_len]; omega) | (simp [-List.getD_eq_getElem?_getD]; done) | (simp [-List.getD_eq_getElem?_getD]; omega))) (app_map (by first | omega | (simp only [lateN_len]; omega) | (simp [-List.getD_eq_getElem?_getD]; done) | (simp [-List.getD_eq_getElem?_getD]; omega))) (app_n (by first | omega | (simp only [lateN_len]; omega) | (simp [-List.getD_eq_getElem?_getD]; done) | (simp [-List.getD_eq_getElem?_getD]; omega))) (by first | omega | (simp only [lateN_len]; omega) | (simp [-List.getD_eq_getElem?_getD]; done) | (simp [-List.getD_eq_getElem?_getD]; omega)) (by first | omega | (simp only [lateN_len]; omega) | (simp [-List.getD_eq_getElem?_getD]; done) | (simp [-List.getD_eq_getElem?_getD]; omega)) (by decide) (by decide) ?_
 refine .nil ⟨rfl, ?_⟩
 refine .one 10 rfl (by kernel_rfl) ?_
 refine .fa fl27_6 ?_
 refine .nil ⟨rfl, ?_⟩
 refine .one 11 rfl (by kernel_rfl) (.storeC si22 rfl rfl rfl rfl rfl rfl (nbE rfl) rfl ?_)
 refine .nil ⟨rfl, ?_⟩
 refine .done (by kernel_rfl) ?_
 exact Le.mk (.c (.c (.c (.c (.nil))))) (.c (.c (.c (.c (.c (.c (.c (.nil))))))))
 refine .callLP [401, 402, 406, 407, 410] ok56 (pickF_spec (n := (⟨nB, n301_20, n302_j32, n303_16, n304_8, n305_12, n306_33, n307_33, 0, 0, ([] : List Int)⟩ : Netlist)) (w := 1) (k := ((3 * i12_33) + 1)) (by show (n301_20).length ≤ 1048576; omega) (by omega)) rfl (.agg (.keep rfl rfl (.lend rfl rfl (lend_le (by first | omega | (simp only [lateN_len]; omega) | (simp [-List.getD_eq_getElem?_getD]; done) | (simp [-List.getD_eq_getElem?_getD]; omega))) (lend_eq (by first | omega | (simp only [lateN_len]; omega) | (simp [-List.getD_eq_getElem?_getD]; done) | (simp [-List.getD_eq_getElem?_getD]; omega))) (.lend rfl rfl (lend_le (by first | omega | (simp only [lateN_len]; omega) | (simp [-List.getD_eq_getElem?_getD]; done) | (simp [-List.getD_eq_getElem?_getD]; omega))) (lend_eq (by first | omega | (simp only [lateN_len]; omega) | (simp [-List.getD_eq_getElem?_getD]; done) | (simp [-List.getD_eq_getElem?_getD]; omega))) (.keep rfl rfl (.keep rfl rfl (.keep rfl rfl (.lend rfl rfl (lend_le (by first | omega | (simp only [lateN_len]; omega) | (simp [-List.getD_eq_getElem?_getD]; done) | (simp [-List.getD_eq_getElem?_getD]; omega))) (lend_eq (by first | omega | (simp only [lateN_len]; omega) | (simp [-List.getD_eq_getElem?_getD]; done) | (simp [-List.getD_eq_getElem?_getD]; omega))) (.lend rfl rfl (lend_le (by first | omega | (simp only [lateN_len]; omega) | (simp [-List.getD_eq_getElem?_getD]; done) | (simp [-List.getD_eq_getElem?_getD]; omega))) (lend_eq (by first | omega | (simp only [lateN_len]; omega) | (simp [-List.getD_eq_getElem?_getD]; done) | (simp [-List.getD_eq_getElem?_getD]; omega))) (.keep rfl rfl (.keep rfl rfl (.lend rfl rfl (lend_le (by first | omega | (simp only [lateN_len]; omega) | (simp [-List.getD_eq_getElem?_getD]; done) | (simp [-List.getD_eq_getElem?_getD]; omega))) (lend_eq (by first | omega | (simp only [lateN_len]; omega) | (simp [-List.getD_eq_getElem?_getD]; done) | (simp [-List.getD_eq_getElem?_getD]; omega))) .nil))))))))))) rfl (.keep rfl rfl (.keep rfl rfl .nil))) (lend2 rfl (owns_map irow_frees) (lend2 rfl (owns_map Cell.row_frees) (lend2 rfl (owns_map irow_frees) (lend2 rfl (owns_map irow_frees) (lend1 rfl (owns_map irow_frees)))))) (by decide) rfl trivial ?_
 refine .nil ⟨rfl, ?_⟩
 refine .two 1 8 rfl rfl (by kernel_rfl) ?_ ?_
 refine .ld sh22 ?_
 refine .nil ⟨rfl, ?_⟩
 refine .one 8 rfl (by kernel_rfl) ?_
 refine .buildSlice (([pickN n301_20 1 ((3 * i12_33) + 1)] : List Int).map irow) sl22 ze3 rfl rfl rfl rfl rfl (uniform_map (s := 1) (f := irow) (fun _ => rfl)) rfl rfl rfl (by decide) ?_
 refine .nil ⟨rfl, ?_⟩
 refine .one 9 rfl (by kernel_rfl) ?_
 refine .appendE ((n306_33 ++ ([pickN n301_20 1 ((3 * i12_33) + 1)] : List Int)).map irow) (n306_33 ++ ([pickN n301_20 1 ((3 * i12_33) + 1)] : List Int)).length sl22 ze3 rfl rfl rfl rfl (app_le (by first | omega | (simp only [lateN_len]; omega) | (simp [-List.getD_eq_getElem?_getD]; done) | (simp [-List.getD_eq_getElem?_getD]; omega))) (app_map (by first | omega | (simp only [lateN_len]; omega) | (simp [-List.getD_eq_getElem?_getD]; done) | (simp [-List.getD_eq_getElem?_getD]; omega))) (app_n (by first | omega | (simp only [lateN_len]; omega) | (simp [-List.getD_eq_getElem?_getD]; done) | (simp [-List.getD_eq_getElem?_getD]; omega))) (by first | omega | (simp only [lateN_len]; omega) | (simp [-List.getD_eq_getElem?_getD]; done) | (simp [-List.getD_eq_getElem?_getD]; omega)) (by first | omega | (simp only [lateN_len]; omega) | (simp [-List.getD_eq_getElem?_getD]; done) | (simp [-List.getD_eq_getElem?_getD]; omega)) (by decide) (by decide) ?_
 refine .nil ⟨rfl, ?_⟩
 refine .one 10 rfl (by kernel_rfl) ?_
 refine .fa fl27_6 ?_
 refine .nil ⟨rfl, ?_⟩
 refine .one 11 rfl (by kernel_rfl) (.storeC si22 rfl rfl rfl rfl rfl rfl (nbE rfl) rfl ?_)
 refine .nil ⟨rfl, ?_⟩
 refine .done (by kernel_rfl) ?_
 exact Le.mk (.c (.c (.c (.c (.nil))))) (.c (.c (.c (.c (.c (.c (.c (.nil))))))))
 refine .buildSlice (([pickN n301_20 1 ((3 * i12_33) + 1)] : List Int).map irow) sl22 ze3 rfl rfl rfl rfl rfl (uniform_map (s := 1) (f := irow) (fun _ => rfl)) rfl rfl rfl (by decide) ?_
 refine .nil ⟨rfl, ?_⟩
 refine .one 1 rfl (by kernel_rfl) ?_
 refine .ld sh22 ?_
 refine .nil ⟨rfl, ?_⟩
 refine .one 9 rfl (by kernel_rfl) ?_
 refine .appendE ((n306_33 ++ ([pickN n301_20 1 ((3 * i12_33) + 1)] : List Int)).map irow) (n306_33 ++ ([pickN n301_20 1 ((3 * i12_33) + 1)] : List Int)).length sl22 ze3 rfl rfl rfl rfl (app_le (by first | omega | (simp only [lateN_len]; omega) | (simp [-List.getD_eq_getElem?_getD]; done) | (simp [-List.getD_eq_getElem?_getD]; omega))) (app_map (by first | omega | (simp only [lateN_len]; omega) | (simp [-List.getD_eq_getElem?_getD]; done) | (simp [-List.getD_eq_getElem?_getD]; omega))) (app_n (by first | omega | (simp only [lateN_len]; omega) | (simp [-List.getD_eq_getElem?_getD]; done) | (simp [-List.getD_eq_getElem?_getD]; omega))) (by first | omega | (simp only [lateN_len]; omega) | (simp [-List.getD_eq_getElem?_getD]; done) | (simp [-List.getD_eq_getElem?_getD]; omega)) (by first | omega | (simp only [lateN_len]; omega) | (simp [-List.getD_eq_getElem?_getD]; done) | (simp [-List.getD_eq_getElem?_getD]; omega)) (by decide) (by decide) ?_
 refine .nil ⟨rfl, ?_⟩
 refine .one 10 rfl (by kernel_rfl) ?_
 refine .fa fl27_6 ?_
 refine .nil ⟨rfl, ?_⟩
 refine .one 11 rfl (by kernel_rfl) (.storeC si22 rfl rfl rfl rfl rfl rfl (nbE rfl) rfl ?_)
 refine .nil ⟨rfl, ?_⟩
 refine .done (by kernel_rfl) ?_
 exact Le.mk (.c (.c (.c (.c (.nil))))) (.c (.c (.c (.c (.c (.c (.c (.nil))))))))
 refine .le (st' := ⟨[(1, .fp (Pln.row p) 0), (2, .ptr 102 0 0 0), (3, .ptr 103 0 0 0), (12, vi (i12_33 : Int))], [(102, .cells [.v (.string ByteArray.empty), .v (.slice none 0 0), .v (.slice none 0 0), .v (.slice none 0 0), .v (.slice none 0 0), .v (.slice none 0 0), .v (.slice none 0 0), .v (.slice none 0 0), vi 0, vi 0, .v (.slice none 0 0)]), (103, .cells [.v (.string nB), .slc 401 1 0 n301_20.length, .slc 402 6 0 n302_j32.length, .fz 1 (n303_16.map irow), .fz 5 (n304_8.map Arr.row), .fz 3 (n305_12.map Strm.row), .slc 406 1 0 ((n306_33 ++ ([pickN n301_20 1 ((3 * i12_33) + 1)] : List Int)).length), .slc 407 1 0 n307_33.length, vi 0, vi 0, .slc 410 1 0 0]), (401, .rows 1 (n301_20.map irow)), (402, .rows 6 (n302_j32.map Cell.row)), (406, .rows 1 ((n306_33 ++ ([pickN n301_20 1 ((3 * i12_33) + 1)] : List Int)).map irow)), (407, .rows 1 (n307_33.map irow)), (410, .rows 1 (([] : List Int).map irow))]⟩) (Le.mk (.c (.c (.c (.c (.nil))))) (.c (.c (.c (.c (.c (.c (.c (.nil))))))))) ?_
 refine .sr ?_
 refine .fa fl27_7 ?_
 refine .ld sh22 ?_
 refine .buildSlice (([-1] : List Int).map irow) sl22 ze3 rfl rfl rfl rfl rfl (uniform_map (s := 1) (f := irow) (fun _ => rfl)) rfl rfl rfl (by decide) ?_
 refine .appendE ((n307_33 ++ ([-1] : List Int)).map irow) (n307_33 ++ ([-1] : List Int)).length sl22 ze3 rfl rfl rfl rfl (app_le (by first | omega | (simp only [lateN_len]; omega) | (simp [-List.getD_eq_getElem?_getD]; done) | (simp [-List.getD_eq_getElem?_getD]; omega))) (app_map (by first | omega | (simp only [lateN_len]; omega) | (simp [-List.getD_eq_getElem?_getD]; done) | (simp [-List.getD_eq_getElem?_getD]; omega))) (app_n (by first | omega | (simp only [lateN_len]; omega) | (simp [-List.getD_eq_getElem?_getD]; done) | (simp [-List.getD_eq_getElem?_getD]; omega))) (by first | omega | (simp only [lateN_len]; omega) | (simp [-List.getD_eq_getElem?_getD]; done) | (simp [-List.getD_eq_getElem?_getD]; omega)) (by first | omega | (simp only [lateN_len]; omega) | (simp [-List.getD_eq_getElem?_getD]; done) | (simp [-List.getD_eq_getElem?_getD]; omega)) (by decide) (by decide) ?_
 refine .fa fl27_7 ?_
 refine .storeC si22 rfl rfl rfl rfl rfl rfl (nbE rfl) rfl (.nil ?_)
 refine .le (st' := ⟨[(1, .fp (Pln.row p) 0), (2, .ptr 102 0 0 0), (3, .ptr 103 0 0 0), (12, vi (i12_33 : Int))], [(102, .cells [.v (.string ByteArray.empty), .v (.slice none 0 0), .v (.slice none 0 0), .v (.slice none 0 0), .v (.slice none 0 0), .v (.slice none 0 0), .v (.slice none 0 0), .v (.slice none 0 0), vi 0, vi 0, .v (.slice none 0 0)]), (103, .cells [.v (.string nB), .slc 401 1 0 n301_20.length, .slc 402 6 0 n302_j32.length, .fz 1 (n303_16.map irow), .fz 5 (n304_8.map Arr.row), .fz 3 (n305_12.map Strm.row), .slc 406 1 0 ((n306_33 ++ ([pickN n301_20 1 ((3 * i12_33) + 1)] : List Int)).length), .slc 407 1 0 ((n307_33 ++ ([-1] : List Int)).length), vi 0, vi 0, .slc 410 1 0 0]), (401, .rows 1 (n301_20.map irow)), (402, .rows 6 (n302_j32.map Cell.row)), (406, .rows 1 ((n306_33 ++ ([pickN n301_20 1 ((3 * i12_33) + 1)] : List Int)).map irow)), (407, .rows 1 ((n307_33 ++ ([-1] : List Int)).map irow)), (410, .rows 1 (([] : List Int).map irow))]⟩) (Le.mk (.c (.c (.c (.c (.nil))))) (.c (.c (.c (.c (.c (.c (.c (.nil))))))))) ?_
 refine .sr ?_
 refine .fa fl27_5 ?_
 refine .ld sh25 ?_
 refine .mv ?_
 refine .vl (Y.indexF (m := i12_33) sl25 rfl rfl (by first | rfl | omega) (row_getD (d := default) (by omega))) ?_
 refine .fa fl83_2 ?_
 refine .ld sh4 ?_
 refine .nil ?_
 refine .cond rfl (fun c200 => ?_) (fun c200 => ?_)
 refine .regionHeld [103] [102, 103, 401, 402, 406, 407, 410] rfl (.blind 0 rfl (by kernel_rfl) (Blind.fieldAddr fl27_7 rfl rfl) (by decide) (.load 1 rfl (by kernel_rfl) sh22 rfl rfl rfl rfl rfl (by decide) ?_))
 refine .blind 2 rfl (by kernel_rfl) (Blind.move rfl rfl) (by decide) (.loadA 3 rfl (by kernel_rfl) sh27 rfl rfl rfl (nbE rfl) rfl rfl (by decide) (.blind 4 rfl (by kernel_rfl) (Blind.fieldAddr fl27_5 rfl rfl) (by decide) ?_))
 refine .load 5 rfl (by kernel_rfl) sh25 rfl rfl rfl rfl rfl (by decide) (.blind 6 rfl (by kernel_rfl) (Blind.move rfl rfl) (by decide) ?_)
 refine .blind 7 rfl (by kernel_rfl) (Blind.indexF (m := i12_33) sl25 rfl rfl (by first | rfl | omega) (row_getD (d := default) (by omega))) (by decide) ?_
 refine .blind 8 rfl (by kernel_rfl) (Blind.fieldAddr fl83_1 rfl rfl) (by decide) (.load 9 rfl (by kernel_rfl) sh3 rfl rfl rfl rfl rfl (by decide) (.goL rfl rfl (namesIn.cells rfl rfl rfl namesIn.nil) ?_))
 refine .one 10 rfl (by kernel_rfl) ?_
 refine .callLP [401, 402, 406, 407, 410] ok56 (pickF_spec (n := (⟨nB, n301_20, n302_j32, n303_16, n304_8, n305_12, n306_33 ++ ([pickN n301_20 1 ((3 * i12_33) + 1)] : List Int), n307_33 ++ ([-1] : List Int), 0, 0, ([] : List Int)⟩ : Netlist)) (w := ((n305_12.getD i12_33 default).width)) (k := 255) (by show (n301_20).length ≤ 1048576; omega) (by omega)) rfl (.agg (.keep rfl rfl (.lend rfl rfl (lend_le (by first | omega | (simp only [lateN_len]; omega) | (simp [-List.getD_eq_getElem?_getD]; done) | (simp [-List.getD_eq_getElem?_getD]; omega))) (lend_eq (by first | omega | (simp only [lateN_len]; omega) | (simp [-List.getD_eq_getElem?_getD]; done) | (simp [-List.getD_eq_getElem?_getD]; omega))) (.lend rfl rfl (lend_le (by first | omega | (simp only [lateN_len]; omega) | (simp [-List.getD_eq_getElem?_getD]; done) | (simp [-List.getD_eq_getElem?_getD]; omega))) (lend_eq (by first | omega | (simp only [lateN_len]; omega) | (simp [-List.getD_eq_getElem?_getD]; done) | (simp [-List.getD_eq_getElem?_getD]; omega))) (.keep rfl rfl (.keep rfl rfl (.keep rfl rfl (.lend rfl rfl (lend_le (by first | omega | (simp only [lateN_len]; omega) | (simp [-List.getD_eq_getElem?_getD]; done) | (simp [-List.getD_eq_getElem?_getD]; omega))) (lend_eq (by first | omega | (simp only [lateN_len]; omega) | (simp [-List.getD_eq_getElem?_getD]; done) | (simp [-List.getD_eq_getElem?_getD]; omega))) (.lend rfl rfl (lend_le (by first | omega | (simp only [lateN_len]; omega) | (simp [-List.getD_eq_getElem?_getD]; done) | (simp [-List.getD_eq_getElem?_getD]; omega))) (lend_eq (by first | omega | (simp only [lateN_len]; omega) | (simp [-List.getD_eq_getElem?_getD]; done) | (simp [-List.getD_eq_getElem?_getD]; omega))) (.keep rfl rfl (.keep rfl rfl (.lend rfl rfl (lend_le (by first | omega | (simp only [lateN_len]; omega) | (simp [-List.getD_eq_getElem?_getD]; done) | (simp [-List.getD_eq_getElem?_getD]; omega))) (lend_eq (by first | omega | (simp only [lateN_len]; omega) | (simp [-List.getD_eq_getElem?_getD]; done) | (simp [-List.getD_eq_getElem?_getD]; omega))) .nil))))))))))) rfl (.keep rfl rfl (.keep rfl rfl .nil))) (lend2 rfl (owns_map irow_frees) (lend2 rfl (owns_map Cell.row_frees) (lend2 rfl (owns_map irow_frees) (lend2 rfl (owns_map irow_frees) (lend1 rfl (owns_map irow_frees)))))) (by decide) rfl trivial ?_
 refine .nil ⟨rfl, ?_⟩
 refine .one 11 rfl (by kernel_rfl) ?_
 refine .vl (Y.indexO (m := i12_33) sl22 rfl rfl (by first | rfl | omega) (by first | omega | (simp only [lateN_len]; omega) | (simp [-List.getD_eq_getElem?_getD]; done) | (simp [-List.getD_eq_getElem?_getD]; omega))) ?_
 refine .nil ⟨rfl, ?_⟩
 refine .one 12 rfl (by kernel_rfl) ?_
 refine .storeE (((n307_33 ++ ([-1] : List Int)).set i12_33 (pickN n301_20 ((n305_12.getD i12_33 default).width) 255)).map irow) si3 rfl rfl rfl rfl rfl rfl rfl (row_getD0 (d := 0) (by first | omega | (simp only [lateN_len]; omega) | (simp [-List.getD_eq_getElem?_getD]; done) | (simp [-List.getD_eq_getElem?_getD]; omega))) (nbE rfl) (set_map0 rfl) ?_
 refine .nil ⟨rfl, ?_⟩
 refine .done (by kernel_rfl) ?_
 exact ⟨(n307_33 ++ ([-1] : List Int)).set i12_33 (pickN n301_20 ((n305_12.getD i12_33 default).width) 255), ⟨by first | omega | (simp only [lateN_len]; omega) | (simp [-List.getD_eq_getElem?_getD]; done) | (simp [-List.getD_eq_getElem?_getD]; omega), by first | exact lastD_in hdl (pickN_ok (hG3.ground.str (by show i12_33 < n305_12.length; omega)).1 _) (by assumption) | exact lastD_no hdl (by simpa using (by assumption))⟩, Le.mk (.c (.c (.c (.c (.nil))))) (.c (.c (.c (.c (.c (.c (.c (.nil))))))))⟩
 refine .skip ?_
 exact ⟨n307_33 ++ ([-1] : List Int), ⟨by omega, by first | exact lastD_in hdl (pickN_ok (hG3.ground.str (by show i12_33 < n305_12.length; omega)).1 _) (by assumption) | exact lastD_no hdl (by simpa using (by assumption))⟩, Le.mk (.c (.c (.c (.c (.nil))))) (.c (.c (.c (.c (.c (.c (.c (.nil))))))))⟩
 obtain ⟨hlj34_407, hJ34⟩ := hJx34
 refine .region ?_
 refine .mv ?_
 refine .vl (Y.addI rfl rfl (by omega)) ?_
 refine .an ?_
 refine .nil ?_
 exact ⟨i12_33 + 1, n306_33 ++ ([pickN n301_20 1 ((3 * i12_33) + 1)] : List Int), n307_j34, ⟨by omega, by rw [List.length_append, hal]; rfl, hJ34.1, ends_step hal he (pickN_ok hG3.ground.one _) hJ34⟩, by omega, Le.mk (.c (.c (.c (.cons (look_int rfl (by first | rfl | omega)) (.nil))))) (.c (.cons (look_cells rfl (by first | rfl | (simp only [List.cons.injEq, X.v.injEq, X.slc.injEq, Value.int.injEq, and_true, true_and]; omega) | simp_all)) (.c (.c (.c (.c (.c (.nil))))))))⟩
 refine .exit (.seq (.sr ?_))
 refine .an ?_
 refine .nil (.block ?_)
 refine .loop2 (fun (i13_40 : Nat) (n310_40 : List Int) => ⟨[(1, .fp (Pln.row p) 0), (2, .ptr 102 0 0 0), (3, .ptr 103 0 0 0), (13, vi (i13_40 : Int))], [(102, .cells [.v (.string ByteArray.empty), .v (.slice none 0 0), .v (.slice none 0 0), .v (.slice none 0 0), .v (.slice none 0 0), .v (.slice none 0 0), .v (.slice none 0 0), .v (.slice none 0 0), vi 0, vi 0, .v (.slice none 0 0)]), (103, .cells [.v (.string nB), .slc 401 1 0 n301_20.length, .slc 402 6 0 n302_j32.length, .fz 1 (n303_16.map irow), .fz 5 (n304_8.map Arr.row), .fz 3 (n305_12.map Strm.row), .slc 406 1 0 n306_33.length, .slc 407 1 0 n307_33.length, vi 0, vi 0, .slc 410 1 0 n310_40.length]), (401, .rows 1 (n301_20.map irow)), (402, .rows 6 (n302_j32.map Cell.row)), (406, .rows 1 (n306_33.map irow)), (407, .rows 1 (n307_33.map irow)), (410, .rows 1 (n310_40.map irow))]⟩) (fun (i13_40 : Nat) (n310_40 : List Int) => ((i13_40 : Int) ≤ ((p.rets.length : Nat) : Int)) ∧ (∀ m ∈ n310_40, In m n301_20.length) ∧ (n310_40.length = i13_40)) (fun (i13_40 : Nat) (n310_40 : List Int) => (((p.rets.length : Nat) : Int) - (i13_40 : Int)).toNat) 0 ([] : List Int) (⟨by omega, fun m h => (by cases h), rfl⟩) (Le.mk (.c (.c (.c (.cons (look_int rfl (by first | rfl | omega)) (.nil))))) (.c (.cons (look_cells rfl (by first | rfl | (simp only [List.cons.injEq, X.v.injEq, X.slc.injEq, Value.int.injEq, and_true, true_and]; omega) | simp_all)) (.c (.c (.c (.c (.c (.nil))))))))) (fun i13_40 n310_40 hI40 => ?_)
 obtain ⟨hb40, hr, hrl⟩ := hI40
 refine .seq (.sr ?_)
 refine .mv ?_
 refine .fa fl36_4 ?_
 refine .ld sh33 ?_
 refine .vl (Y.len (n := p.rets.length) sl33 rfl (congrArg some (List.length_map ..))) (.vl (Y.lss rfl rfl) (.nil ?_))
 refine .condD rfl (fun c217 => ?_) (fun c217 => ?_)
 refine .skip (.seq (.block ?_))
 have hk1 := hk.rets (p.rets.getD i13_40 0) (getD_in (by omega))
 refine .regionHeldJ0 (⟨[(1, .fp (Pln.row p) 0), (2, .ptr 102 0 0 0), (3, .ptr 103 0 0 0), (13, .v (.int .i64 (i13_40 : Int)))], [(102, .cells [.v (.string ByteArray.empty), .v (.slice none 0 0), .v (.slice none 0 0), .v (.slice none 0 0), .v (.slice none 0 0), .v (.slice none 0 0), .v (.slice none 0 0), .v (.slice none 0 0), .v (.int .i64 0), .v (.int .i64 0), .v (.slice none 0 0)]), (103, .cells [.v (.string nB), .slc 401 1 0 n301_20.length, .slc 402 6 0 n302_j32.length, .fz 1 (n303_16.map irow), .fz 5 (n304_8.map Arr.row), .fz 3 (n305_12.map Strm.row), .slc 406 1 0 n306_33.length, .slc 407 1 0 n307_33.length, .v (.int .i64 0), .v (.int .i64 0), .slc 410 1 0 ((n310_40 ++ ([((p.rets.getD i13_40 0 : Nat) : Int) % ((n301_20.length : Nat) : Int)] : List Int)).length)]), (401, .rows 1 (n301_20.map irow)), (402, .rows 6 (n302_j32.map Cell.row)), (406, .rows 1 (n306_33.map irow)), (407, .rows 1 (n307_33.map irow)), (410, .rows 1 ((n310_40 ++ ([((p.rets.getD i13_40 0 : Nat) : Int) % ((n301_20.length : Nat) : Int)] : List Int)).map irow))]⟩) rfl ?_ ?_
 refine .blind 0 rfl (by kernel_rfl) (Blind.fieldAddr fl27_10 rfl rfl) (by decide) (.blind 2 rfl (by kernel_rfl) (Blind.fieldAddr fl36_4 rfl rfl) (by decide) (.load 3 rfl (by kernel_rfl) sh33 rfl rfl rfl rfl rfl (by decide) ?_))
 refine .blind 4 rfl (by kernel_rfl) (Blind.move rfl rfl) (by decide) ?_
 refine .blind 5 rfl (by kernel_rfl) (Blind.indexF (m := i13_40) sl33 rfl rfl (by first | rfl | omega) (row_getD (d := 0) (by omega))) (by decide) ?_
 refine .load 6 rfl (by kernel_rfl) sh5 rfl rfl rfl rfl rfl (by decide) ?_
 refine .blind 7 rfl (by kernel_rfl) (Blind.convK ii5 ii3 rfl (by first | rfl | exact IntWalk.i64_in _ (by omega))) (by decide) ?_
 refine .blind 8 rfl (by kernel_rfl) (Blind.fieldAddr fl27_1 rfl rfl) (by decide) (.go0 ?_)
 refine .two 1 9 rfl rfl (by kernel_rfl) ?_ ?_
 refine .ld sh22 ?_
 refine .nil ⟨rfl, ?_⟩
 refine .one 9 rfl (by kernel_rfl) ?_
 refine .ld sh22 ?_
 refine .nil ⟨rfl, ?_⟩
 refine .one 10 rfl (by kernel_rfl) (.vl (Y.len (n := n301_20.length) sl22 rfl rfl) ?_)
 refine .nil ⟨rfl, ?_⟩
 refine .one 11 rfl (by kernel_rfl) ?_
 refine .vl (Y.remI rfl rfl (by omega)) ?_
 refine .nil ⟨rfl, ?_⟩
 refine .one 12 rfl (by kernel_rfl) ?_
 refine .buildSlice (([((p.rets.getD i13_40 0 : Nat) : Int) % ((n301_20.length : Nat) : Int)] : List Int).map irow) sl22 ze3 rfl rfl rfl rfl rfl (uniform_map (s := 1) (f := irow) (fun _ => rfl)) rfl rfl rfl (by decide) ?_
 refine .nil ⟨rfl, ?_⟩
 refine .one 13 rfl (by kernel_rfl) ?_
 refine .appendE ((n310_40 ++ ([((p.rets.getD i13_40 0 : Nat) : Int) % ((n301_20.length : Nat) : Int)] : List Int)).map irow) (n310_40 ++ ([((p.rets.getD i13_40 0 : Nat) : Int) % ((n301_20.length : Nat) : Int)] : List Int)).length sl22 ze3 rfl rfl rfl rfl (app_le (by first | omega | (simp only [lateN_len]; omega) | (simp [-List.getD_eq_getElem?_getD]; done) | (simp [-List.getD_eq_getElem?_getD]; omega))) (app_map (by first | omega | (simp only [lateN_len]; omega) | (simp [-List.getD_eq_getElem?_getD]; done) | (simp [-List.getD_eq_getElem?_getD]; omega))) (app_n (by first | omega | (simp only [lateN_len]; omega) | (simp [-List.getD_eq_getElem?_getD]; done) | (simp [-List.getD_eq_getElem?_getD]; omega))) (by first | omega | (simp only [lateN_len]; omega) | (simp [-List.getD_eq_getElem?_getD]; done) | (simp [-List.getD_eq_getElem?_getD]; omega)) (by first | omega | (simp only [lateN_len]; omega) | (simp [-List.getD_eq_getElem?_getD]; done) | (simp [-List.getD_eq_getElem?_getD]; omega)) (by decide) (by decide) ?_
 refine .nil ⟨rfl, ?_⟩
 refine .one 14 rfl (by kernel_rfl) ?_
 refine .fa fl27_10 ?_
 refine .nil ⟨rfl, ?_⟩
 refine .one 15 rfl (by kernel_rfl) (.storeC si22 rfl rfl rfl rfl rfl rfl (nbE rfl) rfl ?_)
 refine .nil ⟨rfl, ?_⟩
 refine .done (by kernel_rfl) ?_
 exact Le.mk (.c (.c (.c (.c (.nil))))) (.c (.c (.c (.c (.c (.c (.c (.nil))))))))
 refine .ld sh22 ?_
 refine .nil ⟨rfl, ?_⟩
 refine .two 1 10 rfl rfl (by kernel_rfl) ?_ ?_
 refine .ld sh22 ?_
 refine .nil ⟨rfl, ?_⟩
 refine .one 10 rfl (by kernel_rfl) (.vl (Y.len (n := n301_20.length) sl22 rfl rfl) ?_)
 refine .nil ⟨rfl, ?_⟩
 refine .one 11 rfl (by kernel_rfl) ?_
 refine .vl (Y.remI rfl rfl (by omega)) ?_
 refine .nil ⟨rfl, ?_⟩
 refine .one 12 rfl (by kernel_rfl) ?_
 refine .buildSlice (([((p.rets.getD i13_40 0 : Nat) : Int) % ((n301_20.length : Nat) : Int)] : List Int).map irow) sl22 ze3 rfl rfl rfl rfl rfl (uniform_map (s := 1) (f := irow) (fun _ => rfl)) rfl rfl rfl (by decide) ?_
 refine .nil ⟨rfl, ?_⟩
 refine .one 13 rfl (by kernel_rfl) ?_
 refine .appendE ((n310_40 ++ ([((p.rets.getD i13_40 0 : Nat) : Int) % ((n301_20.length : Nat) : Int)] : List Int)).map irow) (n310_40 ++ ([((p.rets.getD i13_40 0 : Nat) : Int) % ((n301_20.length : Nat) : Int)] : List Int)).length sl22 ze3 rfl rfl rfl rfl (app_le (by first | omega | (simp only [lateN_len]; omega) | (simp [-List.getD_eq_getElem?_getD]; done) | (simp [-List.getD_eq_getElem?_getD]; omega))) (app_map (by first | omega | (simp only [lateN_len]; omega) | (simp [-List.getD_eq_getElem?_getD]; done) | (simp [-List.getD_eq_getElem?_getD]; omega))) (app_n (by first | omega | (simp only [lateN_len]; omega) | (simp [-List.getD_eq_getElem?_getD]; done) | (simp [-List.getD_eq_getElem?_getD]; omega))) (by first | omega | (simp only [lateN_len]; omega) | (simp [-List.getD_eq_getElem?_getD]; done) | (simp [-List.getD_eq_getElem?_getD]; omega)) (by first | omega | (simp only [lateN_len]; omega) | (simp [-List.getD_eq_getElem?_getD]; done) | (simp [-List.getD_eq_getElem?_getD]; omega)) (by decide) (by decide) ?_
 refine .nil ⟨rfl, ?_⟩
 refine .one 14 rfl (by kernel_rfl) ?_
 refine .fa fl27_10 ?_
 refine .nil ⟨rfl, ?_⟩
 refine .one 15 rfl (by kernel_rfl) (.storeC si22 rfl rfl rfl rfl rfl rfl (nbE rfl) rfl ?_)
 refine .nil ⟨rfl, ?_⟩
 refine .done (by kernel_rfl) ?_
 exact Le.mk (.c (.c (.c (.c (.nil))))) (.c (.c (.c (.c (.c (.c (.c (.nil))))))))
 refine .vl (Y.len (n := n301_20.length) sl22 rfl rfl) ?_
 refine .nil ⟨rfl, ?_⟩
 refine .blind 11 rfl (by kernel_rfl) (Blind.remI rfl rfl (by omega)) (by decide) ?_
 refine .two 1 12 rfl rfl (by kernel_rfl) ?_ ?_
 refine .ld sh22 ?_
 refine .nil ⟨rfl, ?_⟩
 refine .one 12 rfl (by kernel_rfl) ?_
 refine .buildSlice (([((p.rets.getD i13_40 0 : Nat) : Int) % ((n301_20.length : Nat) : Int)] : List Int).map irow) sl22 ze3 rfl rfl rfl rfl rfl (uniform_map (s := 1) (f := irow) (fun _ => rfl)) rfl rfl rfl (by decide) ?_
 refine .nil ⟨rfl, ?_⟩
 refine .one 13 rfl (by kernel_rfl) ?_
 refine .appendE ((n310_40 ++ ([((p.rets.getD i13_40 0 : Nat) : Int) % ((n301_20.length : Nat) : Int)] : List Int)).map irow) (n310_40 ++ ([((p.rets.getD i13_40 0 : Nat) : Int) % ((n301_20.length : Nat) : Int)] : List Int)).length sl22 ze3 rfl rfl rfl rfl (app_le (by first | omega | (simp only [lateN_len]; omega) | (simp [-List.getD_eq_getElem?_getD]; done) | (simp [-List.getD_eq_getElem?_getD]; omega))) (app_map (by first | omega | (simp only [lateN_len]; omega) | (simp [-List.getD_eq_getElem?_getD]; done) | (simp [-List.getD_eq_getElem?_getD]; omega))) (app_n (by first | omega | (simp only [lateN_len]; omega) | (simp [-List.getD_eq_getElem?_getD]; done) | (simp [-List.getD_eq_getElem?_getD]; omega))) (by first | omega | (simp only [lateN_len]; omega) | (simp [-List.getD_eq_getElem?_getD]; done) | (simp [-List.getD_eq_getElem?_getD]; omega)) (by first | omega | (simp only [lateN_len]; omega) | (simp [-List.getD_eq_getElem?_getD]; done) | (simp [-List.getD_eq_getElem?_getD]; omega)) (by decide) (by decide) ?_
 refine .nil ⟨rfl, ?_⟩
 refine .one 14 rfl (by kernel_rfl) ?_
 refine .fa fl27_10 ?_
 refine .nil ⟨rfl, ?_⟩
 refine .one 15 rfl (by kernel_rfl) (.storeC si22 rfl rfl rfl rfl rfl rfl (nbE rfl) rfl ?_)
 refine .nil ⟨rfl, ?_⟩
 refine .done (by kernel_rfl) ?_
 exact Le.mk (.c (.c (.c (.c (.nil))))) (.c (.c (.c (.c (.c (.c (.c (.nil))))))))
 refine .buildSlice (([((p.rets.getD i13_40 0 : Nat) : Int) % ((n301_20.length : Nat) : Int)] : List Int).map irow) sl22 ze3 rfl rfl rfl rfl rfl (uniform_map (s := 1) (f := irow) (fun _ => rfl)) rfl rfl rfl (by decide) ?_
 refine .nil ⟨rfl, ?_⟩
 refine .one 1 rfl (by kernel_rfl) ?_
 refine .ld sh22 ?_
 refine .nil ⟨rfl, ?_⟩
 refine .one 13 rfl (by kernel_rfl) ?_
 refine .appendE ((n310_40 ++ ([((p.rets.getD i13_40 0 : Nat) : Int) % ((n301_20.length : Nat) : Int)] : List Int)).map irow) (n310_40 ++ ([((p.rets.getD i13_40 0 : Nat) : Int) % ((n301_20.length : Nat) : Int)] : List Int)).length sl22 ze3 rfl rfl rfl rfl (app_le (by first | omega | (simp only [lateN_len]; omega) | (simp [-List.getD_eq_getElem?_getD]; done) | (simp [-List.getD_eq_getElem?_getD]; omega))) (app_map (by first | omega | (simp only [lateN_len]; omega) | (simp [-List.getD_eq_getElem?_getD]; done) | (simp [-List.getD_eq_getElem?_getD]; omega))) (app_n (by first | omega | (simp only [lateN_len]; omega) | (simp [-List.getD_eq_getElem?_getD]; done) | (simp [-List.getD_eq_getElem?_getD]; omega))) (by first | omega | (simp only [lateN_len]; omega) | (simp [-List.getD_eq_getElem?_getD]; done) | (simp [-List.getD_eq_getElem?_getD]; omega)) (by first | omega | (simp only [lateN_len]; omega) | (simp [-List.getD_eq_getElem?_getD]; done) | (simp [-List.getD_eq_getElem?_getD]; omega)) (by decide) (by decide) ?_
 refine .nil ⟨rfl, ?_⟩
 refine .one 14 rfl (by kernel_rfl) ?_
 refine .fa fl27_10 ?_
 refine .nil ⟨rfl, ?_⟩
 refine .one 15 rfl (by kernel_rfl) (.storeC si22 rfl rfl rfl rfl rfl rfl (nbE rfl) rfl ?_)
 refine .nil ⟨rfl, ?_⟩
 refine .done (by kernel_rfl) ?_
 exact Le.mk (.c (.c (.c (.c (.nil))))) (.c (.c (.c (.c (.c (.c (.c (.nil))))))))
 refine .region ?_
 refine .mv ?_
 refine .vl (Y.addI rfl rfl (by omega)) ?_
 refine .an ?_
 refine .nil ?_
 exact ⟨i13_40 + 1, n310_40 ++ ([((p.rets.getD i13_40 0 : Nat) : Int) % ((n301_20.length : Nat) : Int)] : List Int), ⟨by omega, all_app hr (mod_in (n := pn n301_20 n302_j32 n303_16 n304_8 n305_12) hG3.ground (by show 0 < n301_20.length; omega)), by rw [List.length_append, hrl]; rfl⟩, by omega, Le.mk (.c (.c (.c (.cons (look_int rfl (by first | rfl | omega)) (.nil))))) (.c (.cons (look_cells rfl (by first | rfl | (simp only [List.cons.injEq, X.v.injEq, X.slc.injEq, Value.int.injEq, and_true, true_and]; omega) | simp_all)) (.c (.c (.c (.c (.c (.nil))))))))⟩
 refine .exit (.sr (.vl (Y.loadA sh27 rfl rfl (nbE rfl) rfl rfl) ?_))
 refine .fa fl36_3 ?_
 refine .ld sh34 ?_
 refine .vl (Y.len (n := p.parts.length) sl34 rfl (congrArg some (List.length_map ..))) ?_
 refine .vl (Y.convK ii3 ii5 rfl (by first | rfl | exact IntWalk.u8_in _ (by omega))) ?_
 refine .callLP [401, 402, 406, 407, 410] ok56 (pickF_spec (n := (⟨nB, n301_20, n302_j32, n303_16, n304_8, n305_12, n306_33, n307_33, 0, 0, n310_40⟩ : Netlist)) (w := 1) (k := p.parts.length) (by show (n301_20).length ≤ 1048576; omega) (by omega)) rfl (.agg (.keep rfl rfl (.lend rfl rfl (lend_le (by omega)) (lend_eq (by omega)) (.lend rfl rfl (lend_le (by omega)) (lend_eq (by omega)) (.keep rfl rfl (.keep rfl rfl (.keep rfl rfl (.lend rfl rfl (lend_le (by omega)) (lend_eq (by omega)) (.lend rfl rfl (lend_le (by omega)) (lend_eq (by omega)) (.keep rfl rfl (.keep rfl rfl (.lend rfl rfl (lend_le (by omega)) (lend_eq (by omega)) .nil))))))))))) rfl (.keep rfl rfl (.keep rfl rfl .nil))) (lend2 rfl (owns_map irow_frees) (lend2 rfl (owns_map Cell.row_frees) (lend2 rfl (owns_map irow_frees) (lend2 rfl (owns_map irow_frees) (lend1 rfl (owns_map irow_frees)))))) (by decide) rfl trivial ?_
 refine .fa fl27_8 ?_
 refine .storeC si3 rfl rfl rfl rfl rfl rfl (nbE rfl) rfl (.nil (.sr ?_))
 refine .vl (Y.loadA sh27 rfl rfl (nbE rfl) rfl rfl) ?_
 refine .fa fl36_3 ?_
 refine .ld sh34 ?_
 refine .vl (Y.len (n := p.parts.length) sl34 rfl (congrArg some (List.length_map ..))) ?_
 refine .vl (Y.mulI rfl rfl (by omega)) ?_
 refine .vl (Y.addI rfl rfl (by omega)) ?_
 refine .vl (Y.conv ii3 ii5 rfl (wrap_u8_nat ((7 * p.parts.length) + 1))) ?_
 refine .callLP [401, 402, 406, 407, 410] ok56 (pickF_spec (n := (⟨nB, n301_20, n302_j32, n303_16, n304_8, n305_12, n306_33, n307_33, pickN n301_20 1 p.parts.length, 0, n310_40⟩ : Netlist)) (w := 1) (k := (((7 * p.parts.length) + 1) % 256)) (by show (n301_20).length ≤ 1048576; omega) (by omega)) rfl (.agg (.keep rfl rfl (.lend rfl rfl (lend_le (by omega)) (lend_eq (by omega)) (.lend rfl rfl (lend_le (by omega)) (lend_eq (by omega)) (.keep rfl rfl (.keep rfl rfl (.keep rfl rfl (.lend rfl rfl (lend_le (by omega)) (lend_eq (by omega)) (.lend rfl rfl (lend_le (by omega)) (lend_eq (by omega)) (.keep rfl rfl (.keep rfl rfl (.lend rfl rfl (lend_le (by omega)) (lend_eq (by omega)) .nil))))))))))) rfl (.keep rfl rfl (.keep rfl rfl .nil))) (lend2 rfl (owns_map irow_frees) (lend2 rfl (owns_map Cell.row_frees) (lend2 rfl (owns_map irow_frees) (lend2 rfl (owns_map irow_frees) (lend1 rfl (owns_map irow_frees)))))) (by decide) rfl trivial ?_
 refine .fa fl27_9 ?_
 refine .storeC si3 rfl rfl rfl rfl rfl rfl (nbE rfl) rfl (.nil (.seq ?_))
 refine .sh (Sh.fzObj 103 406 6 rfl rfl rfl (len_map (by omega)) (Frees.map irow_frees) (by decide) rfl rfl rfl) ?_
 refine .sh (Sh.fzObj 103 407 7 rfl rfl rfl (len_map (by omega)) (Frees.map irow_frees) (by decide) rfl rfl rfl) ?_
 refine .sh (Sh.fzObj 103 410 10 rfl rfl rfl (len_map (by omega)) (Frees.map irow_frees) (by decide) rfl rfl rfl) ?_
 refine .region (.vl (Y.loadA sh27 rfl rfl (nbE rfl) rfl rfl) (.storeC si27 rfl rfl rfl rfl rfl rfl (nbE rfl) rfl ?_))
 refine .nil (.ret ?_)
 exact ⟨_, rfl, _, _, _, (Sh.ownA (d := 0) 1 401 rfl rfl rfl (by first | rfl | exact len_map rfl | exact len_map (by omega)) rfl (by decide)).then (Sh.ownA (d := 0) 2 402 rfl rfl rfl (by first | rfl | exact len_map rfl | exact len_map (by omega)) rfl (by decide)), rfl, rfl, (⟨nB, n301_20, n302_j32, n303_16, n304_8, n305_12, n306_33, n307_33, pickN n301_20 1 p.parts.length, pickN n301_20 1 (((7 * p.parts.length) + 1) % 256), n310_40⟩ : Netlist), (hG3.made (by omega) (by omega) (by omega) (by omega) (by omega) (by omega) (fun m h => (hm m h).1) (fun m h => (hs m h).1) (by omega) (by omega) (fun j hj => he j (by omega)) hr (pickN_ok hG3.ground.one _) (pickN_ok hG3.ground.one _)), rfl, rfl⟩
end Go.Proofs.Ytligpghohcfpnaa
/- Walks through Few, Drivers, Ordered. -/
namespace Go.Proofs.Ytligpghohcfpnaa
open Go Go.AW Go.Proofs
theorem few_spec {p : Pln} : ACalls Try.prog 18 [.agg (Pln.row p)] [] [] (fun r o => r = .v (.bool (decide (p.Few))) ∧ o = []) := by
 refine ACalls.of Try.func18 rfl rfl rfl (n := 31) (by decide) (nbE rfl) (.sr (.box 101 rfl rfl rfl rfl rfl (by decide) ?_))
 refine .an ?_
 refine .nil (.sr ?_)
 refine .fa fl36_0 ?_
 refine .ld sh32 ?_
 refine .vl (Y.len (n := p.mems.length) sl32 rfl (congrArg some (List.length_map ..))) (.vl (Y.leq rfl rfl) ?_)
 refine .mv ?_
 refine .splitD (d := 7) rfl (fun c7 => ?_) (fun c7 => ?_)
 refine .gw 7 (Y.fieldAddr fl36_1 rfl rfl) (.gw 7 (Y.load sh32 rfl rfl rfl rfl) (.gw 7 (Y.len (n := p.streams.length) sl32 rfl (congrArg some (List.length_map ..))) ?_))
 refine .gw 7 (Y.leq rfl rfl) ?_
 refine .pk ?_
 refine .mv ?_
 refine .splitD (d := 13) rfl (fun c13 => ?_) (fun c13 => ?_)
 refine .gw 13 (Y.fieldAddr fl36_2 rfl rfl) (.gw 13 (Y.load sh33 rfl rfl rfl rfl) (.gw 13 (Y.len (n := p.ins.length) sl33 rfl (congrArg some (List.length_map ..))) ?_))
 refine .gw 13 (Y.leq rfl rfl) ?_
 refine .pk ?_
 refine .mv ?_
 refine .splitD (d := 19) rfl (fun c19 => ?_) (fun c19 => ?_)
 refine .gw 19 (Y.fieldAddr fl36_3 rfl rfl) (.gw 19 (Y.load sh34 rfl rfl rfl rfl) (.gw 19 (Y.len (n := p.parts.length) sl34 rfl (congrArg some (List.length_map ..))) ?_))
 refine .gw 19 (Y.leq rfl rfl) ?_
 refine .pk ?_
 refine .mv ?_
 refine .splitD (d := 25) rfl (fun c25 => ?_) (fun c25 => ?_)
 refine .gw 25 (Y.fieldAddr fl36_4 rfl rfl) (.gw 25 (Y.load sh33 rfl rfl rfl rfl) (.gw 25 (Y.len (n := p.rets.length) sl33 rfl (congrArg some (List.length_map ..))) ?_))
 refine .gw 25 (Y.leq rfl rfl) ?_
 refine .pk ?_
 refine .an ?_
 refine .nil (.ret ?_)
 exact .rb rfl (dd ⟨fun h => ⟨by omega, by omega, by omega, by omega, by omega⟩, fun h => by have h5 := h.rets; omega⟩)
 refine .gz 25 (.gz 25 (.gz 25 ?_))
 refine .gz 25 ?_
 refine .pk ?_
 refine .an ?_
 refine .nil (.ret ?_)
 exact .rb rfl (df (fun h => by have h1 := h.mems; have h2 := h.streams; have h3 := h.ins; have h4 := h.parts; have h5 := h.rets; omega))
 refine .gz 19 (.gz 19 (.gz 19 ?_))
 refine .gz 19 ?_
 refine .pk ?_
 refine .mv ?_
 refine .gz 25 (.gz 25 (.gz 25 ?_))
 refine .gz 25 ?_
 refine .pk ?_
 refine .an ?_
 refine .nil (.ret ?_)
 exact .rb rfl (df (fun h => by have h1 := h.mems; have h2 := h.streams; have h3 := h.ins; have h4 := h.parts; have h5 := h.rets; omega))
 refine .gz 13 (.gz 13 (.gz 13 ?_))
 refine .gz 13 ?_
 refine .pk ?_
 refine .mv ?_
 refine .gz 19 (.gz 19 (.gz 19 ?_))
 refine .gz 19 ?_
 refine .pk ?_
 refine .mv ?_
 refine .gz 25 (.gz 25 (.gz 25 ?_))
 refine .gz 25 ?_
 refine .pk ?_
 refine .an ?_
 refine .nil (.ret ?_)
 exact .rb rfl (df (fun h => by have h1 := h.mems; have h2 := h.streams; have h3 := h.ins; have h4 := h.parts; have h5 := h.rets; omega))
 refine .gz 7 (.gz 7 (.gz 7 ?_))
 refine .gz 7 ?_
 refine .pk ?_
 refine .mv ?_
 refine .gz 13 (.gz 13 (.gz 13 ?_))
 refine .gz 13 ?_
 refine .pk ?_
 refine .mv ?_
 refine .gz 19 (.gz 19 (.gz 19 ?_))
 refine .gz 19 ?_
 refine .pk ?_
 refine .mv ?_
 refine .gz 25 (.gz 25 (.gz 25 ?_))
 refine .gz 25 ?_
 refine .pk ?_
 refine .an ?_
 refine .nil (.ret ?_)
 exact .rb rfl (df (fun h => by have h1 := h.mems; have h2 := h.streams; have h3 := h.ins; have h4 := h.parts; have h5 := h.rets; omega))
end Go.Proofs.Ytligpghohcfpnaa
/- The walk of TimingLocal. -/
namespace Go.Proofs.Ytligpghohcfpnaa
open Go Go.AW Go.Proofs



set_option maxRecDepth 4000 in
set_option maxHeartbeats 1000000 in
theorem timingLocal_spec {p : Pln} {a : Nat} (hk : p.Ok) (ha : a < 256) : ACalls Try.prog 12 [.agg (Pln.row p), .v (.int .u8 (a : Int))] [] [] (fun r o => r = .v (.bool true) ∧ o = []) := by
 refine ACalls.of Try.func12 rfl rfl rfl (n := 101) (by decide) (Nat.le_of_ble_eq_true rfl) (AWp.sr (AOps.box 102 rfl rfl rfl rfl rfl (by decide) ?_))
 refine .an ?_
 refine AOps.nil (AWp.seq (AWp.sr ?_))
 refine AOps.callP ok40 (awake48_spec) rfl .nil (by decide) rfl (.vl (Y.not rfl) ?_)
 refine .mv ?_
 refine .gw 14 (Y.loadA sh36 rfl rfl (Nat.le_of_ble_eq_true rfl) rfl rfl) (AOps.guardRun (d := 14) rfl (by decide) rfl (AOps.callP ok18 (few_spec (p := p)) rfl (.keep rfl rfl .nil) (by decide) rfl ?_))
 refine .gw 14 (Y.not rfl) ?_
 refine .pk ?_
 refine AOps.nil ?_
 refine AWp.cond rfl (fun c18 => ?_) (fun c18 => ?_)
 replace c18 : ¬ (p.Few) := by simpa using c18
 refine AWp.sr (AOps.callP ok40 (awake48_spec) rfl .nil (by decide) rfl ?_)
 refine .an ?_
 refine AOps.nil (AWp.ret ?_)
 exact .rb rfl (rfl)
 replace c18 : p.Few := by simpa using c18
 refine AWp.skip (AWp.sr (.vl (Y.loadA sh36 rfl rfl (Nat.le_of_ble_eq_true rfl) rfl rfl) ?_))
 refine AOps.callV ok19 (made_spec (p := p) (by assumption) hk) rfl (.keep rfl rfl .nil) (by decide) ?_
 rintro _ ⟨nM21, hM21, rfl, _⟩
 refine ⟨rfl, ?_⟩
 refine AOps.alloc 105 ze27 rfl rfl (by decide) (AOps.sh (Sh.nameN (d := 21) 1 921 nM21.widths.length rfl rfl rfl (by decide) (len_map rfl)) (AOps.sh (Sh.nameN (d := 21) 2 922 nM21.cells.length rfl rfl rfl (by decide) (len_map rfl)) ?_))
 refine AOps.storeC si27 rfl rfl rfl rfl rfl rfl (Nat.le_of_ble_eq_true rfl) rfl (AOps.nil (AWp.seq ?_))
 have hs := hM21.small; have hf := hM21.formed; have hFt := hM21.fit; have hAc := hM21.acyclic; have hnc := hM21.ncells; have hnw := hM21.nwidths; have hni := hM21.nins; have hna := hM21.nargs; have hM := hM21.vp.vt
 refine AWp.region (.vl (Y.loadA sh27 rfl rfl (Nat.le_of_ble_eq_true rfl) rfl rfl) ?_)
 refine AOps.callLV [921, 922] ok46 (arrivals_spec (n := nM21) hM) rfl (.agg (.keep rfl rfl (.lend rfl rfl (lend_le (by omega)) (lend_eq (by omega)) (.lend rfl rfl (lend_le (by omega)) (lend_eq (by omega)) (.keep rfl rfl (.keep rfl rfl (.keep rfl rfl (.keep rfl rfl (.keep rfl rfl (.keep rfl rfl (.keep rfl rfl (.keep rfl rfl .nil))))))))))) rfl .nil) (lend2 rfl (owns_map irow_frees) (lend1 rfl (owns_map Cell.row_frees))) (by decide) ?_
 rintro _ ⟨lo24, at_24, hO24, hA24, rfl, _⟩
 refine ⟨rfl, ⟨(plainr_map irow_plains _), trivial, trivial⟩, ?_⟩
 refine AOps.moveX rfl (by decide) (AOps.extractU rfl rfl (by decide) (.vl (Y.extract rfl rfl rfl) ?_))
 refine AOps.assignX rfl (by decide) (AOps.sh (Sh.freezeE (d := 6) (at_24.map irow) rfl (by first | rfl | exact rep_map rfl) (Frees.map irow_frees)) ?_)
 refine .an ?_
 refine AOps.nil (AWp.seq ?_)
 have hxm := Nat.mod_lt a (show 0 < nM21.widths.length by omega); have hxi : In ((a % nM21.widths.length : Nat) : Int) nM21.widths.length := ⟨by omega, by omega⟩; have hV := more_vt (x := ((a % nM21.widths.length : Nat) : Int)) hM (by omega) (by omega) (by omega) hM21.nargs hxi; have hl24 := hA24.len; have hr24 := hA24.rng hM hO24 hxi; rw [Int.toNat_natCast] at hr24; have hwl : (nM21.widths ++ ([nM21.widths.getD (a % nM21.widths.length) 0] : List Int)).length = nM21.widths.length + 1 := (by simp); have hcl : (nM21.cells ++ [(⟨2, 11, ((nM21.widths.length : Nat) : Int), [(a : Int) % ((nM21.widths.length : Nat) : Int), (a : Int) % ((nM21.widths.length : Nat) : Int)], 0, 0⟩ : Cell)]).length = nM21.cells.length + 1 := (by simp)
 refine AWp.region ?_
 refine .mv ?_
 refine .vl (Y.convK ii5 ii3 rfl (by first | rfl | exact IntWalk.i64_in _ (by omega))) ?_
 refine .fa fl27_1 ?_
 refine .ld sh22 ?_
 refine .vl (Y.len (n := nM21.widths.length) sl22 rfl rfl) ?_
 refine .vl (Y.remI rfl rfl (by first | omega | simp [-List.getD_eq_getElem?_getD] <;> omega)) ?_
 refine .an ?_
 refine AOps.nil ?_
 refine AWp.join0 (⟨[(5, .ptr 105 0 0 0), (6, .fz 1 (at_24.map irow)), (7, .v (.int .i64 0)), (8, .v (.int .i64 ((a : Int) % ((nM21.widths.length : Nat) : Int))))], [(105, .cells [.v (.string nM21.name), .slc 921 1 0 ((nM21.widths ++ ([nM21.widths.getD (a % nM21.widths.length) 0] : List Int)).length), .slc 922 6 0 nM21.cells.length, .fz 1 (nM21.ins.map irow), .fz 5 (nM21.mems.map Arr.row), .fz 3 (nM21.streams.map Strm.row), .fz 1 (nM21.active.map irow), .fz 1 (nM21.data.map irow), .v (.int .i64 nM21.freeze), .v (.int .i64 nM21.done), .fz 1 (nM21.rets.map irow)]), (921, .rows 1 ((nM21.widths ++ ([nM21.widths.getD (a % nM21.widths.length) 0] : List Int)).map irow)), (922, .rows 6 (nM21.cells.map Cell.row))]⟩) (True) ?_ (fun hJ7 => ?_)
 refine AWp.regionAny rfl (AAny.blind 0 rfl (by kernel_rfl) (Blind.fieldAddr fl27_1 rfl rfl) (by decide) (AAny.blind 2 rfl (by kernel_rfl) (Blind.fieldAddr fl27_1 rfl rfl) (by decide) ?_))
 refine AAny.blind 4 rfl (by kernel_rfl) (Blind.move rfl rfl) (by decide) ?_
 refine AAny.two 1 3 rfl rfl (by kernel_rfl) ?_ ?_
 refine .ld sh22 ?_
 refine AOps.nil ⟨rfl, ?_⟩
 refine AAny.quietN (n := 4) [3, 5, 6] [7, 8, 9, 10] 7 rfl (by kernel_rfl) (.cn 3 rfl (Y.load sh22 rfl rfl rfl rfl) ?_)
 refine .cn 5 rfl (Y.indexO (m := a % nM21.widths.length) sl22 rfl rfl (by first | rfl | omega) (by omega)) ?_
 refine .cn 6 rfl (Y.load sh3 rfl (row_getD0 (d := 0) (by omega)) rfl rfl) ?_
 refine AQ.nil (AAny.one 7 rfl (by kernel_rfl) ?_)
 refine AOps.buildSlice (([nM21.widths.getD (a % nM21.widths.length) 0] : List Int).map irow) sl22 ze3 rfl rfl rfl rfl rfl (uniform_map (s := 1) (f := irow) (fun _ => rfl)) rfl rfl rfl (by decide) ?_
 refine AOps.nil ⟨rfl, ?_⟩
 refine AAny.one 8 rfl (by kernel_rfl) ?_
 refine AOps.appendE ((nM21.widths ++ ([nM21.widths.getD (a % nM21.widths.length) 0] : List Int)).map irow) (nM21.widths ++ ([nM21.widths.getD (a % nM21.widths.length) 0] : List Int)).length sl22 ze3 rfl rfl rfl rfl (app_le (by omega)) (app_map (by omega)) (app_n (by omega)) (by omega) (by omega) (by decide) (by decide) ?_
 refine AOps.nil ⟨rfl, ?_⟩
 refine AAny.quietN (n := 1) [9] [10] 10 rfl (by kernel_rfl) (.cn 9 rfl (Y.fieldAddr fl27_1 rfl rfl) (AQ.nil ?_))
 refine AAny.one 10 rfl (by kernel_rfl) (AOps.storeC si22 rfl rfl rfl rfl rfl rfl (Nat.le_of_ble_eq_true rfl) rfl ?_)
 refine AOps.nil ⟨rfl, ?_⟩
 refine AAny.done (by kernel_rfl) ?_
 exact ⟨trivial, Le.mk (.c (.c (.c (.c (.nil))))) (.c (.c (.c (.nil))))⟩
 refine .ld sh22 ?_
 refine AOps.nil ⟨rfl, ?_⟩
 refine AAny.two 1 5 rfl rfl (by kernel_rfl) ?_ ?_
 refine .ld sh22 ?_
 refine AOps.nil ⟨rfl, ?_⟩
 refine AAny.quietN (n := 4) [5, 6] [7, 8, 9, 10] 7 rfl (by kernel_rfl) ?_
 refine .cn 5 rfl (Y.indexO (m := a % nM21.widths.length) sl22 rfl rfl (by first | rfl | omega) (by omega)) ?_
 refine .cn 6 rfl (Y.load sh3 rfl (row_getD0 (d := 0) (by omega)) rfl rfl) ?_
 refine AQ.nil (AAny.one 7 rfl (by kernel_rfl) ?_)
 refine AOps.buildSlice (([nM21.widths.getD (a % nM21.widths.length) 0] : List Int).map irow) sl22 ze3 rfl rfl rfl rfl rfl (uniform_map (s := 1) (f := irow) (fun _ => rfl)) rfl rfl rfl (by decide) ?_
 refine AOps.nil ⟨rfl, ?_⟩
 refine AAny.one 8 rfl (by kernel_rfl) ?_
 refine AOps.appendE ((nM21.widths ++ ([nM21.widths.getD (a % nM21.widths.length) 0] : List Int)).map irow) (nM21.widths ++ ([nM21.widths.getD (a % nM21.widths.length) 0] : List Int)).length sl22 ze3 rfl rfl rfl rfl (app_le (by omega)) (app_map (by omega)) (app_n (by omega)) (by omega) (by omega) (by decide) (by decide) ?_
 refine AOps.nil ⟨rfl, ?_⟩
 refine AAny.quietN (n := 1) [9] [10] 10 rfl (by kernel_rfl) (.cn 9 rfl (Y.fieldAddr fl27_1 rfl rfl) (AQ.nil ?_))
 refine AAny.one 10 rfl (by kernel_rfl) (AOps.storeC si22 rfl rfl rfl rfl rfl rfl (Nat.le_of_ble_eq_true rfl) rfl ?_)
 refine AOps.nil ⟨rfl, ?_⟩
 refine AAny.done (by kernel_rfl) ?_
 exact ⟨trivial, Le.mk (.c (.c (.c (.c (.nil))))) (.c (.c (.c (.nil))))⟩
 refine .vl (Y.indexO (m := a % nM21.widths.length) sl22 rfl rfl (by first | rfl | omega) (by omega)) ?_
 refine AOps.nil ⟨rfl, ?_⟩
 refine AAny.two 1 6 rfl rfl (by kernel_rfl) ?_ ?_
 refine .ld sh22 ?_
 refine AOps.nil ⟨rfl, ?_⟩
 refine AAny.quietN (n := 4) [6] [7, 8, 9, 10] 7 rfl (by kernel_rfl) ?_
 refine .cn 6 rfl (Y.load sh3 rfl (row_getD0 (d := 0) (by omega)) rfl rfl) ?_
 refine AQ.nil (AAny.one 7 rfl (by kernel_rfl) ?_)
 refine AOps.buildSlice (([nM21.widths.getD (a % nM21.widths.length) 0] : List Int).map irow) sl22 ze3 rfl rfl rfl rfl rfl (uniform_map (s := 1) (f := irow) (fun _ => rfl)) rfl rfl rfl (by decide) ?_
 refine AOps.nil ⟨rfl, ?_⟩
 refine AAny.one 8 rfl (by kernel_rfl) ?_
 refine AOps.appendE ((nM21.widths ++ ([nM21.widths.getD (a % nM21.widths.length) 0] : List Int)).map irow) (nM21.widths ++ ([nM21.widths.getD (a % nM21.widths.length) 0] : List Int)).length sl22 ze3 rfl rfl rfl rfl (app_le (by omega)) (app_map (by omega)) (app_n (by omega)) (by omega) (by omega) (by decide) (by decide) ?_
 refine AOps.nil ⟨rfl, ?_⟩
 refine AAny.quietN (n := 1) [9] [10] 10 rfl (by kernel_rfl) (.cn 9 rfl (Y.fieldAddr fl27_1 rfl rfl) (AQ.nil ?_))
 refine AAny.one 10 rfl (by kernel_rfl) (AOps.storeC si22 rfl rfl rfl rfl rfl rfl (Nat.le_of_ble_eq_true rfl) rfl ?_)
 refine AOps.nil ⟨rfl, ?_⟩
 refine AAny.done (by kernel_rfl) ?_
 exact ⟨trivial, Le.mk (.c (.c (.c (.c (.nil))))) (.c (.c (.c (.nil))))⟩
 refine .vl (Y.load sh3 rfl (row_getD0 (d := 0) (by omega)) rfl rfl) ?_
 refine AOps.nil ⟨rfl, ?_⟩
 refine AAny.two 1 7 rfl rfl (by kernel_rfl) ?_ ?_
 refine .ld sh22 ?_
 refine AOps.nil ⟨rfl, ?_⟩
 refine AAny.one 7 rfl (by kernel_rfl) ?_
 refine AOps.buildSlice (([nM21.widths.getD (a % nM21.widths.length) 0] : List Int).map irow) sl22 ze3 rfl rfl rfl rfl rfl (uniform_map (s := 1) (f := irow) (fun _ => rfl)) rfl rfl rfl (by decide) ?_
 refine AOps.nil ⟨rfl, ?_⟩
 refine AAny.one 8 rfl (by kernel_rfl) ?_
 refine AOps.appendE ((nM21.widths ++ ([nM21.widths.getD (a % nM21.widths.length) 0] : List Int)).map irow) (nM21.widths ++ ([nM21.widths.getD (a % nM21.widths.length) 0] : List Int)).length sl22 ze3 rfl rfl rfl rfl (app_le (by omega)) (app_map (by omega)) (app_n (by omega)) (by omega) (by omega) (by decide) (by decide) ?_
 refine AOps.nil ⟨rfl, ?_⟩
 refine AAny.quietN (n := 1) [9] [10] 10 rfl (by kernel_rfl) (.cn 9 rfl (Y.fieldAddr fl27_1 rfl rfl) (AQ.nil ?_))
 refine AAny.one 10 rfl (by kernel_rfl) (AOps.storeC si22 rfl rfl rfl rfl rfl rfl (Nat.le_of_ble_eq_true rfl) rfl ?_)
 refine AOps.nil ⟨rfl, ?_⟩
 refine AAny.done (by kernel_rfl) ?_
 exact ⟨trivial, Le.mk (.c (.c (.c (.c (.nil))))) (.c (.c (.c (.nil))))⟩
 refine AOps.buildSlice (([nM21.widths.getD (a % nM21.widths.length) 0] : List Int).map irow) sl22 ze3 rfl rfl rfl rfl rfl (uniform_map (s := 1) (f := irow) (fun _ => rfl)) rfl rfl rfl (by decide) ?_
 refine AOps.nil ⟨rfl, ?_⟩
 refine AAny.quietN (n := 3) [1] [8, 9, 10] 8 rfl (by kernel_rfl) (.cn 1 rfl (Y.load sh22 rfl rfl rfl rfl) (AQ.nil ?_))
 refine AAny.one 8 rfl (by kernel_rfl) ?_
 refine AOps.appendE ((nM21.widths ++ ([nM21.widths.getD (a % nM21.widths.length) 0] : List Int)).map irow) (nM21.widths ++ ([nM21.widths.getD (a % nM21.widths.length) 0] : List Int)).length sl22 ze3 rfl rfl rfl rfl (app_le (by omega)) (app_map (by omega)) (app_n (by omega)) (by omega) (by omega) (by decide) (by decide) ?_
 refine AOps.nil ⟨rfl, ?_⟩
 refine AAny.quietN (n := 1) [9] [10] 10 rfl (by kernel_rfl) (.cn 9 rfl (Y.fieldAddr fl27_1 rfl rfl) (AQ.nil ?_))
 refine AAny.one 10 rfl (by kernel_rfl) (AOps.storeC si22 rfl rfl rfl rfl rfl rfl (Nat.le_of_ble_eq_true rfl) rfl ?_)
 refine AOps.nil ⟨rfl, ?_⟩
 refine AAny.done (by kernel_rfl) ?_
 exact ⟨trivial, Le.mk (.c (.c (.c (.c (.nil))))) (.c (.c (.c (.nil))))⟩
 refine AWp.sr ?_
 refine .fa fl27_2 ?_
 refine .ld sh23 ?_
 refine .fa fl27_1 ?_
 refine .ld sh22 ?_
 refine .vl (Y.len (n := (nM21.widths ++ ([nM21.widths.getD (a % nM21.widths.length) 0] : List Int)).length) sl22 rfl rfl) (.vl (Y.sub rfl rfl (wrap_pred (by omega))) ?_)
 refine .mv ?_
 refine .mv ?_
 refine AOps.buildSlice (([(a : Int) % ((nM21.widths.length : Nat) : Int), (a : Int) % ((nM21.widths.length : Nat) : Int)] : List Int).map irow) sl22 ze3 rfl rfl rfl rfl rfl (uniform_map (s := 1) (f := irow) (fun _ => rfl)) rfl rfl rfl (by decide) ?_
 refine AOps.sh (Sh.freezeE (d := 51) (([(a : Int) % ((nM21.widths.length : Nat) : Int), (a : Int) % ((nM21.widths.length : Nat) : Int)] : List Int).map irow) rfl (by first | rfl | exact rep_map rfl) (Frees.map irow_frees)) (.vl (Y.build pl39 ze39 rfl rfl rfl) ?_)
 refine AOps.buildSlice (([(⟨2, 11, ((nM21.widths.length : Nat) : Int), ([(a : Int) % ((nM21.widths.length : Nat) : Int), (a : Int) % ((nM21.widths.length : Nat) : Int)] : List Int), 0, 0⟩ : Cell)] : List Cell).map Cell.row) sl23 ze39 rfl rfl rfl rfl rfl (uniform_map (s := 6) (f := Cell.row) (fun _ => rfl)) rfl rfl rfl (by decide) ?_
 refine AOps.appendE ((nM21.cells ++ ([(⟨2, 11, ((nM21.widths.length : Nat) : Int), ([(a : Int) % ((nM21.widths.length : Nat) : Int), (a : Int) % ((nM21.widths.length : Nat) : Int)] : List Int), 0, 0⟩ : Cell)] : List Cell)).map Cell.row) (nM21.cells ++ ([(⟨2, 11, ((nM21.widths.length : Nat) : Int), ([(a : Int) % ((nM21.widths.length : Nat) : Int), (a : Int) % ((nM21.widths.length : Nat) : Int)] : List Int), 0, 0⟩ : Cell)] : List Cell)).length sl23 ze39 rfl rfl rfl rfl (app_le (by omega)) (app_map (by omega)) (app_n (by omega)) (by omega) (by omega) (by decide) (by decide) ?_
 refine .fa fl27_2 ?_
 refine AOps.storeC si23 rfl rfl rfl rfl rfl rfl (Nat.le_of_ble_eq_true rfl) rfl (AOps.nil (AWp.sr ?_))
 refine .vl (Y.loadA sh27 rfl rfl (Nat.le_of_ble_eq_true rfl) rfl rfl) ?_
 refine AOps.callLV [921, 922] ok46 (arrivals_spec (n := (⟨nM21.name, nM21.widths ++ ([nM21.widths.getD (a % nM21.widths.length) 0] : List Int), nM21.cells ++ ([(⟨2, 11, ((nM21.widths.length : Nat) : Int), ([(a : Int) % ((nM21.widths.length : Nat) : Int), (a : Int) % ((nM21.widths.length : Nat) : Int)] : List Int), 0, 0⟩ : Cell)] : List Cell), nM21.ins, nM21.mems, nM21.streams, nM21.active, nM21.data, nM21.freeze, nM21.done, nM21.rets⟩ : Netlist)) hV) rfl (.agg (.keep rfl rfl (.lend rfl rfl (lend_le (by omega)) (lend_eq (by omega)) (.lend rfl rfl (lend_le (by omega)) (lend_eq (by omega)) (.keep rfl rfl (.keep rfl rfl (.keep rfl rfl (.keep rfl rfl (.keep rfl rfl (.keep rfl rfl (.keep rfl rfl (.keep rfl rfl .nil))))))))))) rfl .nil) (lend2 rfl (owns_map irow_frees) (lend1 rfl (owns_map Cell.row_frees))) (by decide) ?_
 rintro _ ⟨lo58, at_58, hO58, hA58, rfl, _⟩
 refine ⟨rfl, ⟨(plainr_map irow_plains _), trivial, trivial⟩, ?_⟩
 refine AOps.moveX rfl (by decide) (AOps.extractU rfl rfl (by decide) (.vl (Y.extract rfl rfl rfl) ?_))
 refine AOps.assignX rfl (by decide) (AOps.sh (Sh.freezeE (d := 9) (at_58.map irow) rfl (by first | rfl | exact rep_map rfl) (Frees.map irow_frees)) ?_)
 refine .an ?_
 refine AOps.nil (AWp.seq (AWp.seq ?_))
 have hb := more_arr hM hV hxi hO58 hA24 hA58; have hbl : at_58.length = at_24.length + 1 := by rw [hb]; simp
 refine AWp.region ?_
 refine .mv ?_
 refine .vl (Y.neq rfl rfl) ?_
 refine .mv ?_
 refine .gw 63 (Y.move rfl rfl) (.gw 63 (Y.neq rfl rfl) ?_)
 refine .pk ?_
 refine .mv ?_
 refine .gw 67 (Y.move rfl rfl) (.gw 67 (Y.len (n := at_58.length) sl22 rfl (congrArg some (List.length_map ..))) (.gw 67 (Y.move rfl rfl) ?_))
 refine .gw 67 (Y.len (n := at_24.length) sl22 rfl (congrArg some (List.length_map ..))) ?_
 refine .gw 67 (Y.addI rfl rfl (by omega)) ?_
 refine .gw 67 (Y.neq rfl rfl) ?_
 refine .pk ?_
 refine AOps.nil ?_
 refine AWp.condD rfl (fun c74 => ?_) (fun c74 => ?_)
 exfalso; omega
 refine AWp.skip (AWp.seq (AWp.sr ?_))
 refine .mv ?_
 refine .vl (Y.len (n := at_24.length) sl22 rfl (congrArg some (List.length_map ..))) ?_
 refine .mv ?_
 refine AOps.nil (AWp.block ?_)
 refine AWp.loop1 (fun (n77_12 : Nat) => ⟨[(6, .fz 1 (at_24.map irow)), (8, .v (.int .i64 ((a : Int) % ((nM21.widths.length : Nat) : Int)))), (9, .fz 1 (at_58.map irow)), (76, .v (.int .i64 ((at_24.length : Nat) : Int))), (77, .v (.int .i64 (n77_12 : Int)))], []⟩) (fun (n77_12 : Nat) => ((n77_12 : Int) ≤ ((at_24.length : Nat) : Int))) (fun (n77_12 : Nat) => (((at_24.length : Nat) : Int) - (n77_12 : Int)).toNat) 0 (by omega) (Le.mk (.c (.c (.c (.c (.cons (look_int rfl (by first | rfl | omega)) (.nil)))))) (.nil)) (fun n77_12 hI12 => ?_)
 have hb12 := hI12
 refine AWp.sr (.vl (Y.lss rfl rfl) (AOps.nil ?_))
 refine AWp.seq ?_
 refine AWp.condD rfl (fun c78 => ?_) (fun c78 => ?_)
 refine AWp.skip (AWp.seq (AWp.block ?_))
 refine AWp.sr ?_
 refine .mv ?_
 refine .an ?_
 refine AOps.nil (AWp.seq (AWp.regionS rfl (by kernel_rfl) ?_))
 refine AHead.val (Y.move rfl rfl) (by decide) (AHead.val (Y.move rfl rfl) (by decide) ?_)
 refine AHead.val (Y.indexF (m := n77_12) sl22 rfl rfl (by first | rfl | omega) (row_getD (d := 0) (by omega))) (by decide) ?_
 refine AHead.val (Y.load sh3 rfl rfl rfl rfl) (by decide) (AHead.val (Y.move rfl rfl) (by decide) (AHead.val (Y.move rfl rfl) (by decide) ?_))
 refine AHead.val (Y.indexF (m := n77_12) sl22 rfl rfl (by first | rfl | omega) (row_getD (d := 0) (by omega))) (by decide) ?_
 refine AHead.val (Y.load sh3 rfl rfl rfl rfl) (by decide) (AHead.val (Y.neq rfl rfl) (by decide) (AHead.nil ?_))
 refine AWp.condD rfl (fun c88 => ?_) (fun c88 => ?_)
 exfalso; rw [hb] at c88; exact c88 (getD_app_l (by omega)).symm
 refine AWp.skip (AWp.region ?_)
 refine .vl (Y.addI rfl rfl (by omega)) ?_
 refine .mv ?_
 refine AOps.nil ?_
 exact ⟨n77_12 + 1, by omega, by omega, Le.mk (.c (.c (.c (.c (.cons (look_int rfl (by first | rfl | omega)) (.nil)))))) (.nil)⟩
 refine AWp.exit (AWp.seq (AWp.regionS rfl (by kernel_rfl) ?_))
 refine AHead.val (Y.move rfl rfl) (by decide) (AHead.val (Y.move rfl rfl) (by decide) (AHead.val (Y.len (n := at_24.length) sl22 rfl (congrArg some (List.length_map ..))) (by decide) ?_))
 refine AHead.val (Y.indexF (m := at_24.length) sl22 rfl rfl (by first | rfl | omega) (row_getD (d := 0) (by omega))) (by decide) ?_
 refine AHead.val (Y.load sh3 rfl rfl rfl rfl) (by decide) (AHead.val (Y.move rfl rfl) (by decide) (AHead.val (Y.move rfl rfl) (by decide) ?_))
 refine AHead.val (Y.indexF (m := a % nM21.widths.length) sl22 rfl rfl (by first | rfl | omega) (row_getD (d := 0) (by omega))) (by decide) ?_
 refine AHead.val (Y.load sh3 rfl rfl rfl rfl) (by decide) ?_
 refine AHead.val (Y.addI rfl rfl (by omega)) (by decide) ?_
 refine AHead.val (Y.eql rfl rfl) (by decide) (AHead.val (Y.assign rfl rfl) (by decide) (AHead.nil ?_))
 refine AWp.ret ?_
 exact .rb rfl (decide_eq_true (by rw [hb, List.getD_eq_getElem?_getD, List.getElem?_append_right (Nat.le_refl _), Nat.sub_self]; rfl))

end Go.Proofs.Ytligpghohcfpnaa
