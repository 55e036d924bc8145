/- Walks through small functions of words. -/
import Derived.Test.YtligpghohcfpnaaNetx0
set_option linter.unusedSimpArgs false
set_option linter.unusedVariables false
set_option linter.unusedSectionVars false
set_option maxRecDepth 4000
set_option maxHeartbeats 8000000
namespace Go.Proofs.Ytligpghohcfpnaa
open Go Go.AW Go.Proofs
theorem lim127_spec {w : Int} : ACalls Try.prog 127 [vi w] [] [] (fun r o => r = (vi ((limN w : Nat) : Int)) ∧ o = []) := by
 refine ACalls.of Try.func127 rfl rfl rfl (n := 6) (by decide) (Nat.le_of_ble_eq_true rfl) (AWp.sr ?_)
 refine .an ?_
 refine AOps.nil (AWp.sr ?_)
 refine .mv ?_
 refine .vl (Y.max rfl rfl rfl) (.vl (Y.min rfl rfl rfl) ?_)
 refine .an ?_
 refine AOps.nil (AWp.ret ?_)
 exact .ri rfl (by unfold limN; (repeat' split) <;> omega)
theorem lim104_spec {w : Int} : ACalls Try.prog 104 [vi w] [] [] (fun r o => r = (vi ((limN w : Nat) : Int)) ∧ o = []) := by
 refine ACalls.of Try.func104 rfl rfl rfl (n := 6) (by decide) (Nat.le_of_ble_eq_true rfl) (AWp.sr ?_)
 refine .an ?_
 refine AOps.nil (AWp.sr ?_)
 refine .mv ?_
 refine .vl (Y.max rfl rfl rfl) (.vl (Y.min rfl rfl rfl) ?_)
 refine .an ?_
 refine AOps.nil (AWp.ret ?_)
 exact .ri rfl (by unfold limN; (repeat' split) <;> omega)
theorem mask_spec {w : Int} : ACalls Try.prog 103 [vi w] [] [] (fun r o => r = .v (.int .u64 ((2 ^ limN w - 1 : Nat) : Int)) ∧ o = []) := by
 refine ACalls.of Try.func103 rfl rfl rfl (n := 10) (by decide) (Nat.le_of_ble_eq_true rfl) ?_
 have hl := limN_le w
 refine AWp.sr ?_
 refine .an ?_
 refine AOps.nil (AWp.seq (AWp.sr ?_))
 refine .mv ?_
 refine AOps.callP ok127 (lim127_spec (w := w)) rfl (.keep rfl rfl .nil) (by decide) rfl ?_
 refine .an ?_
 refine AOps.nil (AWp.sr ?_)
 refine .mv ?_
 refine .vl (Y.eql rfl rfl) (AOps.nil ?_)
 refine AWp.condD rfl (fun c6 => ?_) (fun c6 => ?_)
 refine AWp.sr ?_
 refine .an ?_
 refine AOps.nil (AWp.ret ?_)
 exact .ri rfl (by rw [show limN w = 0 by omega]; rfl)
 refine AWp.skip (AWp.sr ?_)
 refine .mv ?_
 refine .vl (Y.subI rfl rfl (by first | omega | simp [-List.getD_eq_getElem?_getD] <;> omega)) ?_
 refine .vl (Y.shrN (a := 18446744073709551615) ((64 - ((limN w : Nat) : Int)).toNat) rfl rfl (by omega) (by omega)) ?_
 refine .an ?_
 refine AOps.nil (AWp.ret ?_)
 exact .ri rfl (by rw [show ((64 : Int) - ((limN w : Nat) : Int)).toNat = 64 - limN w by omega, mask_eq])
theorem bfit_spec {w : Int} {x : Nat} (hx : x < 18446744073709551616) : ACalls Try.prog 65 [vi w, .v (.int .u64 (x : Int))] [] [] (fun r o => r = .v (.int .u64 ((fitN w x : Nat) : Int)) ∧ o = []) := by
 refine ACalls.of Try.func65 rfl rfl rfl (n := 9) (by decide) (Nat.le_of_ble_eq_true rfl) ?_
 have hm := mask_lt w
 refine AWp.sr ?_
 refine .an ?_
 refine AOps.nil (AWp.sr ?_)
 refine .mv ?_
 refine .mv ?_
 refine AOps.callP ok103 (mask_spec (w := w)) rfl (.keep rfl rfl .nil) (by decide) rfl ?_
 refine .vl (Y.andN (a := x) (b := (2 ^ limN w - 1)) rfl rfl (by omega)) ?_
 refine .an ?_
 refine AOps.nil (AWp.ret ?_)
 exact .ri rfl (by rw [fitN_and])
theorem isCompare_spec {w : Int} : ACalls Try.prog 74 [vi w] [] [] (fun r o => r = .v (.bool (decide (Cmp w))) ∧ o = []) := by
 refine ACalls.of Try.func74 rfl rfl rfl (n := 9) (by decide) (Nat.le_of_ble_eq_true rfl) (AWp.sr ?_)
 refine .an ?_
 refine AOps.nil (AWp.sr ?_)
 refine .mv ?_
 refine .vl (Y.geq rfl rfl) ?_
 refine .mv ?_
 refine AOps.splitD (d := 5) rfl (fun c5 => ?_) (fun c5 => ?_)
 refine .gw 5 (Y.move rfl rfl) (.gw 5 (Y.leq rfl rfl) ?_)
 refine .pk ?_
 refine .an ?_
 refine AOps.nil (AWp.ret ?_)
 exact .rb rfl (dd (by (simp only [Cmp]) <;> (first | omega | grind)))
 refine .gz 5 (.gz 5 ?_)
 refine .pk ?_
 refine .an ?_
 refine AOps.nil (AWp.ret ?_)
 exact .rb rfl (df (by (simp only [Cmp]) <;> (first | omega | grind)))
theorem refIsCompare_spec {w : Int} : ACalls Try.prog 77 [vi w] [] [] (fun r o => r = .v (.bool (decide (Cmp w))) ∧ o = []) := by
 refine ACalls.of Try.func77 rfl rfl rfl (n := 9) (by decide) (Nat.le_of_ble_eq_true rfl) (AWp.sr ?_)
 refine .an ?_
 refine AOps.nil (AWp.sr ?_)
 refine .mv ?_
 refine .vl (Y.geq rfl rfl) ?_
 refine .mv ?_
 refine AOps.splitD (d := 5) rfl (fun c5 => ?_) (fun c5 => ?_)
 refine .gw 5 (Y.move rfl rfl) (.gw 5 (Y.leq rfl rfl) ?_)
 refine .pk ?_
 refine .an ?_
 refine AOps.nil (AWp.ret ?_)
 exact .rb rfl (dd (by (simp only [Cmp]) <;> (first | omega | grind)))
 refine .gz 5 (.gz 5 ?_)
 refine .pk ?_
 refine .an ?_
 refine AOps.nil (AWp.ret ?_)
 exact .rb rfl (df (by (simp only [Cmp]) <;> (first | omega | grind)))
theorem isBinary_spec {w : Int} : ACalls Try.prog 132 [vi w] [] [] (fun r o => r = .v (.bool (decide (Bin w))) ∧ o = []) := by
 refine ACalls.of Try.func132 rfl rfl rfl (n := 9) (by decide) (Nat.le_of_ble_eq_true rfl) (AWp.sr ?_)
 refine .an ?_
 refine AOps.nil (AWp.sr ?_)
 refine .mv ?_
 refine .vl (Y.geq rfl rfl) ?_
 refine .mv ?_
 refine AOps.splitD (d := 5) rfl (fun c5 => ?_) (fun c5 => ?_)
 refine .gw 5 (Y.move rfl rfl) (.gw 5 (Y.leq rfl rfl) ?_)
 refine .pk ?_
 refine .an ?_
 refine AOps.nil (AWp.ret ?_)
 exact .rb rfl (dd (by (simp only [Bin]) <;> (first | omega | grind)))
 refine .gz 5 (.gz 5 ?_)
 refine .pk ?_
 refine .an ?_
 refine AOps.nil (AWp.ret ?_)
 exact .rb rfl (df (by (simp only [Bin]) <;> (first | omega | grind)))
theorem unary_spec {w : Int} : ACalls Try.prog 118 [vi w] [] [] (fun r o => r = .v (.bool (decide (Unary w))) ∧ o = []) := by
 refine ACalls.of Try.func118 rfl rfl rfl (n := 13) (by decide) (Nat.le_of_ble_eq_true rfl) (AWp.sr ?_)
 refine .an ?_
 refine AOps.nil (AWp.sr ?_)
 refine .mv ?_
 refine .vl (Y.eql rfl rfl) ?_
 refine .mv ?_
 refine AOps.splitD (d := 5) rfl (fun c5 => ?_) (fun c5 => ?_)
 refine .gz 5 (.gz 5 ?_)
 refine .pk ?_
 refine .mv ?_
 refine .gz 9 (.gz 9 ?_)
 refine .pk ?_
 refine .an ?_
 refine AOps.nil (AWp.ret ?_)
 exact .rb rfl (dt (by (simp only [Unary]) <;> (first | omega | grind)))
 refine .gw 5 (Y.move rfl rfl) (.gw 5 (Y.eql rfl rfl) ?_)
 refine .pk ?_
 refine .mv ?_
 refine AOps.splitD (d := 9) rfl (fun c9 => ?_) (fun c9 => ?_)
 refine .gz 9 (.gz 9 ?_)
 refine .pk ?_
 refine .an ?_
 refine AOps.nil (AWp.ret ?_)
 exact .rb rfl (dt (by (simp only [Unary]) <;> (first | omega | grind)))
 refine .gw 9 (Y.move rfl rfl) (.gw 9 (Y.eql rfl rfl) ?_)
 refine .pk ?_
 refine .an ?_
 refine AOps.nil (AWp.ret ?_)
 exact .rb rfl (dd (by (simp only [Unary]) <;> (first | omega | grind)))
theorem sequential_spec {w : Int} : ACalls Try.prog 120 [vi w] [] [] (fun r o => r = .v (.bool (decide (Seq w))) ∧ o = []) := by
 refine ACalls.of Try.func120 rfl rfl rfl (n := 9) (by decide) (Nat.le_of_ble_eq_true rfl) (AWp.sr ?_)
 refine .an ?_
 refine AOps.nil (AWp.sr ?_)
 refine .mv ?_
 refine .vl (Y.geq rfl rfl) ?_
 refine .mv ?_
 refine AOps.splitD (d := 5) rfl (fun c5 => ?_) (fun c5 => ?_)
 refine .gw 5 (Y.move rfl rfl) (.gw 5 (Y.leq rfl rfl) ?_)
 refine .pk ?_
 refine .an ?_
 refine AOps.nil (AWp.ret ?_)
 exact .rb rfl (dd (by (simp only [Seq]) <;> (first | omega | grind)))
 refine .gz 5 (.gz 5 ?_)
 refine .pk ?_
 refine .an ?_
 refine AOps.nil (AWp.ret ?_)
 exact .rb rfl (df (by (simp only [Seq]) <;> (first | omega | grind)))
theorem comb_spec {w : Int} : ACalls Try.prog 21 [vi w] [] [] (fun r o => r = .v (.bool (decide (Comb w))) ∧ o = []) := by
 refine ACalls.of Try.func21 rfl rfl rfl (n := 13) (by decide) (Nat.le_of_ble_eq_true rfl) (AWp.sr ?_)
 refine .an ?_
 refine AOps.nil (AWp.sr ?_)
 refine .mv ?_
 refine .vl (Y.eql rfl rfl) ?_
 refine .mv ?_
 refine AOps.splitD (d := 5) rfl (fun c5 => ?_) (fun c5 => ?_)
 refine .gz 5 (.gz 5 ?_)
 refine .pk ?_
 refine .mv ?_
 refine .gz 9 (.gz 9 ?_)
 refine .pk ?_
 refine .an ?_
 refine AOps.nil (AWp.ret ?_)
 exact .rb rfl (dt (by (simp only [Comb]) <;> (first | omega | grind)))
 refine .gw 5 (Y.move rfl rfl) (.gw 5 (Y.eql rfl rfl) ?_)
 refine .pk ?_
 refine .mv ?_
 refine AOps.splitD (d := 9) rfl (fun c9 => ?_) (fun c9 => ?_)
 refine .gz 9 (.gz 9 ?_)
 refine .pk ?_
 refine .an ?_
 refine AOps.nil (AWp.ret ?_)
 exact .rb rfl (dt (by (simp only [Comb]) <;> (first | omega | grind)))
 refine .gw 9 (Y.move rfl rfl) (.gw 9 (Y.eql rfl rfl) ?_)
 refine .pk ?_
 refine .an ?_
 refine AOps.nil (AWp.ret ?_)
 exact .rb rfl (dd (by (simp only [Comb]) <;> (first | omega | grind)))
theorem refComb_spec {w : Int} : ACalls Try.prog 22 [vi w] [] [] (fun r o => r = .v (.bool (decide (Comb w))) ∧ o = []) := by
 refine ACalls.of Try.func22 rfl rfl rfl (n := 13) (by decide) (Nat.le_of_ble_eq_true rfl) (AWp.sr ?_)
 refine .an ?_
 refine AOps.nil (AWp.sr ?_)
 refine .mv ?_
 refine .vl (Y.eql rfl rfl) ?_
 refine .mv ?_
 refine AOps.splitD (d := 5) rfl (fun c5 => ?_) (fun c5 => ?_)
 refine .gz 5 (.gz 5 ?_)
 refine .pk ?_
 refine .mv ?_
 refine .gz 9 (.gz 9 ?_)
 refine .pk ?_
 refine .an ?_
 refine AOps.nil (AWp.ret ?_)
 exact .rb rfl (dt (by (simp only [Comb]) <;> (first | omega | grind)))
 refine .gw 5 (Y.move rfl rfl) (.gw 5 (Y.eql rfl rfl) ?_)
 refine .pk ?_
 refine .mv ?_
 refine AOps.splitD (d := 9) rfl (fun c9 => ?_) (fun c9 => ?_)
 refine .gz 9 (.gz 9 ?_)
 refine .pk ?_
 refine .an ?_
 refine AOps.nil (AWp.ret ?_)
 exact .rb rfl (dt (by (simp only [Comb]) <;> (first | omega | grind)))
 refine .gw 9 (Y.move rfl rfl) (.gw 9 (Y.eql rfl rfl) ?_)
 refine .pk ?_
 refine .an ?_
 refine AOps.nil (AWp.ret ?_)
 exact .rb rfl (dd (by (simp only [Comb]) <;> (first | omega | grind)))
theorem plain_spec {w : Int} : ACalls Try.prog 119 [vi w] [] [] (fun r o => r = .v (.bool (decide (Plain w))) ∧ o = []) := by
 refine ACalls.of Try.func119 rfl rfl rfl (n := 18) (by decide) (Nat.le_of_ble_eq_true rfl) (AWp.sr ?_)
 refine .an ?_
 refine AOps.nil (AWp.sr ?_)
 refine .mv ?_
 refine AOps.callP ok132 (isBinary_spec (w := w)) rfl (.keep rfl rfl .nil) (by decide) rfl ?_
 refine .mv ?_
 refine AOps.splitD (d := 5) rfl (fun c5 => ?_) (fun c5 => ?_)
 refine .gw 5 (Y.move rfl rfl) (AOps.guardRun (d := 5) rfl (by decide) rfl (AOps.callP ok120 (sequential_spec (w := w)) rfl (.keep rfl rfl .nil) (by decide) rfl ?_))
 refine .gw 5 (Y.not rfl) ?_
 refine .pk ?_
 refine .mv ?_
 refine AOps.split (d := 10) rfl (fun c10 => ?_) (fun c10 => ?_)
 replace c10 : ¬ (Seq w) := by simpa using c10
 refine .gz 10 (.gz 10 ?_)
 refine .pk ?_
 refine .mv ?_
 refine .gz 14 (.gz 14 ?_)
 refine .pk ?_
 refine .an ?_
 refine AOps.nil (AWp.ret ?_)
 exact .rb rfl (dt (by (simp only [Plain]) <;> (first | omega | grind)))
 replace c10 : Seq w := by simpa using c10
 refine .gw 10 (Y.move rfl rfl) (.gw 10 (Y.eql rfl rfl) ?_)
 refine .pk ?_
 refine .mv ?_
 refine AOps.splitD (d := 14) rfl (fun c14 => ?_) (fun c14 => ?_)
 refine .gz 14 (.gz 14 ?_)
 refine .pk ?_
 refine .an ?_
 refine AOps.nil (AWp.ret ?_)
 exact .rb rfl (dt (by (simp only [Plain]) <;> (first | omega | grind)))
 refine .gw 14 (Y.move rfl rfl) (AOps.guardRun (d := 14) rfl (by decide) rfl (AOps.callP ok118 (unary_spec (w := w)) rfl (.keep rfl rfl .nil) (by decide) rfl ?_))
 refine .pk ?_
 refine .an ?_
 refine AOps.nil (AWp.ret ?_)
 exact .rb rfl (dd (by (simp only [Plain]) <;> (first | omega | grind)))
 refine .gz 5 (.gz 5 (.gz 5 ?_))
 refine .pk ?_
 refine .mv ?_
 refine .gw 10 (Y.move rfl rfl) (.gw 10 (Y.eql rfl rfl) ?_)
 refine .pk ?_
 refine .mv ?_
 refine AOps.splitD (d := 14) rfl (fun c14 => ?_) (fun c14 => ?_)
 refine .gz 14 (.gz 14 ?_)
 refine .pk ?_
 refine .an ?_
 refine AOps.nil (AWp.ret ?_)
 exact .rb rfl (dt (by (simp only [Plain]) <;> (first | omega | grind)))
 refine .gw 14 (Y.move rfl rfl) (AOps.guardRun (d := 14) rfl (by decide) rfl (AOps.callP ok118 (unary_spec (w := w)) rfl (.keep rfl rfl .nil) (by decide) rfl ?_))
 refine .pk ?_
 refine .an ?_
 refine AOps.nil (AWp.ret ?_)
 exact .rb rfl (dd (by (simp only [Plain]) <;> (first | omega | grind)))
theorem within_spec {i n : Int} : ACalls Try.prog 59 [vi i, vi n] [] [] (fun r o => r = .v (.bool (decide (In i n))) ∧ o = []) := by
 refine ACalls.of Try.func59 rfl rfl rfl (n := 12) (by decide) (Nat.le_of_ble_eq_true rfl) (AWp.sr ?_)
 refine .an ?_
 refine AOps.nil (AWp.sr ?_)
 refine .mv ?_
 refine .vl (Y.geq rfl rfl) ?_
 refine .mv ?_
 refine AOps.splitD (d := 7) rfl (fun c7 => ?_) (fun c7 => ?_)
 refine .gw 7 (Y.move rfl rfl) (.gw 7 (Y.move rfl rfl) (.gw 7 (Y.lss rfl rfl) ?_))
 refine .pk ?_
 refine .an ?_
 refine AOps.nil (AWp.ret ?_)
 exact .rb rfl (dd (by (simp only [In]) <;> (first | omega | grind)))
 refine .gz 7 (.gz 7 (.gz 7 ?_))
 refine .pk ?_
 refine .an ?_
 refine AOps.nil (AWp.ret ?_)
 exact .rb rfl (df (by (simp only [In]) <;> (first | omega | grind)))
end Go.Proofs.Ytligpghohcfpnaa
/- Walks through the specification of words. -/
namespace Go.Proofs.Ytligpghohcfpnaa
open Go Go.AW Go.Proofs
theorem ones_spec {w : Int} : ACalls Try.prog 121 [vi w] [] [] (fun r o => r = .v (.int .u64 ((2 ^ limN w - 1 : Nat) : Int)) ∧ o = []) := by
 refine ACalls.of Try.func121 rfl rfl rfl (n := 15) (by decide) (Nat.le_of_ble_eq_true rfl) ?_
 have hl := limN_le w
 refine AWp.sr ?_
 refine .an ?_
 refine AOps.nil (AWp.sr ?_)
 refine .an ?_
 refine AOps.nil (AWp.seq (AWp.sr ?_))
 refine .an ?_
 refine AOps.nil (AWp.block ?_)
 refine AWp.loop2 (fun (x3_3 : Nat) (i4_3 : Nat) => ⟨[(0, vi w), (3, .v (.int .u64 (x3_3 : Int))), (4, vi (i4_3 : Int))], []⟩) (fun (x3_3 : Nat) (i4_3 : Nat) => ((i4_3 : Int) ≤ ((limN w : Nat) : Int)) ∧ (x3_3 = 2 ^ i4_3 - 1)) (fun (x3_3 : Nat) (i4_3 : Nat) => (((limN w : Nat) : Int) - (i4_3 : Int)).toNat) 0 0 (⟨by omega, rfl⟩) (Le.mk (.c (.cons (look_int rfl (by first | rfl | omega)) (.cons (look_int rfl (by first | rfl | omega)) (.nil)))) (.nil)) (fun x3_3 i4_3 hI3 => ?_)
 obtain ⟨hb3, hx⟩ := hI3
 refine AWp.seq (AWp.sr ?_)
 refine .mv ?_
 refine .mv ?_
 refine AOps.callP ok104 (lim104_spec (w := w)) rfl (.keep rfl rfl .nil) (by decide) rfl (.vl (Y.lss rfl rfl) (AOps.nil ?_))
 refine AWp.condD rfl (fun c8 => ?_) (fun c8 => ?_)
 refine AWp.skip (AWp.seq (AWp.block ?_))
 refine AWp.region ?_
 refine .mv ?_
 refine .vl (Y.mulN (a := 2) (b := x3_3) rfl rfl) (.vl (Y.addN (a := ((2 * x3_3) % 18446744073709551616)) (b := 1) rfl rfl) ?_)
 refine .an ?_
 refine AOps.nil (AWp.region ?_)
 refine .mv ?_
 refine .vl (Y.addI rfl rfl (by omega)) ?_
 refine .an ?_
 refine AOps.nil ?_
 exact ⟨(((2 * x3_3) % 18446744073709551616) + 1) % 18446744073709551616, i4_3 + 1, ⟨by omega, ones_step hx (by omega)⟩, by omega, Le.mk (.c (.cons (look_int rfl (by first | rfl | omega)) (.cons (look_int rfl (by first | rfl | omega)) (.nil)))) (.nil)⟩
 refine AWp.exit (AWp.sr ?_)
 refine .mv ?_
 refine .an ?_
 refine AOps.nil (AWp.ret ?_)
 exact .ri rfl (by rw [hx, show i4_3 = limN w by omega])
theorem bits_spec {w : Int} {x : Nat} (hx : x < 18446744073709551616) : ACalls Try.prog 67 [vi w, .v (.int .u64 ((x : Nat) : Int))] [] [] (fun r o => r = .uni 1 ((bitsN (limN w) x).map irow) ∧ o = []) := by
 refine ACalls.of Try.func67 rfl rfl rfl (n := 22) (by decide) (Nat.le_of_ble_eq_true rfl) ?_
 have hl := limN_le w
 refine AWp.sr ?_
 refine .an ?_
 refine AOps.nil (AWp.sr ?_)
 refine .an ?_
 refine AOps.sh (Sh.nil (d := 5) 105 1 rfl (by decide)) (AOps.nil (AWp.seq ?_))
 refine AWp.sr ?_
 refine .an ?_
 refine AOps.nil (AWp.block ?_)
 refine AWp.loop3 (fun (x1_3 : Nat) (i6_3 : Nat) (out5_3 : List Int) => ⟨[(0, vi w), (1, .v (.int .u64 (x1_3 : Int))), (5, .slc 105 1 0 out5_3.length), (6, vi (i6_3 : Int))], [(105, .rows 1 (out5_3.map irow))]⟩) (fun (x1_3 : Nat) (i6_3 : Nat) (out5_3 : List Int) => ((i6_3 : Int) ≤ ((limN w : Nat) : Int)) ∧ (out5_3.length = i6_3) ∧ (out5_3 = bitsN i6_3 x) ∧ (x1_3 = x / 2 ^ i6_3) ∧ (x1_3 < 18446744073709551616)) (fun (x1_3 : Nat) (i6_3 : Nat) (out5_3 : List Int) => (((limN w : Nat) : Int) - (i6_3 : Int)).toNat) x 0 ([] : List Int) (⟨by first | omega | (simp [-List.getD_eq_getElem?_getD]; done) | (simp [-List.getD_eq_getElem?_getD]; omega), rfl, rfl, by simp, hx⟩) (Le.mk (.c (.cons (look_int rfl (by first | rfl | omega)) (.cons (look_slc rfl (by first | omega | simp [-List.getD_eq_getElem?_getD] <;> omega)) (.cons (look_int rfl (by first | rfl | omega)) (.nil))))) (.c (.nil))) (fun x1_3 i6_3 out5_3 hI3 => ?_)
 obtain ⟨hb3, hlen, hb, hv, hm⟩ := hI3
 refine AWp.seq (AWp.sr ?_)
 refine .mv ?_
 refine .mv ?_
 refine AOps.callP ok104 (lim104_spec (w := w)) rfl (.keep rfl rfl .nil) (by decide) rfl (.vl (Y.lss rfl rfl) (AOps.nil ?_))
 refine AWp.condD rfl (fun c10 => ?_) (fun c10 => ?_)
 refine AWp.skip (AWp.seq (AWp.block ?_))
 refine AWp.sr ?_
 refine .mv ?_
 refine .mv ?_
 refine .vl (Y.remN (a := x1_3) (b := 2) rfl rfl (by omega)) ?_
 refine .vl (Y.convK ii37 ii3 rfl (by first | rfl | exact IntWalk.i64_in _ (by omega))) ?_
 refine AOps.buildSlice (([((x1_3 % 2 : Nat) : Int)] : List Int).map irow) sl22 ze3 rfl rfl rfl rfl rfl (uniform_map (s := 1) (f := irow) (fun _ => rfl)) rfl rfl rfl (by decide) ?_
 refine AOps.appendE ((out5_3 ++ ([((x1_3 % 2 : Nat) : Int)] : List Int)).map irow) (out5_3 ++ ([((x1_3 % 2 : Nat) : Int)] : List Int)).length sl22 ze3 rfl rfl rfl rfl (app_le (by first | omega | simp [-List.getD_eq_getElem?_getD] <;> omega)) (app_map (by first | omega | simp [-List.getD_eq_getElem?_getD] <;> omega)) (app_n (by first | omega | simp [-List.getD_eq_getElem?_getD] <;> omega)) (by first | omega | simp [-List.getD_eq_getElem?_getD] <;> omega) (by first | omega | simp [-List.getD_eq_getElem?_getD] <;> omega) (by decide) (by decide) ?_
 refine .an ?_
 refine AOps.nil (AWp.region ?_)
 refine .mv ?_
 refine .vl (Y.quoN (a := x1_3) (b := 2) rfl rfl (by omega)) ?_
 refine .an ?_
 refine AOps.nil (AWp.region ?_)
 refine .mv ?_
 refine .vl (Y.addI rfl rfl (by omega)) ?_
 refine .an ?_
 refine AOps.nil ?_
 exact ⟨x1_3 / 2, i6_3 + 1, out5_3 ++ ([((x1_3 % 2 : Nat) : Int)] : List Int), ⟨by omega, by simp; omega, by rw [hb, bitsN_succ, hv], by rw [hv, Nat.div_div_eq_div_mul, Nat.pow_succ], by omega⟩, by omega, Le.mk (.c (.cons (look_int rfl (by first | rfl | omega)) (.cons (look_slc rfl (by omega)) (.cons (look_int rfl (by first | rfl | omega)) (.nil))))) (.c (.nil))⟩
 refine AWp.exit (AWp.sr ?_)
 refine .mv ?_
 refine .an ?_
 refine AOps.sh (Sh.detach (d := 4) (o := 105) rfl rfl (len_map (by omega)) (by decide)) ?_
 refine AOps.nil (AWp.ret ?_)
 exact ⟨_, _, rfl, rfl, (cg1 (fun (z0 : List Int) => X.uni 1 (z0.map irow)) (by rw [hb, show i6_3 = limN w by omega] : out5_3 = bitsN (limN w) x) : X.uni 1 (out5_3.map irow) = X.uni 1 ((bitsN (limN w) x).map irow)), rfl⟩
theorem word_spec {l : List Int} (h1 : ∀ b ∈ l, 0 ≤ b ∧ b ≤ 1) (h2 : l.length ≤ 64) : ACalls Try.prog 66 [.fz 1 (l.map irow)] [] [] (fun r o => r = .v (.int .u64 ((wordN l : Nat) : Int)) ∧ o = []) := by
 refine ACalls.of Try.func66 rfl rfl rfl (n := 21) (by decide) (Nat.le_of_ble_eq_true rfl) (AWp.sr ?_)
 refine .an ?_
 refine AOps.nil (AWp.sr ?_)
 refine .an ?_
 refine AOps.nil (AWp.seq (AWp.sr ?_))
 refine .mv ?_
 refine .vl (Y.len (n := l.length) sl22 rfl (congrArg some (List.length_map ..))) ?_
 refine .vl (Y.subI rfl rfl (by first | omega | simp [-List.getD_eq_getElem?_getD] <;> omega)) ?_
 refine .an ?_
 refine AOps.nil (AWp.block ?_)
 refine AWp.loop2 (fun (x3_3 : Nat) (i4_3 : Int) => ⟨[(0, .fz 1 (l.map irow)), (3, .v (.int .u64 (x3_3 : Int))), (4, vi i4_3)], []⟩) (fun (x3_3 : Nat) (i4_3 : Int) => (-1 ≤ i4_3 ∧ i4_3 < (l.length : Int)) ∧ (x3_3 = wordN (l.drop (i4_3 + 1).toNat))) (fun (x3_3 : Nat) (i4_3 : Int) => (i4_3 + 1).toNat) 0 (((l.length : Nat) : Int) - 1) (⟨by omega, by rw [List.drop_eq_nil_of_le (by omega)]; rfl⟩) (Le.mk (.c (.cons (look_int rfl (by first | rfl | omega)) (.cons (look_int rfl (by first | rfl | omega)) (.nil)))) (.nil)) (fun x3_3 i4_3 hI3 => ?_)
 obtain ⟨hi, hx⟩ := hI3
 refine AWp.seq (AWp.sr ?_)
 refine .mv ?_
 refine .vl (Y.geq rfl rfl) (AOps.nil ?_)
 refine AWp.condD rfl (fun c9 => ?_) (fun c9 => ?_)
 refine AWp.skip (AWp.seq (AWp.block ?_))
 refine AWp.region ?_
 refine .mv ?_
 refine .vl (Y.mulN (a := 2) (b := x3_3) rfl rfl) ?_
 refine .mv ?_
 refine .mv ?_
 refine .vl (Y.indexF (m := (i4_3).toNat) sl22 rfl rfl (by omega) (row_getD (d := 0) (by omega))) ?_
 have hb := h1 _ (getD_mem (l := l) (i := i4_3.toNat) (by omega))
 refine .ld sh3 ?_
 refine .vl (Y.conv ii3 ii37 rfl (u64_toNat _ (by omega))) ?_
 refine .vl (Y.addN (a := ((2 * x3_3) % 18446744073709551616)) (b := ((l.getD ((i4_3).toNat) 0).toNat)) rfl rfl) ?_
 refine .an ?_
 refine AOps.nil (AWp.region ?_)
 refine .mv ?_
 refine .vl (Y.subI rfl rfl (by first | omega | simp [-List.getD_eq_getElem?_getD] <;> omega)) ?_
 refine .an ?_
 refine AOps.nil ?_
 exact ⟨(((2 * x3_3) % 18446744073709551616) + ((l.getD ((i4_3).toNat) 0).toNat)) % 18446744073709551616, i4_3 - 1, ⟨by omega, word_step h1 h2 (by omega) hx⟩, by omega, Le.mk (.c (.cons (look_int rfl (by first | rfl | omega)) (.cons (look_int rfl (by first | rfl | omega)) (.nil)))) (.nil)⟩
 refine AWp.exit (AWp.sr ?_)
 refine .mv ?_
 refine .an ?_
 refine AOps.nil (AWp.ret ?_)
 exact .ri rfl (by rw [hx, show (i4_3 + 1).toNat = 0 by omega, List.drop_zero])
theorem rfit_spec {w : Int} {x : Nat} (hx : x < 18446744073709551616) : ACalls Try.prog 26 [vi w, .v (.int .u64 ((x : Nat) : Int))] [] [] (fun r o => r = .v (.int .u64 ((fitN w x : Nat) : Int)) ∧ o = []) := by
 refine ACalls.of Try.func26 rfl rfl rfl (n := 9) (by decide) (Nat.le_of_ble_eq_true rfl) (AWp.sr ?_)
 refine .an ?_
 refine AOps.nil (AWp.sr ?_)
 refine .mv ?_
 refine .mv ?_
 refine AOps.callP ok67 (bits_spec (w := w) (x := x) ((by omega))) rfl (.keep rfl rfl (.keep rfl rfl .nil)) (by decide) rfl ?_
 refine AOps.sh (Sh.freezeE (d := 7) ((bitsN (limN w) x).map irow) rfl (by first | rfl | exact rep_map rfl) (Frees.map irow_frees)) (AOps.callP ok66 (word_spec (l := (bitsN (limN w) x)) (bitsN_01 _ _) (by rw [bitsN_len]; exact limN_le _)) rfl (.keep rfl rfl .nil) (by decide) rfl ?_)
 refine .an ?_
 refine AOps.nil (AWp.ret ?_)
 exact .ri rfl (by rw [wordN_bits]; rfl)
end Go.Proofs.Ytligpghohcfpnaa
/- Walks through the widths of the specification. -/
namespace Go.Proofs.Ytligpghohcfpnaa
open Go Go.AW Go.Proofs
theorem refOperands_spec {op w : Int} {a : List Int} (h1 : 1 ≤ a.length) (h2 : op < 22 ∨ 24 < op → 2 ≤ a.length) (h3 : op = 21 → 3 ≤ a.length) (ha : a.length ≤ 17592186043904) : ACalls Try.prog 122 [vi op, .fz 1 (a.map irow), vi w] [] [] (fun r o => r = .v (.bool (decide (OpFits op (a.getD 0 0) (a.getD 1 0) (a.getD 2 0) w))) ∧ o = []) := by
 refine ACalls.of Try.func122 rfl rfl rfl (n := 70) (by decide) (Nat.le_of_ble_eq_true rfl) (AWp.sr ?_)
 refine .an ?_
 refine AOps.nil (AWp.seq (AWp.block ?_))
 refine AWp.sr ?_
 refine .mv ?_
 refine .vl (Y.eql rfl rfl) ?_
 refine .an ?_
 refine AOps.nil ?_
 refine AWp.condD rfl (fun c7 => ?_) (fun c7 => ?_)
 refine AWp.sr ?_
 refine .mv ?_
 refine .vl (Y.indexF (m := 0) sl22 rfl rfl (by first | rfl | omega) (row_getD (d := 0) (by first | omega | (unfold Unary Cmp at *; omega)))) ?_
 refine .ld sh3 ?_
 refine .vl (Y.eql rfl rfl) ?_
 refine .mv ?_
 refine AOps.splitD (d := 14) rfl (fun c14 => ?_) (fun c14 => ?_)
 refine .gw 14 (Y.move rfl rfl) (.gw 14 (Y.indexF (m := 1) sl22 rfl rfl (by first | rfl | omega) (row_getD (d := 0) (by first | omega | (unfold Unary Cmp at *; omega)))) (.gw 14 (Y.load sh3 rfl rfl rfl rfl) ?_))
 refine .gw 14 (Y.move rfl rfl) (.gw 14 (Y.eql rfl rfl) ?_)
 refine .pk ?_
 refine .mv ?_
 refine AOps.splitD (d := 21) rfl (fun c21 => ?_) (fun c21 => ?_)
 refine .gw 21 (Y.move rfl rfl) (.gw 21 (Y.indexF (m := 2) sl22 rfl rfl (by first | rfl | omega) (row_getD (d := 0) (by first | omega | (unfold Unary Cmp at *; omega)))) (.gw 21 (Y.load sh3 rfl rfl rfl rfl) ?_))
 refine .gw 21 (Y.move rfl rfl) (.gw 21 (Y.eql rfl rfl) ?_)
 refine .pk ?_
 refine .an ?_
 refine AOps.nil (AWp.ret ?_)
 exact .rb rfl (dd (by unfold OpFits Cmp; (try unfold Unary at *); (try unfold Cmp at *); (first | omega | grind)))
 refine .gz 21 (.gz 21 (.gz 21 ?_))
 refine .gz 21 (.gz 21 ?_)
 refine .pk ?_
 refine .an ?_
 refine AOps.nil (AWp.ret ?_)
 exact .rb rfl (df (by unfold OpFits Cmp; (try unfold Unary at *); (try unfold Cmp at *); (first | omega | grind)))
 refine .gz 14 (.gz 14 (.gz 14 ?_))
 refine .gz 14 (.gz 14 ?_)
 refine .pk ?_
 refine .mv ?_
 refine .gz 21 (.gz 21 (.gz 21 ?_))
 refine .gz 21 (.gz 21 ?_)
 refine .pk ?_
 refine .an ?_
 refine AOps.nil (AWp.ret ?_)
 exact .rb rfl (df (by unfold OpFits Cmp; (try unfold Unary at *); (try unfold Cmp at *); (first | omega | grind)))
 refine AWp.sr ?_
 refine .mv ?_
 refine .vl (Y.eql rfl rfl) ?_
 refine .an ?_
 refine AOps.nil ?_
 refine AWp.condD rfl (fun c28 => ?_) (fun c28 => ?_)
 refine AWp.sr ?_
 refine .mv ?_
 refine .vl (Y.indexF (m := 0) sl22 rfl rfl (by first | rfl | omega) (row_getD (d := 0) (by first | omega | (unfold Unary Cmp at *; omega)))) ?_
 refine .ld sh3 ?_
 refine .mv ?_
 refine .vl (Y.geq rfl rfl) ?_
 refine .an ?_
 refine AOps.nil (AWp.ret ?_)
 exact .rb rfl (dd (by unfold OpFits Cmp; (try unfold Unary at *); (try unfold Cmp at *); (first | omega | grind)))
 refine AWp.sr ?_
 refine .mv ?_
 refine AOps.callP ok118 (unary_spec (w := op)) rfl (.keep rfl rfl .nil) (by decide) rfl ?_
 refine .an ?_
 refine AOps.nil ?_
 refine AWp.condD rfl (fun c36 => ?_) (fun c36 => ?_)
 refine AWp.sr ?_
 refine .mv ?_
 refine .vl (Y.indexF (m := 0) sl22 rfl rfl (by first | rfl | omega) (row_getD (d := 0) (by first | omega | (unfold Unary Cmp at *; omega)))) ?_
 refine .ld sh3 ?_
 refine .mv ?_
 refine .vl (Y.leq rfl rfl) ?_
 refine .an ?_
 refine AOps.nil (AWp.ret ?_)
 exact .rb rfl (dd (by unfold OpFits Cmp; (try unfold Unary at *); (try unfold Cmp at *); (first | omega | grind)))
 refine AWp.sr ?_
 refine .mv ?_
 refine AOps.callP ok77 (refIsCompare_spec (w := op)) rfl (.keep rfl rfl .nil) (by decide) rfl ?_
 refine .an ?_
 refine AOps.nil ?_
 refine AWp.condD rfl (fun c44 => ?_) (fun c44 => ?_)
 refine AWp.seq (AWp.regionS rfl (by kernel_rfl) (AHead.val (Y.move rfl rfl) (by decide) ?_))
 refine AHead.val (Y.indexF (m := 0) sl22 rfl rfl (by first | rfl | omega) (row_getD (d := 0) (by first | omega | (unfold Unary Cmp at *; omega)))) (by decide) (AHead.val (Y.load sh3 rfl rfl rfl rfl) (by decide) (AHead.val (Y.move rfl rfl) (by decide) ?_))
 refine AHead.val (Y.indexF (m := 1) sl22 rfl rfl (by first | rfl | omega) (row_getD (d := 0) (by first | omega | (unfold Unary Cmp at *; omega)))) (by decide) (AHead.val (Y.load sh3 rfl rfl rfl rfl) (by decide) (AHead.val (Y.eql rfl rfl) (by decide) ?_))
 refine AHead.val (Y.move rfl rfl) (by decide) ?_
 refine AHead.splitD (d := 54) rfl (fun c54 => ?_) (fun c54 => ?_)
 refine AHead.guardRun (d := 54) rfl (by decide) rfl (AHead.val (Y.move rfl rfl) (by decide) (AHead.guardRun (d := 54) rfl (by decide) rfl ?_))
 refine AHead.val (Y.eql rfl rfl) (by decide) (AHead.val (Y.pick rfl rfl rfl) (by decide) (AHead.val (Y.assign rfl rfl) (by decide) ?_))
 refine AHead.nil (AWp.ret ?_)
 exact .rb rfl (dd (by unfold OpFits Cmp; (try unfold Unary at *); (try unfold Cmp at *); (first | omega | grind)))
 refine AHead.guardSkipV (d := 54) rfl (by decide) (by decide) rfl rfl (AHead.guardSkipV (d := 54) rfl (by decide) (by decide) rfl rfl (AHead.val (Y.pick rfl rfl rfl) (by decide) ?_))
 refine AHead.val (Y.assign rfl rfl) (by decide) (AHead.nil (AWp.ret ?_))
 exact .rb rfl (df (by unfold OpFits Cmp; (try unfold Unary at *); (try unfold Cmp at *); (first | omega | grind)))
 refine AWp.skip (AWp.sr ?_)
 refine .mv ?_
 refine .vl (Y.indexF (m := 0) sl22 rfl rfl (by first | rfl | omega) (row_getD (d := 0) (by first | omega | (unfold Unary Cmp at *; omega)))) ?_
 refine .ld sh3 ?_
 refine .mv ?_
 refine .vl (Y.eql rfl rfl) ?_
 refine .mv ?_
 refine AOps.splitD (d := 63) rfl (fun c63 => ?_) (fun c63 => ?_)
 refine .gw 63 (Y.move rfl rfl) (.gw 63 (Y.indexF (m := 1) sl22 rfl rfl (by first | rfl | omega) (row_getD (d := 0) (by first | omega | (unfold Unary Cmp at *; omega)))) (.gw 63 (Y.load sh3 rfl rfl rfl rfl) ?_))
 refine .gw 63 (Y.move rfl rfl) (.gw 63 (Y.eql rfl rfl) ?_)
 refine .pk ?_
 refine .an ?_
 refine AOps.nil (AWp.ret ?_)
 exact .rb rfl (dd (by unfold OpFits Cmp; (try unfold Unary at *); (try unfold Cmp at *); (first | omega | grind)))
 refine .gz 63 (.gz 63 (.gz 63 ?_))
 refine .gz 63 (.gz 63 ?_)
 refine .pk ?_
 refine .an ?_
 refine AOps.nil (AWp.ret ?_)
 exact .rb rfl (df (by unfold OpFits Cmp; (try unfold Unary at *); (try unfold Cmp at *); (first | omega | grind)))
theorem refFits_k1 {n : Netlist} {op out mem : Int} {args : List Int} {num : Nat} (hs : n.Small) (hc : args.length ≤ 17592186043904) (hn : num < 18446744073709551616) (hsh : Shaped n (⟨1, op, out, args, num, mem⟩ : Cell)) (hw : Wired n (⟨1, op, out, args, num, mem⟩ : Cell)) : ACalls Try.prog 89 [.agg (Netlist.row n), .agg [vi 1, vi op, vi out, .fz 1 (args.map irow), .v (.int .u64 ((num : Nat) : Int)), vi mem]] [] [] (fun r o => r = .v (.bool (decide (Fits n (⟨1, op, out, args, num, mem⟩ : Cell)))) ∧ o = []) := by
 refine ACalls.of Try.func89 rfl rfl rfl (n := 155) (by decide) (Nat.le_of_ble_eq_true rfl) ?_
 have hs4 := hs.ins; have hs5 := hs.mems; have hs6 := hs.streams; have hs1 := hs.widths
 have ho : 0 ≤ out ∧ out < n.widths.length := by have := hw.out; simp only at this; omega
 have how : n.ow (⟨1, op, out, args, num, mem⟩ : Cell) = n.widths.getD out.toNat 0 := ow_eq ho.1
 have hol := pow_lt64 (limN (n.widths.getD out.toNat 0)) (by have := limN_le (n.widths.getD out.toNat 0); omega)
 refine AWp.sr (AOps.box 102 rfl rfl rfl rfl rfl (by decide) (AOps.box 103 rfl rfl rfl rfl rfl (by decide) ?_))
 refine .an ?_
 refine AOps.nil (AWp.sr ?_)
 refine .an ?_
 refine AOps.sh (Sh.nil (d := 5) 105 1 rfl (by decide)) (AOps.nil (AWp.seq ?_))
 refine AWp.sr ?_
 refine .an ?_
 refine AOps.nil (AWp.block ?_)
 refine AWp.loop2 (fun (i6_3 : Nat) (a5_3 : List Int) => ⟨[(2, .ptr 102 0 0 0), (3, .ptr 103 0 0 0), (5, .slc 105 1 0 a5_3.length), (6, vi (i6_3 : Int))], [(102, .cells (Netlist.row n)), (103, .cells [vi 1, vi op, vi out, .fz 1 (args.map irow), .v (.int .u64 ((num : Nat) : Int)), vi mem]), (105, .rows 1 (a5_3.map irow))]⟩) (fun (i6_3 : Nat) (a5_3 : List Int) => ((i6_3 : Int) ≤ ((args.length : Nat) : Int)) ∧ (a5_3.length = i6_3) ∧ (∀ j, j < i6_3 → a5_3.getD j 0 = n.av (⟨1, op, out, args, num, mem⟩ : Cell) j)) (fun (i6_3 : Nat) (a5_3 : List Int) => (((args.length : Nat) : Int) - (i6_3 : Int)).toNat) 0 ([] : List Int) (⟨by first | omega | (simp [-List.getD_eq_getElem?_getD]; done) | (simp [-List.getD_eq_getElem?_getD]; omega), rfl, fun j hj => by omega⟩) (Le.mk (.c (.c (.cons (look_slc rfl (by first | omega | simp [-List.getD_eq_getElem?_getD] <;> omega)) (.cons (look_int rfl (by first | rfl | omega)) (.nil))))) (.c (.c (.c (.nil))))) (fun i6_3 a5_3 hI3 => ?_)
 obtain ⟨hb3, hal, ha⟩ := hI3
 refine AWp.seq (AWp.sr ?_)
 refine .mv ?_
 refine .fa fl39_3 ?_
 refine .ld sh22 ?_
 refine .vl (Y.len (n := args.length) sl22 rfl (congrArg some (List.length_map ..))) (.vl (Y.lss rfl rfl) (AOps.nil ?_))
 refine AWp.condD rfl (fun c13 => ?_) (fun c13 => ?_)
 refine AWp.skip (AWp.seq (AWp.block ?_))
 have hwa := hw.arg (k := i6_3) (by show _ < args.length; omega)
 simp only at hwa
 refine AWp.regionAny rfl (AAny.blind 0 rfl (by kernel_rfl) (Blind.move rfl rfl) (by decide) (AAny.quietN (n := 3) [1, 2, 3, 4, 5, 6, 7, 8, 9] [10, 11, 12] 10 rfl (by kernel_rfl) ?_))
 refine .cn 1 rfl (Y.fieldAddr fl27_1 rfl rfl) (.cn 2 rfl (Y.load sh22 rfl rfl rfl rfl) (.cn 3 rfl (Y.fieldAddr fl39_3 rfl rfl) ?_))
 refine .cn 4 rfl (Y.load sh22 rfl rfl rfl rfl) (.cn 5 rfl (Y.move rfl rfl) ?_)
 refine .cn 6 rfl (Y.indexF (m := i6_3) sl22 rfl rfl (by first | rfl | omega) (row_getD (d := 0) (by omega))) ?_
 refine .cn 7 rfl (Y.load sh3 rfl rfl rfl rfl) ?_
 refine .cn 8 rfl (Y.indexF (m := (args.getD i6_3 0).toNat) sl22 rfl rfl (by omega) (row_getD (d := 0) (by omega))) ?_
 refine .cn 9 rfl (Y.load sh3 rfl rfl rfl rfl) (AQ.nil (AAny.one 10 rfl (by kernel_rfl) ?_))
 refine AOps.buildSlice (([n.widths.getD ((args.getD i6_3 0).toNat) 0] : List Int).map irow) sl22 ze3 rfl rfl rfl rfl rfl (uniform_map (s := 1) (f := irow) (fun _ => rfl)) rfl rfl rfl (by decide) ?_
 refine AOps.nil ⟨rfl, ?_⟩
 refine AAny.one 11 rfl (by kernel_rfl) ?_
 refine AOps.appendE ((a5_3 ++ ([n.widths.getD ((args.getD i6_3 0).toNat) 0] : List Int)).map irow) (a5_3 ++ ([n.widths.getD ((args.getD i6_3 0).toNat) 0] : List Int)).length sl22 ze3 rfl rfl rfl rfl (app_le (by first | omega | simp [-List.getD_eq_getElem?_getD] <;> omega)) (app_map (by first | omega | simp [-List.getD_eq_getElem?_getD] <;> omega)) (app_n (by first | omega | simp [-List.getD_eq_getElem?_getD] <;> omega)) (by first | omega | simp [-List.getD_eq_getElem?_getD] <;> omega) (by first | omega | simp [-List.getD_eq_getElem?_getD] <;> omega) (by decide) (by decide) ?_
 refine AOps.nil ⟨rfl, ?_⟩
 refine AAny.quietN (n := 0) [12] [] 0 rfl (by kernel_rfl) (.cn 12 rfl (Y.assign rfl rfl) (AQ.nil ?_))
 refine AAny.done (by kernel_rfl) (AWp.region ?_)
 refine .mv ?_
 refine .vl (Y.addI rfl rfl (by omega)) ?_
 refine .an ?_
 refine AOps.nil ?_
 exact ⟨i6_3 + 1, a5_3 ++ ([n.widths.getD ((args.getD i6_3 0).toNat) 0] : List Int), ⟨by omega, by rw [List.length_append, hal]; rfl, push_succ hal ha rfl⟩, by omega, Le.mk (.c (.c (.cons (look_slc rfl (by omega)) (.cons (look_int rfl (by first | rfl | omega)) (.nil))))) (.c (.c (.c (.nil))))⟩
 refine AWp.exit (AWp.seq (AWp.seq ?_))
 have ha0 : 0 < args.length → a5_3.getD 0 0 = n.av (⟨1, op, out, args, num, mem⟩ : Cell) 0 := fun h => ha 0 (by omega)
 have ha1 : 1 < args.length → a5_3.getD 1 0 = n.av (⟨1, op, out, args, num, mem⟩ : Cell) 1 := fun h => ha 1 (by omega)
 have ha2 : 2 < args.length → a5_3.getD 2 0 = n.av (⟨1, op, out, args, num, mem⟩ : Cell) 2 := fun h => ha 2 (by omega)
 refine AWp.region ?_
 refine .fa fl39_0 ?_
 refine .ld sh3 ?_
 refine .vl (Y.eql rfl rfl) (AOps.nil (AWp.condF rfl ?_))
 refine AWp.skip (AWp.sr ?_)
 refine .fa fl27_1 ?_
 refine .ld sh22 ?_
 refine .fa fl39_2 ?_
 refine .ld sh3 ?_
 refine .vl (Y.indexF (m := (out).toNat) sl22 rfl rfl (by omega) (row_getD (d := 0) (by omega))) ?_
 refine .ld sh3 ?_
 refine .an ?_
 refine AOps.nil (AWp.seq (AWp.sr ?_))
 refine .fa fl39_0 ?_
 refine .ld sh3 ?_
 refine AOps.nil (AWp.block (AWp.sr ?_))
 refine .vl (Y.eql rfl rfl) ?_
 refine .an ?_
 refine AOps.nil (AWp.condT rfl (AWp.seq ?_))
 refine AWp.regionAny rfl (AAny.blind 0 rfl (by kernel_rfl) (Blind.fieldAddr fl39_4 rfl rfl) (by decide) (AAny.blind 2 rfl (by kernel_rfl) (Blind.move rfl rfl) (by decide) ?_))
 refine AAny.two 1 3 rfl rfl (by kernel_rfl) ?_ ?_
 refine .ld sh37 ?_
 refine AOps.nil ⟨rfl, ?_⟩
 refine AAny.one 3 rfl (by kernel_rfl) (AOps.callP ok121 (ones_spec (w := (n.widths.getD ((out).toNat) 0))) rfl (.keep rfl rfl .nil) (by decide) rfl ?_)
 refine AOps.nil ⟨rfl, ?_⟩
 refine AAny.quietN (n := 0) [4, 5] [] 0 rfl (by kernel_rfl) (.cn 4 rfl (Y.leq rfl rfl) (.cn 5 rfl (Y.assign rfl rfl) ?_))
 refine AQ.nil (AAny.done (by kernel_rfl) (AWp.ret ?_))
 exact .rb rfl (dd (by simp only [Fits, OpFits, Cmp, fit_iff, how, Int.reduceEq, Bool.not_eq_true, false_and, true_and, and_true, and_false, or_false, false_or, ne_eq] <;> (first | omega | grind)))
 refine AOps.callP ok121 (ones_spec (w := (n.widths.getD ((out).toNat) 0))) rfl (.keep rfl rfl .nil) (by decide) rfl ?_
 refine AOps.nil ⟨rfl, ?_⟩
 refine AAny.quietN (n := 0) [1, 4, 5] [] 0 rfl (by kernel_rfl) (.cn 1 rfl (Y.load sh37 rfl rfl rfl rfl) (.cn 4 rfl (Y.leq rfl rfl) ?_))
 refine .cn 5 rfl (Y.assign rfl rfl) (AQ.nil (AAny.done (by kernel_rfl) ?_))
 refine AWp.ret ?_
 exact .rb rfl (dd (by simp only [Fits, OpFits, Cmp, fit_iff, how, Int.reduceEq, Bool.not_eq_true, false_and, true_and, and_true, and_false, or_false, false_or, ne_eq] <;> (first | omega | grind)))
theorem refFits_k2 {n : Netlist} {op out mem : Int} {args : List Int} {num : Nat} (hs : n.Small) (hc : args.length ≤ 17592186043904) (hn : num < 18446744073709551616) (hsh : Shaped n (⟨2, op, out, args, num, mem⟩ : Cell)) (hw : Wired n (⟨2, op, out, args, num, mem⟩ : Cell)) : ACalls Try.prog 89 [.agg (Netlist.row n), .agg [vi 2, vi op, vi out, .fz 1 (args.map irow), .v (.int .u64 ((num : Nat) : Int)), vi mem]] [] [] (fun r o => r = .v (.bool (decide (Fits n (⟨2, op, out, args, num, mem⟩ : Cell)))) ∧ o = []) := by
 refine ACalls.of Try.func89 rfl rfl rfl (n := 155) (by decide) (Nat.le_of_ble_eq_true rfl) ?_
 have hs4 := hs.ins; have hs5 := hs.mems; have hs6 := hs.streams; have hs1 := hs.widths
 have hk := hsh.k2 rfl; simp only at hk
 have ho : 0 ≤ out ∧ out < n.widths.length := by have := hw.out; simp only at this; omega
 have how : n.ow (⟨2, op, out, args, num, mem⟩ : Cell) = n.widths.getD out.toNat 0 := ow_eq ho.1
 refine AWp.sr (AOps.box 102 rfl rfl rfl rfl rfl (by decide) (AOps.box 103 rfl rfl rfl rfl rfl (by decide) ?_))
 refine .an ?_
 refine AOps.nil (AWp.sr ?_)
 refine .an ?_
 refine AOps.sh (Sh.nil (d := 5) 105 1 rfl (by decide)) (AOps.nil (AWp.seq ?_))
 refine AWp.sr ?_
 refine .an ?_
 refine AOps.nil (AWp.block ?_)
 refine AWp.loop2 (fun (i6_3 : Nat) (a5_3 : List Int) => ⟨[(2, .ptr 102 0 0 0), (3, .ptr 103 0 0 0), (5, .slc 105 1 0 a5_3.length), (6, vi (i6_3 : Int))], [(102, .cells (Netlist.row n)), (103, .cells [vi 2, vi op, vi out, .fz 1 (args.map irow), .v (.int .u64 ((num : Nat) : Int)), vi mem]), (105, .rows 1 (a5_3.map irow))]⟩) (fun (i6_3 : Nat) (a5_3 : List Int) => ((i6_3 : Int) ≤ ((args.length : Nat) : Int)) ∧ (a5_3.length = i6_3) ∧ (∀ j, j < i6_3 → a5_3.getD j 0 = n.av (⟨2, op, out, args, num, mem⟩ : Cell) j)) (fun (i6_3 : Nat) (a5_3 : List Int) => (((args.length : Nat) : Int) - (i6_3 : Int)).toNat) 0 ([] : List Int) (⟨by first | omega | (simp [-List.getD_eq_getElem?_getD]; done) | (simp [-List.getD_eq_getElem?_getD]; omega), rfl, fun j hj => by omega⟩) (Le.mk (.c (.c (.cons (look_slc rfl (by first | omega | simp [-List.getD_eq_getElem?_getD] <;> omega)) (.cons (look_int rfl (by first | rfl | omega)) (.nil))))) (.c (.c (.c (.nil))))) (fun i6_3 a5_3 hI3 => ?_)
 obtain ⟨hb3, hal, ha⟩ := hI3
 refine AWp.seq (AWp.sr ?_)
 refine .mv ?_
 refine .fa fl39_3 ?_
 refine .ld sh22 ?_
 refine .vl (Y.len (n := args.length) sl22 rfl (congrArg some (List.length_map ..))) (.vl (Y.lss rfl rfl) (AOps.nil ?_))
 refine AWp.condD rfl (fun c13 => ?_) (fun c13 => ?_)
 refine AWp.skip (AWp.seq (AWp.block ?_))
 have hwa := hw.arg (k := i6_3) (by show _ < args.length; omega)
 simp only at hwa
 refine AWp.regionAny rfl (AAny.blind 0 rfl (by kernel_rfl) (Blind.move rfl rfl) (by decide) (AAny.quietN (n := 3) [1, 2, 3, 4, 5, 6, 7, 8, 9] [10, 11, 12] 10 rfl (by kernel_rfl) ?_))
 refine .cn 1 rfl (Y.fieldAddr fl27_1 rfl rfl) (.cn 2 rfl (Y.load sh22 rfl rfl rfl rfl) (.cn 3 rfl (Y.fieldAddr fl39_3 rfl rfl) ?_))
 refine .cn 4 rfl (Y.load sh22 rfl rfl rfl rfl) (.cn 5 rfl (Y.move rfl rfl) ?_)
 refine .cn 6 rfl (Y.indexF (m := i6_3) sl22 rfl rfl (by first | rfl | omega) (row_getD (d := 0) (by omega))) ?_
 refine .cn 7 rfl (Y.load sh3 rfl rfl rfl rfl) ?_
 refine .cn 8 rfl (Y.indexF (m := (args.getD i6_3 0).toNat) sl22 rfl rfl (by omega) (row_getD (d := 0) (by omega))) ?_
 refine .cn 9 rfl (Y.load sh3 rfl rfl rfl rfl) (AQ.nil (AAny.one 10 rfl (by kernel_rfl) ?_))
 refine AOps.buildSlice (([n.widths.getD ((args.getD i6_3 0).toNat) 0] : List Int).map irow) sl22 ze3 rfl rfl rfl rfl rfl (uniform_map (s := 1) (f := irow) (fun _ => rfl)) rfl rfl rfl (by decide) ?_
 refine AOps.nil ⟨rfl, ?_⟩
 refine AAny.one 11 rfl (by kernel_rfl) ?_
 refine AOps.appendE ((a5_3 ++ ([n.widths.getD ((args.getD i6_3 0).toNat) 0] : List Int)).map irow) (a5_3 ++ ([n.widths.getD ((args.getD i6_3 0).toNat) 0] : List Int)).length sl22 ze3 rfl rfl rfl rfl (app_le (by first | omega | simp [-List.getD_eq_getElem?_getD] <;> omega)) (app_map (by first | omega | simp [-List.getD_eq_getElem?_getD] <;> omega)) (app_n (by first | omega | simp [-List.getD_eq_getElem?_getD] <;> omega)) (by first | omega | simp [-List.getD_eq_getElem?_getD] <;> omega) (by first | omega | simp [-List.getD_eq_getElem?_getD] <;> omega) (by decide) (by decide) ?_
 refine AOps.nil ⟨rfl, ?_⟩
 refine AAny.quietN (n := 0) [12] [] 0 rfl (by kernel_rfl) (.cn 12 rfl (Y.assign rfl rfl) (AQ.nil ?_))
 refine AAny.done (by kernel_rfl) (AWp.region ?_)
 refine .mv ?_
 refine .vl (Y.addI rfl rfl (by omega)) ?_
 refine .an ?_
 refine AOps.nil ?_
 exact ⟨i6_3 + 1, a5_3 ++ ([n.widths.getD ((args.getD i6_3 0).toNat) 0] : List Int), ⟨by omega, by rw [List.length_append, hal]; rfl, push_succ hal ha rfl⟩, by omega, Le.mk (.c (.c (.cons (look_slc rfl (by omega)) (.cons (look_int rfl (by first | rfl | omega)) (.nil))))) (.c (.c (.c (.nil))))⟩
 refine AWp.exit (AWp.seq (AWp.seq ?_))
 have ha0 : 0 < args.length → a5_3.getD 0 0 = n.av (⟨2, op, out, args, num, mem⟩ : Cell) 0 := fun h => ha 0 (by omega)
 have ha1 : 1 < args.length → a5_3.getD 1 0 = n.av (⟨2, op, out, args, num, mem⟩ : Cell) 1 := fun h => ha 1 (by omega)
 have ha2 : 2 < args.length → a5_3.getD 2 0 = n.av (⟨2, op, out, args, num, mem⟩ : Cell) 2 := fun h => ha 2 (by omega)
 refine AWp.region ?_
 refine .fa fl39_0 ?_
 refine .ld sh3 ?_
 refine .vl (Y.eql rfl rfl) (AOps.nil (AWp.condF rfl ?_))
 refine AWp.skip (AWp.sr ?_)
 refine .fa fl27_1 ?_
 refine .ld sh22 ?_
 refine .fa fl39_2 ?_
 refine .ld sh3 ?_
 refine .vl (Y.indexF (m := (out).toNat) sl22 rfl rfl (by omega) (row_getD (d := 0) (by omega))) ?_
 refine .ld sh3 ?_
 refine .an ?_
 refine AOps.nil (AWp.seq (AWp.sr ?_))
 refine .fa fl39_0 ?_
 refine .ld sh3 ?_
 refine AOps.nil (AWp.block (AWp.sr ?_))
 refine .vl (Y.eql rfl rfl) ?_
 refine .an ?_
 refine AOps.nil (AWp.condF rfl (AWp.seq ?_))
 refine AWp.sr (.vl (Y.eql rfl rfl) ?_)
 refine .an ?_
 refine AOps.nil (AWp.condT rfl (AWp.skip ?_))
 refine AWp.condT rfl (AWp.sr ?_)
 refine .fa fl39_1 ?_
 refine .ld sh3 ?_
 refine .mv ?_
 refine .mv ?_
 refine AOps.callLP [105] ok122 (refOperands_spec (op := op) (a := a5_3) (w := (n.widths.getD ((out).toNat) 0)) (by omega) (fun _ => by omega) (fun _ => by omega) (by omega)) rfl (.keep rfl rfl (.lend rfl rfl (lend_le (by omega)) (lend_eq (by omega)) (.keep rfl rfl .nil))) (lend1 rfl (owns_map irow_frees)) (by decide) rfl trivial ?_
 refine .an ?_
 refine AOps.nil (AWp.ret ?_)
 exact .rb rfl (dd ((OpFits_congr (ha0 (by omega)) (fun _ => ha1 (by omega)) (fun _ => ha2 (by omega))).trans (by simp only [Fits, how, Int.reduceEq, Bool.not_eq_true, false_and, true_and, and_true, and_false, or_false, false_or, ne_eq])))
theorem refFits_k3 {n : Netlist} {op out mem : Int} {args : List Int} {num : Nat} (hs : n.Small) (hc : args.length ≤ 17592186043904) (hn : num < 18446744073709551616) (hsh : Shaped n (⟨3, op, out, args, num, mem⟩ : Cell)) (hw : Wired n (⟨3, op, out, args, num, mem⟩ : Cell)) : ACalls Try.prog 89 [.agg (Netlist.row n), .agg [vi 3, vi op, vi out, .fz 1 (args.map irow), .v (.int .u64 ((num : Nat) : Int)), vi mem]] [] [] (fun r o => r = .v (.bool (decide (Fits n (⟨3, op, out, args, num, mem⟩ : Cell)))) ∧ o = []) := by
 refine ACalls.of Try.func89 rfl rfl rfl (n := 155) (by decide) (Nat.le_of_ble_eq_true rfl) ?_
 have hs4 := hs.ins; have hs5 := hs.mems; have hs6 := hs.streams; have hs1 := hs.widths
 have hk := hsh.k3 rfl; simp only at hk
 have ho : 0 ≤ out ∧ out < n.widths.length := by have := hw.out; simp only at this; omega
 have how : n.ow (⟨3, op, out, args, num, mem⟩ : Cell) = n.widths.getD out.toNat 0 := ow_eq ho.1
 refine AWp.sr (AOps.box 102 rfl rfl rfl rfl rfl (by decide) (AOps.box 103 rfl rfl rfl rfl rfl (by decide) ?_))
 refine .an ?_
 refine AOps.nil (AWp.sr ?_)
 refine .an ?_
 refine AOps.sh (Sh.nil (d := 5) 105 1 rfl (by decide)) (AOps.nil (AWp.seq ?_))
 refine AWp.sr ?_
 refine .an ?_
 refine AOps.nil (AWp.block ?_)
 refine AWp.loop2 (fun (i6_3 : Nat) (a5_3 : List Int) => ⟨[(2, .ptr 102 0 0 0), (3, .ptr 103 0 0 0), (5, .slc 105 1 0 a5_3.length), (6, vi (i6_3 : Int))], [(102, .cells (Netlist.row n)), (103, .cells [vi 3, vi op, vi out, .fz 1 (args.map irow), .v (.int .u64 ((num : Nat) : Int)), vi mem]), (105, .rows 1 (a5_3.map irow))]⟩) (fun (i6_3 : Nat) (a5_3 : List Int) => ((i6_3 : Int) ≤ ((args.length : Nat) : Int)) ∧ (a5_3.length = i6_3) ∧ (∀ j, j < i6_3 → a5_3.getD j 0 = n.av (⟨3, op, out, args, num, mem⟩ : Cell) j)) (fun (i6_3 : Nat) (a5_3 : List Int) => (((args.length : Nat) : Int) - (i6_3 : Int)).toNat) 0 ([] : List Int) (⟨by first | omega | (simp [-List.getD_eq_getElem?_getD]; done) | (simp [-List.getD_eq_getElem?_getD]; omega), rfl, fun j hj => by omega⟩) (Le.mk (.c (.c (.cons (look_slc rfl (by first | omega | simp [-List.getD_eq_getElem?_getD] <;> omega)) (.cons (look_int rfl (by first | rfl | omega)) (.nil))))) (.c (.c (.c (.nil))))) (fun i6_3 a5_3 hI3 => ?_)
 obtain ⟨hb3, hal, ha⟩ := hI3
 refine AWp.seq (AWp.sr ?_)
 refine .mv ?_
 refine .fa fl39_3 ?_
 refine .ld sh22 ?_
 refine .vl (Y.len (n := args.length) sl22 rfl (congrArg some (List.length_map ..))) (.vl (Y.lss rfl rfl) (AOps.nil ?_))
 refine AWp.condD rfl (fun c13 => ?_) (fun c13 => ?_)
 refine AWp.skip (AWp.seq (AWp.block ?_))
 have hwa := hw.arg (k := i6_3) (by show _ < args.length; omega)
 simp only at hwa
 refine AWp.regionAny rfl (AAny.blind 0 rfl (by kernel_rfl) (Blind.move rfl rfl) (by decide) (AAny.quietN (n := 3) [1, 2, 3, 4, 5, 6, 7, 8, 9] [10, 11, 12] 10 rfl (by kernel_rfl) ?_))
 refine .cn 1 rfl (Y.fieldAddr fl27_1 rfl rfl) (.cn 2 rfl (Y.load sh22 rfl rfl rfl rfl) (.cn 3 rfl (Y.fieldAddr fl39_3 rfl rfl) ?_))
 refine .cn 4 rfl (Y.load sh22 rfl rfl rfl rfl) (.cn 5 rfl (Y.move rfl rfl) ?_)
 refine .cn 6 rfl (Y.indexF (m := i6_3) sl22 rfl rfl (by first | rfl | omega) (row_getD (d := 0) (by omega))) ?_
 refine .cn 7 rfl (Y.load sh3 rfl rfl rfl rfl) ?_
 refine .cn 8 rfl (Y.indexF (m := (args.getD i6_3 0).toNat) sl22 rfl rfl (by omega) (row_getD (d := 0) (by omega))) ?_
 refine .cn 9 rfl (Y.load sh3 rfl rfl rfl rfl) (AQ.nil (AAny.one 10 rfl (by kernel_rfl) ?_))
 refine AOps.buildSlice (([n.widths.getD ((args.getD i6_3 0).toNat) 0] : List Int).map irow) sl22 ze3 rfl rfl rfl rfl rfl (uniform_map (s := 1) (f := irow) (fun _ => rfl)) rfl rfl rfl (by decide) ?_
 refine AOps.nil ⟨rfl, ?_⟩
 refine AAny.one 11 rfl (by kernel_rfl) ?_
 refine AOps.appendE ((a5_3 ++ ([n.widths.getD ((args.getD i6_3 0).toNat) 0] : List Int)).map irow) (a5_3 ++ ([n.widths.getD ((args.getD i6_3 0).toNat) 0] : List Int)).length sl22 ze3 rfl rfl rfl rfl (app_le (by first | omega | simp [-List.getD_eq_getElem?_getD] <;> omega)) (app_map (by first | omega | simp [-List.getD_eq_getElem?_getD] <;> omega)) (app_n (by first | omega | simp [-List.getD_eq_getElem?_getD] <;> omega)) (by first | omega | simp [-List.getD_eq_getElem?_getD] <;> omega) (by first | omega | simp [-List.getD_eq_getElem?_getD] <;> omega) (by decide) (by decide) ?_
 refine AOps.nil ⟨rfl, ?_⟩
 refine AAny.quietN (n := 0) [12] [] 0 rfl (by kernel_rfl) (.cn 12 rfl (Y.assign rfl rfl) (AQ.nil ?_))
 refine AAny.done (by kernel_rfl) (AWp.region ?_)
 refine .mv ?_
 refine .vl (Y.addI rfl rfl (by omega)) ?_
 refine .an ?_
 refine AOps.nil ?_
 exact ⟨i6_3 + 1, a5_3 ++ ([n.widths.getD ((args.getD i6_3 0).toNat) 0] : List Int), ⟨by omega, by rw [List.length_append, hal]; rfl, push_succ hal ha rfl⟩, by omega, Le.mk (.c (.c (.cons (look_slc rfl (by omega)) (.cons (look_int rfl (by first | rfl | omega)) (.nil))))) (.c (.c (.c (.nil))))⟩
 refine AWp.exit (AWp.seq (AWp.seq ?_))
 have ha0 : 0 < args.length → a5_3.getD 0 0 = n.av (⟨3, op, out, args, num, mem⟩ : Cell) 0 := fun h => ha 0 (by omega)
 have ha1 : 1 < args.length → a5_3.getD 1 0 = n.av (⟨3, op, out, args, num, mem⟩ : Cell) 1 := fun h => ha 1 (by omega)
 have ha2 : 2 < args.length → a5_3.getD 2 0 = n.av (⟨3, op, out, args, num, mem⟩ : Cell) 2 := fun h => ha 2 (by omega)
 refine AWp.region ?_
 refine .fa fl39_0 ?_
 refine .ld sh3 ?_
 refine .vl (Y.eql rfl rfl) (AOps.nil (AWp.condF rfl ?_))
 refine AWp.skip (AWp.sr ?_)
 refine .fa fl27_1 ?_
 refine .ld sh22 ?_
 refine .fa fl39_2 ?_
 refine .ld sh3 ?_
 refine .vl (Y.indexF (m := (out).toNat) sl22 rfl rfl (by omega) (row_getD (d := 0) (by omega))) ?_
 refine .ld sh3 ?_
 refine .an ?_
 refine AOps.nil (AWp.seq (AWp.sr ?_))
 refine .fa fl39_0 ?_
 refine .ld sh3 ?_
 refine AOps.nil (AWp.block (AWp.sr ?_))
 refine .vl (Y.eql rfl rfl) ?_
 refine .an ?_
 refine AOps.nil (AWp.condF rfl (AWp.seq ?_))
 refine AWp.sr (.vl (Y.eql rfl rfl) ?_)
 refine .an ?_
 refine AOps.nil (AWp.condF rfl (AWp.region ?_))
 refine .vl (Y.eql rfl rfl) ?_
 refine .an ?_
 refine AOps.nil (AWp.condF rfl (AWp.sr ?_))
 refine .vl (Y.eql rfl rfl) ?_
 refine .an ?_
 refine AOps.nil (AWp.condT rfl (AWp.sr ?_))
 refine .an ?_
 refine AOps.nil (AWp.block ?_)
 refine AWp.loop1 (fun (i8_17 : Nat) => ⟨[(5, .slc 105 1 0 a5_3.length), (7, vi (n.widths.getD ((out).toNat) 0)), (8, vi (i8_17 : Int))], [(105, .rows 1 (a5_3.map irow))]⟩) (fun (i8_17 : Nat) => ((i8_17 : Int) ≤ ((a5_3.length : Nat) : Int)) ∧ (i8_17 % 2 = 0) ∧ (∀ k, k < i8_17 → MuxFit n (⟨3, op, out, args, num, mem⟩ : Cell) k)) (fun (i8_17 : Nat) => (((a5_3.length : Nat) : Int) - (i8_17 : Int)).toNat) 0 (⟨by omega, rfl, fun k hk => by omega⟩) (Le.mk (.c (.c (.cons (look_int rfl (by first | rfl | omega)) (.nil)))) (.c (.nil))) (fun i8_17 hI17 => ?_)
 obtain ⟨hb17, hp, hm⟩ := hI17
 refine AWp.seq (AWp.sr ?_)
 refine .mv ?_
 refine .mv ?_
 refine .vl (Y.len (n := a5_3.length) sl22 rfl rfl) (.vl (Y.lss rfl rfl) (AOps.nil ?_))
 refine AWp.condD rfl (fun c76 => ?_) (fun c76 => ?_)
 refine AWp.skip (AWp.seq (AWp.block ?_))
 refine AWp.sr ?_
 refine .mv ?_
 refine .mv ?_
 refine .vl (Y.indexO (m := i8_17) sl22 rfl rfl (by first | rfl | omega) (by omega)) ?_
 refine .vl (Y.load sh3 rfl (row_getD0 (d := 0) (by omega)) rfl rfl) ?_
 refine .vl (Y.neq rfl rfl) ?_
 refine .mv ?_
 refine AOps.splitD (d := 84) rfl (fun c84 => ?_) (fun c84 => ?_)
 refine .gz 84 (.gz 84 (.gz 84 ?_))
 refine .gz 84 (.gz 84 (.gz 84 ?_))
 refine .gz 84 ?_
 refine .pk ?_
 refine AOps.nil (AWp.condT rfl (AWp.sr ?_))
 refine .an ?_
 refine AOps.nil (AWp.ret ?_)
 exact .rb rfl (df (fun h => by simp only [Fits, Int.reduceEq, Bool.not_eq_true, false_and, true_and, and_true, and_false, or_false, false_or, ne_eq] at h; have h1 := h i8_17 (by show _ < args.length; omega); have h2 := h (i8_17 + 1) (by show _ < args.length; omega); have h3 := ha i8_17 (by omega); have h4 := ha (i8_17 + 1) (by omega); unfold MuxFit at h1 h2; omega))
 refine .gw 84 (Y.move rfl rfl) (.gw 84 (Y.move rfl rfl) ?_)
 refine .gw 84 (Y.addI rfl rfl (by omega)) ?_
 refine .gw 84 (Y.indexO (m := i8_17 + 1) sl22 rfl rfl (by first | rfl | omega) (by omega)) ?_
 refine .gw 84 (Y.load sh3 rfl (row_getD0 (d := 0) (by omega)) rfl rfl) ?_
 refine .gw 84 (Y.move rfl rfl) (.gw 84 (Y.neq rfl rfl) ?_)
 refine .pk ?_
 refine AOps.nil ?_
 refine AWp.condD rfl (fun c92 => ?_) (fun c92 => ?_)
 refine AWp.sr ?_
 refine .an ?_
 refine AOps.nil (AWp.ret ?_)
 exact .rb rfl (df (fun h => by simp only [Fits, Int.reduceEq, Bool.not_eq_true, false_and, true_and, and_true, and_false, or_false, false_or, ne_eq] at h; have h1 := h i8_17 (by show _ < args.length; omega); have h2 := h (i8_17 + 1) (by show _ < args.length; omega); have h3 := ha i8_17 (by omega); have h4 := ha (i8_17 + 1) (by omega); unfold MuxFit at h1 h2; omega))
 refine AWp.skip (AWp.region ?_)
 refine .mv ?_
 refine .vl (Y.addI rfl rfl (by omega)) ?_
 refine .an ?_
 refine AOps.nil ?_
 exact ⟨i8_17 + 2, ⟨by omega, by omega, mux_two hm (by have h2 := ha i8_17 (by omega); unfold MuxFit; omega) (by have h2 := ha (i8_17 + 1) (by omega); unfold MuxFit; omega)⟩, by omega, Le.mk (.c (.c (.cons (look_int rfl (by first | rfl | omega)) (.nil)))) (.c (.nil))⟩
 refine AWp.exit (AWp.sr ?_)
 refine .an ?_
 refine AOps.nil (AWp.ret ?_)
 exact .rb rfl (dt (by simp only [Fits, Int.reduceEq, Bool.not_eq_true, false_and, true_and, and_true, and_false, or_false, false_or, ne_eq]; exact fun k hk => hm k (by have : k < args.length := hk; omega)))
theorem refFits_k4 {n : Netlist} {op out mem : Int} {args : List Int} {num : Nat} (hs : n.Small) (hc : args.length ≤ 17592186043904) (hn : num < 18446744073709551616) (hsh : Shaped n (⟨4, op, out, args, num, mem⟩ : Cell)) (hw : Wired n (⟨4, op, out, args, num, mem⟩ : Cell)) : ACalls Try.prog 89 [.agg (Netlist.row n), .agg [vi 4, vi op, vi out, .fz 1 (args.map irow), .v (.int .u64 ((num : Nat) : Int)), vi mem]] [] [] (fun r o => r = .v (.bool (decide (Fits n (⟨4, op, out, args, num, mem⟩ : Cell)))) ∧ o = []) := by
 refine ACalls.of Try.func89 rfl rfl rfl (n := 155) (by decide) (Nat.le_of_ble_eq_true rfl) ?_
 have hs4 := hs.ins; have hs5 := hs.mems; have hs6 := hs.streams; have hs1 := hs.widths
 have hk := hsh.k4 rfl; simp only at hk
 have ho : 0 ≤ out ∧ out < n.widths.length := by have := hw.out; simp only at this; omega
 have how : n.ow (⟨4, op, out, args, num, mem⟩ : Cell) = n.widths.getD out.toNat 0 := ow_eq ho.1
 refine AWp.sr (AOps.box 102 rfl rfl rfl rfl rfl (by decide) (AOps.box 103 rfl rfl rfl rfl rfl (by decide) ?_))
 refine .an ?_
 refine AOps.nil (AWp.sr ?_)
 refine .an ?_
 refine AOps.sh (Sh.nil (d := 5) 105 1 rfl (by decide)) (AOps.nil (AWp.seq ?_))
 refine AWp.sr ?_
 refine .an ?_
 refine AOps.nil (AWp.block ?_)
 refine AWp.loop2 (fun (i6_3 : Nat) (a5_3 : List Int) => ⟨[(2, .ptr 102 0 0 0), (3, .ptr 103 0 0 0), (5, .slc 105 1 0 a5_3.length), (6, vi (i6_3 : Int))], [(102, .cells (Netlist.row n)), (103, .cells [vi 4, vi op, vi out, .fz 1 (args.map irow), .v (.int .u64 ((num : Nat) : Int)), vi mem]), (105, .rows 1 (a5_3.map irow))]⟩) (fun (i6_3 : Nat) (a5_3 : List Int) => ((i6_3 : Int) ≤ ((args.length : Nat) : Int)) ∧ (a5_3.length = i6_3) ∧ (∀ j, j < i6_3 → a5_3.getD j 0 = n.av (⟨4, op, out, args, num, mem⟩ : Cell) j)) (fun (i6_3 : Nat) (a5_3 : List Int) => (((args.length : Nat) : Int) - (i6_3 : Int)).toNat) 0 ([] : List Int) (⟨by first | omega | (simp [-List.getD_eq_getElem?_getD]; done) | (simp [-List.getD_eq_getElem?_getD]; omega), rfl, fun j hj => by omega⟩) (Le.mk (.c (.c (.cons (look_slc rfl (by first | omega | simp [-List.getD_eq_getElem?_getD] <;> omega)) (.cons (look_int rfl (by first | rfl | omega)) (.nil))))) (.c (.c (.c (.nil))))) (fun i6_3 a5_3 hI3 => ?_)
 obtain ⟨hb3, hal, ha⟩ := hI3
 refine AWp.seq (AWp.sr ?_)
 refine .mv ?_
 refine .fa fl39_3 ?_
 refine .ld sh22 ?_
 refine .vl (Y.len (n := args.length) sl22 rfl (congrArg some (List.length_map ..))) (.vl (Y.lss rfl rfl) (AOps.nil ?_))
 refine AWp.condD rfl (fun c13 => ?_) (fun c13 => ?_)
 refine AWp.skip (AWp.seq (AWp.block ?_))
 have hwa := hw.arg (k := i6_3) (by show _ < args.length; omega)
 simp only at hwa
 refine AWp.regionAny rfl (AAny.blind 0 rfl (by kernel_rfl) (Blind.move rfl rfl) (by decide) (AAny.quietN (n := 3) [1, 2, 3, 4, 5, 6, 7, 8, 9] [10, 11, 12] 10 rfl (by kernel_rfl) ?_))
 refine .cn 1 rfl (Y.fieldAddr fl27_1 rfl rfl) (.cn 2 rfl (Y.load sh22 rfl rfl rfl rfl) (.cn 3 rfl (Y.fieldAddr fl39_3 rfl rfl) ?_))
 refine .cn 4 rfl (Y.load sh22 rfl rfl rfl rfl) (.cn 5 rfl (Y.move rfl rfl) ?_)
 refine .cn 6 rfl (Y.indexF (m := i6_3) sl22 rfl rfl (by first | rfl | omega) (row_getD (d := 0) (by omega))) ?_
 refine .cn 7 rfl (Y.load sh3 rfl rfl rfl rfl) ?_
 refine .cn 8 rfl (Y.indexF (m := (args.getD i6_3 0).toNat) sl22 rfl rfl (by omega) (row_getD (d := 0) (by omega))) ?_
 refine .cn 9 rfl (Y.load sh3 rfl rfl rfl rfl) (AQ.nil (AAny.one 10 rfl (by kernel_rfl) ?_))
 refine AOps.buildSlice (([n.widths.getD ((args.getD i6_3 0).toNat) 0] : List Int).map irow) sl22 ze3 rfl rfl rfl rfl rfl (uniform_map (s := 1) (f := irow) (fun _ => rfl)) rfl rfl rfl (by decide) ?_
 refine AOps.nil ⟨rfl, ?_⟩
 refine AAny.one 11 rfl (by kernel_rfl) ?_
 refine AOps.appendE ((a5_3 ++ ([n.widths.getD ((args.getD i6_3 0).toNat) 0] : List Int)).map irow) (a5_3 ++ ([n.widths.getD ((args.getD i6_3 0).toNat) 0] : List Int)).length sl22 ze3 rfl rfl rfl rfl (app_le (by first | omega | simp [-List.getD_eq_getElem?_getD] <;> omega)) (app_map (by first | omega | simp [-List.getD_eq_getElem?_getD] <;> omega)) (app_n (by first | omega | simp [-List.getD_eq_getElem?_getD] <;> omega)) (by first | omega | simp [-List.getD_eq_getElem?_getD] <;> omega) (by first | omega | simp [-List.getD_eq_getElem?_getD] <;> omega) (by decide) (by decide) ?_
 refine AOps.nil ⟨rfl, ?_⟩
 refine AAny.quietN (n := 0) [12] [] 0 rfl (by kernel_rfl) (.cn 12 rfl (Y.assign rfl rfl) (AQ.nil ?_))
 refine AAny.done (by kernel_rfl) (AWp.region ?_)
 refine .mv ?_
 refine .vl (Y.addI rfl rfl (by omega)) ?_
 refine .an ?_
 refine AOps.nil ?_
 exact ⟨i6_3 + 1, a5_3 ++ ([n.widths.getD ((args.getD i6_3 0).toNat) 0] : List Int), ⟨by omega, by rw [List.length_append, hal]; rfl, push_succ hal ha rfl⟩, by omega, Le.mk (.c (.c (.cons (look_slc rfl (by omega)) (.cons (look_int rfl (by first | rfl | omega)) (.nil))))) (.c (.c (.c (.nil))))⟩
 refine AWp.exit (AWp.seq (AWp.seq ?_))
 have ha0 : 0 < args.length → a5_3.getD 0 0 = n.av (⟨4, op, out, args, num, mem⟩ : Cell) 0 := fun h => ha 0 (by omega)
 have ha1 : 1 < args.length → a5_3.getD 1 0 = n.av (⟨4, op, out, args, num, mem⟩ : Cell) 1 := fun h => ha 1 (by omega)
 have ha2 : 2 < args.length → a5_3.getD 2 0 = n.av (⟨4, op, out, args, num, mem⟩ : Cell) 2 := fun h => ha 2 (by omega)
 refine AWp.region ?_
 refine .fa fl39_0 ?_
 refine .ld sh3 ?_
 refine .vl (Y.eql rfl rfl) (AOps.nil (AWp.condF rfl ?_))
 refine AWp.skip (AWp.sr ?_)
 refine .fa fl27_1 ?_
 refine .ld sh22 ?_
 refine .fa fl39_2 ?_
 refine .ld sh3 ?_
 refine .vl (Y.indexF (m := (out).toNat) sl22 rfl rfl (by omega) (row_getD (d := 0) (by omega))) ?_
 refine .ld sh3 ?_
 refine .an ?_
 refine AOps.nil (AWp.seq (AWp.sr ?_))
 refine .fa fl39_0 ?_
 refine .ld sh3 ?_
 refine AOps.nil (AWp.block (AWp.sr ?_))
 refine .vl (Y.eql rfl rfl) ?_
 refine .an ?_
 refine AOps.nil (AWp.condF rfl (AWp.seq ?_))
 refine AWp.sr (.vl (Y.eql rfl rfl) ?_)
 refine .an ?_
 refine AOps.nil (AWp.condF rfl (AWp.region ?_))
 refine .vl (Y.eql rfl rfl) ?_
 refine .an ?_
 refine AOps.nil (AWp.condF rfl (AWp.sr ?_))
 refine .vl (Y.eql rfl rfl) ?_
 refine .an ?_
 refine AOps.nil (AWp.condF rfl (AWp.sr ?_))
 refine .vl (Y.eql rfl rfl) ?_
 refine .an ?_
 refine AOps.nil (AWp.condT rfl (AWp.seq ?_))
 refine AWp.regionAny rfl (AAny.blind 0 rfl (by kernel_rfl) (Blind.move rfl rfl) (by decide) (AAny.one 1 rfl (by kernel_rfl) ?_))
 refine .vl (Y.indexO (m := 0) sl22 rfl rfl (by first | rfl | omega) (by omega)) ?_
 refine AOps.nil ⟨rfl, ?_⟩
 refine AAny.one 2 rfl (by kernel_rfl) ?_
 refine .vl (Y.load sh3 rfl (row_getD0 (d := 0) (by omega)) rfl rfl) ?_
 refine AOps.nil ⟨rfl, ?_⟩
 refine AAny.one 3 rfl (by kernel_rfl) (.vl (Y.eql rfl rfl) ?_)
 refine AOps.nil ⟨rfl, ?_⟩
 refine AAny.blind 4 rfl (by kernel_rfl) (Blind.move rfl rfl) (by decide) ?_
 refine AAny.splitD (d := 99) rfl (fun c99 => ?_) (fun c99 => ?_)
 refine AAny.blindRun 5 rfl (by kernel_rfl) rfl (by decide) rfl (Blind.move rfl rfl) (by decide) (AAny.blindRun 8 rfl (by kernel_rfl) rfl (by decide) rfl (Blind.move rfl rfl) (by decide) (AAny.one 6 rfl (by kernel_rfl) ?_))
 refine .gw 99 (Y.indexO (m := 1) sl22 rfl rfl (by first | rfl | omega) (by omega)) ?_
 refine AOps.nil ⟨rfl, ?_⟩
 refine AAny.one 7 rfl (by kernel_rfl) ?_
 refine .gw 99 (Y.load sh3 rfl (row_getD0 (d := 0) (by omega)) rfl rfl) ?_
 refine AOps.nil ⟨rfl, ?_⟩
 refine AAny.one 9 rfl (by kernel_rfl) (.gw 99 (Y.eql rfl rfl) ?_)
 refine AOps.nil ⟨rfl, ?_⟩
 refine AAny.one 10 rfl (by kernel_rfl) ?_
 refine .pk ?_
 refine AOps.nil ⟨rfl, ?_⟩
 refine AAny.blind 11 rfl (by kernel_rfl) (Blind.move rfl rfl) (by decide) ?_
 refine AAny.splitD (d := 106) rfl (fun c106 => ?_) (fun c106 => ?_)
 refine AAny.blindRun 12 rfl (by kernel_rfl) rfl (by decide) rfl (Blind.fieldAddr fl39_4 rfl rfl) (by decide) (AAny.blindRun 14 rfl (by kernel_rfl) rfl (by decide) rfl (Blind.move rfl rfl) (by decide) ?_)
 refine AAny.two 13 15 rfl rfl (by kernel_rfl) ?_ ?_
 refine .gw 106 (Y.load sh37 rfl rfl rfl rfl) ?_
 refine AOps.nil ⟨rfl, ?_⟩
 refine AAny.one 15 rfl (by kernel_rfl) (AOps.guardRun (d := 106) rfl (by decide) rfl (AOps.callP ok121 (ones_spec (w := (n.widths.getD ((out).toNat) 0))) rfl (.keep rfl rfl .nil) (by decide) rfl ?_))
 refine AOps.nil ⟨rfl, ?_⟩
 refine AAny.quietN (n := 0) [16, 17, 18] [] 0 rfl (by kernel_rfl) (.rn 16 rfl rfl rfl (Y.leq rfl rfl) (.cn 17 rfl (Y.pick rfl rfl rfl) ?_))
 refine .cn 18 rfl (Y.assign rfl rfl) (AQ.nil (AAny.done (by kernel_rfl) ?_))
 refine AWp.ret ?_
 exact .rb rfl (dd (by simp only [Fits, OpFits, Cmp, fit_iff, how, Int.reduceEq, Bool.not_eq_true, false_and, true_and, and_true, and_false, or_false, false_or, ne_eq] <;> (first | omega | grind)))
 refine AOps.guardRun (d := 106) rfl (by decide) rfl (AOps.callP ok121 (ones_spec (w := (n.widths.getD ((out).toNat) 0))) rfl (.keep rfl rfl .nil) (by decide) rfl ?_)
 refine AOps.nil ⟨rfl, ?_⟩
 refine AAny.quietN (n := 0) [13, 16, 17, 18] [] 0 rfl (by kernel_rfl) (.rn 13 rfl rfl rfl (Y.load sh37 rfl rfl rfl rfl) (.rn 16 rfl rfl rfl (Y.leq rfl rfl) ?_))
 refine .cn 17 rfl (Y.pick rfl rfl rfl) (.cn 18 rfl (Y.assign rfl rfl) (AQ.nil ?_))
 refine AAny.done (by kernel_rfl) (AWp.ret ?_)
 exact .rb rfl (dd (by simp only [Fits, OpFits, Cmp, fit_iff, how, Int.reduceEq, Bool.not_eq_true, false_and, true_and, and_true, and_false, or_false, false_or, ne_eq] <;> (first | omega | grind)))
 refine AAny.skipOp 12 rfl (by kernel_rfl) rfl (by decide) (by decide) rfl rfl (AAny.skipOp 13 rfl (by kernel_rfl) rfl (by decide) (by decide) rfl rfl (AAny.skipOp 14 rfl (by kernel_rfl) rfl (by decide) (by decide) rfl rfl ?_))
 refine AAny.skipOp 15 rfl (by kernel_rfl) rfl (by decide) (by decide) rfl rfl (AAny.skipOp 16 rfl (by kernel_rfl) rfl (by decide) (by decide) rfl rfl (AAny.quietN (n := 0) [17, 18] [] 0 rfl (by kernel_rfl) ?_))
 refine .cn 17 rfl (Y.pick rfl rfl rfl) (.cn 18 rfl (Y.assign rfl rfl) (AQ.nil ?_))
 refine AAny.done (by kernel_rfl) (AWp.ret ?_)
 exact .rb rfl (df (by simp only [Fits, OpFits, Cmp, fit_iff, how, Int.reduceEq, Bool.not_eq_true, false_and, true_and, and_true, and_false, or_false, false_or, ne_eq] <;> (first | omega | grind)))
 refine AAny.skipOp 5 rfl (by kernel_rfl) rfl (by decide) (by decide) rfl rfl (AAny.skipOp 6 rfl (by kernel_rfl) rfl (by decide) (by decide) rfl rfl (AAny.skipOp 7 rfl (by kernel_rfl) rfl (by decide) (by decide) rfl rfl ?_))
 refine AAny.skipOp 8 rfl (by kernel_rfl) rfl (by decide) (by decide) rfl rfl (AAny.skipOp 9 rfl (by kernel_rfl) rfl (by decide) (by decide) rfl rfl (AAny.one 10 rfl (by kernel_rfl) ?_))
 refine .pk ?_
 refine AOps.nil ⟨rfl, ?_⟩
 refine AAny.blind 11 rfl (by kernel_rfl) (Blind.move rfl rfl) (by decide) (AAny.skipOp 12 rfl (by kernel_rfl) rfl (by decide) (by decide) rfl rfl (AAny.skipOp 13 rfl (by kernel_rfl) rfl (by decide) (by decide) rfl rfl ?_))
 refine AAny.skipOp 14 rfl (by kernel_rfl) rfl (by decide) (by decide) rfl rfl (AAny.skipOp 15 rfl (by kernel_rfl) rfl (by decide) (by decide) rfl rfl (AAny.skipOp 16 rfl (by kernel_rfl) rfl (by decide) (by decide) rfl rfl ?_))
 refine AAny.quietN (n := 0) [17, 18] [] 0 rfl (by kernel_rfl) (.cn 17 rfl (Y.pick rfl rfl rfl) (.cn 18 rfl (Y.assign rfl rfl) ?_))
 refine AQ.nil (AAny.done (by kernel_rfl) (AWp.ret ?_))
 exact .rb rfl (df (by simp only [Fits, OpFits, Cmp, fit_iff, how, Int.reduceEq, Bool.not_eq_true, false_and, true_and, and_true, and_false, or_false, false_or, ne_eq] <;> (first | omega | grind)))
theorem refFits_k5 {n : Netlist} {op out mem : Int} {args : List Int} {num : Nat} (hs : n.Small) (hc : args.length ≤ 17592186043904) (hn : num < 18446744073709551616) (hsh : Shaped n (⟨5, op, out, args, num, mem⟩ : Cell)) (hw : Wired n (⟨5, op, out, args, num, mem⟩ : Cell)) : ACalls Try.prog 89 [.agg (Netlist.row n), .agg [vi 5, vi op, vi out, .fz 1 (args.map irow), .v (.int .u64 ((num : Nat) : Int)), vi mem]] [] [] (fun r o => r = .v (.bool (decide (Fits n (⟨5, op, out, args, num, mem⟩ : Cell)))) ∧ o = []) := by
 refine ACalls.of Try.func89 rfl rfl rfl (n := 155) (by decide) (Nat.le_of_ble_eq_true rfl) ?_
 have hs4 := hs.ins; have hs5 := hs.mems; have hs6 := hs.streams; have hs1 := hs.widths
 have hk := hsh.k5 rfl; simp only at hk
 have ho : 0 ≤ out ∧ out < n.widths.length := by have := hw.out; simp only at this; omega
 have how : n.ow (⟨5, op, out, args, num, mem⟩ : Cell) = n.widths.getD out.toNat 0 := ow_eq ho.1
 refine AWp.sr (AOps.box 102 rfl rfl rfl rfl rfl (by decide) (AOps.box 103 rfl rfl rfl rfl rfl (by decide) ?_))
 refine .an ?_
 refine AOps.nil (AWp.sr ?_)
 refine .an ?_
 refine AOps.sh (Sh.nil (d := 5) 105 1 rfl (by decide)) (AOps.nil (AWp.seq ?_))
 refine AWp.sr ?_
 refine .an ?_
 refine AOps.nil (AWp.block ?_)
 refine AWp.loop2 (fun (i6_3 : Nat) (a5_3 : List Int) => ⟨[(2, .ptr 102 0 0 0), (3, .ptr 103 0 0 0), (5, .slc 105 1 0 a5_3.length), (6, vi (i6_3 : Int))], [(102, .cells (Netlist.row n)), (103, .cells [vi 5, vi op, vi out, .fz 1 (args.map irow), .v (.int .u64 ((num : Nat) : Int)), vi mem]), (105, .rows 1 (a5_3.map irow))]⟩) (fun (i6_3 : Nat) (a5_3 : List Int) => ((i6_3 : Int) ≤ ((args.length : Nat) : Int)) ∧ (a5_3.length = i6_3) ∧ (∀ j, j < i6_3 → a5_3.getD j 0 = n.av (⟨5, op, out, args, num, mem⟩ : Cell) j)) (fun (i6_3 : Nat) (a5_3 : List Int) => (((args.length : Nat) : Int) - (i6_3 : Int)).toNat) 0 ([] : List Int) (⟨by first | omega | (simp [-List.getD_eq_getElem?_getD]; done) | (simp [-List.getD_eq_getElem?_getD]; omega), rfl, fun j hj => by omega⟩) (Le.mk (.c (.c (.cons (look_slc rfl (by first | omega | simp [-List.getD_eq_getElem?_getD] <;> omega)) (.cons (look_int rfl (by first | rfl | omega)) (.nil))))) (.c (.c (.c (.nil))))) (fun i6_3 a5_3 hI3 => ?_)
 obtain ⟨hb3, hal, ha⟩ := hI3
 refine AWp.seq (AWp.sr ?_)
 refine .mv ?_
 refine .fa fl39_3 ?_
 refine .ld sh22 ?_
 refine .vl (Y.len (n := args.length) sl22 rfl (congrArg some (List.length_map ..))) (.vl (Y.lss rfl rfl) (AOps.nil ?_))
 refine AWp.condD rfl (fun c13 => ?_) (fun c13 => ?_)
 refine AWp.skip (AWp.seq (AWp.block ?_))
 have hwa := hw.arg (k := i6_3) (by show _ < args.length; omega)
 simp only at hwa
 refine AWp.regionAny rfl (AAny.blind 0 rfl (by kernel_rfl) (Blind.move rfl rfl) (by decide) (AAny.quietN (n := 3) [1, 2, 3, 4, 5, 6, 7, 8, 9] [10, 11, 12] 10 rfl (by kernel_rfl) ?_))
 refine .cn 1 rfl (Y.fieldAddr fl27_1 rfl rfl) (.cn 2 rfl (Y.load sh22 rfl rfl rfl rfl) (.cn 3 rfl (Y.fieldAddr fl39_3 rfl rfl) ?_))
 refine .cn 4 rfl (Y.load sh22 rfl rfl rfl rfl) (.cn 5 rfl (Y.move rfl rfl) ?_)
 refine .cn 6 rfl (Y.indexF (m := i6_3) sl22 rfl rfl (by first | rfl | omega) (row_getD (d := 0) (by omega))) ?_
 refine .cn 7 rfl (Y.load sh3 rfl rfl rfl rfl) ?_
 refine .cn 8 rfl (Y.indexF (m := (args.getD i6_3 0).toNat) sl22 rfl rfl (by omega) (row_getD (d := 0) (by omega))) ?_
 refine .cn 9 rfl (Y.load sh3 rfl rfl rfl rfl) (AQ.nil (AAny.one 10 rfl (by kernel_rfl) ?_))
 refine AOps.buildSlice (([n.widths.getD ((args.getD i6_3 0).toNat) 0] : List Int).map irow) sl22 ze3 rfl rfl rfl rfl rfl (uniform_map (s := 1) (f := irow) (fun _ => rfl)) rfl rfl rfl (by decide) ?_
 refine AOps.nil ⟨rfl, ?_⟩
 refine AAny.one 11 rfl (by kernel_rfl) ?_
 refine AOps.appendE ((a5_3 ++ ([n.widths.getD ((args.getD i6_3 0).toNat) 0] : List Int)).map irow) (a5_3 ++ ([n.widths.getD ((args.getD i6_3 0).toNat) 0] : List Int)).length sl22 ze3 rfl rfl rfl rfl (app_le (by first | omega | simp [-List.getD_eq_getElem?_getD] <;> omega)) (app_map (by first | omega | simp [-List.getD_eq_getElem?_getD] <;> omega)) (app_n (by first | omega | simp [-List.getD_eq_getElem?_getD] <;> omega)) (by first | omega | simp [-List.getD_eq_getElem?_getD] <;> omega) (by first | omega | simp [-List.getD_eq_getElem?_getD] <;> omega) (by decide) (by decide) ?_
 refine AOps.nil ⟨rfl, ?_⟩
 refine AAny.quietN (n := 0) [12] [] 0 rfl (by kernel_rfl) (.cn 12 rfl (Y.assign rfl rfl) (AQ.nil ?_))
 refine AAny.done (by kernel_rfl) (AWp.region ?_)
 refine .mv ?_
 refine .vl (Y.addI rfl rfl (by omega)) ?_
 refine .an ?_
 refine AOps.nil ?_
 exact ⟨i6_3 + 1, a5_3 ++ ([n.widths.getD ((args.getD i6_3 0).toNat) 0] : List Int), ⟨by omega, by rw [List.length_append, hal]; rfl, push_succ hal ha rfl⟩, by omega, Le.mk (.c (.c (.cons (look_slc rfl (by omega)) (.cons (look_int rfl (by first | rfl | omega)) (.nil))))) (.c (.c (.c (.nil))))⟩
 refine AWp.exit (AWp.seq (AWp.seq ?_))
 have ha0 : 0 < args.length → a5_3.getD 0 0 = n.av (⟨5, op, out, args, num, mem⟩ : Cell) 0 := fun h => ha 0 (by omega)
 have ha1 : 1 < args.length → a5_3.getD 1 0 = n.av (⟨5, op, out, args, num, mem⟩ : Cell) 1 := fun h => ha 1 (by omega)
 have ha2 : 2 < args.length → a5_3.getD 2 0 = n.av (⟨5, op, out, args, num, mem⟩ : Cell) 2 := fun h => ha 2 (by omega)
 refine AWp.region ?_
 refine .fa fl39_0 ?_
 refine .ld sh3 ?_
 refine .vl (Y.eql rfl rfl) (AOps.nil (AWp.condF rfl ?_))
 refine AWp.skip (AWp.sr ?_)
 refine .fa fl27_1 ?_
 refine .ld sh22 ?_
 refine .fa fl39_2 ?_
 refine .ld sh3 ?_
 refine .vl (Y.indexF (m := (out).toNat) sl22 rfl rfl (by omega) (row_getD (d := 0) (by omega))) ?_
 refine .ld sh3 ?_
 refine .an ?_
 refine AOps.nil (AWp.seq (AWp.sr ?_))
 refine .fa fl39_0 ?_
 refine .ld sh3 ?_
 refine AOps.nil (AWp.block (AWp.sr ?_))
 refine .vl (Y.eql rfl rfl) ?_
 refine .an ?_
 refine AOps.nil (AWp.condF rfl (AWp.seq ?_))
 refine AWp.sr (.vl (Y.eql rfl rfl) ?_)
 refine .an ?_
 refine AOps.nil (AWp.condF rfl (AWp.region ?_))
 refine .vl (Y.eql rfl rfl) ?_
 refine .an ?_
 refine AOps.nil (AWp.condT rfl (AWp.sr ?_))
 refine .fa fl39_1 ?_
 refine .ld sh3 ?_
 refine .mv ?_
 refine .mv ?_
 refine AOps.callLP [105] ok122 (refOperands_spec (op := op) (a := a5_3) (w := (n.widths.getD ((out).toNat) 0)) (by omega) (fun _ => by omega) (fun _ => by omega) (by omega)) rfl (.keep rfl rfl (.lend rfl rfl (lend_le (by omega)) (lend_eq (by omega)) (.keep rfl rfl .nil))) (lend1 rfl (owns_map irow_frees)) (by decide) rfl trivial ?_
 refine .an ?_
 refine AOps.nil (AWp.ret ?_)
 exact .rb rfl (dd (by simp only [Fits, OpFits, Cmp, fit_iff, how, Int.reduceEq, Bool.not_eq_true, false_and, true_and, and_true, and_false, or_false, false_or, ne_eq] <;> (first | omega | grind)))
theorem refFits_k6 {n : Netlist} {op out mem : Int} {args : List Int} {num : Nat} (hs : n.Small) (hc : args.length ≤ 17592186043904) (hn : num < 18446744073709551616) (hsh : Shaped n (⟨6, op, out, args, num, mem⟩ : Cell)) (hw : Wired n (⟨6, op, out, args, num, mem⟩ : Cell)) : ACalls Try.prog 89 [.agg (Netlist.row n), .agg [vi 6, vi op, vi out, .fz 1 (args.map irow), .v (.int .u64 ((num : Nat) : Int)), vi mem]] [] [] (fun r o => r = .v (.bool (decide (Fits n (⟨6, op, out, args, num, mem⟩ : Cell)))) ∧ o = []) := by
 refine ACalls.of Try.func89 rfl rfl rfl (n := 155) (by decide) (Nat.le_of_ble_eq_true rfl) ?_
 have hs4 := hs.ins; have hs5 := hs.mems; have hs6 := hs.streams; have hs1 := hs.widths
 have hk := hsh.k6 rfl; simp only at hk
 have ho : 0 ≤ out ∧ out < n.widths.length := by have := hw.out; simp only at this; omega
 have how : n.ow (⟨6, op, out, args, num, mem⟩ : Cell) = n.widths.getD out.toNat 0 := ow_eq ho.1
 refine AWp.sr (AOps.box 102 rfl rfl rfl rfl rfl (by decide) (AOps.box 103 rfl rfl rfl rfl rfl (by decide) ?_))
 refine .an ?_
 refine AOps.nil (AWp.sr ?_)
 refine .an ?_
 refine AOps.sh (Sh.nil (d := 5) 105 1 rfl (by decide)) (AOps.nil (AWp.seq ?_))
 refine AWp.sr ?_
 refine .an ?_
 refine AOps.nil (AWp.block ?_)
 refine AWp.loop2 (fun (i6_3 : Nat) (a5_3 : List Int) => ⟨[(2, .ptr 102 0 0 0), (3, .ptr 103 0 0 0), (5, .slc 105 1 0 a5_3.length), (6, vi (i6_3 : Int))], [(102, .cells (Netlist.row n)), (103, .cells [vi 6, vi op, vi out, .fz 1 (args.map irow), .v (.int .u64 ((num : Nat) : Int)), vi mem]), (105, .rows 1 (a5_3.map irow))]⟩) (fun (i6_3 : Nat) (a5_3 : List Int) => ((i6_3 : Int) ≤ ((args.length : Nat) : Int)) ∧ (a5_3.length = i6_3) ∧ (∀ j, j < i6_3 → a5_3.getD j 0 = n.av (⟨6, op, out, args, num, mem⟩ : Cell) j)) (fun (i6_3 : Nat) (a5_3 : List Int) => (((args.length : Nat) : Int) - (i6_3 : Int)).toNat) 0 ([] : List Int) (⟨by first | omega | (simp [-List.getD_eq_getElem?_getD]; done) | (simp [-List.getD_eq_getElem?_getD]; omega), rfl, fun j hj => by omega⟩) (Le.mk (.c (.c (.cons (look_slc rfl (by first | omega | simp [-List.getD_eq_getElem?_getD] <;> omega)) (.cons (look_int rfl (by first | rfl | omega)) (.nil))))) (.c (.c (.c (.nil))))) (fun i6_3 a5_3 hI3 => ?_)
 obtain ⟨hb3, hal, ha⟩ := hI3
 refine AWp.seq (AWp.sr ?_)
 refine .mv ?_
 refine .fa fl39_3 ?_
 refine .ld sh22 ?_
 refine .vl (Y.len (n := args.length) sl22 rfl (congrArg some (List.length_map ..))) (.vl (Y.lss rfl rfl) (AOps.nil ?_))
 refine AWp.condD rfl (fun c13 => ?_) (fun c13 => ?_)
 refine AWp.skip (AWp.seq (AWp.block ?_))
 have hwa := hw.arg (k := i6_3) (by show _ < args.length; omega)
 simp only at hwa
 refine AWp.regionAny rfl (AAny.blind 0 rfl (by kernel_rfl) (Blind.move rfl rfl) (by decide) (AAny.quietN (n := 3) [1, 2, 3, 4, 5, 6, 7, 8, 9] [10, 11, 12] 10 rfl (by kernel_rfl) ?_))
 refine .cn 1 rfl (Y.fieldAddr fl27_1 rfl rfl) (.cn 2 rfl (Y.load sh22 rfl rfl rfl rfl) (.cn 3 rfl (Y.fieldAddr fl39_3 rfl rfl) ?_))
 refine .cn 4 rfl (Y.load sh22 rfl rfl rfl rfl) (.cn 5 rfl (Y.move rfl rfl) ?_)
 refine .cn 6 rfl (Y.indexF (m := i6_3) sl22 rfl rfl (by first | rfl | omega) (row_getD (d := 0) (by omega))) ?_
 refine .cn 7 rfl (Y.load sh3 rfl rfl rfl rfl) ?_
 refine .cn 8 rfl (Y.indexF (m := (args.getD i6_3 0).toNat) sl22 rfl rfl (by omega) (row_getD (d := 0) (by omega))) ?_
 refine .cn 9 rfl (Y.load sh3 rfl rfl rfl rfl) (AQ.nil (AAny.one 10 rfl (by kernel_rfl) ?_))
 refine AOps.buildSlice (([n.widths.getD ((args.getD i6_3 0).toNat) 0] : List Int).map irow) sl22 ze3 rfl rfl rfl rfl rfl (uniform_map (s := 1) (f := irow) (fun _ => rfl)) rfl rfl rfl (by decide) ?_
 refine AOps.nil ⟨rfl, ?_⟩
 refine AAny.one 11 rfl (by kernel_rfl) ?_
 refine AOps.appendE ((a5_3 ++ ([n.widths.getD ((args.getD i6_3 0).toNat) 0] : List Int)).map irow) (a5_3 ++ ([n.widths.getD ((args.getD i6_3 0).toNat) 0] : List Int)).length sl22 ze3 rfl rfl rfl rfl (app_le (by first | omega | simp [-List.getD_eq_getElem?_getD] <;> omega)) (app_map (by first | omega | simp [-List.getD_eq_getElem?_getD] <;> omega)) (app_n (by first | omega | simp [-List.getD_eq_getElem?_getD] <;> omega)) (by first | omega | simp [-List.getD_eq_getElem?_getD] <;> omega) (by first | omega | simp [-List.getD_eq_getElem?_getD] <;> omega) (by decide) (by decide) ?_
 refine AOps.nil ⟨rfl, ?_⟩
 refine AAny.quietN (n := 0) [12] [] 0 rfl (by kernel_rfl) (.cn 12 rfl (Y.assign rfl rfl) (AQ.nil ?_))
 refine AAny.done (by kernel_rfl) (AWp.region ?_)
 refine .mv ?_
 refine .vl (Y.addI rfl rfl (by omega)) ?_
 refine .an ?_
 refine AOps.nil ?_
 exact ⟨i6_3 + 1, a5_3 ++ ([n.widths.getD ((args.getD i6_3 0).toNat) 0] : List Int), ⟨by omega, by rw [List.length_append, hal]; rfl, push_succ hal ha rfl⟩, by omega, Le.mk (.c (.c (.cons (look_slc rfl (by omega)) (.cons (look_int rfl (by first | rfl | omega)) (.nil))))) (.c (.c (.c (.nil))))⟩
 refine AWp.exit (AWp.seq (AWp.seq ?_))
 have ha0 : 0 < args.length → a5_3.getD 0 0 = n.av (⟨6, op, out, args, num, mem⟩ : Cell) 0 := fun h => ha 0 (by omega)
 have ha1 : 1 < args.length → a5_3.getD 1 0 = n.av (⟨6, op, out, args, num, mem⟩ : Cell) 1 := fun h => ha 1 (by omega)
 have ha2 : 2 < args.length → a5_3.getD 2 0 = n.av (⟨6, op, out, args, num, mem⟩ : Cell) 2 := fun h => ha 2 (by omega)
 refine AWp.region ?_
 refine .fa fl39_0 ?_
 refine .ld sh3 ?_
 refine .vl (Y.eql rfl rfl) (AOps.nil (AWp.condF rfl ?_))
 refine AWp.skip (AWp.sr ?_)
 refine .fa fl27_1 ?_
 refine .ld sh22 ?_
 refine .fa fl39_2 ?_
 refine .ld sh3 ?_
 refine .vl (Y.indexF (m := (out).toNat) sl22 rfl rfl (by omega) (row_getD (d := 0) (by omega))) ?_
 refine .ld sh3 ?_
 refine .an ?_
 refine AOps.nil (AWp.seq (AWp.sr ?_))
 refine .fa fl39_0 ?_
 refine .ld sh3 ?_
 refine AOps.nil (AWp.block (AWp.sr ?_))
 refine .vl (Y.eql rfl rfl) ?_
 refine .an ?_
 refine AOps.nil (AWp.condF rfl (AWp.seq ?_))
 refine AWp.sr (.vl (Y.eql rfl rfl) ?_)
 refine .an ?_
 refine AOps.nil (AWp.condF rfl (AWp.region ?_))
 refine .vl (Y.eql rfl rfl) ?_
 refine .an ?_
 refine AOps.nil (AWp.condF rfl (AWp.sr ?_))
 refine .vl (Y.eql rfl rfl) ?_
 refine .an ?_
 refine AOps.nil (AWp.condF rfl (AWp.sr ?_))
 refine .vl (Y.eql rfl rfl) ?_
 refine .an ?_
 refine AOps.nil (AWp.condF rfl (AWp.sr ?_))
 refine .vl (Y.eql rfl rfl) ?_
 refine .an ?_
 refine AOps.nil (AWp.condT rfl (AWp.sr ?_))
 refine .mv ?_
 refine .vl (Y.indexO (m := 0) sl22 rfl rfl (by first | rfl | omega) (by omega)) ?_
 refine .vl (Y.load sh3 rfl (row_getD0 (d := 0) (by omega)) rfl rfl) ?_
 refine .vl (Y.eql rfl rfl) ?_
 refine .mv ?_
 refine AOps.splitD (d := 119) rfl (fun c119 => ?_) (fun c119 => ?_)
 refine .gw 119 (Y.move rfl rfl) (.gw 119 (Y.fieldAddr fl27_4 rfl rfl) (.gw 119 (Y.load sh24 rfl rfl rfl rfl) ?_))
 refine .gw 119 (Y.fieldAddr fl39_5 rfl rfl) (.gw 119 (Y.load sh3 rfl rfl rfl rfl) ?_)
 refine .gw 119 (Y.indexF (m := (mem).toNat) sl24 rfl rfl (by omega) (row_getD (d := default) (by omega))) ?_
 refine .gw 119 (Y.fieldAddr fl48_1 rfl rfl) (.gw 119 (Y.load sh3 rfl rfl rfl rfl) (.gw 119 (Y.eql rfl rfl) ?_))
 refine .pk ?_
 refine .an ?_
 refine AOps.nil (AWp.ret ?_)
 exact .rb rfl (dd (by simp only [Fits, OpFits, Cmp, fit_iff, how, Int.reduceEq, Bool.not_eq_true, false_and, true_and, and_true, and_false, or_false, false_or, ne_eq] <;> (first | omega | grind)))
 refine .gz 119 (.gz 119 (.gz 119 ?_))
 refine .gz 119 (.gz 119 (.gz 119 ?_))
 refine .gz 119 (.gz 119 (.gz 119 ?_))
 refine .pk ?_
 refine .an ?_
 refine AOps.nil (AWp.ret ?_)
 exact .rb rfl (df (by simp only [Fits, OpFits, Cmp, fit_iff, how, Int.reduceEq, Bool.not_eq_true, false_and, true_and, and_true, and_false, or_false, false_or, ne_eq] <;> (first | omega | grind)))
theorem refFits_k7 {n : Netlist} {op out mem : Int} {args : List Int} {num : Nat} (hs : n.Small) (hc : args.length ≤ 17592186043904) (hn : num < 18446744073709551616) (hsh : Shaped n (⟨7, op, out, args, num, mem⟩ : Cell)) (hw : Wired n (⟨7, op, out, args, num, mem⟩ : Cell)) : ACalls Try.prog 89 [.agg (Netlist.row n), .agg [vi 7, vi op, vi out, .fz 1 (args.map irow), .v (.int .u64 ((num : Nat) : Int)), vi mem]] [] [] (fun r o => r = .v (.bool (decide (Fits n (⟨7, op, out, args, num, mem⟩ : Cell)))) ∧ o = []) := by
 refine ACalls.of Try.func89 rfl rfl rfl (n := 155) (by decide) (Nat.le_of_ble_eq_true rfl) ?_
 have hs4 := hs.ins; have hs5 := hs.mems; have hs6 := hs.streams; have hs1 := hs.widths
 have hk := hsh.k7 rfl; simp only at hk
 refine AWp.sr (AOps.box 102 rfl rfl rfl rfl rfl (by decide) (AOps.box 103 rfl rfl rfl rfl rfl (by decide) ?_))
 refine .an ?_
 refine AOps.nil (AWp.sr ?_)
 refine .an ?_
 refine AOps.sh (Sh.nil (d := 5) 105 1 rfl (by decide)) (AOps.nil (AWp.seq ?_))
 refine AWp.sr ?_
 refine .an ?_
 refine AOps.nil (AWp.block ?_)
 refine AWp.loop2 (fun (i6_3 : Nat) (a5_3 : List Int) => ⟨[(2, .ptr 102 0 0 0), (3, .ptr 103 0 0 0), (5, .slc 105 1 0 a5_3.length), (6, vi (i6_3 : Int))], [(102, .cells (Netlist.row n)), (103, .cells [vi 7, vi op, vi out, .fz 1 (args.map irow), .v (.int .u64 ((num : Nat) : Int)), vi mem]), (105, .rows 1 (a5_3.map irow))]⟩) (fun (i6_3 : Nat) (a5_3 : List Int) => ((i6_3 : Int) ≤ ((args.length : Nat) : Int)) ∧ (a5_3.length = i6_3) ∧ (∀ j, j < i6_3 → a5_3.getD j 0 = n.av (⟨7, op, out, args, num, mem⟩ : Cell) j)) (fun (i6_3 : Nat) (a5_3 : List Int) => (((args.length : Nat) : Int) - (i6_3 : Int)).toNat) 0 ([] : List Int) (⟨by first | omega | (simp [-List.getD_eq_getElem?_getD]; done) | (simp [-List.getD_eq_getElem?_getD]; omega), rfl, fun j hj => by omega⟩) (Le.mk (.c (.c (.cons (look_slc rfl (by first | omega | simp [-List.getD_eq_getElem?_getD] <;> omega)) (.cons (look_int rfl (by first | rfl | omega)) (.nil))))) (.c (.c (.c (.nil))))) (fun i6_3 a5_3 hI3 => ?_)
 obtain ⟨hb3, hal, ha⟩ := hI3
 refine AWp.seq (AWp.sr ?_)
 refine .mv ?_
 refine .fa fl39_3 ?_
 refine .ld sh22 ?_
 refine .vl (Y.len (n := args.length) sl22 rfl (congrArg some (List.length_map ..))) (.vl (Y.lss rfl rfl) (AOps.nil ?_))
 refine AWp.condD rfl (fun c13 => ?_) (fun c13 => ?_)
 refine AWp.skip (AWp.seq (AWp.block ?_))
 have hwa := hw.arg (k := i6_3) (by show _ < args.length; omega)
 simp only at hwa
 refine AWp.regionAny rfl (AAny.blind 0 rfl (by kernel_rfl) (Blind.move rfl rfl) (by decide) (AAny.quietN (n := 3) [1, 2, 3, 4, 5, 6, 7, 8, 9] [10, 11, 12] 10 rfl (by kernel_rfl) ?_))
 refine .cn 1 rfl (Y.fieldAddr fl27_1 rfl rfl) (.cn 2 rfl (Y.load sh22 rfl rfl rfl rfl) (.cn 3 rfl (Y.fieldAddr fl39_3 rfl rfl) ?_))
 refine .cn 4 rfl (Y.load sh22 rfl rfl rfl rfl) (.cn 5 rfl (Y.move rfl rfl) ?_)
 refine .cn 6 rfl (Y.indexF (m := i6_3) sl22 rfl rfl (by first | rfl | omega) (row_getD (d := 0) (by omega))) ?_
 refine .cn 7 rfl (Y.load sh3 rfl rfl rfl rfl) ?_
 refine .cn 8 rfl (Y.indexF (m := (args.getD i6_3 0).toNat) sl22 rfl rfl (by omega) (row_getD (d := 0) (by omega))) ?_
 refine .cn 9 rfl (Y.load sh3 rfl rfl rfl rfl) (AQ.nil (AAny.one 10 rfl (by kernel_rfl) ?_))
 refine AOps.buildSlice (([n.widths.getD ((args.getD i6_3 0).toNat) 0] : List Int).map irow) sl22 ze3 rfl rfl rfl rfl rfl (uniform_map (s := 1) (f := irow) (fun _ => rfl)) rfl rfl rfl (by decide) ?_
 refine AOps.nil ⟨rfl, ?_⟩
 refine AAny.one 11 rfl (by kernel_rfl) ?_
 refine AOps.appendE ((a5_3 ++ ([n.widths.getD ((args.getD i6_3 0).toNat) 0] : List Int)).map irow) (a5_3 ++ ([n.widths.getD ((args.getD i6_3 0).toNat) 0] : List Int)).length sl22 ze3 rfl rfl rfl rfl (app_le (by first | omega | simp [-List.getD_eq_getElem?_getD] <;> omega)) (app_map (by first | omega | simp [-List.getD_eq_getElem?_getD] <;> omega)) (app_n (by first | omega | simp [-List.getD_eq_getElem?_getD] <;> omega)) (by first | omega | simp [-List.getD_eq_getElem?_getD] <;> omega) (by first | omega | simp [-List.getD_eq_getElem?_getD] <;> omega) (by decide) (by decide) ?_
 refine AOps.nil ⟨rfl, ?_⟩
 refine AAny.quietN (n := 0) [12] [] 0 rfl (by kernel_rfl) (.cn 12 rfl (Y.assign rfl rfl) (AQ.nil ?_))
 refine AAny.done (by kernel_rfl) (AWp.region ?_)
 refine .mv ?_
 refine .vl (Y.addI rfl rfl (by omega)) ?_
 refine .an ?_
 refine AOps.nil ?_
 exact ⟨i6_3 + 1, a5_3 ++ ([n.widths.getD ((args.getD i6_3 0).toNat) 0] : List Int), ⟨by omega, by rw [List.length_append, hal]; rfl, push_succ hal ha rfl⟩, by omega, Le.mk (.c (.c (.cons (look_slc rfl (by omega)) (.cons (look_int rfl (by first | rfl | omega)) (.nil))))) (.c (.c (.c (.nil))))⟩
 refine AWp.exit (AWp.seq (AWp.seq ?_))
 have ha0 : 0 < args.length → a5_3.getD 0 0 = n.av (⟨7, op, out, args, num, mem⟩ : Cell) 0 := fun h => ha 0 (by omega)
 have ha1 : 1 < args.length → a5_3.getD 1 0 = n.av (⟨7, op, out, args, num, mem⟩ : Cell) 1 := fun h => ha 1 (by omega)
 have ha2 : 2 < args.length → a5_3.getD 2 0 = n.av (⟨7, op, out, args, num, mem⟩ : Cell) 2 := fun h => ha 2 (by omega)
 refine AWp.region ?_
 refine .fa fl39_0 ?_
 refine .ld sh3 ?_
 refine .vl (Y.eql rfl rfl) (AOps.nil (AWp.condT rfl ?_))
 refine AWp.seq (AWp.regionS rfl (by kernel_rfl) (AHead.val (Y.move rfl rfl) (by decide) ?_))
 refine AHead.val (Y.indexO (m := 0) sl22 rfl rfl (by first | rfl | omega) (by omega)) (by decide) ?_
 refine AHead.val (Y.load sh3 rfl (row_getD0 (d := 0) (by omega)) rfl rfl) (by decide) ?_
 refine AHead.val (Y.eql rfl rfl) (by decide) (AHead.val (Y.move rfl rfl) (by decide) ?_)
 refine AHead.splitD (d := 35) rfl (fun c35 => ?_) (fun c35 => ?_)
 refine AHead.guardRun (d := 35) rfl (by decide) rfl (AHead.val (Y.move rfl rfl) (by decide) (AHead.guardRun (d := 35) rfl (by decide) rfl ?_))
 refine AHead.val (Y.indexO (m := 2) sl22 rfl rfl (by first | rfl | omega) (by omega)) (by decide) ?_
 refine AHead.guardRun (d := 35) rfl (by decide) rfl ?_
 refine AHead.val (Y.load sh3 rfl (row_getD0 (d := 0) (by omega)) rfl rfl) (by decide) ?_
 refine AHead.guardRun (d := 35) rfl (by decide) rfl (AHead.val (Y.fieldAddr fl27_4 rfl rfl) (by decide) (AHead.guardRun (d := 35) rfl (by decide) rfl ?_))
 refine AHead.val (Y.load sh24 rfl rfl rfl rfl) (by decide) (AHead.guardRun (d := 35) rfl (by decide) rfl (AHead.val (Y.fieldAddr fl39_5 rfl rfl) (by decide) ?_))
 refine AHead.guardRun (d := 35) rfl (by decide) rfl (AHead.val (Y.load sh3 rfl rfl rfl rfl) (by decide) (AHead.guardRun (d := 35) rfl (by decide) rfl ?_))
 refine AHead.val (Y.indexF (m := (mem).toNat) sl24 rfl rfl (by omega) (row_getD (d := default) (by omega))) (by decide) ?_
 refine AHead.guardRun (d := 35) rfl (by decide) rfl (AHead.val (Y.fieldAddr fl48_1 rfl rfl) (by decide) (AHead.guardRun (d := 35) rfl (by decide) rfl ?_))
 refine AHead.val (Y.load sh3 rfl rfl rfl rfl) (by decide) (AHead.guardRun (d := 35) rfl (by decide) rfl (AHead.val (Y.eql rfl rfl) (by decide) ?_))
 refine AHead.val (Y.pick rfl rfl rfl) (by decide) (AHead.val (Y.assign rfl rfl) (by decide) (AHead.nil ?_))
 refine AWp.ret ?_
 exact .rb rfl (dd (by simp only [Fits, OpFits, Cmp, fit_iff, Int.reduceEq, Bool.not_eq_true, false_and, true_and, and_true, and_false, or_false, false_or, ne_eq] <;> (first | omega | grind)))
 refine AHead.guardSkipV (d := 35) rfl (by decide) (by decide) rfl rfl (AHead.guardSkipV (d := 35) rfl (by decide) (by decide) rfl rfl (AHead.guardSkipV (d := 35) rfl (by decide) (by decide) rfl rfl ?_))
 refine AHead.guardSkipV (d := 35) rfl (by decide) (by decide) rfl rfl (AHead.guardSkipV (d := 35) rfl (by decide) (by decide) rfl rfl (AHead.guardSkipV (d := 35) rfl (by decide) (by decide) rfl rfl ?_))
 refine AHead.guardSkipV (d := 35) rfl (by decide) (by decide) rfl rfl (AHead.guardSkipV (d := 35) rfl (by decide) (by decide) rfl rfl (AHead.guardSkipV (d := 35) rfl (by decide) (by decide) rfl rfl ?_))
 refine AHead.guardSkipV (d := 35) rfl (by decide) (by decide) rfl rfl (AHead.guardSkipV (d := 35) rfl (by decide) (by decide) rfl rfl (AHead.val (Y.pick rfl rfl rfl) (by decide) ?_))
 refine AHead.val (Y.assign rfl rfl) (by decide) (AHead.nil (AWp.ret ?_))
 exact .rb rfl (df (by simp only [Fits, OpFits, Cmp, fit_iff, Int.reduceEq, Bool.not_eq_true, false_and, true_and, and_true, and_false, or_false, false_or, ne_eq] <;> (first | omega | grind)))
theorem refFits_k8 {n : Netlist} {op out mem : Int} {args : List Int} {num : Nat} (hs : n.Small) (hc : args.length ≤ 17592186043904) (hn : num < 18446744073709551616) (hsh : Shaped n (⟨8, op, out, args, num, mem⟩ : Cell)) (hw : Wired n (⟨8, op, out, args, num, mem⟩ : Cell)) : ACalls Try.prog 89 [.agg (Netlist.row n), .agg [vi 8, vi op, vi out, .fz 1 (args.map irow), .v (.int .u64 ((num : Nat) : Int)), vi mem]] [] [] (fun r o => r = .v (.bool (decide (Fits n (⟨8, op, out, args, num, mem⟩ : Cell)))) ∧ o = []) := by
 refine ACalls.of Try.func89 rfl rfl rfl (n := 155) (by decide) (Nat.le_of_ble_eq_true rfl) ?_
 have hs4 := hs.ins; have hs5 := hs.mems; have hs6 := hs.streams; have hs1 := hs.widths
 have hk := hsh.k8 rfl; simp only at hk
 have ho : 0 ≤ out ∧ out < n.widths.length := by have := hw.out; simp only at this; omega
 have how : n.ow (⟨8, op, out, args, num, mem⟩ : Cell) = n.widths.getD out.toNat 0 := ow_eq ho.1
 refine AWp.sr (AOps.box 102 rfl rfl rfl rfl rfl (by decide) (AOps.box 103 rfl rfl rfl rfl rfl (by decide) ?_))
 refine .an ?_
 refine AOps.nil (AWp.sr ?_)
 refine .an ?_
 refine AOps.sh (Sh.nil (d := 5) 105 1 rfl (by decide)) (AOps.nil (AWp.seq ?_))
 refine AWp.sr ?_
 refine .an ?_
 refine AOps.nil (AWp.block ?_)
 refine AWp.loop2 (fun (i6_3 : Nat) (a5_3 : List Int) => ⟨[(2, .ptr 102 0 0 0), (3, .ptr 103 0 0 0), (5, .slc 105 1 0 a5_3.length), (6, vi (i6_3 : Int))], [(102, .cells (Netlist.row n)), (103, .cells [vi 8, vi op, vi out, .fz 1 (args.map irow), .v (.int .u64 ((num : Nat) : Int)), vi mem]), (105, .rows 1 (a5_3.map irow))]⟩) (fun (i6_3 : Nat) (a5_3 : List Int) => ((i6_3 : Int) ≤ ((args.length : Nat) : Int)) ∧ (a5_3.length = i6_3) ∧ (∀ j, j < i6_3 → a5_3.getD j 0 = n.av (⟨8, op, out, args, num, mem⟩ : Cell) j)) (fun (i6_3 : Nat) (a5_3 : List Int) => (((args.length : Nat) : Int) - (i6_3 : Int)).toNat) 0 ([] : List Int) (⟨by first | omega | (simp [-List.getD_eq_getElem?_getD]; done) | (simp [-List.getD_eq_getElem?_getD]; omega), rfl, fun j hj => by omega⟩) (Le.mk (.c (.c (.cons (look_slc rfl (by first | omega | simp [-List.getD_eq_getElem?_getD] <;> omega)) (.cons (look_int rfl (by first | rfl | omega)) (.nil))))) (.c (.c (.c (.nil))))) (fun i6_3 a5_3 hI3 => ?_)
 obtain ⟨hb3, hal, ha⟩ := hI3
 refine AWp.seq (AWp.sr ?_)
 refine .mv ?_
 refine .fa fl39_3 ?_
 refine .ld sh22 ?_
 refine .vl (Y.len (n := args.length) sl22 rfl (congrArg some (List.length_map ..))) (.vl (Y.lss rfl rfl) (AOps.nil ?_))
 refine AWp.condD rfl (fun c13 => ?_) (fun c13 => ?_)
 refine AWp.skip (AWp.seq (AWp.block ?_))
 have hwa := hw.arg (k := i6_3) (by show _ < args.length; omega)
 simp only at hwa
 refine AWp.regionAny rfl (AAny.blind 0 rfl (by kernel_rfl) (Blind.move rfl rfl) (by decide) (AAny.quietN (n := 3) [1, 2, 3, 4, 5, 6, 7, 8, 9] [10, 11, 12] 10 rfl (by kernel_rfl) ?_))
 refine .cn 1 rfl (Y.fieldAddr fl27_1 rfl rfl) (.cn 2 rfl (Y.load sh22 rfl rfl rfl rfl) (.cn 3 rfl (Y.fieldAddr fl39_3 rfl rfl) ?_))
 refine .cn 4 rfl (Y.load sh22 rfl rfl rfl rfl) (.cn 5 rfl (Y.move rfl rfl) ?_)
 refine .cn 6 rfl (Y.indexF (m := i6_3) sl22 rfl rfl (by first | rfl | omega) (row_getD (d := 0) (by omega))) ?_
 refine .cn 7 rfl (Y.load sh3 rfl rfl rfl rfl) ?_
 refine .cn 8 rfl (Y.indexF (m := (args.getD i6_3 0).toNat) sl22 rfl rfl (by omega) (row_getD (d := 0) (by omega))) ?_
 refine .cn 9 rfl (Y.load sh3 rfl rfl rfl rfl) (AQ.nil (AAny.one 10 rfl (by kernel_rfl) ?_))
 refine AOps.buildSlice (([n.widths.getD ((args.getD i6_3 0).toNat) 0] : List Int).map irow) sl22 ze3 rfl rfl rfl rfl rfl (uniform_map (s := 1) (f := irow) (fun _ => rfl)) rfl rfl rfl (by decide) ?_
 refine AOps.nil ⟨rfl, ?_⟩
 refine AAny.one 11 rfl (by kernel_rfl) ?_
 refine AOps.appendE ((a5_3 ++ ([n.widths.getD ((args.getD i6_3 0).toNat) 0] : List Int)).map irow) (a5_3 ++ ([n.widths.getD ((args.getD i6_3 0).toNat) 0] : List Int)).length sl22 ze3 rfl rfl rfl rfl (app_le (by first | omega | simp [-List.getD_eq_getElem?_getD] <;> omega)) (app_map (by first | omega | simp [-List.getD_eq_getElem?_getD] <;> omega)) (app_n (by first | omega | simp [-List.getD_eq_getElem?_getD] <;> omega)) (by first | omega | simp [-List.getD_eq_getElem?_getD] <;> omega) (by first | omega | simp [-List.getD_eq_getElem?_getD] <;> omega) (by decide) (by decide) ?_
 refine AOps.nil ⟨rfl, ?_⟩
 refine AAny.quietN (n := 0) [12] [] 0 rfl (by kernel_rfl) (.cn 12 rfl (Y.assign rfl rfl) (AQ.nil ?_))
 refine AAny.done (by kernel_rfl) (AWp.region ?_)
 refine .mv ?_
 refine .vl (Y.addI rfl rfl (by omega)) ?_
 refine .an ?_
 refine AOps.nil ?_
 exact ⟨i6_3 + 1, a5_3 ++ ([n.widths.getD ((args.getD i6_3 0).toNat) 0] : List Int), ⟨by omega, by rw [List.length_append, hal]; rfl, push_succ hal ha rfl⟩, by omega, Le.mk (.c (.c (.cons (look_slc rfl (by omega)) (.cons (look_int rfl (by first | rfl | omega)) (.nil))))) (.c (.c (.c (.nil))))⟩
 refine AWp.exit (AWp.seq (AWp.seq ?_))
 have ha0 : 0 < args.length → a5_3.getD 0 0 = n.av (⟨8, op, out, args, num, mem⟩ : Cell) 0 := fun h => ha 0 (by omega)
 have ha1 : 1 < args.length → a5_3.getD 1 0 = n.av (⟨8, op, out, args, num, mem⟩ : Cell) 1 := fun h => ha 1 (by omega)
 have ha2 : 2 < args.length → a5_3.getD 2 0 = n.av (⟨8, op, out, args, num, mem⟩ : Cell) 2 := fun h => ha 2 (by omega)
 refine AWp.region ?_
 refine .fa fl39_0 ?_
 refine .ld sh3 ?_
 refine .vl (Y.eql rfl rfl) (AOps.nil (AWp.condF rfl ?_))
 refine AWp.skip (AWp.sr ?_)
 refine .fa fl27_1 ?_
 refine .ld sh22 ?_
 refine .fa fl39_2 ?_
 refine .ld sh3 ?_
 refine .vl (Y.indexF (m := (out).toNat) sl22 rfl rfl (by omega) (row_getD (d := 0) (by omega))) ?_
 refine .ld sh3 ?_
 refine .an ?_
 refine AOps.nil (AWp.seq (AWp.sr ?_))
 refine .fa fl39_0 ?_
 refine .ld sh3 ?_
 refine AOps.nil (AWp.block (AWp.sr ?_))
 refine .vl (Y.eql rfl rfl) ?_
 refine .an ?_
 refine AOps.nil (AWp.condF rfl (AWp.seq ?_))
 refine AWp.sr (.vl (Y.eql rfl rfl) ?_)
 refine .an ?_
 refine AOps.nil (AWp.condF rfl (AWp.region ?_))
 refine .vl (Y.eql rfl rfl) ?_
 refine .an ?_
 refine AOps.nil (AWp.condF rfl (AWp.sr ?_))
 refine .vl (Y.eql rfl rfl) ?_
 refine .an ?_
 refine AOps.nil (AWp.condF rfl (AWp.sr ?_))
 refine .vl (Y.eql rfl rfl) ?_
 refine .an ?_
 refine AOps.nil (AWp.condF rfl (AWp.sr ?_))
 refine .vl (Y.eql rfl rfl) ?_
 refine .an ?_
 refine AOps.nil (AWp.condF rfl (AWp.sr ?_))
 refine .vl (Y.eql rfl rfl) ?_
 refine .an ?_
 refine AOps.nil (AWp.condT rfl (AWp.sr ?_))
 refine .mv ?_
 refine .fa fl27_3 ?_
 refine .ld sh22 ?_
 refine .fa fl39_4 ?_
 refine .ld sh37 ?_
 refine .vl (Y.indexF (m := num) sl22 rfl rfl (by first | rfl | omega) (row_getD (d := 0) (by omega))) ?_
 refine .ld sh3 ?_
 refine .vl (Y.eql rfl rfl) ?_
 refine .an ?_
 refine AOps.nil (AWp.ret ?_)
 exact .rb rfl (dd (by simp only [Fits, OpFits, Cmp, fit_iff, how, Int.reduceEq, Bool.not_eq_true, false_and, true_and, and_true, and_false, or_false, false_or, ne_eq] <;> (first | omega | grind)))
theorem refFits_k9 {n : Netlist} {op out mem : Int} {args : List Int} {num : Nat} (hs : n.Small) (hc : args.length ≤ 17592186043904) (hn : num < 18446744073709551616) (hsh : Shaped n (⟨9, op, out, args, num, mem⟩ : Cell)) (hw : Wired n (⟨9, op, out, args, num, mem⟩ : Cell)) : ACalls Try.prog 89 [.agg (Netlist.row n), .agg [vi 9, vi op, vi out, .fz 1 (args.map irow), .v (.int .u64 ((num : Nat) : Int)), vi mem]] [] [] (fun r o => r = .v (.bool (decide (Fits n (⟨9, op, out, args, num, mem⟩ : Cell)))) ∧ o = []) := by
 refine ACalls.of Try.func89 rfl rfl rfl (n := 155) (by decide) (Nat.le_of_ble_eq_true rfl) ?_
 have hs4 := hs.ins; have hs5 := hs.mems; have hs6 := hs.streams; have hs1 := hs.widths
 have hk := hsh.k9 rfl; simp only at hk
 have ho : 0 ≤ out ∧ out < n.widths.length := by have := hw.out; simp only at this; omega
 have how : n.ow (⟨9, op, out, args, num, mem⟩ : Cell) = n.widths.getD out.toNat 0 := ow_eq ho.1
 refine AWp.sr (AOps.box 102 rfl rfl rfl rfl rfl (by decide) (AOps.box 103 rfl rfl rfl rfl rfl (by decide) ?_))
 refine .an ?_
 refine AOps.nil (AWp.sr ?_)
 refine .an ?_
 refine AOps.sh (Sh.nil (d := 5) 105 1 rfl (by decide)) (AOps.nil (AWp.seq ?_))
 refine AWp.sr ?_
 refine .an ?_
 refine AOps.nil (AWp.block ?_)
 refine AWp.loop2 (fun (i6_3 : Nat) (a5_3 : List Int) => ⟨[(2, .ptr 102 0 0 0), (3, .ptr 103 0 0 0), (5, .slc 105 1 0 a5_3.length), (6, vi (i6_3 : Int))], [(102, .cells (Netlist.row n)), (103, .cells [vi 9, vi op, vi out, .fz 1 (args.map irow), .v (.int .u64 ((num : Nat) : Int)), vi mem]), (105, .rows 1 (a5_3.map irow))]⟩) (fun (i6_3 : Nat) (a5_3 : List Int) => ((i6_3 : Int) ≤ ((args.length : Nat) : Int)) ∧ (a5_3.length = i6_3) ∧ (∀ j, j < i6_3 → a5_3.getD j 0 = n.av (⟨9, op, out, args, num, mem⟩ : Cell) j)) (fun (i6_3 : Nat) (a5_3 : List Int) => (((args.length : Nat) : Int) - (i6_3 : Int)).toNat) 0 ([] : List Int) (⟨by first | omega | (simp [-List.getD_eq_getElem?_getD]; done) | (simp [-List.getD_eq_getElem?_getD]; omega), rfl, fun j hj => by omega⟩) (Le.mk (.c (.c (.cons (look_slc rfl (by first | omega | simp [-List.getD_eq_getElem?_getD] <;> omega)) (.cons (look_int rfl (by first | rfl | omega)) (.nil))))) (.c (.c (.c (.nil))))) (fun i6_3 a5_3 hI3 => ?_)
 obtain ⟨hb3, hal, ha⟩ := hI3
 refine AWp.seq (AWp.sr ?_)
 refine .mv ?_
 refine .fa fl39_3 ?_
 refine .ld sh22 ?_
 refine .vl (Y.len (n := args.length) sl22 rfl (congrArg some (List.length_map ..))) (.vl (Y.lss rfl rfl) (AOps.nil ?_))
 refine AWp.condD rfl (fun c13 => ?_) (fun c13 => ?_)
 refine AWp.skip (AWp.seq (AWp.block ?_))
 have hwa := hw.arg (k := i6_3) (by show _ < args.length; omega)
 simp only at hwa
 refine AWp.regionAny rfl (AAny.blind 0 rfl (by kernel_rfl) (Blind.move rfl rfl) (by decide) (AAny.quietN (n := 3) [1, 2, 3, 4, 5, 6, 7, 8, 9] [10, 11, 12] 10 rfl (by kernel_rfl) ?_))
 refine .cn 1 rfl (Y.fieldAddr fl27_1 rfl rfl) (.cn 2 rfl (Y.load sh22 rfl rfl rfl rfl) (.cn 3 rfl (Y.fieldAddr fl39_3 rfl rfl) ?_))
 refine .cn 4 rfl (Y.load sh22 rfl rfl rfl rfl) (.cn 5 rfl (Y.move rfl rfl) ?_)
 refine .cn 6 rfl (Y.indexF (m := i6_3) sl22 rfl rfl (by first | rfl | omega) (row_getD (d := 0) (by omega))) ?_
 refine .cn 7 rfl (Y.load sh3 rfl rfl rfl rfl) ?_
 refine .cn 8 rfl (Y.indexF (m := (args.getD i6_3 0).toNat) sl22 rfl rfl (by omega) (row_getD (d := 0) (by omega))) ?_
 refine .cn 9 rfl (Y.load sh3 rfl rfl rfl rfl) (AQ.nil (AAny.one 10 rfl (by kernel_rfl) ?_))
 refine AOps.buildSlice (([n.widths.getD ((args.getD i6_3 0).toNat) 0] : List Int).map irow) sl22 ze3 rfl rfl rfl rfl rfl (uniform_map (s := 1) (f := irow) (fun _ => rfl)) rfl rfl rfl (by decide) ?_
 refine AOps.nil ⟨rfl, ?_⟩
 refine AAny.one 11 rfl (by kernel_rfl) ?_
 refine AOps.appendE ((a5_3 ++ ([n.widths.getD ((args.getD i6_3 0).toNat) 0] : List Int)).map irow) (a5_3 ++ ([n.widths.getD ((args.getD i6_3 0).toNat) 0] : List Int)).length sl22 ze3 rfl rfl rfl rfl (app_le (by first | omega | simp [-List.getD_eq_getElem?_getD] <;> omega)) (app_map (by first | omega | simp [-List.getD_eq_getElem?_getD] <;> omega)) (app_n (by first | omega | simp [-List.getD_eq_getElem?_getD] <;> omega)) (by first | omega | simp [-List.getD_eq_getElem?_getD] <;> omega) (by first | omega | simp [-List.getD_eq_getElem?_getD] <;> omega) (by decide) (by decide) ?_
 refine AOps.nil ⟨rfl, ?_⟩
 refine AAny.quietN (n := 0) [12] [] 0 rfl (by kernel_rfl) (.cn 12 rfl (Y.assign rfl rfl) (AQ.nil ?_))
 refine AAny.done (by kernel_rfl) (AWp.region ?_)
 refine .mv ?_
 refine .vl (Y.addI rfl rfl (by omega)) ?_
 refine .an ?_
 refine AOps.nil ?_
 exact ⟨i6_3 + 1, a5_3 ++ ([n.widths.getD ((args.getD i6_3 0).toNat) 0] : List Int), ⟨by omega, by rw [List.length_append, hal]; rfl, push_succ hal ha rfl⟩, by omega, Le.mk (.c (.c (.cons (look_slc rfl (by omega)) (.cons (look_int rfl (by first | rfl | omega)) (.nil))))) (.c (.c (.c (.nil))))⟩
 refine AWp.exit (AWp.seq (AWp.seq ?_))
 have ha0 : 0 < args.length → a5_3.getD 0 0 = n.av (⟨9, op, out, args, num, mem⟩ : Cell) 0 := fun h => ha 0 (by omega)
 have ha1 : 1 < args.length → a5_3.getD 1 0 = n.av (⟨9, op, out, args, num, mem⟩ : Cell) 1 := fun h => ha 1 (by omega)
 have ha2 : 2 < args.length → a5_3.getD 2 0 = n.av (⟨9, op, out, args, num, mem⟩ : Cell) 2 := fun h => ha 2 (by omega)
 refine AWp.region ?_
 refine .fa fl39_0 ?_
 refine .ld sh3 ?_
 refine .vl (Y.eql rfl rfl) (AOps.nil (AWp.condF rfl ?_))
 refine AWp.skip (AWp.sr ?_)
 refine .fa fl27_1 ?_
 refine .ld sh22 ?_
 refine .fa fl39_2 ?_
 refine .ld sh3 ?_
 refine .vl (Y.indexF (m := (out).toNat) sl22 rfl rfl (by omega) (row_getD (d := 0) (by omega))) ?_
 refine .ld sh3 ?_
 refine .an ?_
 refine AOps.nil (AWp.seq (AWp.sr ?_))
 refine .fa fl39_0 ?_
 refine .ld sh3 ?_
 refine AOps.nil (AWp.block (AWp.sr ?_))
 refine .vl (Y.eql rfl rfl) ?_
 refine .an ?_
 refine AOps.nil (AWp.condF rfl (AWp.seq ?_))
 refine AWp.sr (.vl (Y.eql rfl rfl) ?_)
 refine .an ?_
 refine AOps.nil (AWp.condF rfl (AWp.region ?_))
 refine .vl (Y.eql rfl rfl) ?_
 refine .an ?_
 refine AOps.nil (AWp.condF rfl (AWp.sr ?_))
 refine .vl (Y.eql rfl rfl) ?_
 refine .an ?_
 refine AOps.nil (AWp.condF rfl (AWp.sr ?_))
 refine .vl (Y.eql rfl rfl) ?_
 refine .an ?_
 refine AOps.nil (AWp.condF rfl (AWp.sr ?_))
 refine .vl (Y.eql rfl rfl) ?_
 refine .an ?_
 refine AOps.nil (AWp.condF rfl (AWp.sr ?_))
 refine .vl (Y.eql rfl rfl) ?_
 refine .an ?_
 refine AOps.nil (AWp.condF rfl (AWp.sr ?_))
 refine .vl (Y.eql rfl rfl) ?_
 refine .an ?_
 refine AOps.nil (AWp.condT rfl (AWp.sr ?_))
 refine .mv ?_
 refine .vl (Y.eql rfl rfl) ?_
 refine .an ?_
 refine AOps.nil (AWp.ret ?_)
 exact .rb rfl (dd (by simp only [Fits, OpFits, Cmp, fit_iff, how, Int.reduceEq, Bool.not_eq_true, false_and, true_and, and_true, and_false, or_false, false_or, ne_eq] <;> (first | omega | grind)))
theorem refFits_k10 {n : Netlist} {op out mem : Int} {args : List Int} {num : Nat} (hs : n.Small) (hc : args.length ≤ 17592186043904) (hn : num < 18446744073709551616) (hsh : Shaped n (⟨10, op, out, args, num, mem⟩ : Cell)) (hw : Wired n (⟨10, op, out, args, num, mem⟩ : Cell)) : ACalls Try.prog 89 [.agg (Netlist.row n), .agg [vi 10, vi op, vi out, .fz 1 (args.map irow), .v (.int .u64 ((num : Nat) : Int)), vi mem]] [] [] (fun r o => r = .v (.bool (decide (Fits n (⟨10, op, out, args, num, mem⟩ : Cell)))) ∧ o = []) := by
 refine ACalls.of Try.func89 rfl rfl rfl (n := 155) (by decide) (Nat.le_of_ble_eq_true rfl) ?_
 have hs4 := hs.ins; have hs5 := hs.mems; have hs6 := hs.streams; have hs1 := hs.widths
 have hk := hsh.k10 rfl; simp only at hk
 have ho : 0 ≤ out ∧ out < n.widths.length := by have := hw.out; simp only at this; omega
 have how : n.ow (⟨10, op, out, args, num, mem⟩ : Cell) = n.widths.getD out.toNat 0 := ow_eq ho.1
 refine AWp.sr (AOps.box 102 rfl rfl rfl rfl rfl (by decide) (AOps.box 103 rfl rfl rfl rfl rfl (by decide) ?_))
 refine .an ?_
 refine AOps.nil (AWp.sr ?_)
 refine .an ?_
 refine AOps.sh (Sh.nil (d := 5) 105 1 rfl (by decide)) (AOps.nil (AWp.seq ?_))
 refine AWp.sr ?_
 refine .an ?_
 refine AOps.nil (AWp.block ?_)
 refine AWp.loop2 (fun (i6_3 : Nat) (a5_3 : List Int) => ⟨[(2, .ptr 102 0 0 0), (3, .ptr 103 0 0 0), (5, .slc 105 1 0 a5_3.length), (6, vi (i6_3 : Int))], [(102, .cells (Netlist.row n)), (103, .cells [vi 10, vi op, vi out, .fz 1 (args.map irow), .v (.int .u64 ((num : Nat) : Int)), vi mem]), (105, .rows 1 (a5_3.map irow))]⟩) (fun (i6_3 : Nat) (a5_3 : List Int) => ((i6_3 : Int) ≤ ((args.length : Nat) : Int)) ∧ (a5_3.length = i6_3) ∧ (∀ j, j < i6_3 → a5_3.getD j 0 = n.av (⟨10, op, out, args, num, mem⟩ : Cell) j)) (fun (i6_3 : Nat) (a5_3 : List Int) => (((args.length : Nat) : Int) - (i6_3 : Int)).toNat) 0 ([] : List Int) (⟨by first | omega | (simp [-List.getD_eq_getElem?_getD]; done) | (simp [-List.getD_eq_getElem?_getD]; omega), rfl, fun j hj => by omega⟩) (Le.mk (.c (.c (.cons (look_slc rfl (by first | omega | simp [-List.getD_eq_getElem?_getD] <;> omega)) (.cons (look_int rfl (by first | rfl | omega)) (.nil))))) (.c (.c (.c (.nil))))) (fun i6_3 a5_3 hI3 => ?_)
 obtain ⟨hb3, hal, ha⟩ := hI3
 refine AWp.seq (AWp.sr ?_)
 refine .mv ?_
 refine .fa fl39_3 ?_
 refine .ld sh22 ?_
 refine .vl (Y.len (n := args.length) sl22 rfl (congrArg some (List.length_map ..))) (.vl (Y.lss rfl rfl) (AOps.nil ?_))
 refine AWp.condD rfl (fun c13 => ?_) (fun c13 => ?_)
 refine AWp.skip (AWp.seq (AWp.block ?_))
 have hwa := hw.arg (k := i6_3) (by show _ < args.length; omega)
 simp only at hwa
 refine AWp.regionAny rfl (AAny.blind 0 rfl (by kernel_rfl) (Blind.move rfl rfl) (by decide) (AAny.quietN (n := 3) [1, 2, 3, 4, 5, 6, 7, 8, 9] [10, 11, 12] 10 rfl (by kernel_rfl) ?_))
 refine .cn 1 rfl (Y.fieldAddr fl27_1 rfl rfl) (.cn 2 rfl (Y.load sh22 rfl rfl rfl rfl) (.cn 3 rfl (Y.fieldAddr fl39_3 rfl rfl) ?_))
 refine .cn 4 rfl (Y.load sh22 rfl rfl rfl rfl) (.cn 5 rfl (Y.move rfl rfl) ?_)
 refine .cn 6 rfl (Y.indexF (m := i6_3) sl22 rfl rfl (by first | rfl | omega) (row_getD (d := 0) (by omega))) ?_
 refine .cn 7 rfl (Y.load sh3 rfl rfl rfl rfl) ?_
 refine .cn 8 rfl (Y.indexF (m := (args.getD i6_3 0).toNat) sl22 rfl rfl (by omega) (row_getD (d := 0) (by omega))) ?_
 refine .cn 9 rfl (Y.load sh3 rfl rfl rfl rfl) (AQ.nil (AAny.one 10 rfl (by kernel_rfl) ?_))
 refine AOps.buildSlice (([n.widths.getD ((args.getD i6_3 0).toNat) 0] : List Int).map irow) sl22 ze3 rfl rfl rfl rfl rfl (uniform_map (s := 1) (f := irow) (fun _ => rfl)) rfl rfl rfl (by decide) ?_
 refine AOps.nil ⟨rfl, ?_⟩
 refine AAny.one 11 rfl (by kernel_rfl) ?_
 refine AOps.appendE ((a5_3 ++ ([n.widths.getD ((args.getD i6_3 0).toNat) 0] : List Int)).map irow) (a5_3 ++ ([n.widths.getD ((args.getD i6_3 0).toNat) 0] : List Int)).length sl22 ze3 rfl rfl rfl rfl (app_le (by first | omega | simp [-List.getD_eq_getElem?_getD] <;> omega)) (app_map (by first | omega | simp [-List.getD_eq_getElem?_getD] <;> omega)) (app_n (by first | omega | simp [-List.getD_eq_getElem?_getD] <;> omega)) (by first | omega | simp [-List.getD_eq_getElem?_getD] <;> omega) (by first | omega | simp [-List.getD_eq_getElem?_getD] <;> omega) (by decide) (by decide) ?_
 refine AOps.nil ⟨rfl, ?_⟩
 refine AAny.quietN (n := 0) [12] [] 0 rfl (by kernel_rfl) (.cn 12 rfl (Y.assign rfl rfl) (AQ.nil ?_))
 refine AAny.done (by kernel_rfl) (AWp.region ?_)
 refine .mv ?_
 refine .vl (Y.addI rfl rfl (by omega)) ?_
 refine .an ?_
 refine AOps.nil ?_
 exact ⟨i6_3 + 1, a5_3 ++ ([n.widths.getD ((args.getD i6_3 0).toNat) 0] : List Int), ⟨by omega, by rw [List.length_append, hal]; rfl, push_succ hal ha rfl⟩, by omega, Le.mk (.c (.c (.cons (look_slc rfl (by omega)) (.cons (look_int rfl (by first | rfl | omega)) (.nil))))) (.c (.c (.c (.nil))))⟩
 refine AWp.exit (AWp.seq (AWp.seq ?_))
 have ha0 : 0 < args.length → a5_3.getD 0 0 = n.av (⟨10, op, out, args, num, mem⟩ : Cell) 0 := fun h => ha 0 (by omega)
 have ha1 : 1 < args.length → a5_3.getD 1 0 = n.av (⟨10, op, out, args, num, mem⟩ : Cell) 1 := fun h => ha 1 (by omega)
 have ha2 : 2 < args.length → a5_3.getD 2 0 = n.av (⟨10, op, out, args, num, mem⟩ : Cell) 2 := fun h => ha 2 (by omega)
 refine AWp.region ?_
 refine .fa fl39_0 ?_
 refine .ld sh3 ?_
 refine .vl (Y.eql rfl rfl) (AOps.nil (AWp.condF rfl ?_))
 refine AWp.skip (AWp.sr ?_)
 refine .fa fl27_1 ?_
 refine .ld sh22 ?_
 refine .fa fl39_2 ?_
 refine .ld sh3 ?_
 refine .vl (Y.indexF (m := (out).toNat) sl22 rfl rfl (by omega) (row_getD (d := 0) (by omega))) ?_
 refine .ld sh3 ?_
 refine .an ?_
 refine AOps.nil (AWp.seq (AWp.sr ?_))
 refine .fa fl39_0 ?_
 refine .ld sh3 ?_
 refine AOps.nil (AWp.block (AWp.sr ?_))
 refine .vl (Y.eql rfl rfl) ?_
 refine .an ?_
 refine AOps.nil (AWp.condF rfl (AWp.seq ?_))
 refine AWp.sr (.vl (Y.eql rfl rfl) ?_)
 refine .an ?_
 refine AOps.nil (AWp.condF rfl (AWp.region ?_))
 refine .vl (Y.eql rfl rfl) ?_
 refine .an ?_
 refine AOps.nil (AWp.condF rfl (AWp.sr ?_))
 refine .vl (Y.eql rfl rfl) ?_
 refine .an ?_
 refine AOps.nil (AWp.condF rfl (AWp.sr ?_))
 refine .vl (Y.eql rfl rfl) ?_
 refine .an ?_
 refine AOps.nil (AWp.condF rfl (AWp.sr ?_))
 refine .vl (Y.eql rfl rfl) ?_
 refine .an ?_
 refine AOps.nil (AWp.condF rfl (AWp.sr ?_))
 refine .vl (Y.eql rfl rfl) ?_
 refine .an ?_
 refine AOps.nil (AWp.condF rfl (AWp.sr ?_))
 refine .vl (Y.eql rfl rfl) ?_
 refine .an ?_
 refine AOps.nil (AWp.condF rfl (AWp.sr ?_))
 refine .vl (Y.eql rfl rfl) ?_
 refine .an ?_
 refine AOps.nil (AWp.condT rfl (AWp.sr ?_))
 refine .mv ?_
 refine .fa fl27_5 ?_
 refine .ld sh25 ?_
 refine .fa fl39_5 ?_
 refine .ld sh3 ?_
 refine .vl (Y.indexF (m := (mem).toNat) sl25 rfl rfl (by omega) (row_getD (d := default) (by omega))) ?_
 refine .fa fl83_1 ?_
 refine .ld sh3 ?_
 refine .vl (Y.eql rfl rfl) ?_
 refine .an ?_
 refine AOps.nil (AWp.ret ?_)
 exact .rb rfl (dd (by simp only [Fits, OpFits, Cmp, fit_iff, how, Int.reduceEq, Bool.not_eq_true, false_and, true_and, and_true, and_false, or_false, false_or, ne_eq] <;> (first | omega | grind)))
end Go.Proofs.Ytligpghohcfpnaa
/- Combinational cycles, by what is known, in plain Lean. -/
namespace Go.Proofs.Ytligpghohcfpnaa
open Go Go.AW

def KN0 (n : Netlist) (k : Nat) (kn : List Bool) : Prop := ∀ w : Int, In w n.widths.length → (kn.getD w.toNat false = true ↔ ∃ j, Drives n j w ∧ j < k ∧ ¬ Comb (n.cell j).kind)
theorem KN0.init (n : Netlist) : KN0 n 0 (List.replicate n.widths.length false) := by
 intro w hw
 unfold In at hw
 rw [List.getD_eq_getElem?_getD, List.getElem?_replicate, if_pos (by omega)]
 exact ⟨fun h => (by cases h), fun ⟨j, h1, h2, _⟩ => (by have := h1.1; omega)⟩
theorem KN0.skip {n : Netlist} {k : Nat} {l : List Bool} (h : KN0 n k l) (hc : Comb (n.cells.getD k default).kind ∨ (n.cells.getD k default).kind = 7) : KN0 n (k + 1) l := by
 intro w hw
 rw [h w hw]
 constructor
 ·rintro ⟨j, h1, h2, h3⟩; exact ⟨j, h1, by omega, h3⟩
 ·rintro ⟨j, h1, h2, h3⟩
  refine ⟨j, h1, ?_, h3⟩
  rcases Int.lt_or_eq_of_le (show j ≤ k by omega) with h' | h'
  ·exact h'
  ·subst h'
   rcases hc with hc | hc
   ·exact absurd hc h3
   ·exact absurd hc h1.2.1
theorem KN0.step {n : Netlist} {k : Nat} {l : List Bool} (h : KN0 n k l) (hk : k < n.cells.length) (hl : l.length = n.widths.length) (hc : ¬ Comb (n.cells.getD k default).kind) (h7 : (n.cells.getD k default).kind ≠ 7) (ho : In (n.cells.getD k default).out n.widths.length) :
  KN0 n (k + 1) (l.set (n.cells.getD k default).out.toNat true) := by
 intro w hw
 unfold In at ho
 have hw' := hw
 unfold In at hw'
 rw [getD_set]
 by_cases e : (n.cells.getD k default).out = w
 ·rw [if_pos ⟨by omega, by omega⟩]
  exact ⟨fun _ => ⟨(k : Int), ⟨⟨by omega, by omega⟩, h7, e⟩, by omega, hc⟩, fun _ => rfl⟩
 ·rw [if_neg (by omega), h w hw]
  constructor
  ·rintro ⟨j, h1, h2, h3⟩; exact ⟨j, h1, by omega, h3⟩
  ·rintro ⟨j, h1, h2, h3⟩
   refine ⟨j, h1, ?_, h3⟩
   rcases Int.lt_or_eq_of_le (show j ≤ k by omega) with h' | h'
   ·exact h'
   ·subst h'; exact absurd h1.2.2 e
structure LD (n : Netlist) (done : List Int) (kn : List Bool) (left : Int) : Prop where
 nd : done.Nodup
 cm : ∀ x ∈ done, CombAt n x
 kn : ∀ w, In w n.widths.length → (kn.getD w.toNat false = true ↔ ¬ Open n done w)
 left : left = (n.cells.length : Int) - ((seqL n n.cells.length).length : Int) - (done.length : Int)
 topo : ∀ p i s, done = p ++ i :: s → need n p i = 0
section
variable {n : Netlist} (hf : Formed n)
include hf
theorem LD.init {kn : List Bool} (h : KN0 n n.cells.length kn) : LD n [] kn ((n.cells.length : Int) - ((seqL n n.cells.length).length : Int)) where
 nd := List.nodup_nil
 cm := fun _ h => (by cases h)
 kn := fun w hw => by
  rw [h w hw]
  constructor
  ·rintro ⟨j, h1, h2, h3⟩ ⟨⟨i, hi, e⟩, _⟩
   have := hf.unique h1 (e ▸ hi.drives)
   subst this; exact h3 hi.2
  ·intro ho
   obtain ⟨j, hj⟩ := hf.driver hw
   refine ⟨j, hj, by have := hj.1; omega, fun hc => ho ⟨⟨j, ⟨hj.1, hc⟩, hj.2.2⟩, fun _ h => (by cases h)⟩⟩
 left := by simp
 topo := fun p i s h => by simp at h
theorem LD.step {done : List Int} {kn : List Bool} {left i : Int} (h : LD n done kn left) (hl : kn.length = n.widths.length) (hi : CombAt n i) (hk : kn.getD (n.cell i).out.toNat false = false) (hz : need n done i = 0) :
  LD n (done ++ [i]) (kn.set (n.cell i).out.toNat true) (left - 1) := by
 have hio := hf.outIn hi.drives
 have hop : Open n done (n.cell i).out := Classical.byContradiction fun hh => by
  have := (h.kn _ hio).2 hh
  rw [hk] at this; cases this
 have hni : i ∉ done := fun hm => hop.2 i hm rfl
 refine ⟨?_, fun x hx => ?_, fun w hw => ?_, ?_, fun p j s e => ?_⟩
 ·rw [List.nodup_append]
  exact ⟨h.nd, by simp, fun a ha b hb e => hni (by rw [← List.mem_singleton.1 hb, ← e]; exact ha)⟩
 ·rcases List.mem_append.1 hx with hx | hx
  ·exact h.cm x hx
  ·rw [List.mem_singleton.1 hx]; exact hi
 ·unfold In at hio
  have hw' := hw
  unfold In at hw'
  have ho : Open n (done ++ [i]) w ↔ Open n done w ∧ (n.cell i).out ≠ w := by
   constructor
   ·rintro ⟨a, b⟩
    exact ⟨⟨a, fun j hj => b j (by simp [hj])⟩, b i (by simp)⟩
   ·rintro ⟨⟨a, b⟩, c⟩
    refine ⟨a, fun j hj => ?_⟩
    rcases List.mem_append.1 hj with hj | hj
    ·exact b j hj
    ·rw [List.mem_singleton.1 hj]; exact c
  rw [getD_set, ho]
  by_cases e : (n.cell i).out = w
  ·rw [if_pos ⟨by omega, by omega⟩]
   exact ⟨fun _ h => h.2 e, fun _ => rfl⟩
  ·rw [if_neg (by omega), h.kn w hw]
   exact ⟨fun h1 h2 => h1 h2.1, fun h1 h2 => h1 ⟨h2, e⟩⟩
 ·rw [h.left, List.length_append]; simp; omega
 ·rcases List.eq_nil_or_concat s with rfl | ⟨s', x, rfl⟩
  ·obtain ⟨rfl, e3⟩ := List.append_inj' (t₁ := [i]) (t₂ := [j]) e rfl
   cases e3
   exact hz
  ·have e2 := List.append_inj' (s₁ := done) (s₂ := p ++ j :: s') (t₁ := [i]) (t₂ := [x]) (by rw [e]; simp) rfl
   exact h.topo p j s' e2.1
theorem LD.known {done : List Int} {kn : List Bool} {left : Int} (h : LD n done kn left) {i : Int} (hi : 0 ≤ i ∧ i < n.cells.length) : (∀ x ∈ (n.cell i).args, kn.getD x.toNat false = true) ↔ need n done i = 0 := by
 unfold need
 rw [List.countP_eq_zero]
 constructor
 ·intro hh x hx ho
  exact (h.kn x (hf.argIn hi hx)).1 (hh x hx) (of_decide_eq_true ho)
 ·intro hh x hx
  exact (h.kn x (hf.argIn hi hx)).2 (fun ho => hh x hx (decide_eq_true ho))
def Stuck (n : Netlist) (k : Int) (done : List Int) : Prop := ∀ i, CombAt n i → i < k → Open n done (n.cell i).out → need n done i ≠ 0
theorem LD.ki {done : List Int} {kn : List Bool} {left : Int} (h : LD n done kn left) (hs : Stuck n n.cells.length done) : KI n done [] ((List.range n.cells.length).map (fun (i : Nat) => (need n done (i : Int) : Int))) where
 nd := by simpa using h.nd
 cm := fun x hx => h.cm x (by simpa using hx)
 hrem := fun i hi => by
  have hb := hi.1
  rw [List.getD_eq_getElem?_getD, List.getElem?_map, List.getElem?_range (by omega)]
  simp only [Option.map_some, Option.getD_some]
  rw [show ((i.toNat : Nat) : Int) = i by omega]
 full := fun i hi => by
  rw [List.append_nil]
  constructor
  ·intro hm
   obtain ⟨p, s, e⟩ := List.append_of_mem hm
   have := h.topo p i s e
   rw [need_zero] at this ⊢
   intro x hx hc
   obtain ⟨j, hj, e2⟩ := this x hx hc
   exact ⟨j, by rw [e]; simp [hj], e2⟩
  ·intro hz
   refine Classical.byContradiction fun hn => hs i hi hi.1.2 ⟨⟨i, hi, rfl⟩, fun j hj e => hn ?_⟩ hz
   have := hf.unique (h.cm j hj).drives (e ▸ hi.drives)
   exact this ▸ hj
 topo := h.topo
theorem LD.res {done : List Int} {kn : List Bool} {left : Int} (h : LD n done kn left) (hs : Stuck n n.cells.length done) : 0 < left ↔ ¬ Acyclic n := by
 have hk := h.ki hf hs
 have hl := h.left
 constructor
 ·intro h0
  exact hk.cycle (by rw [List.length_append]; omega)
 ·intro ha
  refine Classical.byContradiction fun h0 => ha (hk.ok hf (by rw [List.length_append]; omega)).1
end
theorem LD.pos {n : Netlist} {done : List Int} {kn : List Bool} {left : Int} (h : LD n done kn left) : 0 ≤ left ∧ left ≤ n.cells.length := by
 have hnd : (seqL n n.cells.length ++ done).Nodup := by
  rw [List.nodup_append]
  refine ⟨seqL_nodup _ _, h.nd, fun a ha b hb e => ?_⟩
  subst e
  exact (mem_seqL.1 ha).2 (h.cm a hb).2
 have := length_le_of_subset (m := (List.range n.cells.length).map (fun (i : Nat) => (i : Int))) hnd (fun x hx => by
  have hx' : 0 ≤ x ∧ x < n.cells.length := by
   rcases List.mem_append.1 hx with hx | hx
   ·exact (mem_seqL.1 hx).1
   ·exact (h.cm x hx).1
  exact List.mem_map.2 ⟨x.toNat, List.mem_range.2 (by omega), by omega⟩)
 rw [List.length_append, List.length_map, List.length_range] at this
 have hl := h.left
 omega
def Rnd (n : Netlist) (k left0 : Int) (kn : List Bool) (left : Int) (more : Bool) : Prop := ∃ done, LD n done kn left ∧ left ≤ left0 ∧ (more = true → left < left0) ∧ (more = false → Stuck n k done)
theorem Rnd.seq {n : Netlist} {k : Nat} {left0 left : Int} {kn : List Bool} {more : Bool} (h : Rnd n k left0 kn left more) (hc : ¬ Comb (n.cells.getD k default).kind) : Rnd n ((k + 1 : Nat) : Int) left0 kn left more := by
 obtain ⟨done, h1, h2, h3, h4⟩ := h
 refine ⟨done, h1, h2, h3, fun hm i hi h0 => h4 hm i hi (lt_succ_of hc hi h0)⟩
section
variable {n : Netlist} (hf : Formed n) {k : Nat} {left0 left : Int} {kn : List Bool} {more : Bool}
include hf
theorem Rnd.skip (h : Rnd n k left0 kn left more) (hk : k < n.cells.length) (hc : kn.getD (n.cells.getD k default).out.toNat false = true ∨ ¬ ∀ x ∈ (n.cells.getD k default).args, kn.getD x.toNat false = true) (hcm : Comb (n.cells.getD k default).kind) : Rnd n ((k + 1 : Nat) : Int) left0 kn left more := by
 obtain ⟨done, h1, h2, h3, h4⟩ := h
 have hi : CombAt n (k : Int) := ⟨⟨by omega, by omega⟩, hcm⟩
 refine ⟨done, h1, h2, h3, fun hm i hii h0 => ?_⟩
 by_cases e : i = k
 ·subst e
  intro ho hz
  rcases hc with hc | hc
  ·exact (h1.kn _ (hf.outIn hi.drives)).1 hc ho
  ·exact hc ((h1.known hf hi.1).2 hz)
 ·exact h4 hm i hii (by omega)
theorem Rnd.step (h : Rnd n k left0 kn left more) (hk : k < n.cells.length) (hl : kn.length = n.widths.length) (h1 : kn.getD (n.cells.getD k default).out.toNat false = false) (h2 : ∀ x ∈ (n.cells.getD k default).args, kn.getD x.toNat false = true) (hcm : Comb (n.cells.getD k default).kind) :
  Rnd n ((k + 1 : Nat) : Int) left0 (kn.set (n.cells.getD k default).out.toNat true) (left - 1) true := by
 obtain ⟨done, a1, a2, a3, a4⟩ := h
 have hi : CombAt n (k : Int) := ⟨⟨by omega, by omega⟩, hcm⟩
 refine ⟨done ++ [(k : Int)], a1.step hf hl hi h1 ((a1.known hf hi.1).1 h2), by omega, fun _ => by omega, fun h => (by cases h)⟩
end
theorem KN0.next {n : Netlist} (hf : Formed n) {k : Nat} {kn : List Bool} (h : KN0 n k kn) (hk : k < n.cells.length) (hl : kn.length = n.widths.length) :
  (¬ Comb (n.cells.getD k default).kind → 0 ≤ (n.cells.getD k default).out → KN0 n (k + 1) (kn.set (n.cells.getD k default).out.toNat true)) ∧ (Comb (n.cells.getD k default).kind → KN0 n (k + 1) kn ∧ 0 ≤ (n.cells.getD k default).out) ∧
  (¬ 0 ≤ (n.cells.getD k default).out → KN0 n (k + 1) kn) ∧ (0 ≤ (n.cells.getD k default).out → (n.cells.getD k default).out < n.widths.length) := by
 obtain ⟨_, _, a3, a4⟩ := hf.cells k hk
 refine ⟨fun hc ho => ?_, fun hc => ⟨h.skip (.inl hc), ?_⟩, fun ho => ?_, fun ho => ?_⟩
 ·have h7 : (n.cells.getD k default).kind ≠ 7 := fun h7 => by have := a3 h7; omega
  exact h.step hk hl hc h7 (a4 h7)
 ·have h7 : (n.cells.getD k default).kind ≠ 7 := fun h7 => by rw [h7] at hc; revert hc; unfold Comb; omega
  exact (a4 h7).1
 ·have h7 : (n.cells.getD k default).kind = 7 := Classical.byContradiction fun h7 => ho (a4 h7).1
  exact h.skip (.inr h7)
 ·have h7 : (n.cells.getD k default).kind ≠ 7 := fun h7 => by have := a3 h7; omega
  exact (a4 h7).2
theorem seqL_lens (n : Netlist) (k : Nat) : (Comb (n.cells.getD k default).kind → (seqL n (k + 1)).length = (seqL n k).length) ∧ (¬ Comb (n.cells.getD k default).kind → (seqL n (k + 1)).length = (seqL n k).length + 1) := by
 rw [seqL_succ]
 exact ⟨fun h => by rw [if_pos h, List.append_nil], fun h => by rw [if_neg h, List.length_append]; rfl⟩
theorem Rnd.mu {n : Netlist} (hf : Formed n) {k left0 left : Int} {kn : List Bool} {more more0 : Bool} (h : Rnd n k left0 kn left more) (hm : more0 = true) : 2 * left.toNat + more.toNat < 2 * left0.toNat + more0.toNat := by
 obtain ⟨done, b1, b2, b3, b4⟩ := h
 have hp := b1.pos
 subst hm
 cases more
 ·simp only [Bool.toNat_false, Bool.toNat_true]; omega
 ·have := b3 rfl
  simp only [Bool.toNat_true]; omega
theorem Rnd.bd {n : Netlist} (hf : Formed n) {k left0 left : Int} {kn : List Bool} {more : Bool} (h : Rnd n k left0 kn left more) : 0 ≤ left ∧ left ≤ n.cells.length := by
 obtain ⟨done, b1, b2, b3, b4⟩ := h
 exact b1.pos
end Go.Proofs.Ytligpghohcfpnaa
/- The empty netlist. -/
namespace Go.Proofs.Ytligpghohcfpnaa
open Go Go.AW
def emptyN : Netlist := ⟨ByteArray.empty, [], [], [], [], [], [], [], 0, 0, []⟩
theorem emptyN_small : emptyN.Small := ⟨by decide, by decide, by decide, fun _ h => (by cases h), by decide, fun _ h => (by cases h), fun _ h => (by cases h), fun _ h => (by cases h), by decide, by decide, by decide, by decide, by decide, by decide⟩
theorem emptyN_err : errOf emptyN = 3 := by
 unfold errOf
 rw [if_neg]
 intro h
 have := h.freeze
 unfold In emptyN at this
 simp at this
end Go.Proofs.Ytligpghohcfpnaa
/- The widths of the specification, whatever the kind. -/
namespace Go.Proofs.Ytligpghohcfpnaa
open Go Go.AW Go.Proofs
theorem refFits_spec {n : Netlist} {c : Cell} (hs : n.Small) (hc : c.args.length ≤ 17592186043904) (hn : c.num < 18446744073709551616) (hsh : Shaped n c) (hw : Wired n c) : ACalls Try.prog 89 [.agg (Netlist.row n), .agg (Cell.row c)] [] [] (fun r o => r = .v (.bool (decide (Fits n c))) ∧ o = []) := by
 have h := hsh.kind
 obtain ⟨k, op, out, args, num, mem⟩ := c
 have : k = 1 ∨ k = 2 ∨ k = 3 ∨ k = 4 ∨ k = 5 ∨ k = 6 ∨ k = 7 ∨ k = 8 ∨ k = 9 ∨ k = 10 := by simp only at h; omega
 rcases this with rfl | rfl | rfl | rfl | rfl | rfl | rfl | rfl | rfl | rfl
 ·exact refFits_k1 hs hc hn hsh hw
 ·exact refFits_k2 hs hc hn hsh hw
 ·exact refFits_k3 hs hc hn hsh hw
 ·exact refFits_k4 hs hc hn hsh hw
 ·exact refFits_k5 hs hc hn hsh hw
 ·exact refFits_k6 hs hc hn hsh hw
 ·exact refFits_k7 hs hc hn hsh hw
 ·exact refFits_k8 hs hc hn hsh hw
 ·exact refFits_k9 hs hc hn hsh hw
 ·exact refFits_k10 hs hc hn hsh hw
end Go.Proofs.Ytligpghohcfpnaa
/- Walk through shaped. -/
namespace Go.Proofs.Ytligpghohcfpnaa
open Go Go.AW Go.Proofs
theorem shaped_spec {n : Netlist} {c : Cell} (hs : n.Small) (hc : c.args.length ≤ 17592186043904) : ACalls Try.prog 98 [.agg (Netlist.row n), .agg (Cell.row c)] [] [] (fun r o => r = .v (.bool (decide (Shaped n c))) ∧ o = []) := by
 refine ACalls.of Try.func98 rfl rfl rfl (n := 132) (by decide) (Nat.le_of_ble_eq_true rfl) ?_
 have hs4 := hs.ins; have hs5 := hs.mems; have hs6 := hs.streams
 refine AWp.sr (AOps.box 102 rfl rfl rfl rfl rfl (by decide) (AOps.box 103 rfl rfl rfl rfl rfl (by decide) ?_))
 refine .an ?_
 refine AOps.nil (AWp.sr ?_)
 refine .an ?_
 refine .an ?_
 refine .an ?_
 refine .an ?_
 refine AOps.nil (AWp.seq (AWp.sr ?_))
 refine .fa fl39_0 ?_
 refine .ld sh3 ?_
 refine AOps.nil (AWp.block (AWp.sr ?_))
 refine .vl (Y.eql rfl rfl) ?_
 refine .an ?_
 refine AOps.nil ?_
 refine AWp.condD rfl (fun c11 => ?_) (fun c11 => ?_)
 refine AWp.region ?_
 refine .an ?_
 refine AOps.nil ?_
 refine AWp.join0 (⟨[(2, .ptr 102 0 0 0), (3, .ptr 103 0 0 0), (8, vi (-1))], [(102, .cells (Netlist.row n)), (103, .cells (Cell.row c))]⟩) (((¬ (((c.args.length : Nat) : Int) ≠ 0)) ∧ (¬ (c.op ≠ 0)) ∧ (((c.num : Nat) : Int) ≠ 0)) ∨ ((¬ (((c.args.length : Nat) : Int) ≠ 0)) ∧ (¬ (c.op ≠ 0)) ∧ (¬ (((c.num : Nat) : Int) ≠ 0)))) ?_ (fun hJ33 => ?_)
 refine AWp.sr ?_
 refine .fa fl39_3 ?_
 refine .ld sh22 ?_
 refine .vl (Y.len (n := c.args.length) sl22 rfl (congrArg some (List.length_map ..))) ?_
 refine .mv ?_
 refine .vl (Y.neq rfl rfl) ?_
 refine .mv ?_
 refine AOps.splitD (d := 88) rfl (fun c88 => ?_) (fun c88 => ?_)
 refine .gz 88 (.gz 88 (.gz 88 ?_))
 refine .gz 88 ?_
 refine .pk ?_
 refine .mv ?_
 refine .gz 94 (.gz 94 (.gz 94 ?_))
 refine .gz 94 (.gz 98 (.gz 98 ?_))
 refine .gz 94 ?_
 refine .pk ?_
 refine AOps.nil (AWp.condT rfl (AWp.sr ?_))
 refine .an ?_
 refine AOps.nil (AWp.ret ?_)
 exact .rb rfl (df (by (simp only [Shaped, c11, Int.reduceEq, Bool.not_eq_true, false_and, true_and, and_true, and_false, or_false, false_or, ne_eq]) <;> (first | omega | grind)))
 refine .gw 88 (Y.fieldAddr fl39_1 rfl rfl) (.gw 88 (Y.load sh3 rfl rfl rfl rfl) (.gw 88 (Y.move rfl rfl) ?_))
 refine .gw 88 (Y.neq rfl rfl) ?_
 refine .pk ?_
 refine .mv ?_
 refine AOps.splitD (d := 94) rfl (fun c94 => ?_) (fun c94 => ?_)
 refine .gz 94 (.gz 94 (.gz 94 ?_))
 refine .gz 94 (.gz 98 (.gz 98 ?_))
 refine .gz 94 ?_
 refine .pk ?_
 refine AOps.nil (AWp.condT rfl (AWp.sr ?_))
 refine .an ?_
 refine AOps.nil (AWp.ret ?_)
 exact .rb rfl (df (by (simp only [Shaped, c11, Int.reduceEq, Bool.not_eq_true, false_and, true_and, and_true, and_false, or_false, false_or, ne_eq]) <;> (first | omega | grind)))
 refine .gw 94 (Y.fieldAddr fl39_4 rfl rfl) (.gw 94 (Y.load sh37 rfl rfl rfl rfl) (.gw 94 (Y.neq rfl rfl) ?_))
 refine .gw 94 (Y.move rfl rfl) ?_
 refine AOps.splitD (d := 98) rfl (fun c98 => ?_) (fun c98 => ?_)
 refine .gw 98 (Y.move rfl rfl) (.gw 98 (Y.not rfl) (.gw 94 (Y.pick rfl rfl rfl) ?_))
 refine .pk ?_
 refine AOps.nil (AWp.condF rfl (AWp.skip ?_))
 exact ⟨.inl ⟨c88, c94, c98⟩, Le.mk (.c (.c (.c (.nil)))) (.c (.c (.nil)))⟩
 refine .gz 98 (.gz 98 (.gw 94 (Y.pick rfl rfl rfl) ?_))
 refine .pk ?_
 refine AOps.nil (AWp.condF rfl (AWp.skip ?_))
 exact ⟨.inr (⟨c88, c94, c98⟩), Le.mk (.c (.c (.c (.nil)))) (.c (.c (.nil)))⟩
 refine AWp.seq (AWp.sr ?_)
 refine .mv ?_
 refine .vl (Y.lss rfl rfl) (AOps.nil (AWp.condT rfl ?_))
 refine AWp.sr ?_
 refine .fa fl39_5 ?_
 refine .ld sh3 ?_
 refine .vl (Y.eql rfl rfl) ?_
 refine .an ?_
 refine AOps.nil (AWp.ret ?_)
 exact .rb rfl (dd (by (simp only [Shaped, c11, Int.reduceEq, Bool.not_eq_true, false_and, true_and, and_true, and_false, or_false, false_or, ne_eq]) <;> (first | omega | grind)))
 refine AWp.sr (.vl (Y.eql rfl rfl) ?_)
 refine .an ?_
 refine AOps.nil ?_
 refine AWp.condD rfl (fun c13 => ?_) (fun c13 => ?_)
 refine AWp.seq (AWp.regionAny rfl (AAny.blind 0 rfl (by kernel_rfl) (Blind.fieldAddr fl39_1 rfl rfl) (by decide) ?_))
 refine AAny.blind 3 rfl (by kernel_rfl) (Blind.fieldAddr fl39_1 rfl rfl) (by decide) ?_
 refine AAny.two 1 4 rfl rfl (by kernel_rfl) ?_ ?_
 refine .ld sh3 ?_
 refine AOps.nil ⟨rfl, ?_⟩
 refine AAny.two 2 4 rfl rfl (by kernel_rfl) ?_ ?_
 refine AOps.callP ok124 (operands_spec (op := c.op)) rfl (.keep rfl rfl .nil) (by decide) rfl ?_
 refine AOps.nil ⟨rfl, ?_⟩
 refine AAny.quietN (n := 0) [4, 5, 6] [] 0 rfl (by kernel_rfl) (.cn 4 rfl (Y.load sh3 rfl rfl rfl rfl) (.cn 5 rfl (Y.assign rfl rfl) ?_))
 refine .cn 6 rfl (Y.assign rfl rfl) (AQ.nil (AAny.done (by kernel_rfl) ?_))
 refine AWp.sr ?_
 refine .mv ?_
 refine .vl (Y.eql rfl rfl) (AOps.nil ?_)
 refine AWp.condD rfl (fun c21 => ?_) (fun c21 => ?_)
 refine AWp.sr ?_
 refine .an ?_
 refine AOps.nil (AWp.ret ?_)
 exact .rb rfl (df (by (simp only [Shaped, c13, Int.reduceEq, Bool.not_eq_true, false_and, true_and, and_true, and_false, or_false, false_or, ne_eq]) <;> (first | omega | grind)))
 refine AWp.skip (AWp.seq (AWp.sr ?_))
 refine .fa fl39_3 ?_
 refine .ld sh22 ?_
 refine .vl (Y.len (n := c.args.length) sl22 rfl (congrArg some (List.length_map ..))) ?_
 refine .mv ?_
 refine .vl (Y.neq rfl rfl) ?_
 refine .mv ?_
 refine AOps.splitD (d := 88) rfl (fun c88 => ?_) (fun c88 => ?_)
 refine .gz 88 (.gz 88 (.gz 88 ?_))
 refine .gz 88 ?_
 refine .pk ?_
 refine .mv ?_
 refine .gz 94 (.gz 94 (.gz 94 ?_))
 refine .gz 94 (.gz 98 (.gz 98 ?_))
 refine .gz 94 ?_
 refine .pk ?_
 refine AOps.nil (AWp.condT rfl (AWp.sr ?_))
 refine .an ?_
 refine AOps.nil (AWp.ret ?_)
 exact .rb rfl (df (by (simp only [Shaped, c13, Int.reduceEq, Bool.not_eq_true, false_and, true_and, and_true, and_false, or_false, false_or, ne_eq]) <;> (first | omega | grind)))
 refine .gw 88 (Y.fieldAddr fl39_1 rfl rfl) (.gw 88 (Y.load sh3 rfl rfl rfl rfl) (.gw 88 (Y.move rfl rfl) ?_))
 refine .gw 88 (Y.neq rfl rfl) ?_
 refine .pk ?_
 refine .mv ?_
 refine AOps.splitD (d := 94) rfl (fun c94 => ?_) (fun c94 => ?_)
 refine .gz 94 (.gz 94 (.gz 94 ?_))
 refine .gz 94 (.gz 98 (.gz 98 ?_))
 refine .gz 94 ?_
 refine .pk ?_
 refine AOps.nil (AWp.condT rfl (AWp.sr ?_))
 refine .an ?_
 refine AOps.nil (AWp.ret ?_)
 exact .rb rfl (df (by (simp only [Shaped, c13, Int.reduceEq, Bool.not_eq_true, false_and, true_and, and_true, and_false, or_false, false_or, ne_eq]) <;> (first | omega | grind)))
 refine .gw 94 (Y.fieldAddr fl39_4 rfl rfl) (.gw 94 (Y.load sh37 rfl rfl rfl rfl) (.gw 94 (Y.neq rfl rfl) ?_))
 refine .gw 94 (Y.move rfl rfl) ?_
 refine AOps.splitD (d := 98) rfl (fun c98 => ?_) (fun c98 => ?_)
 refine .gw 98 (Y.move rfl rfl) (.gw 98 (Y.not rfl) (.gw 94 (Y.pick rfl rfl rfl) ?_))
 refine .pk ?_
 refine AOps.nil (AWp.condT rfl (AWp.sr ?_))
 refine .an ?_
 refine AOps.nil (AWp.ret ?_)
 exact .rb rfl (df (by (simp only [Shaped, c13, Int.reduceEq, Bool.not_eq_true, false_and, true_and, and_true, and_false, or_false, false_or, ne_eq]) <;> (first | omega | grind)))
 refine .gz 98 (.gz 98 (.gw 94 (Y.pick rfl rfl rfl) ?_))
 refine .pk ?_
 refine AOps.nil (AWp.condF rfl (AWp.skip ?_))
 refine AWp.seq (AWp.sr ?_)
 refine .mv ?_
 refine .vl (Y.lss rfl rfl) (AOps.nil (AWp.condT rfl ?_))
 refine AWp.sr ?_
 refine .fa fl39_5 ?_
 refine .ld sh3 ?_
 refine .vl (Y.eql rfl rfl) ?_
 refine .an ?_
 refine AOps.nil (AWp.ret ?_)
 exact .rb rfl (dd (by (simp only [Shaped, c13, Int.reduceEq, Bool.not_eq_true, false_and, true_and, and_true, and_false, or_false, false_or, ne_eq]) <;> (first | omega | grind)))
 refine .ld sh3 ?_
 refine AOps.nil ⟨rfl, ?_⟩
 refine AAny.one 2 rfl (by kernel_rfl) (AOps.callP ok124 (operands_spec (op := c.op)) rfl (.keep rfl rfl .nil) (by decide) rfl ?_)
 refine AOps.nil ⟨rfl, ?_⟩
 refine AAny.quietN (n := 0) [5, 6] [] 0 rfl (by kernel_rfl) (.cn 5 rfl (Y.assign rfl rfl) (.cn 6 rfl (Y.assign rfl rfl) ?_))
 refine AQ.nil (AAny.done (by kernel_rfl) (AWp.sr ?_))
 refine .mv ?_
 refine .vl (Y.eql rfl rfl) (AOps.nil ?_)
 refine AWp.condD rfl (fun c21 => ?_) (fun c21 => ?_)
 refine AWp.sr ?_
 refine .an ?_
 refine AOps.nil (AWp.ret ?_)
 exact .rb rfl (df (by (simp only [Shaped, c13, Int.reduceEq, Bool.not_eq_true, false_and, true_and, and_true, and_false, or_false, false_or, ne_eq]) <;> (first | omega | grind)))
 refine AWp.skip (AWp.seq (AWp.sr ?_))
 refine .fa fl39_3 ?_
 refine .ld sh22 ?_
 refine .vl (Y.len (n := c.args.length) sl22 rfl (congrArg some (List.length_map ..))) ?_
 refine .mv ?_
 refine .vl (Y.neq rfl rfl) ?_
 refine .mv ?_
 refine AOps.splitD (d := 88) rfl (fun c88 => ?_) (fun c88 => ?_)
 refine .gz 88 (.gz 88 (.gz 88 ?_))
 refine .gz 88 ?_
 refine .pk ?_
 refine .mv ?_
 refine .gz 94 (.gz 94 (.gz 94 ?_))
 refine .gz 94 (.gz 98 (.gz 98 ?_))
 refine .gz 94 ?_
 refine .pk ?_
 refine AOps.nil (AWp.condT rfl (AWp.sr ?_))
 refine .an ?_
 refine AOps.nil (AWp.ret ?_)
 exact .rb rfl (df (by (simp only [Shaped, c13, Int.reduceEq, Bool.not_eq_true, false_and, true_and, and_true, and_false, or_false, false_or, ne_eq]) <;> (first | omega | grind)))
 refine .gw 88 (Y.fieldAddr fl39_1 rfl rfl) (.gw 88 (Y.load sh3 rfl rfl rfl rfl) (.gw 88 (Y.move rfl rfl) ?_))
 refine .gw 88 (Y.neq rfl rfl) ?_
 refine .pk ?_
 refine .mv ?_
 refine AOps.splitD (d := 94) rfl (fun c94 => ?_) (fun c94 => ?_)
 refine .gz 94 (.gz 94 (.gz 94 ?_))
 refine .gz 94 (.gz 98 (.gz 98 ?_))
 refine .gz 94 ?_
 refine .pk ?_
 refine AOps.nil (AWp.condT rfl (AWp.sr ?_))
 refine .an ?_
 refine AOps.nil (AWp.ret ?_)
 exact .rb rfl (df (by (simp only [Shaped, c13, Int.reduceEq, Bool.not_eq_true, false_and, true_and, and_true, and_false, or_false, false_or, ne_eq]) <;> (first | omega | grind)))
 refine .gw 94 (Y.fieldAddr fl39_4 rfl rfl) (.gw 94 (Y.load sh37 rfl rfl rfl rfl) (.gw 94 (Y.neq rfl rfl) ?_))
 refine .gw 94 (Y.move rfl rfl) ?_
 refine AOps.splitD (d := 98) rfl (fun c98 => ?_) (fun c98 => ?_)
 refine .gw 98 (Y.move rfl rfl) (.gw 98 (Y.not rfl) (.gw 94 (Y.pick rfl rfl rfl) ?_))
 refine .pk ?_
 refine AOps.nil (AWp.condT rfl (AWp.sr ?_))
 refine .an ?_
 refine AOps.nil (AWp.ret ?_)
 exact .rb rfl (df (by (simp only [Shaped, c13, Int.reduceEq, Bool.not_eq_true, false_and, true_and, and_true, and_false, or_false, false_or, ne_eq]) <;> (first | omega | grind)))
 refine .gz 98 (.gz 98 (.gw 94 (Y.pick rfl rfl rfl) ?_))
 refine .pk ?_
 refine AOps.nil (AWp.condF rfl (AWp.skip ?_))
 refine AWp.seq (AWp.sr ?_)
 refine .mv ?_
 refine .vl (Y.lss rfl rfl) (AOps.nil (AWp.condT rfl ?_))
 refine AWp.sr ?_
 refine .fa fl39_5 ?_
 refine .ld sh3 ?_
 refine .vl (Y.eql rfl rfl) ?_
 refine .an ?_
 refine AOps.nil (AWp.ret ?_)
 exact .rb rfl (dd (by (simp only [Shaped, c13, Int.reduceEq, Bool.not_eq_true, false_and, true_and, and_true, and_false, or_false, false_or, ne_eq]) <;> (first | omega | grind)))
 refine .ld sh3 ?_
 refine AOps.nil ⟨rfl, ?_⟩
 refine AAny.quietN (n := 3) [1] [2, 5, 6] 2 rfl (by kernel_rfl) (.cn 1 rfl (Y.load sh3 rfl rfl rfl rfl) (AQ.nil ?_))
 refine AAny.one 2 rfl (by kernel_rfl) (AOps.callP ok124 (operands_spec (op := c.op)) rfl (.keep rfl rfl .nil) (by decide) rfl ?_)
 refine AOps.nil ⟨rfl, ?_⟩
 refine AAny.quietN (n := 0) [5, 6] [] 0 rfl (by kernel_rfl) (.cn 5 rfl (Y.assign rfl rfl) (.cn 6 rfl (Y.assign rfl rfl) ?_))
 refine AQ.nil (AAny.done (by kernel_rfl) (AWp.sr ?_))
 refine .mv ?_
 refine .vl (Y.eql rfl rfl) (AOps.nil ?_)
 refine AWp.condD rfl (fun c21 => ?_) (fun c21 => ?_)
 refine AWp.sr ?_
 refine .an ?_
 refine AOps.nil (AWp.ret ?_)
 exact .rb rfl (df (by (simp only [Shaped, c13, Int.reduceEq, Bool.not_eq_true, false_and, true_and, and_true, and_false, or_false, false_or, ne_eq]) <;> (first | omega | grind)))
 refine AWp.skip (AWp.seq (AWp.sr ?_))
 refine .fa fl39_3 ?_
 refine .ld sh22 ?_
 refine .vl (Y.len (n := c.args.length) sl22 rfl (congrArg some (List.length_map ..))) ?_
 refine .mv ?_
 refine .vl (Y.neq rfl rfl) ?_
 refine .mv ?_
 refine AOps.splitD (d := 88) rfl (fun c88 => ?_) (fun c88 => ?_)
 refine .gz 88 (.gz 88 (.gz 88 ?_))
 refine .gz 88 ?_
 refine .pk ?_
 refine .mv ?_
 refine .gz 94 (.gz 94 (.gz 94 ?_))
 refine .gz 94 (.gz 98 (.gz 98 ?_))
 refine .gz 94 ?_
 refine .pk ?_
 refine AOps.nil (AWp.condT rfl (AWp.sr ?_))
 refine .an ?_
 refine AOps.nil (AWp.ret ?_)
 exact .rb rfl (df (by (simp only [Shaped, c13, Int.reduceEq, Bool.not_eq_true, false_and, true_and, and_true, and_false, or_false, false_or, ne_eq]) <;> (first | omega | grind)))
 refine .gw 88 (Y.fieldAddr fl39_1 rfl rfl) (.gw 88 (Y.load sh3 rfl rfl rfl rfl) (.gw 88 (Y.move rfl rfl) ?_))
 refine .gw 88 (Y.neq rfl rfl) ?_
 refine .pk ?_
 refine .mv ?_
 refine AOps.splitD (d := 94) rfl (fun c94 => ?_) (fun c94 => ?_)
 refine .gz 94 (.gz 94 (.gz 94 ?_))
 refine .gz 94 (.gz 98 (.gz 98 ?_))
 refine .gz 94 ?_
 refine .pk ?_
 refine AOps.nil (AWp.condT rfl (AWp.sr ?_))
 refine .an ?_
 refine AOps.nil (AWp.ret ?_)
 exact .rb rfl (df (by (simp only [Shaped, c13, Int.reduceEq, Bool.not_eq_true, false_and, true_and, and_true, and_false, or_false, false_or, ne_eq]) <;> (first | omega | grind)))
 refine .gw 94 (Y.fieldAddr fl39_4 rfl rfl) (.gw 94 (Y.load sh37 rfl rfl rfl rfl) (.gw 94 (Y.neq rfl rfl) ?_))
 refine .gw 94 (Y.move rfl rfl) ?_
 refine AOps.splitD (d := 98) rfl (fun c98 => ?_) (fun c98 => ?_)
 refine .gw 98 (Y.move rfl rfl) (.gw 98 (Y.not rfl) (.gw 94 (Y.pick rfl rfl rfl) ?_))
 refine .pk ?_
 refine AOps.nil (AWp.condT rfl (AWp.sr ?_))
 refine .an ?_
 refine AOps.nil (AWp.ret ?_)
 exact .rb rfl (df (by (simp only [Shaped, c13, Int.reduceEq, Bool.not_eq_true, false_and, true_and, and_true, and_false, or_false, false_or, ne_eq]) <;> (first | omega | grind)))
 refine .gz 98 (.gz 98 (.gw 94 (Y.pick rfl rfl rfl) ?_))
 refine .pk ?_
 refine AOps.nil (AWp.condF rfl (AWp.skip ?_))
 refine AWp.seq (AWp.sr ?_)
 refine .mv ?_
 refine .vl (Y.lss rfl rfl) (AOps.nil (AWp.condT rfl ?_))
 refine AWp.sr ?_
 refine .fa fl39_5 ?_
 refine .ld sh3 ?_
 refine .vl (Y.eql rfl rfl) ?_
 refine .an ?_
 refine AOps.nil (AWp.ret ?_)
 exact .rb rfl (dd (by (simp only [Shaped, c13, Int.reduceEq, Bool.not_eq_true, false_and, true_and, and_true, and_false, or_false, false_or, ne_eq]) <;> (first | omega | grind)))
 refine AWp.sr (.vl (Y.eql rfl rfl) ?_)
 refine .an ?_
 refine AOps.nil ?_
 refine AWp.condD rfl (fun c22 => ?_) (fun c22 => ?_)
 refine AWp.sr ?_
 refine .fa fl39_3 ?_
 refine .ld sh22 ?_
 refine .vl (Y.len (n := c.args.length) sl22 rfl (congrArg some (List.length_map ..))) ?_
 refine .an ?_
 refine AOps.nil (AWp.sr ?_)
 refine .mv ?_
 refine .vl (Y.lss rfl rfl) ?_
 refine .mv ?_
 refine AOps.splitD (d := 29) rfl (fun c29 => ?_) (fun c29 => ?_)
 refine .gz 29 (.gz 29 (.gz 29 ?_))
 refine .pk ?_
 refine AOps.nil (AWp.condT rfl (AWp.sr ?_))
 refine .an ?_
 refine AOps.nil (AWp.ret ?_)
 exact .rb rfl (df (by (simp only [Shaped, c22, Int.reduceEq, Bool.not_eq_true, false_and, true_and, and_true, and_false, or_false, false_or, ne_eq]) <;> (first | omega | grind)))
 refine .gw 29 (Y.move rfl rfl) ?_
 refine .gw 29 (Y.remI rfl rfl (by omega)) ?_
 refine .gw 29 (Y.eql rfl rfl) ?_
 refine .pk ?_
 refine AOps.nil ?_
 refine AWp.condD rfl (fun c33 => ?_) (fun c33 => ?_)
 refine AWp.sr ?_
 refine .an ?_
 refine AOps.nil (AWp.ret ?_)
 exact .rb rfl (df (by (simp only [Shaped, c22, Int.reduceEq, Bool.not_eq_true, false_and, true_and, and_true, and_false, or_false, false_or, ne_eq]) <;> (first | omega | grind)))
 refine AWp.skip (AWp.seq (AWp.sr ?_))
 refine .fa fl39_3 ?_
 refine .ld sh22 ?_
 refine .vl (Y.len (n := c.args.length) sl22 rfl (congrArg some (List.length_map ..))) ?_
 refine .mv ?_
 refine .vl (Y.neq rfl rfl) ?_
 refine .mv ?_
 refine AOps.splitD (d := 88) rfl (fun c88 => ?_) (fun c88 => ?_)
 refine .gz 88 (.gz 88 (.gz 88 ?_))
 refine .gz 88 ?_
 refine .pk ?_
 refine .mv ?_
 refine .gz 94 (.gz 94 (.gz 94 ?_))
 refine .gz 94 (.gz 98 (.gz 98 ?_))
 refine .gz 94 ?_
 refine .pk ?_
 refine AOps.nil (AWp.condT rfl (AWp.sr ?_))
 refine .an ?_
 refine AOps.nil (AWp.ret ?_)
 exact .rb rfl (df (by (simp only [Shaped, c22, Int.reduceEq, Bool.not_eq_true, false_and, true_and, and_true, and_false, or_false, false_or, ne_eq]) <;> (first | omega | grind)))
 refine .gw 88 (Y.fieldAddr fl39_1 rfl rfl) (.gw 88 (Y.load sh3 rfl rfl rfl rfl) (.gw 88 (Y.move rfl rfl) ?_))
 refine .gw 88 (Y.neq rfl rfl) ?_
 refine .pk ?_
 refine .mv ?_
 refine AOps.splitD (d := 94) rfl (fun c94 => ?_) (fun c94 => ?_)
 refine .gz 94 (.gz 94 (.gz 94 ?_))
 refine .gz 94 (.gz 98 (.gz 98 ?_))
 refine .gz 94 ?_
 refine .pk ?_
 refine AOps.nil (AWp.condT rfl (AWp.sr ?_))
 refine .an ?_
 refine AOps.nil (AWp.ret ?_)
 exact .rb rfl (df (by (simp only [Shaped, c22, Int.reduceEq, Bool.not_eq_true, false_and, true_and, and_true, and_false, or_false, false_or, ne_eq]) <;> (first | omega | grind)))
 refine .gw 94 (Y.fieldAddr fl39_4 rfl rfl) (.gw 94 (Y.load sh37 rfl rfl rfl rfl) (.gw 94 (Y.neq rfl rfl) ?_))
 refine .gw 94 (Y.move rfl rfl) ?_
 refine AOps.splitD (d := 98) rfl (fun c98 => ?_) (fun c98 => ?_)
 refine .gw 98 (Y.move rfl rfl) (.gw 98 (Y.not rfl) (.gw 94 (Y.pick rfl rfl rfl) ?_))
 refine .pk ?_
 refine AOps.nil (AWp.condT rfl (AWp.sr ?_))
 refine .an ?_
 refine AOps.nil (AWp.ret ?_)
 exact .rb rfl (df (by (simp only [Shaped, c22, Int.reduceEq, Bool.not_eq_true, false_and, true_and, and_true, and_false, or_false, false_or, ne_eq]) <;> (first | omega | grind)))
 refine .gz 98 (.gz 98 (.gw 94 (Y.pick rfl rfl rfl) ?_))
 refine .pk ?_
 refine AOps.nil (AWp.condF rfl (AWp.skip ?_))
 refine AWp.seq (AWp.sr ?_)
 refine .mv ?_
 refine .vl (Y.lss rfl rfl) (AOps.nil (AWp.condT rfl ?_))
 refine AWp.sr ?_
 refine .fa fl39_5 ?_
 refine .ld sh3 ?_
 refine .vl (Y.eql rfl rfl) ?_
 refine .an ?_
 refine AOps.nil (AWp.ret ?_)
 exact .rb rfl (dd (by (simp only [Shaped, c22, Int.reduceEq, Bool.not_eq_true, false_and, true_and, and_true, and_false, or_false, false_or, ne_eq]) <;> (first | omega | grind)))
 refine AWp.sr (.vl (Y.eql rfl rfl) ?_)
 refine .an ?_
 refine AOps.nil ?_
 refine AWp.condD rfl (fun c34 => ?_) (fun c34 => ?_)
 refine AWp.region ?_
 refine .an ?_
 refine .an ?_
 refine AOps.nil ?_
 refine AWp.join0 (⟨[(2, .ptr 102 0 0 0), (3, .ptr 103 0 0 0), (8, vi (-1))], [(102, .cells (Netlist.row n)), (103, .cells (Cell.row c))]⟩) (((¬ (((c.args.length : Nat) : Int) ≠ 2)) ∧ (¬ (c.op ≠ 0)) ∧ (((c.num : Nat) : Int) ≠ 0)) ∨ ((¬ (((c.args.length : Nat) : Int) ≠ 2)) ∧ (¬ (c.op ≠ 0)) ∧ (¬ (((c.num : Nat) : Int) ≠ 0)))) ?_ (fun hJ33 => ?_)
 refine AWp.sr ?_
 refine .fa fl39_3 ?_
 refine .ld sh22 ?_
 refine .vl (Y.len (n := c.args.length) sl22 rfl (congrArg some (List.length_map ..))) ?_
 refine .mv ?_
 refine .vl (Y.neq rfl rfl) ?_
 refine .mv ?_
 refine AOps.splitD (d := 88) rfl (fun c88 => ?_) (fun c88 => ?_)
 refine .gz 88 (.gz 88 (.gz 88 ?_))
 refine .gz 88 ?_
 refine .pk ?_
 refine .mv ?_
 refine .gz 94 (.gz 94 (.gz 94 ?_))
 refine .gz 94 (.gz 98 (.gz 98 ?_))
 refine .gz 94 ?_
 refine .pk ?_
 refine AOps.nil (AWp.condT rfl (AWp.sr ?_))
 refine .an ?_
 refine AOps.nil (AWp.ret ?_)
 exact .rb rfl (df (by (simp only [Shaped, c34, Int.reduceEq, Bool.not_eq_true, false_and, true_and, and_true, and_false, or_false, false_or, ne_eq]) <;> (first | omega | grind)))
 refine .gw 88 (Y.fieldAddr fl39_1 rfl rfl) (.gw 88 (Y.load sh3 rfl rfl rfl rfl) (.gw 88 (Y.move rfl rfl) ?_))
 refine .gw 88 (Y.neq rfl rfl) ?_
 refine .pk ?_
 refine .mv ?_
 refine AOps.splitD (d := 94) rfl (fun c94 => ?_) (fun c94 => ?_)
 refine .gz 94 (.gz 94 (.gz 94 ?_))
 refine .gz 94 (.gz 98 (.gz 98 ?_))
 refine .gz 94 ?_
 refine .pk ?_
 refine AOps.nil (AWp.condT rfl (AWp.sr ?_))
 refine .an ?_
 refine AOps.nil (AWp.ret ?_)
 exact .rb rfl (df (by (simp only [Shaped, c34, Int.reduceEq, Bool.not_eq_true, false_and, true_and, and_true, and_false, or_false, false_or, ne_eq]) <;> (first | omega | grind)))
 refine .gw 94 (Y.fieldAddr fl39_4 rfl rfl) (.gw 94 (Y.load sh37 rfl rfl rfl rfl) (.gw 94 (Y.neq rfl rfl) ?_))
 refine .gw 94 (Y.move rfl rfl) ?_
 refine AOps.splitD (d := 98) rfl (fun c98 => ?_) (fun c98 => ?_)
 refine .gw 98 (Y.move rfl rfl) (.gw 98 (Y.not rfl) (.gw 94 (Y.pick rfl rfl rfl) ?_))
 refine .pk ?_
 refine AOps.nil (AWp.condF rfl (AWp.skip ?_))
 exact ⟨.inl ⟨c88, c94, c98⟩, Le.mk (.c (.c (.c (.nil)))) (.c (.c (.nil)))⟩
 refine .gz 98 (.gz 98 (.gw 94 (Y.pick rfl rfl rfl) ?_))
 refine .pk ?_
 refine AOps.nil (AWp.condF rfl (AWp.skip ?_))
 exact ⟨.inr (⟨c88, c94, c98⟩), Le.mk (.c (.c (.c (.nil)))) (.c (.c (.nil)))⟩
 refine AWp.seq (AWp.sr ?_)
 refine .mv ?_
 refine .vl (Y.lss rfl rfl) (AOps.nil (AWp.condT rfl ?_))
 refine AWp.sr ?_
 refine .fa fl39_5 ?_
 refine .ld sh3 ?_
 refine .vl (Y.eql rfl rfl) ?_
 refine .an ?_
 refine AOps.nil (AWp.ret ?_)
 exact .rb rfl (dd (by (simp only [Shaped, c34, Int.reduceEq, Bool.not_eq_true, false_and, true_and, and_true, and_false, or_false, false_or, ne_eq]) <;> (first | omega | grind)))
 refine AWp.sr (.vl (Y.eql rfl rfl) ?_)
 refine .an ?_
 refine AOps.nil ?_
 refine AWp.condD rfl (fun c36 => ?_) (fun c36 => ?_)
 refine AWp.seq (AWp.regionS rfl (by kernel_rfl) (AHead.val (Y.fieldAddr fl39_1 rfl rfl) (by decide) ?_))
 refine AHead.val (Y.load sh3 rfl rfl rfl rfl) (by decide) (AHead.val (Y.assign rfl rfl) (by decide) (AHead.val (Y.assign rfl rfl) (by decide) ?_))
 refine AHead.val (Y.assign rfl rfl) (by decide) (AHead.nil (AWp.sr ?_))
 refine .fa fl39_1 ?_
 refine .ld sh3 ?_
 refine .vl (Y.lss rfl rfl) ?_
 refine .mv ?_
 refine AOps.splitD (d := 43) rfl (fun c43 => ?_) (fun c43 => ?_)
 refine .gz 43 (.gz 43 (.gz 43 ?_))
 refine .pk ?_
 refine .mv ?_
 refine .gz 48 (.gz 48 (.gz 48 ?_))
 refine .pk ?_
 refine .mv ?_
 refine .gz 53 (.gz 53 (.gz 53 ?_))
 refine .pk ?_
 refine AOps.nil (AWp.condT rfl (AWp.sr ?_))
 refine .an ?_
 refine AOps.nil (AWp.ret ?_)
 exact .rb rfl (df (by (simp only [Shaped, c36, Int.reduceEq, Bool.not_eq_true, false_and, true_and, and_true, and_false, or_false, false_or, ne_eq]) <;> (first | omega | grind)))
 refine .gw 43 (Y.fieldAddr fl39_1 rfl rfl) (.gw 43 (Y.load sh3 rfl rfl rfl rfl) (.gw 43 (Y.gtr rfl rfl) ?_))
 refine .pk ?_
 refine .mv ?_
 refine AOps.splitD (d := 48) rfl (fun c48 => ?_) (fun c48 => ?_)
 refine .gz 48 (.gz 48 (.gz 48 ?_))
 refine .pk ?_
 refine .mv ?_
 refine .gz 53 (.gz 53 (.gz 53 ?_))
 refine .pk ?_
 refine AOps.nil (AWp.condT rfl (AWp.sr ?_))
 refine .an ?_
 refine AOps.nil (AWp.ret ?_)
 exact .rb rfl (df (by (simp only [Shaped, c36, Int.reduceEq, Bool.not_eq_true, false_and, true_and, and_true, and_false, or_false, false_or, ne_eq]) <;> (first | omega | grind)))
 refine .gw 48 (Y.fieldAddr fl39_4 rfl rfl) (.gw 48 (Y.load sh37 rfl rfl rfl rfl) (.gw 48 (Y.lss rfl rfl) ?_))
 refine .pk ?_
 refine .mv ?_
 refine AOps.splitD (d := 53) rfl (fun c53 => ?_) (fun c53 => ?_)
 refine .gz 53 (.gz 53 (.gz 53 ?_))
 refine .pk ?_
 refine AOps.nil (AWp.condT rfl (AWp.sr ?_))
 refine .an ?_
 refine AOps.nil (AWp.ret ?_)
 exact .rb rfl (df (by (simp only [Shaped, c36, Int.reduceEq, Bool.not_eq_true, false_and, true_and, and_true, and_false, or_false, false_or, ne_eq]) <;> (first | omega | grind)))
 refine .gw 53 (Y.fieldAddr fl39_4 rfl rfl) (.gw 53 (Y.load sh37 rfl rfl rfl rfl) (.gw 53 (Y.gtr rfl rfl) ?_))
 refine .pk ?_
 refine AOps.nil ?_
 refine AWp.condD rfl (fun c57 => ?_) (fun c57 => ?_)
 refine AWp.sr ?_
 refine .an ?_
 refine AOps.nil (AWp.ret ?_)
 exact .rb rfl (df (by (simp only [Shaped, c36, Int.reduceEq, Bool.not_eq_true, false_and, true_and, and_true, and_false, or_false, false_or, ne_eq]) <;> (first | omega | grind)))
 refine AWp.skip ?_
 refine AWp.join0 (⟨[(2, .ptr 102 0 0 0), (3, .ptr 103 0 0 0), (8, vi (-1))], [(102, .cells (Netlist.row n)), (103, .cells (Cell.row c))]⟩) (((¬ (((c.args.length : Nat) : Int) ≠ 2)) ∧ (¬ (c.op ≠ c.op)) ∧ (((c.num : Nat) : Int) ≠ 0)) ∨ ((¬ (((c.args.length : Nat) : Int) ≠ 2)) ∧ (¬ (c.op ≠ c.op)) ∧ (¬ (((c.num : Nat) : Int) ≠ 0)))) ?_ (fun hJ33 => ?_)
 refine AWp.sr ?_
 refine .fa fl39_3 ?_
 refine .ld sh22 ?_
 refine .vl (Y.len (n := c.args.length) sl22 rfl (congrArg some (List.length_map ..))) ?_
 refine .mv ?_
 refine .vl (Y.neq rfl rfl) ?_
 refine .mv ?_
 refine AOps.splitD (d := 88) rfl (fun c88 => ?_) (fun c88 => ?_)
 refine .gz 88 (.gz 88 (.gz 88 ?_))
 refine .gz 88 ?_
 refine .pk ?_
 refine .mv ?_
 refine .gz 94 (.gz 94 (.gz 94 ?_))
 refine .gz 94 (.gz 98 (.gz 98 ?_))
 refine .gz 94 ?_
 refine .pk ?_
 refine AOps.nil (AWp.condT rfl (AWp.sr ?_))
 refine .an ?_
 refine AOps.nil (AWp.ret ?_)
 exact .rb rfl (df (by (simp only [Shaped, c36, Int.reduceEq, Bool.not_eq_true, false_and, true_and, and_true, and_false, or_false, false_or, ne_eq]) <;> (first | omega | grind)))
 refine .gw 88 (Y.fieldAddr fl39_1 rfl rfl) (.gw 88 (Y.load sh3 rfl rfl rfl rfl) (.gw 88 (Y.move rfl rfl) ?_))
 refine .gw 88 (Y.neq rfl rfl) ?_
 refine .pk ?_
 refine .mv ?_
 refine AOps.splitD (d := 94) rfl (fun c94 => ?_) (fun c94 => ?_)
 refine .gz 94 (.gz 94 (.gz 94 ?_))
 refine .gz 94 (.gz 98 (.gz 98 ?_))
 refine .gz 94 ?_
 refine .pk ?_
 refine AOps.nil (AWp.condT rfl (AWp.sr ?_))
 refine .an ?_
 refine AOps.nil (AWp.ret ?_)
 exact .rb rfl (df (by (simp only [Shaped, c36, Int.reduceEq, Bool.not_eq_true, false_and, true_and, and_true, and_false, or_false, false_or, ne_eq]) <;> (first | omega | grind)))
 refine .gw 94 (Y.fieldAddr fl39_4 rfl rfl) (.gw 94 (Y.load sh37 rfl rfl rfl rfl) (.gw 94 (Y.neq rfl rfl) ?_))
 refine .gw 94 (Y.move rfl rfl) ?_
 refine AOps.splitD (d := 98) rfl (fun c98 => ?_) (fun c98 => ?_)
 refine .gw 98 (Y.move rfl rfl) (.gw 98 (Y.not rfl) (.gw 94 (Y.pick rfl rfl rfl) ?_))
 refine .pk ?_
 refine AOps.nil (AWp.condF rfl (AWp.skip ?_))
 exact ⟨.inl ⟨c88, c94, c98⟩, Le.mk (.c (.c (.c (.nil)))) (.c (.c (.nil)))⟩
 refine .gz 98 (.gz 98 (.gw 94 (Y.pick rfl rfl rfl) ?_))
 refine .pk ?_
 refine AOps.nil (AWp.condF rfl (AWp.skip ?_))
 exact ⟨.inr (⟨c88, c94, c98⟩), Le.mk (.c (.c (.c (.nil)))) (.c (.c (.nil)))⟩
 refine AWp.seq (AWp.sr ?_)
 refine .mv ?_
 refine .vl (Y.lss rfl rfl) (AOps.nil (AWp.condT rfl ?_))
 refine AWp.sr ?_
 refine .fa fl39_5 ?_
 refine .ld sh3 ?_
 refine .vl (Y.eql rfl rfl) ?_
 refine .an ?_
 refine AOps.nil (AWp.ret ?_)
 exact .rb rfl (dd (by (simp only [Shaped, c36, Int.reduceEq, Bool.not_eq_true, false_and, true_and, and_true, and_false, or_false, false_or, ne_eq]) <;> (first | omega | grind)))
 refine AWp.sr (.vl (Y.eql rfl rfl) ?_)
 refine .an ?_
 refine AOps.nil ?_
 refine AWp.condD rfl (fun c58 => ?_) (fun c58 => ?_)
 refine AWp.regionS rfl (by kernel_rfl) (AHead.val (Y.fieldAddr fl27_4 rfl rfl) (by decide) (AHead.val (Y.load sh24 rfl rfl rfl rfl) (by decide) ?_))
 refine AHead.val (Y.len (n := n.mems.length) sl24 rfl (congrArg some (List.length_map ..))) (by decide) (AHead.val (Y.assign rfl rfl) (by decide) (AHead.val (Y.assign rfl rfl) (by decide) ?_))
 refine AHead.nil (AWp.seq (AWp.sr ?_))
 refine .fa fl39_3 ?_
 refine .ld sh22 ?_
 refine .vl (Y.len (n := c.args.length) sl22 rfl (congrArg some (List.length_map ..))) ?_
 refine .mv ?_
 refine .vl (Y.neq rfl rfl) ?_
 refine .mv ?_
 refine AOps.splitD (d := 88) rfl (fun c88 => ?_) (fun c88 => ?_)
 refine .gz 88 (.gz 88 (.gz 88 ?_))
 refine .gz 88 ?_
 refine .pk ?_
 refine .mv ?_
 refine .gz 94 (.gz 94 (.gz 94 ?_))
 refine .gz 94 (.gz 98 (.gz 98 ?_))
 refine .gz 94 ?_
 refine .pk ?_
 refine AOps.nil (AWp.condT rfl (AWp.sr ?_))
 refine .an ?_
 refine AOps.nil (AWp.ret ?_)
 exact .rb rfl (df (by (simp only [Shaped, c58, Int.reduceEq, Bool.not_eq_true, false_and, true_and, and_true, and_false, or_false, false_or, ne_eq]) <;> (first | omega | grind)))
 refine .gw 88 (Y.fieldAddr fl39_1 rfl rfl) (.gw 88 (Y.load sh3 rfl rfl rfl rfl) (.gw 88 (Y.move rfl rfl) ?_))
 refine .gw 88 (Y.neq rfl rfl) ?_
 refine .pk ?_
 refine .mv ?_
 refine AOps.splitD (d := 94) rfl (fun c94 => ?_) (fun c94 => ?_)
 refine .gz 94 (.gz 94 (.gz 94 ?_))
 refine .gz 94 (.gz 98 (.gz 98 ?_))
 refine .gz 94 ?_
 refine .pk ?_
 refine AOps.nil (AWp.condT rfl (AWp.sr ?_))
 refine .an ?_
 refine AOps.nil (AWp.ret ?_)
 exact .rb rfl (df (by (simp only [Shaped, c58, Int.reduceEq, Bool.not_eq_true, false_and, true_and, and_true, and_false, or_false, false_or, ne_eq]) <;> (first | omega | grind)))
 refine .gw 94 (Y.fieldAddr fl39_4 rfl rfl) (.gw 94 (Y.load sh37 rfl rfl rfl rfl) (.gw 94 (Y.neq rfl rfl) ?_))
 refine .gw 94 (Y.move rfl rfl) ?_
 refine AOps.splitD (d := 98) rfl (fun c98 => ?_) (fun c98 => ?_)
 refine .gw 98 (Y.move rfl rfl) (.gw 98 (Y.not rfl) (.gw 94 (Y.pick rfl rfl rfl) ?_))
 refine .pk ?_
 refine AOps.nil (AWp.condT rfl (AWp.sr ?_))
 refine .an ?_
 refine AOps.nil (AWp.ret ?_)
 exact .rb rfl (df (by (simp only [Shaped, c58, Int.reduceEq, Bool.not_eq_true, false_and, true_and, and_true, and_false, or_false, false_or, ne_eq]) <;> (first | omega | grind)))
 refine .gz 98 (.gz 98 (.gw 94 (Y.pick rfl rfl rfl) ?_))
 refine .pk ?_
 refine AOps.nil (AWp.condF rfl (AWp.skip ?_))
 refine AWp.seq (AWp.sr ?_)
 refine .mv ?_
 refine .vl (Y.lss rfl rfl) (AOps.nil ?_)
 refine AWp.condD rfl (fun c104 => ?_) (fun c104 => ?_)
 refine AWp.sr ?_
 refine .fa fl39_5 ?_
 refine .ld sh3 ?_
 refine .vl (Y.eql rfl rfl) ?_
 refine .an ?_
 refine AOps.nil (AWp.ret ?_)
 exact .rb rfl (dd (by (simp only [Shaped, c58, Int.reduceEq, Bool.not_eq_true, false_and, true_and, and_true, and_false, or_false, false_or, ne_eq]) <;> (first | omega | grind)))
 refine AWp.skip (AWp.sr ?_)
 refine .fa fl39_5 ?_
 refine .ld sh3 ?_
 refine .vl (Y.geq rfl rfl) ?_
 refine .mv ?_
 refine AOps.splitD (d := 111) rfl (fun c111 => ?_) (fun c111 => ?_)
 refine .gw 111 (Y.fieldAddr fl39_5 rfl rfl) (.gw 111 (Y.load sh3 rfl rfl rfl rfl) (.gw 111 (Y.move rfl rfl) ?_))
 refine .gw 111 (Y.lss rfl rfl) ?_
 refine .pk ?_
 refine .mv ?_
 refine AOps.splitD (d := 117) rfl (fun c117 => ?_) (fun c117 => ?_)
 refine .gw 117 (Y.fieldAddr fl39_0 rfl rfl) (.gw 117 (Y.load sh3 rfl rfl rfl rfl) (.gw 117 (Y.neq rfl rfl) ?_))
 refine .gw 117 (Y.move rfl rfl) ?_
 refine AOps.splitD (d := 121) rfl (fun c121 => ?_) (fun c121 => ?_)
 refine .gz 121 (.gz 121 (.gz 121 ?_))
 refine .gz 121 (.gz 121 (.gz 121 ?_))
 refine .gz 121 (.gz 121 (.gw 117 (Y.pick rfl rfl rfl) ?_))
 refine .pk ?_
 refine .an ?_
 refine AOps.nil (AWp.ret ?_)
 exact .rb rfl (dt (by (simp only [Shaped, c58, Int.reduceEq, Bool.not_eq_true, false_and, true_and, and_true, and_false, or_false, false_or, ne_eq]) <;> (first | omega | grind)))
 refine .gw 121 (Y.fieldAddr fl27_5 rfl rfl) (.gw 121 (Y.load sh25 rfl rfl rfl rfl) (.gw 121 (Y.fieldAddr fl39_5 rfl rfl) ?_))
 refine .gw 121 (Y.load sh3 rfl rfl rfl rfl) ?_
 refine .gw 121 (Y.indexF (m := (c.mem).toNat) sl25 rfl rfl (by omega) (row_getD (d := default) (by omega))) ?_
 refine .gw 121 (Y.fieldAddr fl83_2 rfl rfl) (.gw 121 (Y.load sh4 rfl rfl rfl rfl) (.gw 121 (Y.not rfl) ?_))
 refine .gw 117 (Y.pick rfl rfl rfl) ?_
 refine .pk ?_
 refine .an ?_
 refine AOps.nil (AWp.ret ?_)
 exact .rb rfl (db (by (simp only [Shaped, c58, Int.reduceEq, Bool.not_eq_true, false_and, true_and, and_true, and_false, or_false, false_or, ne_eq]) <;> (first | omega | grind)))
 refine .gz 117 (.gz 117 (.gz 117 ?_))
 refine .gz 117 (.gz 121 (.gz 121 ?_))
 refine .gz 121 (.gz 121 (.gz 121 ?_))
 refine .gz 121 (.gz 121 (.gz 121 ?_))
 refine .gz 117 ?_
 refine .pk ?_
 refine .an ?_
 refine AOps.nil (AWp.ret ?_)
 exact .rb rfl (df (by (simp only [Shaped, c58, Int.reduceEq, Bool.not_eq_true, false_and, true_and, and_true, and_false, or_false, false_or, ne_eq]) <;> (first | omega | grind)))
 refine .gz 111 (.gz 111 (.gz 111 ?_))
 refine .gz 111 ?_
 refine .pk ?_
 refine .mv ?_
 refine .gz 117 (.gz 117 (.gz 117 ?_))
 refine .gz 117 (.gz 121 (.gz 121 ?_))
 refine .gz 121 (.gz 121 (.gz 121 ?_))
 refine .gz 121 (.gz 121 (.gz 121 ?_))
 refine .gz 117 ?_
 refine .pk ?_
 refine .an ?_
 refine AOps.nil (AWp.ret ?_)
 exact .rb rfl (df (by (simp only [Shaped, c58, Int.reduceEq, Bool.not_eq_true, false_and, true_and, and_true, and_false, or_false, false_or, ne_eq]) <;> (first | omega | grind)))
 refine AWp.sr (.vl (Y.eql rfl rfl) ?_)
 refine .an ?_
 refine AOps.nil ?_
 refine AWp.condD rfl (fun c63 => ?_) (fun c63 => ?_)
 refine AWp.regionS rfl (by kernel_rfl) (AHead.val (Y.fieldAddr fl27_4 rfl rfl) (by decide) (AHead.val (Y.load sh24 rfl rfl rfl rfl) (by decide) ?_))
 refine AHead.val (Y.len (n := n.mems.length) sl24 rfl (congrArg some (List.length_map ..))) (by decide) (AHead.val (Y.assign rfl rfl) (by decide) (AHead.val (Y.assign rfl rfl) (by decide) ?_))
 refine AHead.nil (AWp.seq (AWp.sr ?_))
 refine .fa fl39_3 ?_
 refine .ld sh22 ?_
 refine .vl (Y.len (n := c.args.length) sl22 rfl (congrArg some (List.length_map ..))) ?_
 refine .mv ?_
 refine .vl (Y.neq rfl rfl) ?_
 refine .mv ?_
 refine AOps.splitD (d := 88) rfl (fun c88 => ?_) (fun c88 => ?_)
 refine .gz 88 (.gz 88 (.gz 88 ?_))
 refine .gz 88 ?_
 refine .pk ?_
 refine .mv ?_
 refine .gz 94 (.gz 94 (.gz 94 ?_))
 refine .gz 94 (.gz 98 (.gz 98 ?_))
 refine .gz 94 ?_
 refine .pk ?_
 refine AOps.nil (AWp.condT rfl (AWp.sr ?_))
 refine .an ?_
 refine AOps.nil (AWp.ret ?_)
 exact .rb rfl (df (by (simp only [Shaped, c63, Int.reduceEq, Bool.not_eq_true, false_and, true_and, and_true, and_false, or_false, false_or, ne_eq]) <;> (first | omega | grind)))
 refine .gw 88 (Y.fieldAddr fl39_1 rfl rfl) (.gw 88 (Y.load sh3 rfl rfl rfl rfl) (.gw 88 (Y.move rfl rfl) ?_))
 refine .gw 88 (Y.neq rfl rfl) ?_
 refine .pk ?_
 refine .mv ?_
 refine AOps.splitD (d := 94) rfl (fun c94 => ?_) (fun c94 => ?_)
 refine .gz 94 (.gz 94 (.gz 94 ?_))
 refine .gz 94 (.gz 98 (.gz 98 ?_))
 refine .gz 94 ?_
 refine .pk ?_
 refine AOps.nil (AWp.condT rfl (AWp.sr ?_))
 refine .an ?_
 refine AOps.nil (AWp.ret ?_)
 exact .rb rfl (df (by (simp only [Shaped, c63, Int.reduceEq, Bool.not_eq_true, false_and, true_and, and_true, and_false, or_false, false_or, ne_eq]) <;> (first | omega | grind)))
 refine .gw 94 (Y.fieldAddr fl39_4 rfl rfl) (.gw 94 (Y.load sh37 rfl rfl rfl rfl) (.gw 94 (Y.neq rfl rfl) ?_))
 refine .gw 94 (Y.move rfl rfl) ?_
 refine AOps.splitD (d := 98) rfl (fun c98 => ?_) (fun c98 => ?_)
 refine .gw 98 (Y.move rfl rfl) (.gw 98 (Y.not rfl) (.gw 94 (Y.pick rfl rfl rfl) ?_))
 refine .pk ?_
 refine AOps.nil (AWp.condT rfl (AWp.sr ?_))
 refine .an ?_
 refine AOps.nil (AWp.ret ?_)
 exact .rb rfl (df (by (simp only [Shaped, c63, Int.reduceEq, Bool.not_eq_true, false_and, true_and, and_true, and_false, or_false, false_or, ne_eq]) <;> (first | omega | grind)))
 refine .gz 98 (.gz 98 (.gw 94 (Y.pick rfl rfl rfl) ?_))
 refine .pk ?_
 refine AOps.nil (AWp.condF rfl (AWp.skip ?_))
 refine AWp.seq (AWp.sr ?_)
 refine .mv ?_
 refine .vl (Y.lss rfl rfl) (AOps.nil ?_)
 refine AWp.condD rfl (fun c104 => ?_) (fun c104 => ?_)
 refine AWp.sr ?_
 refine .fa fl39_5 ?_
 refine .ld sh3 ?_
 refine .vl (Y.eql rfl rfl) ?_
 refine .an ?_
 refine AOps.nil (AWp.ret ?_)
 exact .rb rfl (dd (by (simp only [Shaped, c63, Int.reduceEq, Bool.not_eq_true, false_and, true_and, and_true, and_false, or_false, false_or, ne_eq]) <;> (first | omega | grind)))
 refine AWp.skip (AWp.sr ?_)
 refine .fa fl39_5 ?_
 refine .ld sh3 ?_
 refine .vl (Y.geq rfl rfl) ?_
 refine .mv ?_
 refine AOps.splitD (d := 111) rfl (fun c111 => ?_) (fun c111 => ?_)
 refine .gw 111 (Y.fieldAddr fl39_5 rfl rfl) (.gw 111 (Y.load sh3 rfl rfl rfl rfl) (.gw 111 (Y.move rfl rfl) ?_))
 refine .gw 111 (Y.lss rfl rfl) ?_
 refine .pk ?_
 refine .mv ?_
 refine AOps.splitD (d := 117) rfl (fun c117 => ?_) (fun c117 => ?_)
 refine .gw 117 (Y.fieldAddr fl39_0 rfl rfl) (.gw 117 (Y.load sh3 rfl rfl rfl rfl) (.gw 117 (Y.neq rfl rfl) ?_))
 refine .gw 117 (Y.move rfl rfl) ?_
 refine AOps.splitD (d := 121) rfl (fun c121 => ?_) (fun c121 => ?_)
 refine .gz 121 (.gz 121 (.gz 121 ?_))
 refine .gz 121 (.gz 121 (.gz 121 ?_))
 refine .gz 121 (.gz 121 (.gw 117 (Y.pick rfl rfl rfl) ?_))
 refine .pk ?_
 refine .an ?_
 refine AOps.nil (AWp.ret ?_)
 exact .rb rfl (dt (by (simp only [Shaped, c63, Int.reduceEq, Bool.not_eq_true, false_and, true_and, and_true, and_false, or_false, false_or, ne_eq]) <;> (first | omega | grind)))
 refine .gw 121 (Y.fieldAddr fl27_5 rfl rfl) (.gw 121 (Y.load sh25 rfl rfl rfl rfl) (.gw 121 (Y.fieldAddr fl39_5 rfl rfl) ?_))
 refine .gw 121 (Y.load sh3 rfl rfl rfl rfl) ?_
 refine .gw 121 (Y.indexF (m := (c.mem).toNat) sl25 rfl rfl (by omega) (row_getD (d := default) (by omega))) ?_
 refine .gw 121 (Y.fieldAddr fl83_2 rfl rfl) (.gw 121 (Y.load sh4 rfl rfl rfl rfl) (.gw 121 (Y.not rfl) ?_))
 refine .gw 117 (Y.pick rfl rfl rfl) ?_
 refine .pk ?_
 refine .an ?_
 refine AOps.nil (AWp.ret ?_)
 exact .rb rfl (db (by (simp only [Shaped, c63, Int.reduceEq, Bool.not_eq_true, false_and, true_and, and_true, and_false, or_false, false_or, ne_eq]) <;> (first | omega | grind)))
 refine .gz 117 (.gz 117 (.gz 117 ?_))
 refine .gz 117 (.gz 121 (.gz 121 ?_))
 refine .gz 121 (.gz 121 (.gz 121 ?_))
 refine .gz 121 (.gz 121 (.gz 121 ?_))
 refine .gz 117 ?_
 refine .pk ?_
 refine .an ?_
 refine AOps.nil (AWp.ret ?_)
 exact .rb rfl (df (by (simp only [Shaped, c63, Int.reduceEq, Bool.not_eq_true, false_and, true_and, and_true, and_false, or_false, false_or, ne_eq]) <;> (first | omega | grind)))
 refine .gz 111 (.gz 111 (.gz 111 ?_))
 refine .gz 111 ?_
 refine .pk ?_
 refine .mv ?_
 refine .gz 117 (.gz 117 (.gz 117 ?_))
 refine .gz 117 (.gz 121 (.gz 121 ?_))
 refine .gz 121 (.gz 121 (.gz 121 ?_))
 refine .gz 121 (.gz 121 (.gz 121 ?_))
 refine .gz 117 ?_
 refine .pk ?_
 refine .an ?_
 refine AOps.nil (AWp.ret ?_)
 exact .rb rfl (df (by (simp only [Shaped, c63, Int.reduceEq, Bool.not_eq_true, false_and, true_and, and_true, and_false, or_false, false_or, ne_eq]) <;> (first | omega | grind)))
 refine AWp.sr (.vl (Y.eql rfl rfl) ?_)
 refine .an ?_
 refine AOps.nil ?_
 refine AWp.condD rfl (fun c68 => ?_) (fun c68 => ?_)
 refine AWp.sr ?_
 refine .an ?_
 refine AOps.nil (AWp.sr ?_)
 refine .fa fl39_4 ?_
 refine .ld sh37 ?_
 refine .fa fl27_3 ?_
 refine .ld sh22 ?_
 refine .vl (Y.len (n := n.ins.length) sl22 rfl (congrArg some (List.length_map ..))) ?_
 refine .vl (Y.convK ii3 ii37 rfl (by first | rfl | exact IntWalk.u64_in _ (by omega))) ?_
 refine .vl (Y.geq rfl rfl) (AOps.nil ?_)
 refine AWp.condD rfl (fun c76 => ?_) (fun c76 => ?_)
 refine AWp.sr ?_
 refine .an ?_
 refine AOps.nil (AWp.ret ?_)
 exact .rb rfl (df (by (simp only [Shaped, c68, Int.reduceEq, Bool.not_eq_true, false_and, true_and, and_true, and_false, or_false, false_or, ne_eq]) <;> (first | omega | grind)))
 refine AWp.skip ?_
 refine AWp.join0 (⟨[(2, .ptr 102 0 0 0), (3, .ptr 103 0 0 0), (8, vi (-1))], [(102, .cells (Netlist.row n)), (103, .cells (Cell.row c))]⟩) (((¬ (((c.args.length : Nat) : Int) ≠ 0)) ∧ (¬ (c.op ≠ 0)) ∧ (((c.num : Nat) : Int) ≠ 0)) ∨ ((¬ (((c.args.length : Nat) : Int) ≠ 0)) ∧ (¬ (c.op ≠ 0)) ∧ (¬ (((c.num : Nat) : Int) ≠ 0)))) ?_ (fun hJ33 => ?_)
 refine AWp.sr ?_
 refine .fa fl39_3 ?_
 refine .ld sh22 ?_
 refine .vl (Y.len (n := c.args.length) sl22 rfl (congrArg some (List.length_map ..))) ?_
 refine .mv ?_
 refine .vl (Y.neq rfl rfl) ?_
 refine .mv ?_
 refine AOps.splitD (d := 88) rfl (fun c88 => ?_) (fun c88 => ?_)
 refine .gz 88 (.gz 88 (.gz 88 ?_))
 refine .gz 88 ?_
 refine .pk ?_
 refine .mv ?_
 refine .gz 94 (.gz 94 (.gz 94 ?_))
 refine .gz 94 (.gz 98 (.gz 98 ?_))
 refine .gz 94 ?_
 refine .pk ?_
 refine AOps.nil (AWp.condT rfl (AWp.sr ?_))
 refine .an ?_
 refine AOps.nil (AWp.ret ?_)
 exact .rb rfl (df (by (simp only [Shaped, c68, Int.reduceEq, Bool.not_eq_true, false_and, true_and, and_true, and_false, or_false, false_or, ne_eq]) <;> (first | omega | grind)))
 refine .gw 88 (Y.fieldAddr fl39_1 rfl rfl) (.gw 88 (Y.load sh3 rfl rfl rfl rfl) (.gw 88 (Y.move rfl rfl) ?_))
 refine .gw 88 (Y.neq rfl rfl) ?_
 refine .pk ?_
 refine .mv ?_
 refine AOps.splitD (d := 94) rfl (fun c94 => ?_) (fun c94 => ?_)
 refine .gz 94 (.gz 94 (.gz 94 ?_))
 refine .gz 94 (.gz 98 (.gz 98 ?_))
 refine .gz 94 ?_
 refine .pk ?_
 refine AOps.nil (AWp.condT rfl (AWp.sr ?_))
 refine .an ?_
 refine AOps.nil (AWp.ret ?_)
 exact .rb rfl (df (by (simp only [Shaped, c68, Int.reduceEq, Bool.not_eq_true, false_and, true_and, and_true, and_false, or_false, false_or, ne_eq]) <;> (first | omega | grind)))
 refine .gw 94 (Y.fieldAddr fl39_4 rfl rfl) (.gw 94 (Y.load sh37 rfl rfl rfl rfl) (.gw 94 (Y.neq rfl rfl) ?_))
 refine .gw 94 (Y.move rfl rfl) ?_
 refine AOps.splitD (d := 98) rfl (fun c98 => ?_) (fun c98 => ?_)
 refine .gw 98 (Y.move rfl rfl) (.gw 98 (Y.not rfl) (.gw 94 (Y.pick rfl rfl rfl) ?_))
 refine .pk ?_
 refine AOps.nil (AWp.condF rfl (AWp.skip ?_))
 exact ⟨.inl ⟨c88, c94, c98⟩, Le.mk (.c (.c (.c (.nil)))) (.c (.c (.nil)))⟩
 refine .gz 98 (.gz 98 (.gw 94 (Y.pick rfl rfl rfl) ?_))
 refine .pk ?_
 refine AOps.nil (AWp.condF rfl (AWp.skip ?_))
 exact ⟨.inr (⟨c88, c94, c98⟩), Le.mk (.c (.c (.c (.nil)))) (.c (.c (.nil)))⟩
 refine AWp.seq (AWp.sr ?_)
 refine .mv ?_
 refine .vl (Y.lss rfl rfl) (AOps.nil (AWp.condT rfl ?_))
 refine AWp.sr ?_
 refine .fa fl39_5 ?_
 refine .ld sh3 ?_
 refine .vl (Y.eql rfl rfl) ?_
 refine .an ?_
 refine AOps.nil (AWp.ret ?_)
 exact .rb rfl (dd (by (simp only [Shaped, c68, Int.reduceEq, Bool.not_eq_true, false_and, true_and, and_true, and_false, or_false, false_or, ne_eq]) <;> (first | omega | grind)))
 refine AWp.seq (AWp.sr (.vl (Y.eql rfl rfl) ?_))
 refine .an ?_
 refine AOps.nil ?_
 refine AWp.condKD rfl (fun c77 => ?_) (fun c77 => ?_)
 refine AWp.skip (AWp.condT rfl (AWp.region ?_))
 refine .fa fl27_5 ?_
 refine .ld sh25 ?_
 refine .vl (Y.len (n := n.streams.length) sl25 rfl (congrArg some (List.length_map ..))) ?_
 refine .an ?_
 refine AOps.nil (AWp.seq (AWp.sr ?_))
 refine .fa fl39_3 ?_
 refine .ld sh22 ?_
 refine .vl (Y.len (n := c.args.length) sl22 rfl (congrArg some (List.length_map ..))) ?_
 refine .mv ?_
 refine .vl (Y.neq rfl rfl) ?_
 refine .mv ?_
 refine AOps.splitD (d := 88) rfl (fun c88 => ?_) (fun c88 => ?_)
 refine .gz 88 (.gz 88 (.gz 88 ?_))
 refine .gz 88 ?_
 refine .pk ?_
 refine .mv ?_
 refine .gz 94 (.gz 94 (.gz 94 ?_))
 refine .gz 94 (.gz 98 (.gz 98 ?_))
 refine .gz 94 ?_
 refine .pk ?_
 refine AOps.nil (AWp.condT rfl (AWp.sr ?_))
 refine .an ?_
 refine AOps.nil (AWp.ret ?_)
 exact .rb rfl (df (by (simp only [Shaped, c77, Int.reduceEq, Bool.not_eq_true, false_and, true_and, and_true, and_false, or_false, false_or, ne_eq]) <;> (first | omega | grind)))
 refine .gw 88 (Y.fieldAddr fl39_1 rfl rfl) (.gw 88 (Y.load sh3 rfl rfl rfl rfl) (.gw 88 (Y.move rfl rfl) ?_))
 refine .gw 88 (Y.neq rfl rfl) ?_
 refine .pk ?_
 refine .mv ?_
 refine AOps.splitD (d := 94) rfl (fun c94 => ?_) (fun c94 => ?_)
 refine .gz 94 (.gz 94 (.gz 94 ?_))
 refine .gz 94 (.gz 98 (.gz 98 ?_))
 refine .gz 94 ?_
 refine .pk ?_
 refine AOps.nil (AWp.condT rfl (AWp.sr ?_))
 refine .an ?_
 refine AOps.nil (AWp.ret ?_)
 exact .rb rfl (df (by (simp only [Shaped, c77, Int.reduceEq, Bool.not_eq_true, false_and, true_and, and_true, and_false, or_false, false_or, ne_eq]) <;> (first | omega | grind)))
 refine .gw 94 (Y.fieldAddr fl39_4 rfl rfl) (.gw 94 (Y.load sh37 rfl rfl rfl rfl) (.gw 94 (Y.neq rfl rfl) ?_))
 refine .gw 94 (Y.move rfl rfl) ?_
 refine AOps.splitD (d := 98) rfl (fun c98 => ?_) (fun c98 => ?_)
 refine .gw 98 (Y.move rfl rfl) (.gw 98 (Y.not rfl) (.gw 94 (Y.pick rfl rfl rfl) ?_))
 refine .pk ?_
 refine AOps.nil (AWp.condT rfl (AWp.sr ?_))
 refine .an ?_
 refine AOps.nil (AWp.ret ?_)
 exact .rb rfl (df (by (simp only [Shaped, c77, Int.reduceEq, Bool.not_eq_true, false_and, true_and, and_true, and_false, or_false, false_or, ne_eq]) <;> (first | omega | grind)))
 refine .gz 98 (.gz 98 (.gw 94 (Y.pick rfl rfl rfl) ?_))
 refine .pk ?_
 refine AOps.nil (AWp.condF rfl (AWp.skip ?_))
 refine AWp.seq (AWp.sr ?_)
 refine .mv ?_
 refine .vl (Y.lss rfl rfl) (AOps.nil ?_)
 refine AWp.condD rfl (fun c104 => ?_) (fun c104 => ?_)
 refine AWp.sr ?_
 refine .fa fl39_5 ?_
 refine .ld sh3 ?_
 refine .vl (Y.eql rfl rfl) ?_
 refine .an ?_
 refine AOps.nil (AWp.ret ?_)
 exact .rb rfl (dd (by (simp only [Shaped, c77, Int.reduceEq, Bool.not_eq_true, false_and, true_and, and_true, and_false, or_false, false_or, ne_eq]) <;> (first | omega | grind)))
 refine AWp.skip (AWp.sr ?_)
 refine .fa fl39_5 ?_
 refine .ld sh3 ?_
 refine .vl (Y.geq rfl rfl) ?_
 refine .mv ?_
 refine AOps.splitD (d := 111) rfl (fun c111 => ?_) (fun c111 => ?_)
 refine .gw 111 (Y.fieldAddr fl39_5 rfl rfl) (.gw 111 (Y.load sh3 rfl rfl rfl rfl) (.gw 111 (Y.move rfl rfl) ?_))
 refine .gw 111 (Y.lss rfl rfl) ?_
 refine .pk ?_
 refine .mv ?_
 refine AOps.splitD (d := 117) rfl (fun c117 => ?_) (fun c117 => ?_)
 refine .gw 117 (Y.fieldAddr fl39_0 rfl rfl) (.gw 117 (Y.load sh3 rfl rfl rfl rfl) (.gw 117 (Y.neq rfl rfl) ?_))
 refine .gw 117 (Y.move rfl rfl) ?_
 refine AOps.splitD (d := 121) rfl (fun c121 => ?_) (fun c121 => ?_)
 refine .gz 121 (.gz 121 (.gz 121 ?_))
 refine .gz 121 (.gz 121 (.gz 121 ?_))
 refine .gz 121 (.gz 121 (.gw 117 (Y.pick rfl rfl rfl) ?_))
 refine .pk ?_
 refine .an ?_
 refine AOps.nil (AWp.ret ?_)
 exact .rb rfl (dt (by (simp only [Shaped, c77, Int.reduceEq, Bool.not_eq_true, false_and, true_and, and_true, and_false, or_false, false_or, ne_eq]) <;> (first | omega | grind)))
 refine .gw 121 (Y.fieldAddr fl27_5 rfl rfl) (.gw 121 (Y.load sh25 rfl rfl rfl rfl) (.gw 121 (Y.fieldAddr fl39_5 rfl rfl) ?_))
 refine .gw 121 (Y.load sh3 rfl rfl rfl rfl) ?_
 refine .gw 121 (Y.indexF (m := (c.mem).toNat) sl25 rfl rfl (by omega) (row_getD (d := default) (by omega))) ?_
 refine .gw 121 (Y.fieldAddr fl83_2 rfl rfl) (.gw 121 (Y.load sh4 rfl rfl rfl rfl) (.gw 121 (Y.not rfl) ?_))
 refine .gw 117 (Y.pick rfl rfl rfl) ?_
 refine .pk ?_
 refine .an ?_
 refine AOps.nil (AWp.ret ?_)
 exact .rb rfl (db (by (simp only [Shaped, c77, Int.reduceEq, Bool.not_eq_true, false_and, true_and, and_true, and_false, or_false, false_or, ne_eq]) <;> (first | omega | grind)))
 refine .gz 117 (.gz 117 (.gz 117 ?_))
 refine .gz 117 (.gz 121 (.gz 121 ?_))
 refine .gz 121 (.gz 121 (.gz 121 ?_))
 refine .gz 121 (.gz 121 (.gz 121 ?_))
 refine .gz 117 ?_
 refine .pk ?_
 refine .an ?_
 refine AOps.nil (AWp.ret ?_)
 exact .rb rfl (df (by (simp only [Shaped, c77, Int.reduceEq, Bool.not_eq_true, false_and, true_and, and_true, and_false, or_false, false_or, ne_eq]) <;> (first | omega | grind)))
 refine .gz 111 (.gz 111 (.gz 111 ?_))
 refine .gz 111 ?_
 refine .pk ?_
 refine .mv ?_
 refine .gz 117 (.gz 117 (.gz 117 ?_))
 refine .gz 117 (.gz 121 (.gz 121 ?_))
 refine .gz 121 (.gz 121 (.gz 121 ?_))
 refine .gz 121 (.gz 121 (.gz 121 ?_))
 refine .gz 117 ?_
 refine .pk ?_
 refine .an ?_
 refine AOps.nil (AWp.ret ?_)
 exact .rb rfl (df (by (simp only [Shaped, c77, Int.reduceEq, Bool.not_eq_true, false_and, true_and, and_true, and_false, or_false, false_or, ne_eq]) <;> (first | omega | grind)))
 refine AWp.region (.vl (Y.eql rfl rfl) ?_)
 refine .an ?_
 refine AOps.nil ?_
 refine AWp.condKD rfl (fun c77 => ?_) (fun c77 => ?_)
 refine AWp.region ?_
 refine .fa fl27_5 ?_
 refine .ld sh25 ?_
 refine .vl (Y.len (n := n.streams.length) sl25 rfl (congrArg some (List.length_map ..))) ?_
 refine .an ?_
 refine AOps.nil (AWp.seq (AWp.sr ?_))
 refine .fa fl39_3 ?_
 refine .ld sh22 ?_
 refine .vl (Y.len (n := c.args.length) sl22 rfl (congrArg some (List.length_map ..))) ?_
 refine .mv ?_
 refine .vl (Y.neq rfl rfl) ?_
 refine .mv ?_
 refine AOps.splitD (d := 88) rfl (fun c88 => ?_) (fun c88 => ?_)
 refine .gz 88 (.gz 88 (.gz 88 ?_))
 refine .gz 88 ?_
 refine .pk ?_
 refine .mv ?_
 refine .gz 94 (.gz 94 (.gz 94 ?_))
 refine .gz 94 (.gz 98 (.gz 98 ?_))
 refine .gz 94 ?_
 refine .pk ?_
 refine AOps.nil (AWp.condT rfl (AWp.sr ?_))
 refine .an ?_
 refine AOps.nil (AWp.ret ?_)
 exact .rb rfl (df (by (simp only [Shaped, c77, Int.reduceEq, Bool.not_eq_true, false_and, true_and, and_true, and_false, or_false, false_or, ne_eq]) <;> (first | omega | grind)))
 refine .gw 88 (Y.fieldAddr fl39_1 rfl rfl) (.gw 88 (Y.load sh3 rfl rfl rfl rfl) (.gw 88 (Y.move rfl rfl) ?_))
 refine .gw 88 (Y.neq rfl rfl) ?_
 refine .pk ?_
 refine .mv ?_
 refine AOps.splitD (d := 94) rfl (fun c94 => ?_) (fun c94 => ?_)
 refine .gz 94 (.gz 94 (.gz 94 ?_))
 refine .gz 94 (.gz 98 (.gz 98 ?_))
 refine .gz 94 ?_
 refine .pk ?_
 refine AOps.nil (AWp.condT rfl (AWp.sr ?_))
 refine .an ?_
 refine AOps.nil (AWp.ret ?_)
 exact .rb rfl (df (by (simp only [Shaped, c77, Int.reduceEq, Bool.not_eq_true, false_and, true_and, and_true, and_false, or_false, false_or, ne_eq]) <;> (first | omega | grind)))
 refine .gw 94 (Y.fieldAddr fl39_4 rfl rfl) (.gw 94 (Y.load sh37 rfl rfl rfl rfl) (.gw 94 (Y.neq rfl rfl) ?_))
 refine .gw 94 (Y.move rfl rfl) ?_
 refine AOps.splitD (d := 98) rfl (fun c98 => ?_) (fun c98 => ?_)
 refine .gw 98 (Y.move rfl rfl) (.gw 98 (Y.not rfl) (.gw 94 (Y.pick rfl rfl rfl) ?_))
 refine .pk ?_
 refine AOps.nil (AWp.condT rfl (AWp.sr ?_))
 refine .an ?_
 refine AOps.nil (AWp.ret ?_)
 exact .rb rfl (df (by (simp only [Shaped, c77, Int.reduceEq, Bool.not_eq_true, false_and, true_and, and_true, and_false, or_false, false_or, ne_eq]) <;> (first | omega | grind)))
 refine .gz 98 (.gz 98 (.gw 94 (Y.pick rfl rfl rfl) ?_))
 refine .pk ?_
 refine AOps.nil (AWp.condF rfl (AWp.skip ?_))
 refine AWp.seq (AWp.sr ?_)
 refine .mv ?_
 refine .vl (Y.lss rfl rfl) (AOps.nil ?_)
 refine AWp.condD rfl (fun c104 => ?_) (fun c104 => ?_)
 refine AWp.sr ?_
 refine .fa fl39_5 ?_
 refine .ld sh3 ?_
 refine .vl (Y.eql rfl rfl) ?_
 refine .an ?_
 refine AOps.nil (AWp.ret ?_)
 exact .rb rfl (dd (by (simp only [Shaped, c77, Int.reduceEq, Bool.not_eq_true, false_and, true_and, and_true, and_false, or_false, false_or, ne_eq]) <;> (first | omega | grind)))
 refine AWp.skip (AWp.sr ?_)
 refine .fa fl39_5 ?_
 refine .ld sh3 ?_
 refine .vl (Y.geq rfl rfl) ?_
 refine .mv ?_
 refine AOps.splitD (d := 111) rfl (fun c111 => ?_) (fun c111 => ?_)
 refine .gw 111 (Y.fieldAddr fl39_5 rfl rfl) (.gw 111 (Y.load sh3 rfl rfl rfl rfl) (.gw 111 (Y.move rfl rfl) ?_))
 refine .gw 111 (Y.lss rfl rfl) ?_
 refine .pk ?_
 refine .mv ?_
 refine AOps.splitD (d := 117) rfl (fun c117 => ?_) (fun c117 => ?_)
 refine .gw 117 (Y.fieldAddr fl39_0 rfl rfl) (.gw 117 (Y.load sh3 rfl rfl rfl rfl) (.gw 117 (Y.neq rfl rfl) ?_))
 refine .gw 117 (Y.move rfl rfl) ?_
 refine AOps.splitD (d := 121) rfl (fun c121 => ?_) (fun c121 => ?_)
 refine .gz 121 (.gz 121 (.gz 121 ?_))
 refine .gz 121 (.gz 121 (.gz 121 ?_))
 refine .gz 121 (.gz 121 (.gw 117 (Y.pick rfl rfl rfl) ?_))
 refine .pk ?_
 refine .an ?_
 refine AOps.nil (AWp.ret ?_)
 exact .rb rfl (dt (by (simp only [Shaped, c77, Int.reduceEq, Bool.not_eq_true, false_and, true_and, and_true, and_false, or_false, false_or, ne_eq]) <;> (first | omega | grind)))
 refine .gw 121 (Y.fieldAddr fl27_5 rfl rfl) (.gw 121 (Y.load sh25 rfl rfl rfl rfl) (.gw 121 (Y.fieldAddr fl39_5 rfl rfl) ?_))
 refine .gw 121 (Y.load sh3 rfl rfl rfl rfl) ?_
 refine .gw 121 (Y.indexF (m := (c.mem).toNat) sl25 rfl rfl (by omega) (row_getD (d := default) (by omega))) ?_
 refine .gw 121 (Y.fieldAddr fl83_2 rfl rfl) (.gw 121 (Y.load sh4 rfl rfl rfl rfl) (.gw 121 (Y.not rfl) ?_))
 refine .gw 117 (Y.pick rfl rfl rfl) ?_
 refine .pk ?_
 refine .an ?_
 refine AOps.nil (AWp.ret ?_)
 exact .rb rfl (db (by (simp only [Shaped, c77, Int.reduceEq, Bool.not_eq_true, false_and, true_and, and_true, and_false, or_false, false_or, ne_eq]) <;> (first | omega | grind)))
 refine .gz 117 (.gz 117 (.gz 117 ?_))
 refine .gz 117 (.gz 121 (.gz 121 ?_))
 refine .gz 121 (.gz 121 (.gz 121 ?_))
 refine .gz 121 (.gz 121 (.gz 121 ?_))
 refine .gz 117 ?_
 refine .pk ?_
 refine .an ?_
 refine AOps.nil (AWp.ret ?_)
 exact .rb rfl (df (by (simp only [Shaped, c77, Int.reduceEq, Bool.not_eq_true, false_and, true_and, and_true, and_false, or_false, false_or, ne_eq]) <;> (first | omega | grind)))
 refine .gz 111 (.gz 111 (.gz 111 ?_))
 refine .gz 111 ?_
 refine .pk ?_
 refine .mv ?_
 refine .gz 117 (.gz 117 (.gz 117 ?_))
 refine .gz 117 (.gz 121 (.gz 121 ?_))
 refine .gz 121 (.gz 121 (.gz 121 ?_))
 refine .gz 121 (.gz 121 (.gz 121 ?_))
 refine .gz 117 ?_
 refine .pk ?_
 refine .an ?_
 refine AOps.nil (AWp.ret ?_)
 exact .rb rfl (df (by (simp only [Shaped, c77, Int.reduceEq, Bool.not_eq_true, false_and, true_and, and_true, and_false, or_false, false_or, ne_eq]) <;> (first | omega | grind)))
 refine AWp.sr ?_
 refine .an ?_
 refine AOps.nil (AWp.ret ?_)
 exact .rb rfl (df (by (simp only [Shaped, c11, c13, c22, c34, c36, c58, c63, c68, c77, c77, Int.reduceEq, Bool.not_eq_true, false_and, true_and, and_true, and_false, or_false, false_or, ne_eq]) <;> (first | omega | grind)))
end Go.Proofs.Ytligpghohcfpnaa
/- Walks through the searches of slices. -/
namespace Go.Proofs.Ytligpghohcfpnaa
open Go Go.AW Go.Proofs
theorem indexFuncInt_spec {l : List Int} {p : Int → Bool} {g : Nat} {row : List X} (hl : l.length ≤ 17592186043904) (hok : callOK Try.prog g = true) (hg : ∀ z ∈ l, ACalls Try.prog g [vi z, .fp row 0] [] [] (fun r o => r = .v (.bool (p z)) ∧ o = [])) : ACalls Try.prog 123 [.fz 1 (l.map irow), .clo (.func g) [] [.fp row 0]] [] [] (fun r o => r = (vi (idxF p l)) ∧ o = []) := by
 refine ACalls.of Try.func123 rfl rfl rfl (n := 19) (by decide) (Nat.le_of_ble_eq_true rfl) (AWp.sr ?_)
 refine .an ?_
 refine AOps.nil (AWp.seq (AWp.sr ?_))
 refine .mv ?_
 refine .vl (Y.len (n := l.length) sl22 rfl (congrArg some (List.length_map ..))) ?_
 refine .mv ?_
 refine AOps.nil (AWp.block ?_)
 refine AWp.loop1 (fun (n8_2 : Nat) => ⟨[(0, .fz 1 (l.map irow)), (1, .clo (.func g) [] [.fp row 0]), (7, vi ((l.length : Nat) : Int)), (8, vi (n8_2 : Int))], []⟩) (fun (n8_2 : Nat) => ((n8_2 : Int) ≤ ((l.length : Nat) : Int)) ∧ (∀ j, j < n8_2 → p (l.getD j 0) = false)) (fun (n8_2 : Nat) => (((l.length : Nat) : Int) - (n8_2 : Int)).toNat) 0 (⟨by omega, fun j hj => by omega⟩) (Le.mk (.c (.c (.c (.cons (look_int rfl (by first | rfl | omega)) (.nil))))) (.nil)) (fun n8_2 hI2 => ?_)
 obtain ⟨hb2, h0⟩ := hI2
 refine AWp.sr (.vl (Y.lss rfl rfl) (AOps.nil ?_))
 refine AWp.seq ?_
 refine AWp.condD rfl (fun c9 => ?_) (fun c9 => ?_)
 refine AWp.skip (AWp.seq (AWp.block ?_))
 refine AWp.sr ?_
 refine .mv ?_
 refine .an ?_
 refine AOps.nil (AWp.sr ?_)
 refine .mv ?_
 refine .mv ?_
 refine .mv ?_
 refine .vl (Y.indexF (m := n8_2) sl22 rfl rfl (by first | rfl | omega) (row_getD (d := 0) (by omega))) ?_
 refine .ld sh3 ?_
 refine AOps.callCP rfl hok (hg _ (getD_mem' (by omega))) rfl (.keep rfl rfl (.keep rfl rfl .nil)) (by decide) rfl (AOps.nil ?_)
 refine AWp.cond rfl (fun c16 => ?_) (fun c16 => ?_)
 refine AWp.sr ?_
 refine .mv ?_
 refine .an ?_
 refine AOps.nil (AWp.ret ?_)
 exact .ri rfl (idxF_found h0 (by omega) c16)
 refine AWp.skip (AWp.region ?_)
 refine .vl (Y.addI rfl rfl (by omega)) ?_
 refine .mv ?_
 refine AOps.nil ?_
 exact ⟨n8_2 + 1, ⟨by omega, below_false h0 c16⟩, by omega, Le.mk (.c (.c (.c (.cons (look_int rfl (by first | rfl | omega)) (.nil))))) (.nil)⟩
 refine AWp.exit (AWp.sr ?_)
 refine .an ?_
 refine AOps.nil (AWp.ret ?_)
 exact .ri rfl (idxF_none (fun j hj => h0 j (by omega)))
theorem containsFuncInt_spec {l : List Int} {p : Int → Bool} {g : Nat} {row : List X} (hl : l.length ≤ 17592186043904) (hok : callOK Try.prog g = true) (hg : ∀ z ∈ l, ACalls Try.prog g [vi z, .fp row 0] [] [] (fun r o => r = .v (.bool (p z)) ∧ o = [])) : ACalls Try.prog 95 [.fz 1 (l.map irow), .clo (.func g) [] [.fp row 0]] [] [] (fun r o => r = .v (.bool (l.any p)) ∧ o = []) := by
 refine ACalls.of Try.func95 rfl rfl rfl (n := 9) (by decide) (Nat.le_of_ble_eq_true rfl) (AWp.sr ?_)
 refine .an ?_
 refine AOps.nil (AWp.sr ?_)
 refine .mv ?_
 refine .mv ?_
 refine AOps.callP ok123 (indexFuncInt_spec (l := l) hl hok hg) rfl (.keep rfl rfl (.keep rfl rfl .nil)) (by decide) rfl (.vl (Y.geq rfl rfl) ?_)
 refine .an ?_
 refine AOps.nil (AWp.ret ?_)
 exact .rb rfl (idxF_any)
theorem indexFuncCell_spec {l : List Cell} {p : Cell → Bool} {g : Nat} {row : List X} (hl : l.length ≤ 17592186043904) (hok : callOK Try.prog g = true) (hg : ∀ z ∈ l, ACalls Try.prog g [.agg (Cell.row z), .fp row 0] [] [] (fun r o => r = .v (.bool (p z)) ∧ o = [])) : ACalls Try.prog 126 [.fz 6 (l.map Cell.row), .clo (.func g) [] [.fp row 0]] [] [] (fun r o => r = (vi (idxF p l)) ∧ o = []) := by
 refine ACalls.of Try.func126 rfl rfl rfl (n := 19) (by decide) (Nat.le_of_ble_eq_true rfl) (AWp.sr ?_)
 refine .an ?_
 refine AOps.nil (AWp.seq (AWp.sr ?_))
 refine .mv ?_
 refine .vl (Y.len (n := l.length) sl23 rfl (congrArg some (List.length_map ..))) ?_
 refine .mv ?_
 refine AOps.nil (AWp.block ?_)
 refine AWp.loop1 (fun (n8_2 : Nat) => ⟨[(0, .fz 6 (l.map Cell.row)), (1, .clo (.func g) [] [.fp row 0]), (7, vi ((l.length : Nat) : Int)), (8, vi (n8_2 : Int))], []⟩) (fun (n8_2 : Nat) => ((n8_2 : Int) ≤ ((l.length : Nat) : Int)) ∧ (∀ j, j < n8_2 → p (l.getD j default) = false)) (fun (n8_2 : Nat) => (((l.length : Nat) : Int) - (n8_2 : Int)).toNat) 0 (⟨by omega, fun j hj => by omega⟩) (Le.mk (.c (.c (.c (.cons (look_int rfl (by first | rfl | omega)) (.nil))))) (.nil)) (fun n8_2 hI2 => ?_)
 obtain ⟨hb2, h0⟩ := hI2
 refine AWp.sr (.vl (Y.lss rfl rfl) (AOps.nil ?_))
 refine AWp.seq ?_
 refine AWp.condD rfl (fun c9 => ?_) (fun c9 => ?_)
 refine AWp.skip (AWp.seq (AWp.block ?_))
 refine AWp.sr ?_
 refine .mv ?_
 refine .an ?_
 refine AOps.nil (AWp.sr ?_)
 refine .mv ?_
 refine .mv ?_
 refine .mv ?_
 refine .vl (Y.indexF (m := n8_2) sl23 rfl rfl (by first | rfl | omega) (row_getD (d := default) (by omega))) ?_
 refine .vl (Y.loadA sh39 rfl rfl (Nat.le_of_ble_eq_true rfl) rfl rfl) (AOps.callCP rfl hok (hg _ (getD_mem' (by omega))) rfl (.keep rfl rfl (.keep rfl rfl .nil)) (by decide) rfl (AOps.nil ?_))
 refine AWp.cond rfl (fun c16 => ?_) (fun c16 => ?_)
 refine AWp.sr ?_
 refine .mv ?_
 refine .an ?_
 refine AOps.nil (AWp.ret ?_)
 exact .ri rfl (idxF_found h0 (by omega) c16)
 refine AWp.skip (AWp.region ?_)
 refine .vl (Y.addI rfl rfl (by omega)) ?_
 refine .mv ?_
 refine AOps.nil ?_
 exact ⟨n8_2 + 1, ⟨by omega, below_false h0 c16⟩, by omega, Le.mk (.c (.c (.c (.cons (look_int rfl (by first | rfl | omega)) (.nil))))) (.nil)⟩
 refine AWp.exit (AWp.sr ?_)
 refine .an ?_
 refine AOps.nil (AWp.ret ?_)
 exact .ri rfl (idxF_none (fun j hj => h0 j (by omega)))
theorem containsFuncCell_spec {l : List Cell} {p : Cell → Bool} {g : Nat} {row : List X} (hl : l.length ≤ 17592186043904) (hok : callOK Try.prog g = true) (hg : ∀ z ∈ l, ACalls Try.prog g [.agg (Cell.row z), .fp row 0] [] [] (fun r o => r = .v (.bool (p z)) ∧ o = [])) : ACalls Try.prog 100 [.fz 6 (l.map Cell.row), .clo (.func g) [] [.fp row 0]] [] [] (fun r o => r = .v (.bool (l.any p)) ∧ o = []) := by
 refine ACalls.of Try.func100 rfl rfl rfl (n := 9) (by decide) (Nat.le_of_ble_eq_true rfl) (AWp.sr ?_)
 refine .an ?_
 refine AOps.nil (AWp.sr ?_)
 refine .mv ?_
 refine .mv ?_
 refine AOps.callP ok126 (indexFuncCell_spec (l := l) hl hok hg) rfl (.keep rfl rfl (.keep rfl rfl .nil)) (by decide) rfl (.vl (Y.geq rfl rfl) ?_)
 refine .an ?_
 refine AOps.nil (AWp.ret ?_)
 exact .rb rfl (idxF_any)
theorem indexBool_spec {l : List Bool} {b : Bool} (hl : l.length ≤ 140737488351232) : ACalls Try.prog 125 [.fz 1 (l.map brow), .v (.bool b)] [] [] (fun r o => r = (vi (idxF (fun x => b == x) l)) ∧ o = []) := by
 refine ACalls.of Try.func125 rfl rfl rfl (n := 19) (by decide) (Nat.le_of_ble_eq_true rfl) (AWp.sr ?_)
 refine .an ?_
 refine AOps.nil (AWp.seq (AWp.sr ?_))
 refine .mv ?_
 refine .vl (Y.len (n := l.length) sl63 rfl (congrArg some (List.length_map ..))) ?_
 refine .mv ?_
 refine AOps.nil (AWp.block ?_)
 refine AWp.loop1 (fun (n8_2 : Nat) => ⟨[(0, .fz 1 (l.map brow)), (1, .v (.bool b)), (7, vi ((l.length : Nat) : Int)), (8, vi (n8_2 : Int))], []⟩) (fun (n8_2 : Nat) => ((n8_2 : Int) ≤ ((l.length : Nat) : Int)) ∧ (∀ j, j < n8_2 → (fun x => b == x) (l.getD j false) = false)) (fun (n8_2 : Nat) => (((l.length : Nat) : Int) - (n8_2 : Int)).toNat) 0 (⟨by omega, fun j hj => by omega⟩) (Le.mk (.c (.c (.c (.cons (look_int rfl (by first | rfl | omega)) (.nil))))) (.nil)) (fun n8_2 hI2 => ?_)
 obtain ⟨hb2, h0⟩ := hI2
 refine AWp.sr (.vl (Y.lss rfl rfl) (AOps.nil ?_))
 refine AWp.seq ?_
 refine AWp.condD rfl (fun c9 => ?_) (fun c9 => ?_)
 refine AWp.skip (AWp.seq (AWp.block ?_))
 refine AWp.sr ?_
 refine .mv ?_
 refine .an ?_
 refine AOps.nil (AWp.sr ?_)
 refine .mv ?_
 refine .mv ?_
 refine .mv ?_
 refine .vl (Y.indexF (m := n8_2) sl63 rfl rfl (by first | rfl | omega) (row_getD (d := false) (by omega))) ?_
 refine .ld sh4 ?_
 refine .vl (Y.eqlB un4 rfl rfl) (AOps.nil ?_)
 refine AWp.cond rfl (fun c16 => ?_) (fun c16 => ?_)
 refine AWp.sr ?_
 refine .mv ?_
 refine .an ?_
 refine AOps.nil (AWp.ret ?_)
 exact .ri rfl (idxF_found (d := false) h0 (by omega) c16)
 refine AWp.skip (AWp.region ?_)
 refine .vl (Y.addI rfl rfl (by omega)) ?_
 refine .mv ?_
 refine AOps.nil ?_
 exact ⟨n8_2 + 1, ⟨by omega, below_false h0 c16⟩, by omega, Le.mk (.c (.c (.c (.cons (look_int rfl (by first | rfl | omega)) (.nil))))) (.nil)⟩
 refine AWp.exit (AWp.sr ?_)
 refine .an ?_
 refine AOps.nil (AWp.ret ?_)
 exact .ri rfl (idxF_none (d := false) (fun j hj => h0 j (by omega)))
theorem containsBool_spec {l : List Bool} {b : Bool} (hl : l.length ≤ 140737488351232) : ACalls Try.prog 99 [.fz 1 (l.map brow), .v (.bool b)] [] [] (fun r o => r = .v (.bool (l.any (fun x => b == x))) ∧ o = []) := by
 refine ACalls.of Try.func99 rfl rfl rfl (n := 9) (by decide) (Nat.le_of_ble_eq_true rfl) (AWp.sr ?_)
 refine .an ?_
 refine AOps.nil (AWp.sr ?_)
 refine .mv ?_
 refine .mv ?_
 refine AOps.callP ok125 (indexBool_spec (l := l) (b := b) ((by omega))) rfl (.keep rfl rfl (.keep rfl rfl .nil)) (by decide) rfl ?_
 refine .vl (Y.geq rfl rfl) ?_
 refine .an ?_
 refine AOps.nil (AWp.ret ?_)
 exact .rb rfl (idxF_any)
end Go.Proofs.Ytligpghohcfpnaa
