/- Walks through small functions of words. -/
import Derived.Test.YtligpghohcfpnaaNetx0
set_option linter.unusedSimpArgs false
set_option linter.unusedVariables false
set_option linter.unusedSectionVars false
namespace Go.Proofs.Ytligpghohcfpnaa
open Go Go.AW Go.Proofs



set_option maxHeartbeats 1000000 in
theorem lim127_spec {w : Int} : ACalls Try.prog 127 [.v (.int .i64 w)] [] [] (fun r o => r = .v (.int .i64 ((limN w : Nat) : Int)) ∧ o = []) := by
 refine ACalls.of Try.func127 rfl rfl rfl (n := 6) (by decide) (Nat.le_of_ble_eq_true rfl) ?_
 refine AWp.sr ?_
 refine .vl (Y.assign rfl rfl) ?_
 refine AOps.nil ?_
 refine AWp.sr ?_
 refine .vl (Y.move rfl rfl) ?_
 refine .vl (Y.max rfl rfl rfl) ?_
 refine .vl (Y.min rfl rfl rfl) ?_
 refine .vl (Y.assign rfl rfl) ?_
 refine AOps.nil ?_
 refine AWp.ret ?_
 exact ⟨_, _, rfl, rfl, (cg1 (fun (z0 : Int) => X.v (.int .i64 z0)) (by unfold limN; (repeat' split) <;> omega : (if 64 < (if 0 > w then 0 else w) then 64 else (if 0 > w then 0 else w)) = ((limN w : Nat) : Int)) : X.v (.int .i64 (if 64 < (if 0 > w then 0 else w) then 64 else (if 0 > w then 0 else w))) = X.v (.int .i64 ((limN w : Nat) : Int))), rfl⟩

set_option maxHeartbeats 1000000 in
theorem lim104_spec {w : Int} : ACalls Try.prog 104 [.v (.int .i64 w)] [] [] (fun r o => r = .v (.int .i64 ((limN w : Nat) : Int)) ∧ o = []) := by
 refine ACalls.of Try.func104 rfl rfl rfl (n := 6) (by decide) (Nat.le_of_ble_eq_true rfl) ?_
 refine AWp.sr ?_
 refine .vl (Y.assign rfl rfl) ?_
 refine AOps.nil ?_
 refine AWp.sr ?_
 refine .vl (Y.move rfl rfl) ?_
 refine .vl (Y.max rfl rfl rfl) ?_
 refine .vl (Y.min rfl rfl rfl) ?_
 refine .vl (Y.assign rfl rfl) ?_
 refine AOps.nil ?_
 refine AWp.ret ?_
 exact ⟨_, _, rfl, rfl, (cg1 (fun (z0 : Int) => X.v (.int .i64 z0)) (by unfold limN; (repeat' split) <;> omega : (if 64 < (if 0 > w then 0 else w) then 64 else (if 0 > w then 0 else w)) = ((limN w : Nat) : Int)) : X.v (.int .i64 (if 64 < (if 0 > w then 0 else w) then 64 else (if 0 > w then 0 else w))) = X.v (.int .i64 ((limN w : Nat) : Int))), rfl⟩

set_option maxHeartbeats 1000000 in
theorem mask_spec {w : Int} : ACalls Try.prog 103 [.v (.int .i64 w)] [] [] (fun r o => r = .v (.int .u64 ((2 ^ limN w - 1 : Nat) : Int)) ∧ o = []) := by
 refine ACalls.of Try.func103 rfl rfl rfl (n := 10) (by decide) (Nat.le_of_ble_eq_true rfl) ?_
 have hl := limN_le w
 refine AWp.sr ?_
 refine .vl (Y.assign rfl rfl) ?_
 refine AOps.nil ?_
 refine AWp.seq ?_
 refine AWp.sr ?_
 refine .vl (Y.move rfl rfl) ?_
 refine AOps.callP ok127 (lim127_spec (w := w)) rfl (.keep rfl rfl .nil) (by decide) rfl ?_
 refine .vl (Y.assign rfl rfl) ?_
 refine AOps.nil ?_
 refine AWp.sr ?_
 refine .vl (Y.move rfl rfl) ?_
 refine .vl (Y.eql rfl rfl) ?_
 refine AOps.nil ?_
 refine AWp.condD rfl (fun c6 => ?_) (fun c6 => ?_)
 refine AWp.sr ?_
 refine .vl (Y.assign rfl rfl) ?_
 refine AOps.nil ?_
 refine AWp.ret ?_
 exact ⟨_, _, rfl, rfl, (cg1 (fun (z0 : Int) => X.v (.int .u64 z0)) (by rw [show limN w = 0 by omega]; rfl : 0 = ((2 ^ limN w - 1 : Nat) : Int)) : X.v (.int .u64 0) = X.v (.int .u64 ((2 ^ limN w - 1 : Nat) : Int))), rfl⟩
 refine AWp.skip ?_
 refine AWp.sr ?_
 refine .vl (Y.move rfl rfl) ?_
 refine .vl (Y.subI rfl rfl (by first | omega | simp [-List.getD_eq_getElem?_getD] <;> omega)) ?_
 refine .vl (Y.shrN (a := 18446744073709551615) ((64 - ((limN w : Nat) : Int)).toNat) rfl rfl (by first | omega | simp [-List.getD_eq_getElem?_getD] <;> omega) (by first | omega | simp [-List.getD_eq_getElem?_getD] <;> omega)) ?_
 refine .vl (Y.assign rfl rfl) ?_
 refine AOps.nil ?_
 refine AWp.ret ?_
 exact ⟨_, _, rfl, rfl, (cg1 (fun (z0 : Int) => X.v (.int .u64 z0)) (by rw [show ((64 : Int) - ((limN w : Nat) : Int)).toNat = 64 - limN w by omega, mask_eq] : ((18446744073709551615 / 2 ^ ((64 - ((limN w : Nat) : Int)).toNat) : Nat) : Int) = ((2 ^ limN w - 1 : Nat) : Int)) : X.v (.int .u64 ((18446744073709551615 / 2 ^ ((64 - ((limN w : Nat) : Int)).toNat) : Nat) : Int)) = X.v (.int .u64 ((2 ^ limN w - 1 : Nat) : Int))), rfl⟩

set_option maxHeartbeats 1000000 in
theorem bfit_spec {w : Int} {x : Nat} (hx : x < 18446744073709551616) : ACalls Try.prog 65 [.v (.int .i64 w), .v (.int .u64 (x : Int))] [] [] (fun r o => r = .v (.int .u64 ((fitN w x : Nat) : Int)) ∧ o = []) := by
 refine ACalls.of Try.func65 rfl rfl rfl (n := 9) (by decide) (Nat.le_of_ble_eq_true rfl) ?_
 have hm := mask_lt w
 refine AWp.sr ?_
 refine .vl (Y.assign rfl rfl) ?_
 refine AOps.nil ?_
 refine AWp.sr ?_
 refine .vl (Y.move rfl rfl) ?_
 refine .vl (Y.move rfl rfl) ?_
 refine AOps.callP ok103 (mask_spec (w := w)) rfl (.keep rfl rfl .nil) (by decide) rfl ?_
 refine .vl (Y.andN (a := x) (b := (2 ^ limN w - 1)) rfl rfl (by first | omega | simp [-List.getD_eq_getElem?_getD] <;> omega)) ?_
 refine .vl (Y.assign rfl rfl) ?_
 refine AOps.nil ?_
 refine AWp.ret ?_
 exact ⟨_, _, rfl, rfl, (cg1 (fun (z0 : Int) => X.v (.int .u64 z0)) (by rw [fitN_and] : ((x &&& (2 ^ limN w - 1) : Nat) : Int) = ((fitN w x : Nat) : Int)) : X.v (.int .u64 ((x &&& (2 ^ limN w - 1) : Nat) : Int)) = X.v (.int .u64 ((fitN w x : Nat) : Int))), rfl⟩

set_option maxHeartbeats 1000000 in
theorem isCompare_spec {w : Int} : ACalls Try.prog 74 [.v (.int .i64 w)] [] [] (fun r o => r = .v (.bool (decide (Cmp w))) ∧ o = []) := by
 refine ACalls.of Try.func74 rfl rfl rfl (n := 9) (by decide) (Nat.le_of_ble_eq_true rfl) ?_
 refine AWp.sr ?_
 refine .vl (Y.assign rfl rfl) ?_
 refine AOps.nil ?_
 refine AWp.sr ?_
 refine .vl (Y.move rfl rfl) ?_
 refine .vl (Y.geq rfl rfl) ?_
 refine .vl (Y.move rfl rfl) ?_
 refine AOps.splitD (d := 5) rfl (fun c5 => ?_) (fun c5 => ?_)
 refine .gv 5 rfl rfl (Y.move rfl rfl) ?_
 refine .gv 5 rfl rfl (Y.leq rfl rfl) ?_
 refine .vl (Y.pick rfl rfl rfl) ?_
 refine .vl (Y.assign rfl rfl) ?_
 refine AOps.nil ?_
 refine AWp.ret ?_
 exact ⟨_, _, rfl, rfl, (cg1 (fun (z0 : Bool) => X.v (.bool z0)) (dd (by (simp only [Cmp]) <;> (first | omega | grind)) : (decide (w ≤ 20)) = decide (Cmp w)) : X.v (.bool (decide (w ≤ 20))) = X.v (.bool (decide (Cmp w)))), rfl⟩
 refine .gs 5 rfl rfl rfl ?_
 refine .gs 5 rfl rfl rfl ?_
 refine .vl (Y.pick rfl rfl rfl) ?_
 refine .vl (Y.assign rfl rfl) ?_
 refine AOps.nil ?_
 refine AWp.ret ?_
 exact ⟨_, _, rfl, rfl, (cg1 (fun (z0 : Bool) => X.v (.bool z0)) (df (by (simp only [Cmp]) <;> (first | omega | grind)) : false = decide (Cmp w)) : X.v (.bool false) = X.v (.bool (decide (Cmp w)))), rfl⟩

set_option maxHeartbeats 1000000 in
theorem refIsCompare_spec {w : Int} : ACalls Try.prog 77 [.v (.int .i64 w)] [] [] (fun r o => r = .v (.bool (decide (Cmp w))) ∧ o = []) := by
 refine ACalls.of Try.func77 rfl rfl rfl (n := 9) (by decide) (Nat.le_of_ble_eq_true rfl) ?_
 refine AWp.sr ?_
 refine .vl (Y.assign rfl rfl) ?_
 refine AOps.nil ?_
 refine AWp.sr ?_
 refine .vl (Y.move rfl rfl) ?_
 refine .vl (Y.geq rfl rfl) ?_
 refine .vl (Y.move rfl rfl) ?_
 refine AOps.splitD (d := 5) rfl (fun c5 => ?_) (fun c5 => ?_)
 refine .gv 5 rfl rfl (Y.move rfl rfl) ?_
 refine .gv 5 rfl rfl (Y.leq rfl rfl) ?_
 refine .vl (Y.pick rfl rfl rfl) ?_
 refine .vl (Y.assign rfl rfl) ?_
 refine AOps.nil ?_
 refine AWp.ret ?_
 exact ⟨_, _, rfl, rfl, (cg1 (fun (z0 : Bool) => X.v (.bool z0)) (dd (by (simp only [Cmp]) <;> (first | omega | grind)) : (decide (w ≤ 20)) = decide (Cmp w)) : X.v (.bool (decide (w ≤ 20))) = X.v (.bool (decide (Cmp w)))), rfl⟩
 refine .gs 5 rfl rfl rfl ?_
 refine .gs 5 rfl rfl rfl ?_
 refine .vl (Y.pick rfl rfl rfl) ?_
 refine .vl (Y.assign rfl rfl) ?_
 refine AOps.nil ?_
 refine AWp.ret ?_
 exact ⟨_, _, rfl, rfl, (cg1 (fun (z0 : Bool) => X.v (.bool z0)) (df (by (simp only [Cmp]) <;> (first | omega | grind)) : false = decide (Cmp w)) : X.v (.bool false) = X.v (.bool (decide (Cmp w)))), rfl⟩

set_option maxHeartbeats 1000000 in
theorem unary_spec {w : Int} : ACalls Try.prog 118 [.v (.int .i64 w)] [] [] (fun r o => r = .v (.bool (decide (Unary w))) ∧ o = []) := by
 refine ACalls.of Try.func118 rfl rfl rfl (n := 13) (by decide) (Nat.le_of_ble_eq_true rfl) ?_
 refine AWp.sr ?_
 refine .vl (Y.assign rfl rfl) ?_
 refine AOps.nil ?_
 refine AWp.sr ?_
 refine .vl (Y.move rfl rfl) ?_
 refine .vl (Y.eql rfl rfl) ?_
 refine .vl (Y.move rfl rfl) ?_
 refine AOps.splitD (d := 5) rfl (fun c5 => ?_) (fun c5 => ?_)
 refine .gs 5 rfl rfl rfl ?_
 refine .gs 5 rfl rfl rfl ?_
 refine .vl (Y.pick rfl rfl rfl) ?_
 refine .vl (Y.move rfl rfl) ?_
 refine .gs 9 rfl rfl rfl ?_
 refine .gs 9 rfl rfl rfl ?_
 refine .vl (Y.pick rfl rfl rfl) ?_
 refine .vl (Y.assign rfl rfl) ?_
 refine AOps.nil ?_
 refine AWp.ret ?_
 exact ⟨_, _, rfl, rfl, (cg1 (fun (z0 : Bool) => X.v (.bool z0)) (dt (by (simp only [Unary]) <;> (first | omega | grind)) : true = decide (Unary w)) : X.v (.bool true) = X.v (.bool (decide (Unary w)))), rfl⟩
 refine .gv 5 rfl rfl (Y.move rfl rfl) ?_
 refine .gv 5 rfl rfl (Y.eql rfl rfl) ?_
 refine .vl (Y.pick rfl rfl rfl) ?_
 refine .vl (Y.move rfl rfl) ?_
 refine AOps.splitD (d := 9) rfl (fun c9 => ?_) (fun c9 => ?_)
 refine .gs 9 rfl rfl rfl ?_
 refine .gs 9 rfl rfl rfl ?_
 refine .vl (Y.pick rfl rfl rfl) ?_
 refine .vl (Y.assign rfl rfl) ?_
 refine AOps.nil ?_
 refine AWp.ret ?_
 exact ⟨_, _, rfl, rfl, (cg1 (fun (z0 : Bool) => X.v (.bool z0)) (dt (by (simp only [Unary]) <;> (first | omega | grind)) : true = decide (Unary w)) : X.v (.bool true) = X.v (.bool (decide (Unary w)))), rfl⟩
 refine .gv 9 rfl rfl (Y.move rfl rfl) ?_
 refine .gv 9 rfl rfl (Y.eql rfl rfl) ?_
 refine .vl (Y.pick rfl rfl rfl) ?_
 refine .vl (Y.assign rfl rfl) ?_
 refine AOps.nil ?_
 refine AWp.ret ?_
 exact ⟨_, _, rfl, rfl, (cg1 (fun (z0 : Bool) => X.v (.bool z0)) (dd (by (simp only [Unary]) <;> (first | omega | grind)) : (decide (w = 24)) = decide (Unary w)) : X.v (.bool (decide (w = 24))) = X.v (.bool (decide (Unary w)))), rfl⟩

set_option maxHeartbeats 1000000 in
theorem comb_spec {w : Int} : ACalls Try.prog 21 [.v (.int .i64 w)] [] [] (fun r o => r = .v (.bool (decide (Comb w))) ∧ o = []) := by
 refine ACalls.of Try.func21 rfl rfl rfl (n := 13) (by decide) (Nat.le_of_ble_eq_true rfl) ?_
 refine AWp.sr ?_
 refine .vl (Y.assign rfl rfl) ?_
 refine AOps.nil ?_
 refine AWp.sr ?_
 refine .vl (Y.move rfl rfl) ?_
 refine .vl (Y.eql rfl rfl) ?_
 refine .vl (Y.move rfl rfl) ?_
 refine AOps.splitD (d := 5) rfl (fun c5 => ?_) (fun c5 => ?_)
 refine .gs 5 rfl rfl rfl ?_
 refine .gs 5 rfl rfl rfl ?_
 refine .vl (Y.pick rfl rfl rfl) ?_
 refine .vl (Y.move rfl rfl) ?_
 refine .gs 9 rfl rfl rfl ?_
 refine .gs 9 rfl rfl rfl ?_
 refine .vl (Y.pick rfl rfl rfl) ?_
 refine .vl (Y.assign rfl rfl) ?_
 refine AOps.nil ?_
 refine AWp.ret ?_
 exact ⟨_, _, rfl, rfl, (cg1 (fun (z0 : Bool) => X.v (.bool z0)) (dt (by (simp only [Comb]) <;> (first | omega | grind)) : true = decide (Comb w)) : X.v (.bool true) = X.v (.bool (decide (Comb w)))), rfl⟩
 refine .gv 5 rfl rfl (Y.move rfl rfl) ?_
 refine .gv 5 rfl rfl (Y.eql rfl rfl) ?_
 refine .vl (Y.pick rfl rfl rfl) ?_
 refine .vl (Y.move rfl rfl) ?_
 refine AOps.splitD (d := 9) rfl (fun c9 => ?_) (fun c9 => ?_)
 refine .gs 9 rfl rfl rfl ?_
 refine .gs 9 rfl rfl rfl ?_
 refine .vl (Y.pick rfl rfl rfl) ?_
 refine .vl (Y.assign rfl rfl) ?_
 refine AOps.nil ?_
 refine AWp.ret ?_
 exact ⟨_, _, rfl, rfl, (cg1 (fun (z0 : Bool) => X.v (.bool z0)) (dt (by (simp only [Comb]) <;> (first | omega | grind)) : true = decide (Comb w)) : X.v (.bool true) = X.v (.bool (decide (Comb w)))), rfl⟩
 refine .gv 9 rfl rfl (Y.move rfl rfl) ?_
 refine .gv 9 rfl rfl (Y.eql rfl rfl) ?_
 refine .vl (Y.pick rfl rfl rfl) ?_
 refine .vl (Y.assign rfl rfl) ?_
 refine AOps.nil ?_
 refine AWp.ret ?_
 exact ⟨_, _, rfl, rfl, (cg1 (fun (z0 : Bool) => X.v (.bool z0)) (dd (by (simp only [Comb]) <;> (first | omega | grind)) : (decide (w = 3)) = decide (Comb w)) : X.v (.bool (decide (w = 3))) = X.v (.bool (decide (Comb w)))), rfl⟩

set_option maxHeartbeats 1000000 in
theorem refComb_spec {w : Int} : ACalls Try.prog 22 [.v (.int .i64 w)] [] [] (fun r o => r = .v (.bool (decide (Comb w))) ∧ o = []) := by
 refine ACalls.of Try.func22 rfl rfl rfl (n := 13) (by decide) (Nat.le_of_ble_eq_true rfl) ?_
 refine AWp.sr ?_
 refine .vl (Y.assign rfl rfl) ?_
 refine AOps.nil ?_
 refine AWp.sr ?_
 refine .vl (Y.move rfl rfl) ?_
 refine .vl (Y.eql rfl rfl) ?_
 refine .vl (Y.move rfl rfl) ?_
 refine AOps.splitD (d := 5) rfl (fun c5 => ?_) (fun c5 => ?_)
 refine .gs 5 rfl rfl rfl ?_
 refine .gs 5 rfl rfl rfl ?_
 refine .vl (Y.pick rfl rfl rfl) ?_
 refine .vl (Y.move rfl rfl) ?_
 refine .gs 9 rfl rfl rfl ?_
 refine .gs 9 rfl rfl rfl ?_
 refine .vl (Y.pick rfl rfl rfl) ?_
 refine .vl (Y.assign rfl rfl) ?_
 refine AOps.nil ?_
 refine AWp.ret ?_
 exact ⟨_, _, rfl, rfl, (cg1 (fun (z0 : Bool) => X.v (.bool z0)) (dt (by (simp only [Comb]) <;> (first | omega | grind)) : true = decide (Comb w)) : X.v (.bool true) = X.v (.bool (decide (Comb w)))), rfl⟩
 refine .gv 5 rfl rfl (Y.move rfl rfl) ?_
 refine .gv 5 rfl rfl (Y.eql rfl rfl) ?_
 refine .vl (Y.pick rfl rfl rfl) ?_
 refine .vl (Y.move rfl rfl) ?_
 refine AOps.splitD (d := 9) rfl (fun c9 => ?_) (fun c9 => ?_)
 refine .gs 9 rfl rfl rfl ?_
 refine .gs 9 rfl rfl rfl ?_
 refine .vl (Y.pick rfl rfl rfl) ?_
 refine .vl (Y.assign rfl rfl) ?_
 refine AOps.nil ?_
 refine AWp.ret ?_
 exact ⟨_, _, rfl, rfl, (cg1 (fun (z0 : Bool) => X.v (.bool z0)) (dt (by (simp only [Comb]) <;> (first | omega | grind)) : true = decide (Comb w)) : X.v (.bool true) = X.v (.bool (decide (Comb w)))), rfl⟩
 refine .gv 9 rfl rfl (Y.move rfl rfl) ?_
 refine .gv 9 rfl rfl (Y.eql rfl rfl) ?_
 refine .vl (Y.pick rfl rfl rfl) ?_
 refine .vl (Y.assign rfl rfl) ?_
 refine AOps.nil ?_
 refine AWp.ret ?_
 exact ⟨_, _, rfl, rfl, (cg1 (fun (z0 : Bool) => X.v (.bool z0)) (dd (by (simp only [Comb]) <;> (first | omega | grind)) : (decide (w = 3)) = decide (Comb w)) : X.v (.bool (decide (w = 3))) = X.v (.bool (decide (Comb w)))), rfl⟩

set_option maxHeartbeats 1000000 in
theorem within_spec {i n : Int} : ACalls Try.prog 59 [.v (.int .i64 i), .v (.int .i64 n)] [] [] (fun r o => r = .v (.bool (decide (In i n))) ∧ o = []) := by
 refine ACalls.of Try.func59 rfl rfl rfl (n := 12) (by decide) (Nat.le_of_ble_eq_true rfl) ?_
 refine AWp.sr ?_
 refine .vl (Y.assign rfl rfl) ?_
 refine AOps.nil ?_
 refine AWp.sr ?_
 refine .vl (Y.move rfl rfl) ?_
 refine .vl (Y.geq rfl rfl) ?_
 refine .vl (Y.move rfl rfl) ?_
 refine AOps.splitD (d := 7) rfl (fun c7 => ?_) (fun c7 => ?_)
 refine .gv 7 rfl rfl (Y.move rfl rfl) ?_
 refine .gv 7 rfl rfl (Y.move rfl rfl) ?_
 refine .gv 7 rfl rfl (Y.lss rfl rfl) ?_
 refine .vl (Y.pick rfl rfl rfl) ?_
 refine .vl (Y.assign rfl rfl) ?_
 refine AOps.nil ?_
 refine AWp.ret ?_
 exact ⟨_, _, rfl, rfl, (cg1 (fun (z0 : Bool) => X.v (.bool z0)) (dd (by (simp only [In]) <;> (first | omega | grind)) : (decide (i < n)) = decide (In i n)) : X.v (.bool (decide (i < n))) = X.v (.bool (decide (In i n)))), rfl⟩
 refine .gs 7 rfl rfl rfl ?_
 refine .gs 7 rfl rfl rfl ?_
 refine .gs 7 rfl rfl rfl ?_
 refine .vl (Y.pick rfl rfl rfl) ?_
 refine .vl (Y.assign rfl rfl) ?_
 refine AOps.nil ?_
 refine AWp.ret ?_
 exact ⟨_, _, rfl, rfl, (cg1 (fun (z0 : Bool) => X.v (.bool z0)) (df (by (simp only [In]) <;> (first | omega | grind)) : false = decide (In i n)) : X.v (.bool false) = X.v (.bool (decide (In i n)))), rfl⟩

end Go.Proofs.Ytligpghohcfpnaa
/- Walks through the specification of words. -/
namespace Go.Proofs.Ytligpghohcfpnaa
open Go Go.AW Go.Proofs



set_option maxHeartbeats 1000000 in
theorem bits_spec {w : Int} {x : Nat} (hx : x < 18446744073709551616) : ACalls Try.prog 67 [.v (.int .i64 w), .v (.int .u64 ((x : Nat) : Int))] [] [] (fun r o => r = .uni 1 ((bitsN (limN w) x).map irow) ∧ o = []) := by
 refine ACalls.of Try.func67 rfl rfl rfl (n := 22) (by decide) (Nat.le_of_ble_eq_true rfl) ?_
 have hl := limN_le w
 refine AWp.sr ?_
 refine .vl (Y.assign rfl rfl) ?_
 refine AOps.nil ?_
 refine AWp.sr ?_
 refine .vl (Y.assign rfl rfl) ?_
 refine AOps.sh (Sh.nil (d := 5) 105 1 rfl (by decide)) ?_
 refine AOps.nil ?_
 refine AWp.seq ?_
 refine AWp.sr ?_
 refine .vl (Y.assign rfl rfl) ?_
 refine AOps.nil ?_
 refine AWp.block ?_
 refine AWp.loop3 (fun (x1_3 : Nat) (i6_3 : Nat) (out5_3 : List Int) => ⟨[(0, .v (.int .i64 w)), (1, .v (.int .u64 (x1_3 : Int))), (5, .slc 105 1 0 out5_3.length), (6, .v (.int .i64 (i6_3 : Int)))], [(105, .rows 1 (out5_3.map irow))]⟩) (fun (x1_3 : Nat) (i6_3 : Nat) (out5_3 : List Int) => ((i6_3 : Int) ≤ ((limN w : Nat) : Int)) ∧ (out5_3.length = i6_3) ∧ (out5_3 = bitsN i6_3 x) ∧ (x1_3 = x / 2 ^ i6_3) ∧ (x1_3 < 18446744073709551616)) (fun (x1_3 : Nat) (i6_3 : Nat) (out5_3 : List Int) => (((limN w : Nat) : Int) - (i6_3 : Int)).toNat) x 0 ([] : List Int) (⟨by first | omega | (simp [-List.getD_eq_getElem?_getD]; done) | (simp [-List.getD_eq_getElem?_getD]; omega), rfl, rfl, by simp, hx⟩) (Le.mk (SubL.cons rfl (SubL.cons (look_int rfl (by first | rfl | omega)) (SubL.cons (look_slc rfl (by first | omega | simp [-List.getD_eq_getElem?_getD] <;> omega)) (SubL.cons (look_int rfl (by first | rfl | omega)) (SubL.nil))))) (SubL.cons rfl (SubL.nil))) (fun x1_3 i6_3 out5_3 hI3 => ?_)
 obtain ⟨hb3, hlen, hb, hv, hm⟩ := hI3
 refine AWp.seq ?_
 refine AWp.sr ?_
 refine .vl (Y.move rfl rfl) ?_
 refine .vl (Y.move rfl rfl) ?_
 refine AOps.callP ok104 (lim104_spec (w := w)) rfl (.keep rfl rfl .nil) (by decide) rfl ?_
 refine .vl (Y.lss rfl rfl) ?_
 refine AOps.nil ?_
 refine AWp.condD rfl (fun c10 => ?_) (fun c10 => ?_)
 refine AWp.skip ?_
 refine AWp.seq ?_
 refine AWp.block ?_
 refine AWp.sr ?_
 refine .vl (Y.move rfl rfl) ?_
 refine .vl (Y.move rfl rfl) ?_
 refine .vl (Y.remN (a := x1_3) (b := 2) rfl rfl (by first | omega | simp [-List.getD_eq_getElem?_getD] <;> omega)) ?_
 refine .vl (Y.convK ii37 ii3 rfl (by first | rfl | exact IntWalk.i64_in _ (by first | omega | simp [-List.getD_eq_getElem?_getD] <;> omega))) ?_
 refine AOps.buildSlice (([((x1_3 % 2 : Nat) : Int)] : List Int).map irow) sl22 ze3 rfl rfl rfl rfl rfl (uniform_map (s := 1) (f := irow) (fun _ => rfl)) rfl rfl rfl (by decide) ?_
 refine AOps.appendE ((out5_3 ++ ([((x1_3 % 2 : Nat) : Int)] : List Int)).map irow) (out5_3 ++ ([((x1_3 % 2 : Nat) : Int)] : List Int)).length sl22 ze3 rfl rfl rfl rfl (app_le (by first | omega | simp [-List.getD_eq_getElem?_getD] <;> omega)) (app_map (by first | omega | simp [-List.getD_eq_getElem?_getD] <;> omega)) (app_n (by first | omega | simp [-List.getD_eq_getElem?_getD] <;> omega)) (by first | omega | simp [-List.getD_eq_getElem?_getD] <;> omega) (by first | omega | simp [-List.getD_eq_getElem?_getD] <;> omega) (by decide) (by decide) ?_
 refine .vl (Y.assign rfl rfl) ?_
 refine AOps.nil ?_
 refine AWp.region ?_
 refine .vl (Y.move rfl rfl) ?_
 refine .vl (Y.quoN (a := x1_3) (b := 2) rfl rfl (by first | omega | simp [-List.getD_eq_getElem?_getD] <;> omega)) ?_
 refine .vl (Y.assign rfl rfl) ?_
 refine AOps.nil ?_
 refine AWp.region ?_
 refine .vl (Y.move rfl rfl) ?_
 refine .vl (Y.addI rfl rfl (by first | omega | simp [-List.getD_eq_getElem?_getD] <;> omega)) ?_
 refine .vl (Y.assign rfl rfl) ?_
 refine AOps.nil ?_
 exact ⟨x1_3 / 2, i6_3 + 1, out5_3 ++ ([((x1_3 % 2 : Nat) : Int)] : List Int), ⟨by first | omega | (simp [-List.getD_eq_getElem?_getD]; done) | (simp [-List.getD_eq_getElem?_getD]; omega), by simp; omega, by rw [hb, bitsN_succ, hv], by rw [hv, Nat.div_div_eq_div_mul, Nat.pow_succ], by omega⟩, by omega, Le.mk (SubL.cons rfl (SubL.cons (look_int rfl (by first | rfl | omega)) (SubL.cons (look_slc rfl (by first | omega | simp [-List.getD_eq_getElem?_getD] <;> omega)) (SubL.cons (look_int rfl (by first | rfl | omega)) (SubL.nil))))) (SubL.cons rfl (SubL.nil))⟩
 refine AWp.exit ?_
 refine AWp.sr ?_
 refine .vl (Y.move rfl rfl) ?_
 refine .vl (Y.assign rfl rfl) ?_
 refine AOps.sh (Sh.detach (d := 4) (o := 105) rfl rfl (len_map (by first | omega | simp [-List.getD_eq_getElem?_getD] <;> omega)) (by decide)) ?_
 refine AOps.nil ?_
 refine AWp.ret ?_
 exact ⟨_, _, rfl, rfl, (cg1 (fun (z0 : List Int) => X.uni 1 (z0.map irow)) (by rw [hb, show i6_3 = limN w by omega] : out5_3 = bitsN (limN w) x) : X.uni 1 (out5_3.map irow) = X.uni 1 ((bitsN (limN w) x).map irow)), rfl⟩

set_option maxHeartbeats 1000000 in
theorem word_spec {l : List Int} (h1 : ∀ b ∈ l, 0 ≤ b ∧ b ≤ 1) (h2 : l.length ≤ 64) : ACalls Try.prog 66 [.fz 1 (l.map irow)] [] [] (fun r o => r = .v (.int .u64 ((wordN l : Nat) : Int)) ∧ o = []) := by
 refine ACalls.of Try.func66 rfl rfl rfl (n := 21) (by decide) (Nat.le_of_ble_eq_true rfl) ?_
 refine AWp.sr ?_
 refine .vl (Y.assign rfl rfl) ?_
 refine AOps.nil ?_
 refine AWp.sr ?_
 refine .vl (Y.assign rfl rfl) ?_
 refine AOps.nil ?_
 refine AWp.seq ?_
 refine AWp.sr ?_
 refine .vl (Y.move rfl rfl) ?_
 refine .vl (Y.len (n := l.length) sl22 rfl (congrArg some (List.length_map ..))) ?_
 refine .vl (Y.subI rfl rfl (by first | omega | simp [-List.getD_eq_getElem?_getD] <;> omega)) ?_
 refine .vl (Y.assign rfl rfl) ?_
 refine AOps.nil ?_
 refine AWp.block ?_
 refine AWp.loop2 (fun (x3_3 : Nat) (i4_3 : Int) => ⟨[(0, .fz 1 (l.map irow)), (3, .v (.int .u64 (x3_3 : Int))), (4, .v (.int .i64 i4_3))], []⟩) (fun (x3_3 : Nat) (i4_3 : Int) => (-1 ≤ i4_3 ∧ i4_3 < (l.length : Int)) ∧ (x3_3 = wordN (l.drop (i4_3 + 1).toNat))) (fun (x3_3 : Nat) (i4_3 : Int) => (i4_3 + 1).toNat) 0 (((l.length : Nat) : Int) - 1) (⟨by omega, by rw [List.drop_eq_nil_of_le (by omega)]; rfl⟩) (Le.mk (SubL.cons rfl (SubL.cons (look_int rfl (by first | rfl | omega)) (SubL.cons (look_int rfl (by first | rfl | omega)) (SubL.nil)))) (SubL.nil)) (fun x3_3 i4_3 hI3 => ?_)
 obtain ⟨hi, hx⟩ := hI3
 refine AWp.seq ?_
 refine AWp.sr ?_
 refine .vl (Y.move rfl rfl) ?_
 refine .vl (Y.geq rfl rfl) ?_
 refine AOps.nil ?_
 refine AWp.condD rfl (fun c9 => ?_) (fun c9 => ?_)
 refine AWp.skip ?_
 refine AWp.seq ?_
 refine AWp.block ?_
 refine AWp.region ?_
 refine .vl (Y.move rfl rfl) ?_
 refine .vl (Y.mulN (a := 2) (b := x3_3) rfl rfl) ?_
 refine .vl (Y.move rfl rfl) ?_
 refine .vl (Y.move rfl rfl) ?_
 refine .vl (Y.indexF (m := (i4_3).toNat) sl22 rfl rfl (by first | omega | simp [-List.getD_eq_getElem?_getD] <;> omega) (row_getD (d := 0) (by first | omega | simp [-List.getD_eq_getElem?_getD] <;> omega))) ?_
 have hb := h1 _ (getD_mem (l := l) (i := i4_3.toNat) (by omega))
 refine .vl (Y.load sh3 rfl rfl rfl rfl) ?_
 refine .vl (Y.conv ii3 ii37 rfl (u64_toNat _ (by first | omega | simp [-List.getD_eq_getElem?_getD] <;> omega))) ?_
 refine .vl (Y.addN (a := ((2 * x3_3) % 18446744073709551616)) (b := ((l.getD ((i4_3).toNat) 0).toNat)) rfl rfl) ?_
 refine .vl (Y.assign rfl rfl) ?_
 refine AOps.nil ?_
 refine AWp.region ?_
 refine .vl (Y.move rfl rfl) ?_
 refine .vl (Y.subI rfl rfl (by first | omega | simp [-List.getD_eq_getElem?_getD] <;> omega)) ?_
 refine .vl (Y.assign rfl rfl) ?_
 refine AOps.nil ?_
 exact ⟨(((2 * x3_3) % 18446744073709551616) + ((l.getD ((i4_3).toNat) 0).toNat)) % 18446744073709551616, i4_3 - 1, ⟨by omega, word_step h1 h2 (by omega) hx⟩, by omega, Le.mk (SubL.cons rfl (SubL.cons (look_int rfl (by first | rfl | omega)) (SubL.cons (look_int rfl (by first | rfl | omega)) (SubL.nil)))) (SubL.nil)⟩
 refine AWp.exit ?_
 refine AWp.sr ?_
 refine .vl (Y.move rfl rfl) ?_
 refine .vl (Y.assign rfl rfl) ?_
 refine AOps.nil ?_
 refine AWp.ret ?_
 exact ⟨_, _, rfl, rfl, (cg1 (fun (z0 : Int) => X.v (.int .u64 z0)) (by rw [hx, show (i4_3 + 1).toNat = 0 by omega, List.drop_zero] : (x3_3 : Int) = ((wordN l : Nat) : Int)) : X.v (.int .u64 (x3_3 : Int)) = X.v (.int .u64 ((wordN l : Nat) : Int))), rfl⟩

set_option maxHeartbeats 1000000 in
theorem rfit_spec {w : Int} {x : Nat} (hx : x < 18446744073709551616) : ACalls Try.prog 26 [.v (.int .i64 w), .v (.int .u64 ((x : Nat) : Int))] [] [] (fun r o => r = .v (.int .u64 ((fitN w x : Nat) : Int)) ∧ o = []) := by
 refine ACalls.of Try.func26 rfl rfl rfl (n := 9) (by decide) (Nat.le_of_ble_eq_true rfl) ?_
 refine AWp.sr ?_
 refine .vl (Y.assign rfl rfl) ?_
 refine AOps.nil ?_
 refine AWp.sr ?_
 refine .vl (Y.move rfl rfl) ?_
 refine .vl (Y.move rfl rfl) ?_
 refine AOps.callP ok67 (bits_spec (w := w) (x := x) ((by first | omega | simp [-List.getD_eq_getElem?_getD] <;> omega))) rfl (.keep rfl rfl (.keep rfl rfl .nil)) (by decide) rfl ?_
 refine AOps.sh (Sh.freezeE (d := 7) ((bitsN (limN w) x).map irow) rfl (by first | rfl | exact rep_map rfl) (Frees.map irow_frees)) ?_
 refine AOps.callP ok66 (word_spec (l := (bitsN (limN w) x)) (bitsN_01 _ _) (by rw [bitsN_len]; exact limN_le _)) rfl (.keep rfl rfl .nil) (by decide) rfl ?_
 refine .vl (Y.assign rfl rfl) ?_
 refine AOps.nil ?_
 refine AWp.ret ?_
 exact ⟨_, _, rfl, rfl, (cg1 (fun (z0 : Int) => X.v (.int .u64 z0)) (by rw [wordN_bits]; rfl : ((wordN (bitsN (limN w) x) : Nat) : Int) = ((fitN w x : Nat) : Int)) : X.v (.int .u64 ((wordN (bitsN (limN w) x) : Nat) : Int)) = X.v (.int .u64 ((fitN w x : Nat) : Int))), rfl⟩

end Go.Proofs.Ytligpghohcfpnaa
/- Walks through the widths of the specification. -/
namespace Go.Proofs.Ytligpghohcfpnaa
open Go Go.AW Go.Proofs



end Go.Proofs.Ytligpghohcfpnaa
/- Combinational cycles, by what is known, in plain Lean. -/
namespace Go.Proofs.Ytligpghohcfpnaa
open Go Go.AW

/-- Wires of other cells, when k cells have been seen. -/
def KN0 (n : Netlist) (k : Nat) (kn : List Bool) : Prop := ∀ w : Int, In w n.widths.length → (kn.getD w.toNat false = true ↔ ∃ j, Drives n j w ∧ j < k ∧ ¬ Comb (n.cell j).kind)
theorem KN0.init (n : Netlist) : KN0 n 0 (List.replicate n.widths.length false) := by
  intro w hw
  unfold In at hw
  rw [List.getD_eq_getElem?_getD, List.getElem?_replicate, if_pos (by omega)]
  exact ⟨fun h => (by cases h), fun ⟨j, h1, h2, _⟩ => (by have := h1.1; omega)⟩
theorem KN0.skip {n : Netlist} {k : Nat} {l : List Bool} (h : KN0 n k l) (hc : Comb (n.cells.getD k default).kind ∨ (n.cells.getD k default).kind = 7) : KN0 n (k + 1) l := by
  intro w hw
  rw [h w hw]
  constructor
  · rintro ⟨j, h1, h2, h3⟩; exact ⟨j, h1, by omega, h3⟩
  · rintro ⟨j, h1, h2, h3⟩
    refine ⟨j, h1, ?_, h3⟩
    rcases Int.lt_or_eq_of_le (show j ≤ k by omega) with h' | h'
    · exact h'
    · subst h'
      rcases hc with hc | hc
      · exact absurd hc h3
      · exact absurd hc h1.2.1
theorem KN0.step {n : Netlist} {k : Nat} {l : List Bool} (h : KN0 n k l) (hk : k < n.cells.length) (hl : l.length = n.widths.length) (hc : ¬ Comb (n.cells.getD k default).kind) (h7 : (n.cells.getD k default).kind ≠ 7) (ho : In (n.cells.getD k default).out n.widths.length) :
    KN0 n (k + 1) (l.set (n.cells.getD k default).out.toNat true) := by
  intro w hw
  unfold In at ho
  have hw' := hw
  unfold In at hw'
  rw [getD_set]
  by_cases e : (n.cells.getD k default).out = w
  · rw [if_pos ⟨by omega, by omega⟩]
    exact ⟨fun _ => ⟨(k : Int), ⟨⟨by omega, by omega⟩, h7, e⟩, by omega, hc⟩, fun _ => rfl⟩
  · rw [if_neg (by omega), h w hw]
    constructor
    · rintro ⟨j, h1, h2, h3⟩; exact ⟨j, h1, by omega, h3⟩
    · rintro ⟨j, h1, h2, h3⟩
      refine ⟨j, h1, ?_, h3⟩
      rcases Int.lt_or_eq_of_le (show j ≤ k by omega) with h' | h'
      · exact h'
      · subst h'; exact absurd h1.2.2 e
/-- When some combinational cells are done. -/
structure LD (n : Netlist) (done : List Int) (kn : List Bool) (left : Int) : Prop where
  nd : done.Nodup
  cm : ∀ x ∈ done, CombAt n x
  kn : ∀ w, In w n.widths.length → (kn.getD w.toNat false = true ↔ ¬ Open n done w)
  left : left = (n.cells.length : Int) - ((seqL n n.cells.length).length : Int) - (done.length : Int)
  topo : ∀ p i s, done = p ++ i :: s → need n p i = 0
section
variable {n : Netlist} (hf : Formed n)
include hf
theorem LD.init {kn : List Bool} (h : KN0 n n.cells.length kn) : LD n [] kn ((n.cells.length : Int) - ((seqL n n.cells.length).length : Int)) where
  nd := List.nodup_nil
  cm := fun _ h => (by cases h)
  kn := fun w hw => by
    rw [h w hw]
    constructor
    · rintro ⟨j, h1, h2, h3⟩ ⟨⟨i, hi, e⟩, _⟩
      have := hf.unique h1 (e ▸ hi.drives)
      subst this; exact h3 hi.2
    · intro ho
      obtain ⟨j, hj⟩ := hf.driver hw
      refine ⟨j, hj, by have := hj.1; omega, fun hc => ho ⟨⟨j, ⟨hj.1, hc⟩, hj.2.2⟩, fun _ h => (by cases h)⟩⟩
  left := by simp
  topo := fun p i s h => by simp at h
theorem LD.step {done : List Int} {kn : List Bool} {left i : Int} (h : LD n done kn left) (hl : kn.length = n.widths.length) (hi : CombAt n i) (hk : kn.getD (n.cell i).out.toNat false = false) (hz : need n done i = 0) :
    LD n (done ++ [i]) (kn.set (n.cell i).out.toNat true) (left - 1) := by
  have hio := hf.outIn hi.drives
  have hop : Open n done (n.cell i).out := Classical.byContradiction fun hh => by
    have := (h.kn _ hio).2 hh
    rw [hk] at this; cases this
  have hni : i ∉ done := fun hm => hop.2 i hm rfl
  refine ⟨?_, fun x hx => ?_, fun w hw => ?_, ?_, fun p j s e => ?_⟩
  · rw [List.nodup_append]
    exact ⟨h.nd, by simp, fun a ha b hb e => hni (by rw [← List.mem_singleton.1 hb, ← e]; exact ha)⟩
  · rcases List.mem_append.1 hx with hx | hx
    · exact h.cm x hx
    · rw [List.mem_singleton.1 hx]; exact hi
  · unfold In at hio
    have hw' := hw
    unfold In at hw'
    have ho : Open n (done ++ [i]) w ↔ Open n done w ∧ (n.cell i).out ≠ w := by
      constructor
      · rintro ⟨a, b⟩
        exact ⟨⟨a, fun j hj => b j (by simp [hj])⟩, b i (by simp)⟩
      · rintro ⟨⟨a, b⟩, c⟩
        refine ⟨a, fun j hj => ?_⟩
        rcases List.mem_append.1 hj with hj | hj
        · exact b j hj
        · rw [List.mem_singleton.1 hj]; exact c
    rw [getD_set, ho]
    by_cases e : (n.cell i).out = w
    · rw [if_pos ⟨by omega, by omega⟩]
      exact ⟨fun _ h => h.2 e, fun _ => rfl⟩
    · rw [if_neg (by omega), h.kn w hw]
      exact ⟨fun h1 h2 => h1 h2.1, fun h1 h2 => h1 ⟨h2, e⟩⟩
  · rw [h.left, List.length_append]; simp; omega
  · rcases List.eq_nil_or_concat s with rfl | ⟨s', x, rfl⟩
    · obtain ⟨rfl, e3⟩ := List.append_inj' (t₁ := [i]) (t₂ := [j]) e rfl
      cases e3
      exact hz
    · have e2 := List.append_inj' (s₁ := done) (s₂ := p ++ j :: s') (t₁ := [i]) (t₂ := [x]) (by rw [e]; simp) rfl
      exact h.topo p j s' e2.1
theorem LD.known {done : List Int} {kn : List Bool} {left : Int} (h : LD n done kn left) {i : Int} (hi : 0 ≤ i ∧ i < n.cells.length) : (∀ x ∈ (n.cell i).args, kn.getD x.toNat false = true) ↔ need n done i = 0 := by
  unfold need
  rw [List.countP_eq_zero]
  constructor
  · intro hh x hx ho
    exact (h.kn x (hf.argIn hi hx)).1 (hh x hx) (of_decide_eq_true ho)
  · intro hh x hx
    exact (h.kn x (hf.argIn hi hx)).2 (fun ho => hh x hx (decide_eq_true ho))
/-- Nothing can be done. -/
def Stuck (n : Netlist) (k : Int) (done : List Int) : Prop := ∀ i, CombAt n i → i < k → Open n done (n.cell i).out → need n done i ≠ 0
theorem LD.ki {done : List Int} {kn : List Bool} {left : Int} (h : LD n done kn left) (hs : Stuck n n.cells.length done) : KI n done [] ((List.range n.cells.length).map (fun (i : Nat) => (need n done (i : Int) : Int))) where
  nd := by simpa using h.nd
  cm := fun x hx => h.cm x (by simpa using hx)
  hrem := fun i hi => by
    have hb := hi.1
    rw [List.getD_eq_getElem?_getD, List.getElem?_map, List.getElem?_range (by omega)]
    simp only [Option.map_some, Option.getD_some]
    rw [show ((i.toNat : Nat) : Int) = i by omega]
  full := fun i hi => by
    rw [List.append_nil]
    constructor
    · intro hm
      obtain ⟨p, s, e⟩ := List.append_of_mem hm
      have := h.topo p i s e
      rw [need_zero] at this ⊢
      intro x hx hc
      obtain ⟨j, hj, e2⟩ := this x hx hc
      exact ⟨j, by rw [e]; simp [hj], e2⟩
    · intro hz
      refine Classical.byContradiction fun hn => hs i hi hi.1.2 ⟨⟨i, hi, rfl⟩, fun j hj e => hn ?_⟩ hz
      have := hf.unique (h.cm j hj).drives (e ▸ hi.drives)
      exact this ▸ hj
  topo := h.topo
end
theorem LD.pos {n : Netlist} {done : List Int} {kn : List Bool} {left : Int} (h : LD n done kn left) : 0 ≤ left ∧ left ≤ n.cells.length := by
  have hnd : (seqL n n.cells.length ++ done).Nodup := by
    rw [List.nodup_append]
    refine ⟨seqL_nodup _ _, h.nd, fun a ha b hb e => ?_⟩
    subst e
    exact (mem_seqL.1 ha).2 (h.cm a hb).2
  have := length_le_of_subset (m := (List.range n.cells.length).map (fun (i : Nat) => (i : Int))) hnd (fun x hx => by
    have hx' : 0 ≤ x ∧ x < n.cells.length := by
      rcases List.mem_append.1 hx with hx | hx
      · exact (mem_seqL.1 hx).1
      · exact (h.cm x hx).1
    exact List.mem_map.2 ⟨x.toNat, List.mem_range.2 (by omega), by omega⟩)
  rw [List.length_append, List.length_map, List.length_range] at this
  have hl := h.left
  omega
/-- A state within a round. -/
def Rnd (n : Netlist) (k left0 : Int) (kn : List Bool) (left : Int) (more : Bool) : Prop := ∃ done, LD n done kn left ∧ left ≤ left0 ∧ (more = true → left < left0) ∧ (more = false → Stuck n k done)
theorem Rnd.seq {n : Netlist} {k : Nat} {left0 left : Int} {kn : List Bool} {more : Bool} (h : Rnd n k left0 kn left more) (hc : ¬ Comb (n.cells.getD k default).kind) : Rnd n ((k + 1 : Nat) : Int) left0 kn left more := by
  obtain ⟨done, h1, h2, h3, h4⟩ := h
  refine ⟨done, h1, h2, h3, fun hm i hi h0 => h4 hm i hi (lt_succ_of hc hi h0)⟩
section
variable {n : Netlist} (hf : Formed n) {k : Nat} {left0 left : Int} {kn : List Bool} {more : Bool}
include hf
theorem Rnd.skip (h : Rnd n k left0 kn left more) (hk : k < n.cells.length) (hc : kn.getD (n.cells.getD k default).out.toNat false = true ∨ ¬ ∀ x ∈ (n.cells.getD k default).args, kn.getD x.toNat false = true) (hcm : Comb (n.cells.getD k default).kind) : Rnd n ((k + 1 : Nat) : Int) left0 kn left more := by
  obtain ⟨done, h1, h2, h3, h4⟩ := h
  have hi : CombAt n (k : Int) := ⟨⟨by omega, by omega⟩, hcm⟩
  refine ⟨done, h1, h2, h3, fun hm i hii h0 => ?_⟩
  by_cases e : i = k
  · subst e
    intro ho hz
    rcases hc with hc | hc
    · exact (h1.kn _ (hf.outIn hi.drives)).1 hc ho
    · exact hc ((h1.known hf hi.1).2 hz)
  · exact h4 hm i hii (by omega)
theorem Rnd.step (h : Rnd n k left0 kn left more) (hk : k < n.cells.length) (hl : kn.length = n.widths.length) (h1 : kn.getD (n.cells.getD k default).out.toNat false = false) (h2 : ∀ x ∈ (n.cells.getD k default).args, kn.getD x.toNat false = true) (hcm : Comb (n.cells.getD k default).kind) :
    Rnd n ((k + 1 : Nat) : Int) left0 (kn.set (n.cells.getD k default).out.toNat true) (left - 1) true := by
  obtain ⟨done, a1, a2, a3, a4⟩ := h
  have hi : CombAt n (k : Int) := ⟨⟨by omega, by omega⟩, hcm⟩
  refine ⟨done ++ [(k : Int)], a1.step hf hl hi h1 ((a1.known hf hi.1).1 h2), by omega, fun _ => by omega, fun h => (by cases h)⟩
end
theorem KN0.next {n : Netlist} (hf : Formed n) {k : Nat} {kn : List Bool} (h : KN0 n k kn) (hk : k < n.cells.length) (hl : kn.length = n.widths.length) :
    (¬ Comb (n.cells.getD k default).kind → 0 ≤ (n.cells.getD k default).out → KN0 n (k + 1) (kn.set (n.cells.getD k default).out.toNat true)) ∧ (Comb (n.cells.getD k default).kind → KN0 n (k + 1) kn ∧ 0 ≤ (n.cells.getD k default).out) ∧
    (¬ 0 ≤ (n.cells.getD k default).out → KN0 n (k + 1) kn) ∧ (0 ≤ (n.cells.getD k default).out → (n.cells.getD k default).out < n.widths.length) := by
  obtain ⟨_, _, a3, a4⟩ := hf.cells k hk
  refine ⟨fun hc ho => ?_, fun hc => ⟨h.skip (.inl hc), ?_⟩, fun ho => ?_, fun ho => ?_⟩
  · have h7 : (n.cells.getD k default).kind ≠ 7 := fun h7 => by have := a3 h7; omega
    exact h.step hk hl hc h7 (a4 h7)
  · have h7 : (n.cells.getD k default).kind ≠ 7 := fun h7 => by rw [h7] at hc; revert hc; unfold Comb; omega
    exact (a4 h7).1
  · have h7 : (n.cells.getD k default).kind = 7 := Classical.byContradiction fun h7 => ho (a4 h7).1
    exact h.skip (.inr h7)
  · have h7 : (n.cells.getD k default).kind ≠ 7 := fun h7 => by have := a3 h7; omega
    exact (a4 h7).2
end Go.Proofs.Ytligpghohcfpnaa
/- The empty netlist. -/
namespace Go.Proofs.Ytligpghohcfpnaa
open Go Go.AW
def emptyN : Netlist := ⟨ByteArray.empty, [], [], [], [], [], [], [], 0, 0, []⟩
theorem emptyN_small : emptyN.Small := ⟨by decide, by decide, by decide, fun _ h => (by cases h), by decide, fun _ h => (by cases h), fun _ h => (by cases h), fun _ h => (by cases h), by decide, by decide, by decide, by decide, by decide, by decide⟩
theorem emptyN_err : errOf emptyN = 3 := by
  unfold errOf
  rw [if_neg]
  intro h
  have := h.freeze
  unfold In emptyN at this
  simp at this
end Go.Proofs.Ytligpghohcfpnaa
/- The widths of the specification, whatever the kind. -/
namespace Go.Proofs.Ytligpghohcfpnaa
open Go Go.AW Go.Proofs
end Go.Proofs.Ytligpghohcfpnaa
/- Walk through shaped. -/
namespace Go.Proofs.Ytligpghohcfpnaa
open Go Go.AW Go.Proofs



set_option maxRecDepth 4000 in
set_option maxHeartbeats 1000000 in
theorem shaped_spec {n : Netlist} {c : Cell} (hs : n.Small) (hc : c.args.length ≤ 17592186043904) : ACalls Try.prog 98 [.agg (Netlist.row n), .agg (Cell.row c)] [] [] (fun r o => r = .v (.bool (decide (Shaped n c))) ∧ o = []) := by
 refine ACalls.of Try.func98 rfl rfl rfl (n := 132) (by decide) (Nat.le_of_ble_eq_true rfl) ?_
 have hs4 := hs.ins; have hs5 := hs.mems; have hs6 := hs.streams
 refine AWp.sr ?_
 refine AOps.box 102 rfl rfl rfl rfl rfl (by decide) ?_
 refine AOps.box 103 rfl rfl rfl rfl rfl (by decide) ?_
 refine .vl (Y.assign rfl rfl) ?_
 refine AOps.nil ?_
 refine AWp.sr ?_
 refine .vl (Y.assign rfl rfl) ?_
 refine .vl (Y.assign rfl rfl) ?_
 refine .vl (Y.assign rfl rfl) ?_
 refine .vl (Y.assign rfl rfl) ?_
 refine AOps.nil ?_
 refine AWp.seq ?_
 refine AWp.sr ?_
 refine .vl (Y.fieldAddr fl39_0 rfl rfl) ?_
 refine .vl (Y.load sh3 rfl rfl rfl rfl) ?_
 refine AOps.nil ?_
 refine AWp.block ?_
 refine AWp.sr ?_
 refine .vl (Y.eql rfl rfl) ?_
 refine .vl (Y.assign rfl rfl) ?_
 refine AOps.nil ?_
 refine AWp.condD rfl (fun c11 => ?_) (fun c11 => ?_)
 refine AWp.region ?_
 refine .vl (Y.assign rfl rfl) ?_
 refine AOps.nil ?_
 refine AWp.join0 (⟨[(2, .ptr 102 0 0 0), (3, .ptr 103 0 0 0), (8, .v (.int .i64 (-1)))], [(102, .cells (Netlist.row n)), (103, .cells (Cell.row c))]⟩) (((¬ (((c.args.length : Nat) : Int) ≠ 0)) ∧ (¬ (c.op ≠ 0)) ∧ (((c.num : Nat) : Int) ≠ 0)) ∨ ((¬ (((c.args.length : Nat) : Int) ≠ 0)) ∧ (¬ (c.op ≠ 0)) ∧ (¬ (((c.num : Nat) : Int) ≠ 0)))) ?_ (fun hJ33 => ?_)
 refine AWp.sr ?_
 refine .vl (Y.fieldAddr fl39_3 rfl rfl) ?_
 refine .vl (Y.load sh22 rfl rfl rfl rfl) ?_
 refine .vl (Y.len (n := c.args.length) sl22 rfl (congrArg some (List.length_map ..))) ?_
 refine .vl (Y.move rfl rfl) ?_
 refine .vl (Y.neq rfl rfl) ?_
 refine .vl (Y.move rfl rfl) ?_
 refine AOps.splitD (d := 88) rfl (fun c88 => ?_) (fun c88 => ?_)
 refine .gs 88 rfl rfl rfl ?_
 refine .gs 88 rfl rfl rfl ?_
 refine .gs 88 rfl rfl rfl ?_
 refine .gs 88 rfl rfl rfl ?_
 refine .vl (Y.pick rfl rfl rfl) ?_
 refine .vl (Y.move rfl rfl) ?_
 refine .gs 94 rfl rfl rfl ?_
 refine .gs 94 rfl rfl rfl ?_
 refine .gs 94 rfl rfl rfl ?_
 refine .gs 94 rfl rfl rfl ?_
 refine .gs 98 rfl rfl rfl ?_
 refine .gs 98 rfl rfl rfl ?_
 refine .gs 94 rfl rfl rfl ?_
 refine .vl (Y.pick rfl rfl rfl) ?_
 refine AOps.nil ?_
 refine AWp.condT rfl ?_
 refine AWp.sr ?_
 refine .vl (Y.assign rfl rfl) ?_
 refine AOps.nil ?_
 refine AWp.ret ?_
 exact ⟨_, _, rfl, rfl, (cg1 (fun (z0 : Bool) => X.v (.bool z0)) (df (by (simp only [Shaped, c11, Int.reduceEq, Bool.not_eq_true, false_and, true_and, and_true, and_false, or_false, false_or, ne_eq]) <;> (first | omega | grind)) : false = decide (Shaped n c)) : X.v (.bool false) = X.v (.bool (decide (Shaped n c)))), rfl⟩
 refine .gv 88 rfl rfl (Y.fieldAddr fl39_1 rfl rfl) ?_
 refine .gv 88 rfl rfl (Y.load sh3 rfl rfl rfl rfl) ?_
 refine .gv 88 rfl rfl (Y.move rfl rfl) ?_
 refine .gv 88 rfl rfl (Y.neq rfl rfl) ?_
 refine .vl (Y.pick rfl rfl rfl) ?_
 refine .vl (Y.move rfl rfl) ?_
 refine AOps.splitD (d := 94) rfl (fun c94 => ?_) (fun c94 => ?_)
 refine .gs 94 rfl rfl rfl ?_
 refine .gs 94 rfl rfl rfl ?_
 refine .gs 94 rfl rfl rfl ?_
 refine .gs 94 rfl rfl rfl ?_
 refine .gs 98 rfl rfl rfl ?_
 refine .gs 98 rfl rfl rfl ?_
 refine .gs 94 rfl rfl rfl ?_
 refine .vl (Y.pick rfl rfl rfl) ?_
 refine AOps.nil ?_
 refine AWp.condT rfl ?_
 refine AWp.sr ?_
 refine .vl (Y.assign rfl rfl) ?_
 refine AOps.nil ?_
 refine AWp.ret ?_
 exact ⟨_, _, rfl, rfl, (cg1 (fun (z0 : Bool) => X.v (.bool z0)) (df (by (simp only [Shaped, c11, Int.reduceEq, Bool.not_eq_true, false_and, true_and, and_true, and_false, or_false, false_or, ne_eq]) <;> (first | omega | grind)) : false = decide (Shaped n c)) : X.v (.bool false) = X.v (.bool (decide (Shaped n c)))), rfl⟩
 refine .gv 94 rfl rfl (Y.fieldAddr fl39_4 rfl rfl) ?_
 refine .gv 94 rfl rfl (Y.load sh37 rfl rfl rfl rfl) ?_
 refine .gv 94 rfl rfl (Y.neq rfl rfl) ?_
 refine .gv 94 rfl rfl (Y.move rfl rfl) ?_
 refine AOps.splitD (d := 98) rfl (fun c98 => ?_) (fun c98 => ?_)
 refine .gv 98 rfl rfl (Y.move rfl rfl) ?_
 refine .gv 98 rfl rfl (Y.not rfl) ?_
 refine .gv 94 rfl rfl (Y.pick rfl rfl rfl) ?_
 refine .vl (Y.pick rfl rfl rfl) ?_
 refine AOps.nil ?_
 refine AWp.condF rfl ?_
 refine AWp.skip ?_
 exact ⟨.inl ⟨c88, c94, c98⟩, Le.mk (SubL.cons rfl (SubL.cons rfl (SubL.cons rfl (SubL.nil)))) (SubL.cons rfl (SubL.cons rfl (SubL.nil)))⟩
 refine .gs 98 rfl rfl rfl ?_
 refine .gs 98 rfl rfl rfl ?_
 refine .gv 94 rfl rfl (Y.pick rfl rfl rfl) ?_
 refine .vl (Y.pick rfl rfl rfl) ?_
 refine AOps.nil ?_
 refine AWp.condF rfl ?_
 refine AWp.skip ?_
 exact ⟨.inr (⟨c88, c94, c98⟩), Le.mk (SubL.cons rfl (SubL.cons rfl (SubL.cons rfl (SubL.nil)))) (SubL.cons rfl (SubL.cons rfl (SubL.nil)))⟩
 refine AWp.seq ?_
 refine AWp.sr ?_
 refine .vl (Y.move rfl rfl) ?_
 refine .vl (Y.lss rfl rfl) ?_
 refine AOps.nil ?_
 refine AWp.condT rfl ?_
 refine AWp.sr ?_
 refine .vl (Y.fieldAddr fl39_5 rfl rfl) ?_
 refine .vl (Y.load sh3 rfl rfl rfl rfl) ?_
 refine .vl (Y.eql rfl rfl) ?_
 refine .vl (Y.assign rfl rfl) ?_
 refine AOps.nil ?_
 refine AWp.ret ?_
 exact ⟨_, _, rfl, rfl, (cg1 (fun (z0 : Bool) => X.v (.bool z0)) (dd (by (simp only [Shaped, c11, Int.reduceEq, Bool.not_eq_true, false_and, true_and, and_true, and_false, or_false, false_or, ne_eq]) <;> (first | omega | grind)) : (decide (c.mem = 0)) = decide (Shaped n c)) : X.v (.bool (decide (c.mem = 0))) = X.v (.bool (decide (Shaped n c)))), rfl⟩
 refine AWp.sr ?_
 refine .vl (Y.eql rfl rfl) ?_
 refine .vl (Y.assign rfl rfl) ?_
 refine AOps.nil ?_
 refine AWp.condD rfl (fun c13 => ?_) (fun c13 => ?_)
 refine AWp.seq ?_
 refine AWp.regionAny rfl ?_
 refine AAny.blind 0 rfl (by kernel_rfl) (Blind.fieldAddr fl39_1 rfl rfl) (by decide) ?_
 refine AAny.blind 3 rfl (by kernel_rfl) (Blind.fieldAddr fl39_1 rfl rfl) (by decide) ?_
 refine AAny.two 1 4 rfl rfl (by kernel_rfl) ?_ ?_
 refine .vl (Y.load sh3 rfl rfl rfl rfl) ?_
 refine AOps.nil ⟨rfl, ?_⟩
 refine AAny.two 2 4 rfl rfl (by kernel_rfl) ?_ ?_
 refine AOps.callP ok124 (operands_spec (op := c.op)) rfl (.keep rfl rfl .nil) (by decide) rfl ?_
 refine AOps.nil ⟨rfl, ?_⟩
 refine AAny.quietN (n := 0) [4, 5, 6] [] 0 rfl (by kernel_rfl) ?_
 refine .cn 4 rfl (Y.load sh3 rfl rfl rfl rfl) ?_
 refine .cn 5 rfl (Y.assign rfl rfl) ?_
 refine .cn 6 rfl (Y.assign rfl rfl) ?_
 refine AQ.nil ?_
 refine AAny.done (by kernel_rfl) ?_
 refine AWp.sr ?_
 refine .vl (Y.move rfl rfl) ?_
 refine .vl (Y.eql rfl rfl) ?_
 refine AOps.nil ?_
 refine AWp.condD rfl (fun c21 => ?_) (fun c21 => ?_)
 refine AWp.sr ?_
 refine .vl (Y.assign rfl rfl) ?_
 refine AOps.nil ?_
 refine AWp.ret ?_
 exact ⟨_, _, rfl, rfl, (cg1 (fun (z0 : Bool) => X.v (.bool z0)) (df (by (simp only [Shaped, c13, Int.reduceEq, Bool.not_eq_true, false_and, true_and, and_true, and_false, or_false, false_or, ne_eq]) <;> (first | omega | grind)) : false = decide (Shaped n c)) : X.v (.bool false) = X.v (.bool (decide (Shaped n c)))), rfl⟩
 refine AWp.skip ?_
 refine AWp.seq ?_
 refine AWp.sr ?_
 refine .vl (Y.fieldAddr fl39_3 rfl rfl) ?_
 refine .vl (Y.load sh22 rfl rfl rfl rfl) ?_
 refine .vl (Y.len (n := c.args.length) sl22 rfl (congrArg some (List.length_map ..))) ?_
 refine .vl (Y.move rfl rfl) ?_
 refine .vl (Y.neq rfl rfl) ?_
 refine .vl (Y.move rfl rfl) ?_
 refine AOps.splitD (d := 88) rfl (fun c88 => ?_) (fun c88 => ?_)
 refine .gs 88 rfl rfl rfl ?_
 refine .gs 88 rfl rfl rfl ?_
 refine .gs 88 rfl rfl rfl ?_
 refine .gs 88 rfl rfl rfl ?_
 refine .vl (Y.pick rfl rfl rfl) ?_
 refine .vl (Y.move rfl rfl) ?_
 refine .gs 94 rfl rfl rfl ?_
 refine .gs 94 rfl rfl rfl ?_
 refine .gs 94 rfl rfl rfl ?_
 refine .gs 94 rfl rfl rfl ?_
 refine .gs 98 rfl rfl rfl ?_
 refine .gs 98 rfl rfl rfl ?_
 refine .gs 94 rfl rfl rfl ?_
 refine .vl (Y.pick rfl rfl rfl) ?_
 refine AOps.nil ?_
 refine AWp.condT rfl ?_
 refine AWp.sr ?_
 refine .vl (Y.assign rfl rfl) ?_
 refine AOps.nil ?_
 refine AWp.ret ?_
 exact ⟨_, _, rfl, rfl, (cg1 (fun (z0 : Bool) => X.v (.bool z0)) (df (by (simp only [Shaped, c13, Int.reduceEq, Bool.not_eq_true, false_and, true_and, and_true, and_false, or_false, false_or, ne_eq]) <;> (first | omega | grind)) : false = decide (Shaped n c)) : X.v (.bool false) = X.v (.bool (decide (Shaped n c)))), rfl⟩
 refine .gv 88 rfl rfl (Y.fieldAddr fl39_1 rfl rfl) ?_
 refine .gv 88 rfl rfl (Y.load sh3 rfl rfl rfl rfl) ?_
 refine .gv 88 rfl rfl (Y.move rfl rfl) ?_
 refine .gv 88 rfl rfl (Y.neq rfl rfl) ?_
 refine .vl (Y.pick rfl rfl rfl) ?_
 refine .vl (Y.move rfl rfl) ?_
 refine AOps.splitD (d := 94) rfl (fun c94 => ?_) (fun c94 => ?_)
 refine .gs 94 rfl rfl rfl ?_
 refine .gs 94 rfl rfl rfl ?_
 refine .gs 94 rfl rfl rfl ?_
 refine .gs 94 rfl rfl rfl ?_
 refine .gs 98 rfl rfl rfl ?_
 refine .gs 98 rfl rfl rfl ?_
 refine .gs 94 rfl rfl rfl ?_
 refine .vl (Y.pick rfl rfl rfl) ?_
 refine AOps.nil ?_
 refine AWp.condT rfl ?_
 refine AWp.sr ?_
 refine .vl (Y.assign rfl rfl) ?_
 refine AOps.nil ?_
 refine AWp.ret ?_
 exact ⟨_, _, rfl, rfl, (cg1 (fun (z0 : Bool) => X.v (.bool z0)) (df (by (simp only [Shaped, c13, Int.reduceEq, Bool.not_eq_true, false_and, true_and, and_true, and_false, or_false, false_or, ne_eq]) <;> (first | omega | grind)) : false = decide (Shaped n c)) : X.v (.bool false) = X.v (.bool (decide (Shaped n c)))), rfl⟩
 refine .gv 94 rfl rfl (Y.fieldAddr fl39_4 rfl rfl) ?_
 refine .gv 94 rfl rfl (Y.load sh37 rfl rfl rfl rfl) ?_
 refine .gv 94 rfl rfl (Y.neq rfl rfl) ?_
 refine .gv 94 rfl rfl (Y.move rfl rfl) ?_
 refine AOps.splitD (d := 98) rfl (fun c98 => ?_) (fun c98 => ?_)
 refine .gv 98 rfl rfl (Y.move rfl rfl) ?_
 refine .gv 98 rfl rfl (Y.not rfl) ?_
 refine .gv 94 rfl rfl (Y.pick rfl rfl rfl) ?_
 refine .vl (Y.pick rfl rfl rfl) ?_
 refine AOps.nil ?_
 refine AWp.condT rfl ?_
 refine AWp.sr ?_
 refine .vl (Y.assign rfl rfl) ?_
 refine AOps.nil ?_
 refine AWp.ret ?_
 exact ⟨_, _, rfl, rfl, (cg1 (fun (z0 : Bool) => X.v (.bool z0)) (df (by (simp only [Shaped, c13, Int.reduceEq, Bool.not_eq_true, false_and, true_and, and_true, and_false, or_false, false_or, ne_eq]) <;> (first | omega | grind)) : false = decide (Shaped n c)) : X.v (.bool false) = X.v (.bool (decide (Shaped n c)))), rfl⟩
 refine .gs 98 rfl rfl rfl ?_
 refine .gs 98 rfl rfl rfl ?_
 refine .gv 94 rfl rfl (Y.pick rfl rfl rfl) ?_
 refine .vl (Y.pick rfl rfl rfl) ?_
 refine AOps.nil ?_
 refine AWp.condF rfl ?_
 refine AWp.skip ?_
 refine AWp.seq ?_
 refine AWp.sr ?_
 refine .vl (Y.move rfl rfl) ?_
 refine .vl (Y.lss rfl rfl) ?_
 refine AOps.nil ?_
 refine AWp.condT rfl ?_
 refine AWp.sr ?_
 refine .vl (Y.fieldAddr fl39_5 rfl rfl) ?_
 refine .vl (Y.load sh3 rfl rfl rfl rfl) ?_
 refine .vl (Y.eql rfl rfl) ?_
 refine .vl (Y.assign rfl rfl) ?_
 refine AOps.nil ?_
 refine AWp.ret ?_
 exact ⟨_, _, rfl, rfl, (cg1 (fun (z0 : Bool) => X.v (.bool z0)) (dd (by (simp only [Shaped, c13, Int.reduceEq, Bool.not_eq_true, false_and, true_and, and_true, and_false, or_false, false_or, ne_eq]) <;> (first | omega | grind)) : (decide (c.mem = 0)) = decide (Shaped n c)) : X.v (.bool (decide (c.mem = 0))) = X.v (.bool (decide (Shaped n c)))), rfl⟩
 refine .vl (Y.load sh3 rfl rfl rfl rfl) ?_
 refine AOps.nil ⟨rfl, ?_⟩
 refine AAny.one 2 rfl (by kernel_rfl) ?_
 refine AOps.callP ok124 (operands_spec (op := c.op)) rfl (.keep rfl rfl .nil) (by decide) rfl ?_
 refine AOps.nil ⟨rfl, ?_⟩
 refine AAny.quietN (n := 0) [5, 6] [] 0 rfl (by kernel_rfl) ?_
 refine .cn 5 rfl (Y.assign rfl rfl) ?_
 refine .cn 6 rfl (Y.assign rfl rfl) ?_
 refine AQ.nil ?_
 refine AAny.done (by kernel_rfl) ?_
 refine AWp.sr ?_
 refine .vl (Y.move rfl rfl) ?_
 refine .vl (Y.eql rfl rfl) ?_
 refine AOps.nil ?_
 refine AWp.condD rfl (fun c21 => ?_) (fun c21 => ?_)
 refine AWp.sr ?_
 refine .vl (Y.assign rfl rfl) ?_
 refine AOps.nil ?_
 refine AWp.ret ?_
 exact ⟨_, _, rfl, rfl, (cg1 (fun (z0 : Bool) => X.v (.bool z0)) (df (by (simp only [Shaped, c13, Int.reduceEq, Bool.not_eq_true, false_and, true_and, and_true, and_false, or_false, false_or, ne_eq]) <;> (first | omega | grind)) : false = decide (Shaped n c)) : X.v (.bool false) = X.v (.bool (decide (Shaped n c)))), rfl⟩
 refine AWp.skip ?_
 refine AWp.seq ?_
 refine AWp.sr ?_
 refine .vl (Y.fieldAddr fl39_3 rfl rfl) ?_
 refine .vl (Y.load sh22 rfl rfl rfl rfl) ?_
 refine .vl (Y.len (n := c.args.length) sl22 rfl (congrArg some (List.length_map ..))) ?_
 refine .vl (Y.move rfl rfl) ?_
 refine .vl (Y.neq rfl rfl) ?_
 refine .vl (Y.move rfl rfl) ?_
 refine AOps.splitD (d := 88) rfl (fun c88 => ?_) (fun c88 => ?_)
 refine .gs 88 rfl rfl rfl ?_
 refine .gs 88 rfl rfl rfl ?_
 refine .gs 88 rfl rfl rfl ?_
 refine .gs 88 rfl rfl rfl ?_
 refine .vl (Y.pick rfl rfl rfl) ?_
 refine .vl (Y.move rfl rfl) ?_
 refine .gs 94 rfl rfl rfl ?_
 refine .gs 94 rfl rfl rfl ?_
 refine .gs 94 rfl rfl rfl ?_
 refine .gs 94 rfl rfl rfl ?_
 refine .gs 98 rfl rfl rfl ?_
 refine .gs 98 rfl rfl rfl ?_
 refine .gs 94 rfl rfl rfl ?_
 refine .vl (Y.pick rfl rfl rfl) ?_
 refine AOps.nil ?_
 refine AWp.condT rfl ?_
 refine AWp.sr ?_
 refine .vl (Y.assign rfl rfl) ?_
 refine AOps.nil ?_
 refine AWp.ret ?_
 exact ⟨_, _, rfl, rfl, (cg1 (fun (z0 : Bool) => X.v (.bool z0)) (df (by (simp only [Shaped, c13, Int.reduceEq, Bool.not_eq_true, false_and, true_and, and_true, and_false, or_false, false_or, ne_eq]) <;> (first | omega | grind)) : false = decide (Shaped n c)) : X.v (.bool false) = X.v (.bool (decide (Shaped n c)))), rfl⟩
 refine .gv 88 rfl rfl (Y.fieldAddr fl39_1 rfl rfl) ?_
 refine .gv 88 rfl rfl (Y.load sh3 rfl rfl rfl rfl) ?_
 refine .gv 88 rfl rfl (Y.move rfl rfl) ?_
 refine .gv 88 rfl rfl (Y.neq rfl rfl) ?_
 refine .vl (Y.pick rfl rfl rfl) ?_
 refine .vl (Y.move rfl rfl) ?_
 refine AOps.splitD (d := 94) rfl (fun c94 => ?_) (fun c94 => ?_)
 refine .gs 94 rfl rfl rfl ?_
 refine .gs 94 rfl rfl rfl ?_
 refine .gs 94 rfl rfl rfl ?_
 refine .gs 94 rfl rfl rfl ?_
 refine .gs 98 rfl rfl rfl ?_
 refine .gs 98 rfl rfl rfl ?_
 refine .gs 94 rfl rfl rfl ?_
 refine .vl (Y.pick rfl rfl rfl) ?_
 refine AOps.nil ?_
 refine AWp.condT rfl ?_
 refine AWp.sr ?_
 refine .vl (Y.assign rfl rfl) ?_
 refine AOps.nil ?_
 refine AWp.ret ?_
 exact ⟨_, _, rfl, rfl, (cg1 (fun (z0 : Bool) => X.v (.bool z0)) (df (by (simp only [Shaped, c13, Int.reduceEq, Bool.not_eq_true, false_and, true_and, and_true, and_false, or_false, false_or, ne_eq]) <;> (first | omega | grind)) : false = decide (Shaped n c)) : X.v (.bool false) = X.v (.bool (decide (Shaped n c)))), rfl⟩
 refine .gv 94 rfl rfl (Y.fieldAddr fl39_4 rfl rfl) ?_
 refine .gv 94 rfl rfl (Y.load sh37 rfl rfl rfl rfl) ?_
 refine .gv 94 rfl rfl (Y.neq rfl rfl) ?_
 refine .gv 94 rfl rfl (Y.move rfl rfl) ?_
 refine AOps.splitD (d := 98) rfl (fun c98 => ?_) (fun c98 => ?_)
 refine .gv 98 rfl rfl (Y.move rfl rfl) ?_
 refine .gv 98 rfl rfl (Y.not rfl) ?_
 refine .gv 94 rfl rfl (Y.pick rfl rfl rfl) ?_
 refine .vl (Y.pick rfl rfl rfl) ?_
 refine AOps.nil ?_
 refine AWp.condT rfl ?_
 refine AWp.sr ?_
 refine .vl (Y.assign rfl rfl) ?_
 refine AOps.nil ?_
 refine AWp.ret ?_
 exact ⟨_, _, rfl, rfl, (cg1 (fun (z0 : Bool) => X.v (.bool z0)) (df (by (simp only [Shaped, c13, Int.reduceEq, Bool.not_eq_true, false_and, true_and, and_true, and_false, or_false, false_or, ne_eq]) <;> (first | omega | grind)) : false = decide (Shaped n c)) : X.v (.bool false) = X.v (.bool (decide (Shaped n c)))), rfl⟩
 refine .gs 98 rfl rfl rfl ?_
 refine .gs 98 rfl rfl rfl ?_
 refine .gv 94 rfl rfl (Y.pick rfl rfl rfl) ?_
 refine .vl (Y.pick rfl rfl rfl) ?_
 refine AOps.nil ?_
 refine AWp.condF rfl ?_
 refine AWp.skip ?_
 refine AWp.seq ?_
 refine AWp.sr ?_
 refine .vl (Y.move rfl rfl) ?_
 refine .vl (Y.lss rfl rfl) ?_
 refine AOps.nil ?_
 refine AWp.condT rfl ?_
 refine AWp.sr ?_
 refine .vl (Y.fieldAddr fl39_5 rfl rfl) ?_
 refine .vl (Y.load sh3 rfl rfl rfl rfl) ?_
 refine .vl (Y.eql rfl rfl) ?_
 refine .vl (Y.assign rfl rfl) ?_
 refine AOps.nil ?_
 refine AWp.ret ?_
 exact ⟨_, _, rfl, rfl, (cg1 (fun (z0 : Bool) => X.v (.bool z0)) (dd (by (simp only [Shaped, c13, Int.reduceEq, Bool.not_eq_true, false_and, true_and, and_true, and_false, or_false, false_or, ne_eq]) <;> (first | omega | grind)) : (decide (c.mem = 0)) = decide (Shaped n c)) : X.v (.bool (decide (c.mem = 0))) = X.v (.bool (decide (Shaped n c)))), rfl⟩
 refine .vl (Y.load sh3 rfl rfl rfl rfl) ?_
 refine AOps.nil ⟨rfl, ?_⟩
 refine AAny.quietN (n := 3) [1] [2, 5, 6] 2 rfl (by kernel_rfl) ?_
 refine .cn 1 rfl (Y.load sh3 rfl rfl rfl rfl) ?_
 refine AQ.nil ?_
 refine AAny.one 2 rfl (by kernel_rfl) ?_
 refine AOps.callP ok124 (operands_spec (op := c.op)) rfl (.keep rfl rfl .nil) (by decide) rfl ?_
 refine AOps.nil ⟨rfl, ?_⟩
 refine AAny.quietN (n := 0) [5, 6] [] 0 rfl (by kernel_rfl) ?_
 refine .cn 5 rfl (Y.assign rfl rfl) ?_
 refine .cn 6 rfl (Y.assign rfl rfl) ?_
 refine AQ.nil ?_
 refine AAny.done (by kernel_rfl) ?_
 refine AWp.sr ?_
 refine .vl (Y.move rfl rfl) ?_
 refine .vl (Y.eql rfl rfl) ?_
 refine AOps.nil ?_
 refine AWp.condD rfl (fun c21 => ?_) (fun c21 => ?_)
 refine AWp.sr ?_
 refine .vl (Y.assign rfl rfl) ?_
 refine AOps.nil ?_
 refine AWp.ret ?_
 exact ⟨_, _, rfl, rfl, (cg1 (fun (z0 : Bool) => X.v (.bool z0)) (df (by (simp only [Shaped, c13, Int.reduceEq, Bool.not_eq_true, false_and, true_and, and_true, and_false, or_false, false_or, ne_eq]) <;> (first | omega | grind)) : false = decide (Shaped n c)) : X.v (.bool false) = X.v (.bool (decide (Shaped n c)))), rfl⟩
 refine AWp.skip ?_
 refine AWp.seq ?_
 refine AWp.sr ?_
 refine .vl (Y.fieldAddr fl39_3 rfl rfl) ?_
 refine .vl (Y.load sh22 rfl rfl rfl rfl) ?_
 refine .vl (Y.len (n := c.args.length) sl22 rfl (congrArg some (List.length_map ..))) ?_
 refine .vl (Y.move rfl rfl) ?_
 refine .vl (Y.neq rfl rfl) ?_
 refine .vl (Y.move rfl rfl) ?_
 refine AOps.splitD (d := 88) rfl (fun c88 => ?_) (fun c88 => ?_)
 refine .gs 88 rfl rfl rfl ?_
 refine .gs 88 rfl rfl rfl ?_
 refine .gs 88 rfl rfl rfl ?_
 refine .gs 88 rfl rfl rfl ?_
 refine .vl (Y.pick rfl rfl rfl) ?_
 refine .vl (Y.move rfl rfl) ?_
 refine .gs 94 rfl rfl rfl ?_
 refine .gs 94 rfl rfl rfl ?_
 refine .gs 94 rfl rfl rfl ?_
 refine .gs 94 rfl rfl rfl ?_
 refine .gs 98 rfl rfl rfl ?_
 refine .gs 98 rfl rfl rfl ?_
 refine .gs 94 rfl rfl rfl ?_
 refine .vl (Y.pick rfl rfl rfl) ?_
 refine AOps.nil ?_
 refine AWp.condT rfl ?_
 refine AWp.sr ?_
 refine .vl (Y.assign rfl rfl) ?_
 refine AOps.nil ?_
 refine AWp.ret ?_
 exact ⟨_, _, rfl, rfl, (cg1 (fun (z0 : Bool) => X.v (.bool z0)) (df (by (simp only [Shaped, c13, Int.reduceEq, Bool.not_eq_true, false_and, true_and, and_true, and_false, or_false, false_or, ne_eq]) <;> (first | omega | grind)) : false = decide (Shaped n c)) : X.v (.bool false) = X.v (.bool (decide (Shaped n c)))), rfl⟩
 refine .gv 88 rfl rfl (Y.fieldAddr fl39_1 rfl rfl) ?_
 refine .gv 88 rfl rfl (Y.load sh3 rfl rfl rfl rfl) ?_
 refine .gv 88 rfl rfl (Y.move rfl rfl) ?_
 refine .gv 88 rfl rfl (Y.neq rfl rfl) ?_
 refine .vl (Y.pick rfl rfl rfl) ?_
 refine .vl (Y.move rfl rfl) ?_
 refine AOps.splitD (d := 94) rfl (fun c94 => ?_) (fun c94 => ?_)
 refine .gs 94 rfl rfl rfl ?_
 refine .gs 94 rfl rfl rfl ?_
 refine .gs 94 rfl rfl rfl ?_
 refine .gs 94 rfl rfl rfl ?_
 refine .gs 98 rfl rfl rfl ?_
 refine .gs 98 rfl rfl rfl ?_
 refine .gs 94 rfl rfl rfl ?_
 refine .vl (Y.pick rfl rfl rfl) ?_
 refine AOps.nil ?_
 refine AWp.condT rfl ?_
 refine AWp.sr ?_
 refine .vl (Y.assign rfl rfl) ?_
 refine AOps.nil ?_
 refine AWp.ret ?_
 exact ⟨_, _, rfl, rfl, (cg1 (fun (z0 : Bool) => X.v (.bool z0)) (df (by (simp only [Shaped, c13, Int.reduceEq, Bool.not_eq_true, false_and, true_and, and_true, and_false, or_false, false_or, ne_eq]) <;> (first | omega | grind)) : false = decide (Shaped n c)) : X.v (.bool false) = X.v (.bool (decide (Shaped n c)))), rfl⟩
 refine .gv 94 rfl rfl (Y.fieldAddr fl39_4 rfl rfl) ?_
 refine .gv 94 rfl rfl (Y.load sh37 rfl rfl rfl rfl) ?_
 refine .gv 94 rfl rfl (Y.neq rfl rfl) ?_
 refine .gv 94 rfl rfl (Y.move rfl rfl) ?_
 refine AOps.splitD (d := 98) rfl (fun c98 => ?_) (fun c98 => ?_)
 refine .gv 98 rfl rfl (Y.move rfl rfl) ?_
 refine .gv 98 rfl rfl (Y.not rfl) ?_
 refine .gv 94 rfl rfl (Y.pick rfl rfl rfl) ?_
 refine .vl (Y.pick rfl rfl rfl) ?_
 refine AOps.nil ?_
 refine AWp.condT rfl ?_
 refine AWp.sr ?_
 refine .vl (Y.assign rfl rfl) ?_
 refine AOps.nil ?_
 refine AWp.ret ?_
 exact ⟨_, _, rfl, rfl, (cg1 (fun (z0 : Bool) => X.v (.bool z0)) (df (by (simp only [Shaped, c13, Int.reduceEq, Bool.not_eq_true, false_and, true_and, and_true, and_false, or_false, false_or, ne_eq]) <;> (first | omega | grind)) : false = decide (Shaped n c)) : X.v (.bool false) = X.v (.bool (decide (Shaped n c)))), rfl⟩
 refine .gs 98 rfl rfl rfl ?_
 refine .gs 98 rfl rfl rfl ?_
 refine .gv 94 rfl rfl (Y.pick rfl rfl rfl) ?_
 refine .vl (Y.pick rfl rfl rfl) ?_
 refine AOps.nil ?_
 refine AWp.condF rfl ?_
 refine AWp.skip ?_
 refine AWp.seq ?_
 refine AWp.sr ?_
 refine .vl (Y.move rfl rfl) ?_
 refine .vl (Y.lss rfl rfl) ?_
 refine AOps.nil ?_
 refine AWp.condT rfl ?_
 refine AWp.sr ?_
 refine .vl (Y.fieldAddr fl39_5 rfl rfl) ?_
 refine .vl (Y.load sh3 rfl rfl rfl rfl) ?_
 refine .vl (Y.eql rfl rfl) ?_
 refine .vl (Y.assign rfl rfl) ?_
 refine AOps.nil ?_
 refine AWp.ret ?_
 exact ⟨_, _, rfl, rfl, (cg1 (fun (z0 : Bool) => X.v (.bool z0)) (dd (by (simp only [Shaped, c13, Int.reduceEq, Bool.not_eq_true, false_and, true_and, and_true, and_false, or_false, false_or, ne_eq]) <;> (first | omega | grind)) : (decide (c.mem = 0)) = decide (Shaped n c)) : X.v (.bool (decide (c.mem = 0))) = X.v (.bool (decide (Shaped n c)))), rfl⟩
 refine AWp.sr ?_
 refine .vl (Y.eql rfl rfl) ?_
 refine .vl (Y.assign rfl rfl) ?_
 refine AOps.nil ?_
 refine AWp.condD rfl (fun c22 => ?_) (fun c22 => ?_)
 refine AWp.sr ?_
 refine .vl (Y.fieldAddr fl39_3 rfl rfl) ?_
 refine .vl (Y.load sh22 rfl rfl rfl rfl) ?_
 refine .vl (Y.len (n := c.args.length) sl22 rfl (congrArg some (List.length_map ..))) ?_
 refine .vl (Y.assign rfl rfl) ?_
 refine AOps.nil ?_
 refine AWp.sr ?_
 refine .vl (Y.move rfl rfl) ?_
 refine .vl (Y.lss rfl rfl) ?_
 refine .vl (Y.move rfl rfl) ?_
 refine AOps.splitD (d := 29) rfl (fun c29 => ?_) (fun c29 => ?_)
 refine .gs 29 rfl rfl rfl ?_
 refine .gs 29 rfl rfl rfl ?_
 refine .gs 29 rfl rfl rfl ?_
 refine .vl (Y.pick rfl rfl rfl) ?_
 refine AOps.nil ?_
 refine AWp.condT rfl ?_
 refine AWp.sr ?_
 refine .vl (Y.assign rfl rfl) ?_
 refine AOps.nil ?_
 refine AWp.ret ?_
 exact ⟨_, _, rfl, rfl, (cg1 (fun (z0 : Bool) => X.v (.bool z0)) (df (by (simp only [Shaped, c22, Int.reduceEq, Bool.not_eq_true, false_and, true_and, and_true, and_false, or_false, false_or, ne_eq]) <;> (first | omega | grind)) : false = decide (Shaped n c)) : X.v (.bool false) = X.v (.bool (decide (Shaped n c)))), rfl⟩
 refine .gv 29 rfl rfl (Y.move rfl rfl) ?_
 refine .gv 29 rfl rfl (Y.remI rfl rfl (by first | omega | simp [-List.getD_eq_getElem?_getD] <;> omega)) ?_
 refine .gv 29 rfl rfl (Y.eql rfl rfl) ?_
 refine .vl (Y.pick rfl rfl rfl) ?_
 refine AOps.nil ?_
 refine AWp.condD rfl (fun c33 => ?_) (fun c33 => ?_)
 refine AWp.sr ?_
 refine .vl (Y.assign rfl rfl) ?_
 refine AOps.nil ?_
 refine AWp.ret ?_
 exact ⟨_, _, rfl, rfl, (cg1 (fun (z0 : Bool) => X.v (.bool z0)) (df (by (simp only [Shaped, c22, Int.reduceEq, Bool.not_eq_true, false_and, true_and, and_true, and_false, or_false, false_or, ne_eq]) <;> (first | omega | grind)) : false = decide (Shaped n c)) : X.v (.bool false) = X.v (.bool (decide (Shaped n c)))), rfl⟩
 refine AWp.skip ?_
 refine AWp.seq ?_
 refine AWp.sr ?_
 refine .vl (Y.fieldAddr fl39_3 rfl rfl) ?_
 refine .vl (Y.load sh22 rfl rfl rfl rfl) ?_
 refine .vl (Y.len (n := c.args.length) sl22 rfl (congrArg some (List.length_map ..))) ?_
 refine .vl (Y.move rfl rfl) ?_
 refine .vl (Y.neq rfl rfl) ?_
 refine .vl (Y.move rfl rfl) ?_
 refine AOps.splitD (d := 88) rfl (fun c88 => ?_) (fun c88 => ?_)
 refine .gs 88 rfl rfl rfl ?_
 refine .gs 88 rfl rfl rfl ?_
 refine .gs 88 rfl rfl rfl ?_
 refine .gs 88 rfl rfl rfl ?_
 refine .vl (Y.pick rfl rfl rfl) ?_
 refine .vl (Y.move rfl rfl) ?_
 refine .gs 94 rfl rfl rfl ?_
 refine .gs 94 rfl rfl rfl ?_
 refine .gs 94 rfl rfl rfl ?_
 refine .gs 94 rfl rfl rfl ?_
 refine .gs 98 rfl rfl rfl ?_
 refine .gs 98 rfl rfl rfl ?_
 refine .gs 94 rfl rfl rfl ?_
 refine .vl (Y.pick rfl rfl rfl) ?_
 refine AOps.nil ?_
 refine AWp.condT rfl ?_
 refine AWp.sr ?_
 refine .vl (Y.assign rfl rfl) ?_
 refine AOps.nil ?_
 refine AWp.ret ?_
 exact ⟨_, _, rfl, rfl, (cg1 (fun (z0 : Bool) => X.v (.bool z0)) (df (by (simp only [Shaped, c22, Int.reduceEq, Bool.not_eq_true, false_and, true_and, and_true, and_false, or_false, false_or, ne_eq]) <;> (first | omega | grind)) : false = decide (Shaped n c)) : X.v (.bool false) = X.v (.bool (decide (Shaped n c)))), rfl⟩
 refine .gv 88 rfl rfl (Y.fieldAddr fl39_1 rfl rfl) ?_
 refine .gv 88 rfl rfl (Y.load sh3 rfl rfl rfl rfl) ?_
 refine .gv 88 rfl rfl (Y.move rfl rfl) ?_
 refine .gv 88 rfl rfl (Y.neq rfl rfl) ?_
 refine .vl (Y.pick rfl rfl rfl) ?_
 refine .vl (Y.move rfl rfl) ?_
 refine AOps.splitD (d := 94) rfl (fun c94 => ?_) (fun c94 => ?_)
 refine .gs 94 rfl rfl rfl ?_
 refine .gs 94 rfl rfl rfl ?_
 refine .gs 94 rfl rfl rfl ?_
 refine .gs 94 rfl rfl rfl ?_
 refine .gs 98 rfl rfl rfl ?_
 refine .gs 98 rfl rfl rfl ?_
 refine .gs 94 rfl rfl rfl ?_
 refine .vl (Y.pick rfl rfl rfl) ?_
 refine AOps.nil ?_
 refine AWp.condT rfl ?_
 refine AWp.sr ?_
 refine .vl (Y.assign rfl rfl) ?_
 refine AOps.nil ?_
 refine AWp.ret ?_
 exact ⟨_, _, rfl, rfl, (cg1 (fun (z0 : Bool) => X.v (.bool z0)) (df (by (simp only [Shaped, c22, Int.reduceEq, Bool.not_eq_true, false_and, true_and, and_true, and_false, or_false, false_or, ne_eq]) <;> (first | omega | grind)) : false = decide (Shaped n c)) : X.v (.bool false) = X.v (.bool (decide (Shaped n c)))), rfl⟩
 refine .gv 94 rfl rfl (Y.fieldAddr fl39_4 rfl rfl) ?_
 refine .gv 94 rfl rfl (Y.load sh37 rfl rfl rfl rfl) ?_
 refine .gv 94 rfl rfl (Y.neq rfl rfl) ?_
 refine .gv 94 rfl rfl (Y.move rfl rfl) ?_
 refine AOps.splitD (d := 98) rfl (fun c98 => ?_) (fun c98 => ?_)
 refine .gv 98 rfl rfl (Y.move rfl rfl) ?_
 refine .gv 98 rfl rfl (Y.not rfl) ?_
 refine .gv 94 rfl rfl (Y.pick rfl rfl rfl) ?_
 refine .vl (Y.pick rfl rfl rfl) ?_
 refine AOps.nil ?_
 refine AWp.condT rfl ?_
 refine AWp.sr ?_
 refine .vl (Y.assign rfl rfl) ?_
 refine AOps.nil ?_
 refine AWp.ret ?_
 exact ⟨_, _, rfl, rfl, (cg1 (fun (z0 : Bool) => X.v (.bool z0)) (df (by (simp only [Shaped, c22, Int.reduceEq, Bool.not_eq_true, false_and, true_and, and_true, and_false, or_false, false_or, ne_eq]) <;> (first | omega | grind)) : false = decide (Shaped n c)) : X.v (.bool false) = X.v (.bool (decide (Shaped n c)))), rfl⟩
 refine .gs 98 rfl rfl rfl ?_
 refine .gs 98 rfl rfl rfl ?_
 refine .gv 94 rfl rfl (Y.pick rfl rfl rfl) ?_
 refine .vl (Y.pick rfl rfl rfl) ?_
 refine AOps.nil ?_
 refine AWp.condF rfl ?_
 refine AWp.skip ?_
 refine AWp.seq ?_
 refine AWp.sr ?_
 refine .vl (Y.move rfl rfl) ?_
 refine .vl (Y.lss rfl rfl) ?_
 refine AOps.nil ?_
 refine AWp.condT rfl ?_
 refine AWp.sr ?_
 refine .vl (Y.fieldAddr fl39_5 rfl rfl) ?_
 refine .vl (Y.load sh3 rfl rfl rfl rfl) ?_
 refine .vl (Y.eql rfl rfl) ?_
 refine .vl (Y.assign rfl rfl) ?_
 refine AOps.nil ?_
 refine AWp.ret ?_
 exact ⟨_, _, rfl, rfl, (cg1 (fun (z0 : Bool) => X.v (.bool z0)) (dd (by (simp only [Shaped, c22, Int.reduceEq, Bool.not_eq_true, false_and, true_and, and_true, and_false, or_false, false_or, ne_eq]) <;> (first | omega | grind)) : (decide (c.mem = 0)) = decide (Shaped n c)) : X.v (.bool (decide (c.mem = 0))) = X.v (.bool (decide (Shaped n c)))), rfl⟩
 refine AWp.sr ?_
 refine .vl (Y.eql rfl rfl) ?_
 refine .vl (Y.assign rfl rfl) ?_
 refine AOps.nil ?_
 refine AWp.condD rfl (fun c34 => ?_) (fun c34 => ?_)
 refine AWp.region ?_
 refine .vl (Y.assign rfl rfl) ?_
 refine .vl (Y.assign rfl rfl) ?_
 refine AOps.nil ?_
 refine AWp.join0 (⟨[(2, .ptr 102 0 0 0), (3, .ptr 103 0 0 0), (8, .v (.int .i64 (-1)))], [(102, .cells (Netlist.row n)), (103, .cells (Cell.row c))]⟩) (((¬ (((c.args.length : Nat) : Int) ≠ 2)) ∧ (¬ (c.op ≠ 0)) ∧ (((c.num : Nat) : Int) ≠ 0)) ∨ ((¬ (((c.args.length : Nat) : Int) ≠ 2)) ∧ (¬ (c.op ≠ 0)) ∧ (¬ (((c.num : Nat) : Int) ≠ 0)))) ?_ (fun hJ33 => ?_)
 refine AWp.sr ?_
 refine .vl (Y.fieldAddr fl39_3 rfl rfl) ?_
 refine .vl (Y.load sh22 rfl rfl rfl rfl) ?_
 refine .vl (Y.len (n := c.args.length) sl22 rfl (congrArg some (List.length_map ..))) ?_
 refine .vl (Y.move rfl rfl) ?_
 refine .vl (Y.neq rfl rfl) ?_
 refine .vl (Y.move rfl rfl) ?_
 refine AOps.splitD (d := 88) rfl (fun c88 => ?_) (fun c88 => ?_)
 refine .gs 88 rfl rfl rfl ?_
 refine .gs 88 rfl rfl rfl ?_
 refine .gs 88 rfl rfl rfl ?_
 refine .gs 88 rfl rfl rfl ?_
 refine .vl (Y.pick rfl rfl rfl) ?_
 refine .vl (Y.move rfl rfl) ?_
 refine .gs 94 rfl rfl rfl ?_
 refine .gs 94 rfl rfl rfl ?_
 refine .gs 94 rfl rfl rfl ?_
 refine .gs 94 rfl rfl rfl ?_
 refine .gs 98 rfl rfl rfl ?_
 refine .gs 98 rfl rfl rfl ?_
 refine .gs 94 rfl rfl rfl ?_
 refine .vl (Y.pick rfl rfl rfl) ?_
 refine AOps.nil ?_
 refine AWp.condT rfl ?_
 refine AWp.sr ?_
 refine .vl (Y.assign rfl rfl) ?_
 refine AOps.nil ?_
 refine AWp.ret ?_
 exact ⟨_, _, rfl, rfl, (cg1 (fun (z0 : Bool) => X.v (.bool z0)) (df (by (simp only [Shaped, c34, Int.reduceEq, Bool.not_eq_true, false_and, true_and, and_true, and_false, or_false, false_or, ne_eq]) <;> (first | omega | grind)) : false = decide (Shaped n c)) : X.v (.bool false) = X.v (.bool (decide (Shaped n c)))), rfl⟩
 refine .gv 88 rfl rfl (Y.fieldAddr fl39_1 rfl rfl) ?_
 refine .gv 88 rfl rfl (Y.load sh3 rfl rfl rfl rfl) ?_
 refine .gv 88 rfl rfl (Y.move rfl rfl) ?_
 refine .gv 88 rfl rfl (Y.neq rfl rfl) ?_
 refine .vl (Y.pick rfl rfl rfl) ?_
 refine .vl (Y.move rfl rfl) ?_
 refine AOps.splitD (d := 94) rfl (fun c94 => ?_) (fun c94 => ?_)
 refine .gs 94 rfl rfl rfl ?_
 refine .gs 94 rfl rfl rfl ?_
 refine .gs 94 rfl rfl rfl ?_
 refine .gs 94 rfl rfl rfl ?_
 refine .gs 98 rfl rfl rfl ?_
 refine .gs 98 rfl rfl rfl ?_
 refine .gs 94 rfl rfl rfl ?_
 refine .vl (Y.pick rfl rfl rfl) ?_
 refine AOps.nil ?_
 refine AWp.condT rfl ?_
 refine AWp.sr ?_
 refine .vl (Y.assign rfl rfl) ?_
 refine AOps.nil ?_
 refine AWp.ret ?_
 exact ⟨_, _, rfl, rfl, (cg1 (fun (z0 : Bool) => X.v (.bool z0)) (df (by (simp only [Shaped, c34, Int.reduceEq, Bool.not_eq_true, false_and, true_and, and_true, and_false, or_false, false_or, ne_eq]) <;> (first | omega | grind)) : false = decide (Shaped n c)) : X.v (.bool false) = X.v (.bool (decide (Shaped n c)))), rfl⟩
 refine .gv 94 rfl rfl (Y.fieldAddr fl39_4 rfl rfl) ?_
 refine .gv 94 rfl rfl (Y.load sh37 rfl rfl rfl rfl) ?_
 refine .gv 94 rfl rfl (Y.neq rfl rfl) ?_
 refine .gv 94 rfl rfl (Y.move rfl rfl) ?_
 refine AOps.splitD (d := 98) rfl (fun c98 => ?_) (fun c98 => ?_)
 refine .gv 98 rfl rfl (Y.move rfl rfl) ?_
 refine .gv 98 rfl rfl (Y.not rfl) ?_
 refine .gv 94 rfl rfl (Y.pick rfl rfl rfl) ?_
 refine .vl (Y.pick rfl rfl rfl) ?_
 refine AOps.nil ?_
 refine AWp.condF rfl ?_
 refine AWp.skip ?_
 exact ⟨.inl ⟨c88, c94, c98⟩, Le.mk (SubL.cons rfl (SubL.cons rfl (SubL.cons rfl (SubL.nil)))) (SubL.cons rfl (SubL.cons rfl (SubL.nil)))⟩
 refine .gs 98 rfl rfl rfl ?_
 refine .gs 98 rfl rfl rfl ?_
 refine .gv 94 rfl rfl (Y.pick rfl rfl rfl) ?_
 refine .vl (Y.pick rfl rfl rfl) ?_
 refine AOps.nil ?_
 refine AWp.condF rfl ?_
 refine AWp.skip ?_
 exact ⟨.inr (⟨c88, c94, c98⟩), Le.mk (SubL.cons rfl (SubL.cons rfl (SubL.cons rfl (SubL.nil)))) (SubL.cons rfl (SubL.cons rfl (SubL.nil)))⟩
 refine AWp.seq ?_
 refine AWp.sr ?_
 refine .vl (Y.move rfl rfl) ?_
 refine .vl (Y.lss rfl rfl) ?_
 refine AOps.nil ?_
 refine AWp.condT rfl ?_
 refine AWp.sr ?_
 refine .vl (Y.fieldAddr fl39_5 rfl rfl) ?_
 refine .vl (Y.load sh3 rfl rfl rfl rfl) ?_
 refine .vl (Y.eql rfl rfl) ?_
 refine .vl (Y.assign rfl rfl) ?_
 refine AOps.nil ?_
 refine AWp.ret ?_
 exact ⟨_, _, rfl, rfl, (cg1 (fun (z0 : Bool) => X.v (.bool z0)) (dd (by (simp only [Shaped, c34, Int.reduceEq, Bool.not_eq_true, false_and, true_and, and_true, and_false, or_false, false_or, ne_eq]) <;> (first | omega | grind)) : (decide (c.mem = 0)) = decide (Shaped n c)) : X.v (.bool (decide (c.mem = 0))) = X.v (.bool (decide (Shaped n c)))), rfl⟩
 refine AWp.sr ?_
 refine .vl (Y.eql rfl rfl) ?_
 refine .vl (Y.assign rfl rfl) ?_
 refine AOps.nil ?_
 refine AWp.condD rfl (fun c36 => ?_) (fun c36 => ?_)
 refine AWp.seq ?_
 refine AWp.regionS rfl (by kernel_rfl) ?_
 refine AHead.val (Y.fieldAddr fl39_1 rfl rfl) (by decide) ?_
 refine AHead.val (Y.load sh3 rfl rfl rfl rfl) (by decide) ?_
 refine AHead.val (Y.assign rfl rfl) (by decide) ?_
 refine AHead.val (Y.assign rfl rfl) (by decide) ?_
 refine AHead.val (Y.assign rfl rfl) (by decide) ?_
 refine AHead.nil ?_
 refine AWp.sr ?_
 refine .vl (Y.fieldAddr fl39_1 rfl rfl) ?_
 refine .vl (Y.load sh3 rfl rfl rfl rfl) ?_
 refine .vl (Y.lss rfl rfl) ?_
 refine .vl (Y.move rfl rfl) ?_
 refine AOps.splitD (d := 43) rfl (fun c43 => ?_) (fun c43 => ?_)
 refine .gs 43 rfl rfl rfl ?_
 refine .gs 43 rfl rfl rfl ?_
 refine .gs 43 rfl rfl rfl ?_
 refine .vl (Y.pick rfl rfl rfl) ?_
 refine .vl (Y.move rfl rfl) ?_
 refine .gs 48 rfl rfl rfl ?_
 refine .gs 48 rfl rfl rfl ?_
 refine .gs 48 rfl rfl rfl ?_
 refine .vl (Y.pick rfl rfl rfl) ?_
 refine .vl (Y.move rfl rfl) ?_
 refine .gs 53 rfl rfl rfl ?_
 refine .gs 53 rfl rfl rfl ?_
 refine .gs 53 rfl rfl rfl ?_
 refine .vl (Y.pick rfl rfl rfl) ?_
 refine AOps.nil ?_
 refine AWp.condT rfl ?_
 refine AWp.sr ?_
 refine .vl (Y.assign rfl rfl) ?_
 refine AOps.nil ?_
 refine AWp.ret ?_
 exact ⟨_, _, rfl, rfl, (cg1 (fun (z0 : Bool) => X.v (.bool z0)) (df (by (simp only [Shaped, c36, Int.reduceEq, Bool.not_eq_true, false_and, true_and, and_true, and_false, or_false, false_or, ne_eq]) <;> (first | omega | grind)) : false = decide (Shaped n c)) : X.v (.bool false) = X.v (.bool (decide (Shaped n c)))), rfl⟩
 refine .gv 43 rfl rfl (Y.fieldAddr fl39_1 rfl rfl) ?_
 refine .gv 43 rfl rfl (Y.load sh3 rfl rfl rfl rfl) ?_
 refine .gv 43 rfl rfl (Y.gtr rfl rfl) ?_
 refine .vl (Y.pick rfl rfl rfl) ?_
 refine .vl (Y.move rfl rfl) ?_
 refine AOps.splitD (d := 48) rfl (fun c48 => ?_) (fun c48 => ?_)
 refine .gs 48 rfl rfl rfl ?_
 refine .gs 48 rfl rfl rfl ?_
 refine .gs 48 rfl rfl rfl ?_
 refine .vl (Y.pick rfl rfl rfl) ?_
 refine .vl (Y.move rfl rfl) ?_
 refine .gs 53 rfl rfl rfl ?_
 refine .gs 53 rfl rfl rfl ?_
 refine .gs 53 rfl rfl rfl ?_
 refine .vl (Y.pick rfl rfl rfl) ?_
 refine AOps.nil ?_
 refine AWp.condT rfl ?_
 refine AWp.sr ?_
 refine .vl (Y.assign rfl rfl) ?_
 refine AOps.nil ?_
 refine AWp.ret ?_
 exact ⟨_, _, rfl, rfl, (cg1 (fun (z0 : Bool) => X.v (.bool z0)) (df (by (simp only [Shaped, c36, Int.reduceEq, Bool.not_eq_true, false_and, true_and, and_true, and_false, or_false, false_or, ne_eq]) <;> (first | omega | grind)) : false = decide (Shaped n c)) : X.v (.bool false) = X.v (.bool (decide (Shaped n c)))), rfl⟩
 refine .gv 48 rfl rfl (Y.fieldAddr fl39_4 rfl rfl) ?_
 refine .gv 48 rfl rfl (Y.load sh37 rfl rfl rfl rfl) ?_
 refine .gv 48 rfl rfl (Y.lss rfl rfl) ?_
 refine .vl (Y.pick rfl rfl rfl) ?_
 refine .vl (Y.move rfl rfl) ?_
 refine AOps.splitD (d := 53) rfl (fun c53 => ?_) (fun c53 => ?_)
 refine .gs 53 rfl rfl rfl ?_
 refine .gs 53 rfl rfl rfl ?_
 refine .gs 53 rfl rfl rfl ?_
 refine .vl (Y.pick rfl rfl rfl) ?_
 refine AOps.nil ?_
 refine AWp.condT rfl ?_
 refine AWp.sr ?_
 refine .vl (Y.assign rfl rfl) ?_
 refine AOps.nil ?_
 refine AWp.ret ?_
 exact ⟨_, _, rfl, rfl, (cg1 (fun (z0 : Bool) => X.v (.bool z0)) (df (by (simp only [Shaped, c36, Int.reduceEq, Bool.not_eq_true, false_and, true_and, and_true, and_false, or_false, false_or, ne_eq]) <;> (first | omega | grind)) : false = decide (Shaped n c)) : X.v (.bool false) = X.v (.bool (decide (Shaped n c)))), rfl⟩
 refine .gv 53 rfl rfl (Y.fieldAddr fl39_4 rfl rfl) ?_
 refine .gv 53 rfl rfl (Y.load sh37 rfl rfl rfl rfl) ?_
 refine .gv 53 rfl rfl (Y.gtr rfl rfl) ?_
 refine .vl (Y.pick rfl rfl rfl) ?_
 refine AOps.nil ?_
 refine AWp.condD rfl (fun c57 => ?_) (fun c57 => ?_)
 refine AWp.sr ?_
 refine .vl (Y.assign rfl rfl) ?_
 refine AOps.nil ?_
 refine AWp.ret ?_
 exact ⟨_, _, rfl, rfl, (cg1 (fun (z0 : Bool) => X.v (.bool z0)) (df (by (simp only [Shaped, c36, Int.reduceEq, Bool.not_eq_true, false_and, true_and, and_true, and_false, or_false, false_or, ne_eq]) <;> (first | omega | grind)) : false = decide (Shaped n c)) : X.v (.bool false) = X.v (.bool (decide (Shaped n c)))), rfl⟩
 refine AWp.skip ?_
 refine AWp.join0 (⟨[(2, .ptr 102 0 0 0), (3, .ptr 103 0 0 0), (8, .v (.int .i64 (-1)))], [(102, .cells (Netlist.row n)), (103, .cells (Cell.row c))]⟩) (((¬ (((c.args.length : Nat) : Int) ≠ 2)) ∧ (¬ (c.op ≠ c.op)) ∧ (((c.num : Nat) : Int) ≠ 0)) ∨ ((¬ (((c.args.length : Nat) : Int) ≠ 2)) ∧ (¬ (c.op ≠ c.op)) ∧ (¬ (((c.num : Nat) : Int) ≠ 0)))) ?_ (fun hJ33 => ?_)
 refine AWp.sr ?_
 refine .vl (Y.fieldAddr fl39_3 rfl rfl) ?_
 refine .vl (Y.load sh22 rfl rfl rfl rfl) ?_
 refine .vl (Y.len (n := c.args.length) sl22 rfl (congrArg some (List.length_map ..))) ?_
 refine .vl (Y.move rfl rfl) ?_
 refine .vl (Y.neq rfl rfl) ?_
 refine .vl (Y.move rfl rfl) ?_
 refine AOps.splitD (d := 88) rfl (fun c88 => ?_) (fun c88 => ?_)
 refine .gs 88 rfl rfl rfl ?_
 refine .gs 88 rfl rfl rfl ?_
 refine .gs 88 rfl rfl rfl ?_
 refine .gs 88 rfl rfl rfl ?_
 refine .vl (Y.pick rfl rfl rfl) ?_
 refine .vl (Y.move rfl rfl) ?_
 refine .gs 94 rfl rfl rfl ?_
 refine .gs 94 rfl rfl rfl ?_
 refine .gs 94 rfl rfl rfl ?_
 refine .gs 94 rfl rfl rfl ?_
 refine .gs 98 rfl rfl rfl ?_
 refine .gs 98 rfl rfl rfl ?_
 refine .gs 94 rfl rfl rfl ?_
 refine .vl (Y.pick rfl rfl rfl) ?_
 refine AOps.nil ?_
 refine AWp.condT rfl ?_
 refine AWp.sr ?_
 refine .vl (Y.assign rfl rfl) ?_
 refine AOps.nil ?_
 refine AWp.ret ?_
 exact ⟨_, _, rfl, rfl, (cg1 (fun (z0 : Bool) => X.v (.bool z0)) (df (by (simp only [Shaped, c36, Int.reduceEq, Bool.not_eq_true, false_and, true_and, and_true, and_false, or_false, false_or, ne_eq]) <;> (first | omega | grind)) : false = decide (Shaped n c)) : X.v (.bool false) = X.v (.bool (decide (Shaped n c)))), rfl⟩
 refine .gv 88 rfl rfl (Y.fieldAddr fl39_1 rfl rfl) ?_
 refine .gv 88 rfl rfl (Y.load sh3 rfl rfl rfl rfl) ?_
 refine .gv 88 rfl rfl (Y.move rfl rfl) ?_
 refine .gv 88 rfl rfl (Y.neq rfl rfl) ?_
 refine .vl (Y.pick rfl rfl rfl) ?_
 refine .vl (Y.move rfl rfl) ?_
 refine AOps.splitD (d := 94) rfl (fun c94 => ?_) (fun c94 => ?_)
 refine .gs 94 rfl rfl rfl ?_
 refine .gs 94 rfl rfl rfl ?_
 refine .gs 94 rfl rfl rfl ?_
 refine .gs 94 rfl rfl rfl ?_
 refine .gs 98 rfl rfl rfl ?_
 refine .gs 98 rfl rfl rfl ?_
 refine .gs 94 rfl rfl rfl ?_
 refine .vl (Y.pick rfl rfl rfl) ?_
 refine AOps.nil ?_
 refine AWp.condT rfl ?_
 refine AWp.sr ?_
 refine .vl (Y.assign rfl rfl) ?_
 refine AOps.nil ?_
 refine AWp.ret ?_
 exact ⟨_, _, rfl, rfl, (cg1 (fun (z0 : Bool) => X.v (.bool z0)) (df (by (simp only [Shaped, c36, Int.reduceEq, Bool.not_eq_true, false_and, true_and, and_true, and_false, or_false, false_or, ne_eq]) <;> (first | omega | grind)) : false = decide (Shaped n c)) : X.v (.bool false) = X.v (.bool (decide (Shaped n c)))), rfl⟩
 refine .gv 94 rfl rfl (Y.fieldAddr fl39_4 rfl rfl) ?_
 refine .gv 94 rfl rfl (Y.load sh37 rfl rfl rfl rfl) ?_
 refine .gv 94 rfl rfl (Y.neq rfl rfl) ?_
 refine .gv 94 rfl rfl (Y.move rfl rfl) ?_
 refine AOps.splitD (d := 98) rfl (fun c98 => ?_) (fun c98 => ?_)
 refine .gv 98 rfl rfl (Y.move rfl rfl) ?_
 refine .gv 98 rfl rfl (Y.not rfl) ?_
 refine .gv 94 rfl rfl (Y.pick rfl rfl rfl) ?_
 refine .vl (Y.pick rfl rfl rfl) ?_
 refine AOps.nil ?_
 refine AWp.condF rfl ?_
 refine AWp.skip ?_
 exact ⟨.inl ⟨c88, c94, c98⟩, Le.mk (SubL.cons rfl (SubL.cons rfl (SubL.cons rfl (SubL.nil)))) (SubL.cons rfl (SubL.cons rfl (SubL.nil)))⟩
 refine .gs 98 rfl rfl rfl ?_
 refine .gs 98 rfl rfl rfl ?_
 refine .gv 94 rfl rfl (Y.pick rfl rfl rfl) ?_
 refine .vl (Y.pick rfl rfl rfl) ?_
 refine AOps.nil ?_
 refine AWp.condF rfl ?_
 refine AWp.skip ?_
 exact ⟨.inr (⟨c88, c94, c98⟩), Le.mk (SubL.cons rfl (SubL.cons rfl (SubL.cons rfl (SubL.nil)))) (SubL.cons rfl (SubL.cons rfl (SubL.nil)))⟩
 refine AWp.seq ?_
 refine AWp.sr ?_
 refine .vl (Y.move rfl rfl) ?_
 refine .vl (Y.lss rfl rfl) ?_
 refine AOps.nil ?_
 refine AWp.condT rfl ?_
 refine AWp.sr ?_
 refine .vl (Y.fieldAddr fl39_5 rfl rfl) ?_
 refine .vl (Y.load sh3 rfl rfl rfl rfl) ?_
 refine .vl (Y.eql rfl rfl) ?_
 refine .vl (Y.assign rfl rfl) ?_
 refine AOps.nil ?_
 refine AWp.ret ?_
 exact ⟨_, _, rfl, rfl, (cg1 (fun (z0 : Bool) => X.v (.bool z0)) (dd (by (simp only [Shaped, c36, Int.reduceEq, Bool.not_eq_true, false_and, true_and, and_true, and_false, or_false, false_or, ne_eq]) <;> (first | omega | grind)) : (decide (c.mem = 0)) = decide (Shaped n c)) : X.v (.bool (decide (c.mem = 0))) = X.v (.bool (decide (Shaped n c)))), rfl⟩
 refine AWp.sr ?_
 refine .vl (Y.eql rfl rfl) ?_
 refine .vl (Y.assign rfl rfl) ?_
 refine AOps.nil ?_
 refine AWp.condD rfl (fun c58 => ?_) (fun c58 => ?_)
 refine AWp.regionS rfl (by kernel_rfl) ?_
 refine AHead.val (Y.fieldAddr fl27_4 rfl rfl) (by decide) ?_
 refine AHead.val (Y.load sh24 rfl rfl rfl rfl) (by decide) ?_
 refine AHead.val (Y.len (n := n.mems.length) sl24 rfl (congrArg some (List.length_map ..))) (by decide) ?_
 refine AHead.val (Y.assign rfl rfl) (by decide) ?_
 refine AHead.val (Y.assign rfl rfl) (by decide) ?_
 refine AHead.nil ?_
 refine AWp.seq ?_
 refine AWp.sr ?_
 refine .vl (Y.fieldAddr fl39_3 rfl rfl) ?_
 refine .vl (Y.load sh22 rfl rfl rfl rfl) ?_
 refine .vl (Y.len (n := c.args.length) sl22 rfl (congrArg some (List.length_map ..))) ?_
 refine .vl (Y.move rfl rfl) ?_
 refine .vl (Y.neq rfl rfl) ?_
 refine .vl (Y.move rfl rfl) ?_
 refine AOps.splitD (d := 88) rfl (fun c88 => ?_) (fun c88 => ?_)
 refine .gs 88 rfl rfl rfl ?_
 refine .gs 88 rfl rfl rfl ?_
 refine .gs 88 rfl rfl rfl ?_
 refine .gs 88 rfl rfl rfl ?_
 refine .vl (Y.pick rfl rfl rfl) ?_
 refine .vl (Y.move rfl rfl) ?_
 refine .gs 94 rfl rfl rfl ?_
 refine .gs 94 rfl rfl rfl ?_
 refine .gs 94 rfl rfl rfl ?_
 refine .gs 94 rfl rfl rfl ?_
 refine .gs 98 rfl rfl rfl ?_
 refine .gs 98 rfl rfl rfl ?_
 refine .gs 94 rfl rfl rfl ?_
 refine .vl (Y.pick rfl rfl rfl) ?_
 refine AOps.nil ?_
 refine AWp.condT rfl ?_
 refine AWp.sr ?_
 refine .vl (Y.assign rfl rfl) ?_
 refine AOps.nil ?_
 refine AWp.ret ?_
 exact ⟨_, _, rfl, rfl, (cg1 (fun (z0 : Bool) => X.v (.bool z0)) (df (by (simp only [Shaped, c58, Int.reduceEq, Bool.not_eq_true, false_and, true_and, and_true, and_false, or_false, false_or, ne_eq]) <;> (first | omega | grind)) : false = decide (Shaped n c)) : X.v (.bool false) = X.v (.bool (decide (Shaped n c)))), rfl⟩
 refine .gv 88 rfl rfl (Y.fieldAddr fl39_1 rfl rfl) ?_
 refine .gv 88 rfl rfl (Y.load sh3 rfl rfl rfl rfl) ?_
 refine .gv 88 rfl rfl (Y.move rfl rfl) ?_
 refine .gv 88 rfl rfl (Y.neq rfl rfl) ?_
 refine .vl (Y.pick rfl rfl rfl) ?_
 refine .vl (Y.move rfl rfl) ?_
 refine AOps.splitD (d := 94) rfl (fun c94 => ?_) (fun c94 => ?_)
 refine .gs 94 rfl rfl rfl ?_
 refine .gs 94 rfl rfl rfl ?_
 refine .gs 94 rfl rfl rfl ?_
 refine .gs 94 rfl rfl rfl ?_
 refine .gs 98 rfl rfl rfl ?_
 refine .gs 98 rfl rfl rfl ?_
 refine .gs 94 rfl rfl rfl ?_
 refine .vl (Y.pick rfl rfl rfl) ?_
 refine AOps.nil ?_
 refine AWp.condT rfl ?_
 refine AWp.sr ?_
 refine .vl (Y.assign rfl rfl) ?_
 refine AOps.nil ?_
 refine AWp.ret ?_
 exact ⟨_, _, rfl, rfl, (cg1 (fun (z0 : Bool) => X.v (.bool z0)) (df (by (simp only [Shaped, c58, Int.reduceEq, Bool.not_eq_true, false_and, true_and, and_true, and_false, or_false, false_or, ne_eq]) <;> (first | omega | grind)) : false = decide (Shaped n c)) : X.v (.bool false) = X.v (.bool (decide (Shaped n c)))), rfl⟩
 refine .gv 94 rfl rfl (Y.fieldAddr fl39_4 rfl rfl) ?_
 refine .gv 94 rfl rfl (Y.load sh37 rfl rfl rfl rfl) ?_
 refine .gv 94 rfl rfl (Y.neq rfl rfl) ?_
 refine .gv 94 rfl rfl (Y.move rfl rfl) ?_
 refine AOps.splitD (d := 98) rfl (fun c98 => ?_) (fun c98 => ?_)
 refine .gv 98 rfl rfl (Y.move rfl rfl) ?_
 refine .gv 98 rfl rfl (Y.not rfl) ?_
 refine .gv 94 rfl rfl (Y.pick rfl rfl rfl) ?_
 refine .vl (Y.pick rfl rfl rfl) ?_
 refine AOps.nil ?_
 refine AWp.condT rfl ?_
 refine AWp.sr ?_
 refine .vl (Y.assign rfl rfl) ?_
 refine AOps.nil ?_
 refine AWp.ret ?_
 exact ⟨_, _, rfl, rfl, (cg1 (fun (z0 : Bool) => X.v (.bool z0)) (df (by (simp only [Shaped, c58, Int.reduceEq, Bool.not_eq_true, false_and, true_and, and_true, and_false, or_false, false_or, ne_eq]) <;> (first | omega | grind)) : false = decide (Shaped n c)) : X.v (.bool false) = X.v (.bool (decide (Shaped n c)))), rfl⟩
 refine .gs 98 rfl rfl rfl ?_
 refine .gs 98 rfl rfl rfl ?_
 refine .gv 94 rfl rfl (Y.pick rfl rfl rfl) ?_
 refine .vl (Y.pick rfl rfl rfl) ?_
 refine AOps.nil ?_
 refine AWp.condF rfl ?_
 refine AWp.skip ?_
 refine AWp.seq ?_
 refine AWp.sr ?_
 refine .vl (Y.move rfl rfl) ?_
 refine .vl (Y.lss rfl rfl) ?_
 refine AOps.nil ?_
 refine AWp.condD rfl (fun c104 => ?_) (fun c104 => ?_)
 refine AWp.sr ?_
 refine .vl (Y.fieldAddr fl39_5 rfl rfl) ?_
 refine .vl (Y.load sh3 rfl rfl rfl rfl) ?_
 refine .vl (Y.eql rfl rfl) ?_
 refine .vl (Y.assign rfl rfl) ?_
 refine AOps.nil ?_
 refine AWp.ret ?_
 exact ⟨_, _, rfl, rfl, (cg1 (fun (z0 : Bool) => X.v (.bool z0)) (dd (by (simp only [Shaped, c58, Int.reduceEq, Bool.not_eq_true, false_and, true_and, and_true, and_false, or_false, false_or, ne_eq]) <;> (first | omega | grind)) : (decide (c.mem = 0)) = decide (Shaped n c)) : X.v (.bool (decide (c.mem = 0))) = X.v (.bool (decide (Shaped n c)))), rfl⟩
 refine AWp.skip ?_
 refine AWp.sr ?_
 refine .vl (Y.fieldAddr fl39_5 rfl rfl) ?_
 refine .vl (Y.load sh3 rfl rfl rfl rfl) ?_
 refine .vl (Y.geq rfl rfl) ?_
 refine .vl (Y.move rfl rfl) ?_
 refine AOps.splitD (d := 111) rfl (fun c111 => ?_) (fun c111 => ?_)
 refine .gv 111 rfl rfl (Y.fieldAddr fl39_5 rfl rfl) ?_
 refine .gv 111 rfl rfl (Y.load sh3 rfl rfl rfl rfl) ?_
 refine .gv 111 rfl rfl (Y.move rfl rfl) ?_
 refine .gv 111 rfl rfl (Y.lss rfl rfl) ?_
 refine .vl (Y.pick rfl rfl rfl) ?_
 refine .vl (Y.move rfl rfl) ?_
 refine AOps.splitD (d := 117) rfl (fun c117 => ?_) (fun c117 => ?_)
 refine .gv 117 rfl rfl (Y.fieldAddr fl39_0 rfl rfl) ?_
 refine .gv 117 rfl rfl (Y.load sh3 rfl rfl rfl rfl) ?_
 refine .gv 117 rfl rfl (Y.neq rfl rfl) ?_
 refine .gv 117 rfl rfl (Y.move rfl rfl) ?_
 refine AOps.splitD (d := 121) rfl (fun c121 => ?_) (fun c121 => ?_)
 refine .gs 121 rfl rfl rfl ?_
 refine .gs 121 rfl rfl rfl ?_
 refine .gs 121 rfl rfl rfl ?_
 refine .gs 121 rfl rfl rfl ?_
 refine .gs 121 rfl rfl rfl ?_
 refine .gs 121 rfl rfl rfl ?_
 refine .gs 121 rfl rfl rfl ?_
 refine .gs 121 rfl rfl rfl ?_
 refine .gv 117 rfl rfl (Y.pick rfl rfl rfl) ?_
 refine .vl (Y.pick rfl rfl rfl) ?_
 refine .vl (Y.assign rfl rfl) ?_
 refine AOps.nil ?_
 refine AWp.ret ?_
 exact ⟨_, _, rfl, rfl, (cg1 (fun (z0 : Bool) => X.v (.bool z0)) (dt (by (simp only [Shaped, c58, Int.reduceEq, Bool.not_eq_true, false_and, true_and, and_true, and_false, or_false, false_or, ne_eq]) <;> (first | omega | grind)) : true = decide (Shaped n c)) : X.v (.bool true) = X.v (.bool (decide (Shaped n c)))), rfl⟩
 refine .gv 121 rfl rfl (Y.fieldAddr fl27_5 rfl rfl) ?_
 refine .gv 121 rfl rfl (Y.load sh25 rfl rfl rfl rfl) ?_
 refine .gv 121 rfl rfl (Y.fieldAddr fl39_5 rfl rfl) ?_
 refine .gv 121 rfl rfl (Y.load sh3 rfl rfl rfl rfl) ?_
 refine .gv 121 rfl rfl (Y.indexF (m := (c.mem).toNat) sl25 rfl rfl (by first | omega | simp [-List.getD_eq_getElem?_getD] <;> omega) (row_getD (d := default) (by first | omega | simp [-List.getD_eq_getElem?_getD] <;> omega))) ?_
 refine .gv 121 rfl rfl (Y.fieldAddr fl83_2 rfl rfl) ?_
 refine .gv 121 rfl rfl (Y.load sh4 rfl rfl rfl rfl) ?_
 refine .gv 121 rfl rfl (Y.not rfl) ?_
 refine .gv 117 rfl rfl (Y.pick rfl rfl rfl) ?_
 refine .vl (Y.pick rfl rfl rfl) ?_
 refine .vl (Y.assign rfl rfl) ?_
 refine AOps.nil ?_
 refine AWp.ret ?_
 exact ⟨_, _, rfl, rfl, (cg1 (fun (z0 : Bool) => X.v (.bool z0)) (db (by (simp only [Shaped, c58, Int.reduceEq, Bool.not_eq_true, false_and, true_and, and_true, and_false, or_false, false_or, ne_eq]) <;> (first | omega | grind)) : (!((n.streams.getD ((c.mem).toNat) default).out)) = decide (Shaped n c)) : X.v (.bool (!((n.streams.getD ((c.mem).toNat) default).out))) = X.v (.bool (decide (Shaped n c)))), rfl⟩
 refine .gs 117 rfl rfl rfl ?_
 refine .gs 117 rfl rfl rfl ?_
 refine .gs 117 rfl rfl rfl ?_
 refine .gs 117 rfl rfl rfl ?_
 refine .gs 121 rfl rfl rfl ?_
 refine .gs 121 rfl rfl rfl ?_
 refine .gs 121 rfl rfl rfl ?_
 refine .gs 121 rfl rfl rfl ?_
 refine .gs 121 rfl rfl rfl ?_
 refine .gs 121 rfl rfl rfl ?_
 refine .gs 121 rfl rfl rfl ?_
 refine .gs 121 rfl rfl rfl ?_
 refine .gs 117 rfl rfl rfl ?_
 refine .vl (Y.pick rfl rfl rfl) ?_
 refine .vl (Y.assign rfl rfl) ?_
 refine AOps.nil ?_
 refine AWp.ret ?_
 exact ⟨_, _, rfl, rfl, (cg1 (fun (z0 : Bool) => X.v (.bool z0)) (df (by (simp only [Shaped, c58, Int.reduceEq, Bool.not_eq_true, false_and, true_and, and_true, and_false, or_false, false_or, ne_eq]) <;> (first | omega | grind)) : false = decide (Shaped n c)) : X.v (.bool false) = X.v (.bool (decide (Shaped n c)))), rfl⟩
 refine .gs 111 rfl rfl rfl ?_
 refine .gs 111 rfl rfl rfl ?_
 refine .gs 111 rfl rfl rfl ?_
 refine .gs 111 rfl rfl rfl ?_
 refine .vl (Y.pick rfl rfl rfl) ?_
 refine .vl (Y.move rfl rfl) ?_
 refine .gs 117 rfl rfl rfl ?_
 refine .gs 117 rfl rfl rfl ?_
 refine .gs 117 rfl rfl rfl ?_
 refine .gs 117 rfl rfl rfl ?_
 refine .gs 121 rfl rfl rfl ?_
 refine .gs 121 rfl rfl rfl ?_
 refine .gs 121 rfl rfl rfl ?_
 refine .gs 121 rfl rfl rfl ?_
 refine .gs 121 rfl rfl rfl ?_
 refine .gs 121 rfl rfl rfl ?_
 refine .gs 121 rfl rfl rfl ?_
 refine .gs 121 rfl rfl rfl ?_
 refine .gs 117 rfl rfl rfl ?_
 refine .vl (Y.pick rfl rfl rfl) ?_
 refine .vl (Y.assign rfl rfl) ?_
 refine AOps.nil ?_
 refine AWp.ret ?_
 exact ⟨_, _, rfl, rfl, (cg1 (fun (z0 : Bool) => X.v (.bool z0)) (df (by (simp only [Shaped, c58, Int.reduceEq, Bool.not_eq_true, false_and, true_and, and_true, and_false, or_false, false_or, ne_eq]) <;> (first | omega | grind)) : false = decide (Shaped n c)) : X.v (.bool false) = X.v (.bool (decide (Shaped n c)))), rfl⟩
 refine AWp.sr ?_
 refine .vl (Y.eql rfl rfl) ?_
 refine .vl (Y.assign rfl rfl) ?_
 refine AOps.nil ?_
 refine AWp.condD rfl (fun c63 => ?_) (fun c63 => ?_)
 refine AWp.regionS rfl (by kernel_rfl) ?_
 refine AHead.val (Y.fieldAddr fl27_4 rfl rfl) (by decide) ?_
 refine AHead.val (Y.load sh24 rfl rfl rfl rfl) (by decide) ?_
 refine AHead.val (Y.len (n := n.mems.length) sl24 rfl (congrArg some (List.length_map ..))) (by decide) ?_
 refine AHead.val (Y.assign rfl rfl) (by decide) ?_
 refine AHead.val (Y.assign rfl rfl) (by decide) ?_
 refine AHead.nil ?_
 refine AWp.seq ?_
 refine AWp.sr ?_
 refine .vl (Y.fieldAddr fl39_3 rfl rfl) ?_
 refine .vl (Y.load sh22 rfl rfl rfl rfl) ?_
 refine .vl (Y.len (n := c.args.length) sl22 rfl (congrArg some (List.length_map ..))) ?_
 refine .vl (Y.move rfl rfl) ?_
 refine .vl (Y.neq rfl rfl) ?_
 refine .vl (Y.move rfl rfl) ?_
 refine AOps.splitD (d := 88) rfl (fun c88 => ?_) (fun c88 => ?_)
 refine .gs 88 rfl rfl rfl ?_
 refine .gs 88 rfl rfl rfl ?_
 refine .gs 88 rfl rfl rfl ?_
 refine .gs 88 rfl rfl rfl ?_
 refine .vl (Y.pick rfl rfl rfl) ?_
 refine .vl (Y.move rfl rfl) ?_
 refine .gs 94 rfl rfl rfl ?_
 refine .gs 94 rfl rfl rfl ?_
 refine .gs 94 rfl rfl rfl ?_
 refine .gs 94 rfl rfl rfl ?_
 refine .gs 98 rfl rfl rfl ?_
 refine .gs 98 rfl rfl rfl ?_
 refine .gs 94 rfl rfl rfl ?_
 refine .vl (Y.pick rfl rfl rfl) ?_
 refine AOps.nil ?_
 refine AWp.condT rfl ?_
 refine AWp.sr ?_
 refine .vl (Y.assign rfl rfl) ?_
 refine AOps.nil ?_
 refine AWp.ret ?_
 exact ⟨_, _, rfl, rfl, (cg1 (fun (z0 : Bool) => X.v (.bool z0)) (df (by (simp only [Shaped, c63, Int.reduceEq, Bool.not_eq_true, false_and, true_and, and_true, and_false, or_false, false_or, ne_eq]) <;> (first | omega | grind)) : false = decide (Shaped n c)) : X.v (.bool false) = X.v (.bool (decide (Shaped n c)))), rfl⟩
 refine .gv 88 rfl rfl (Y.fieldAddr fl39_1 rfl rfl) ?_
 refine .gv 88 rfl rfl (Y.load sh3 rfl rfl rfl rfl) ?_
 refine .gv 88 rfl rfl (Y.move rfl rfl) ?_
 refine .gv 88 rfl rfl (Y.neq rfl rfl) ?_
 refine .vl (Y.pick rfl rfl rfl) ?_
 refine .vl (Y.move rfl rfl) ?_
 refine AOps.splitD (d := 94) rfl (fun c94 => ?_) (fun c94 => ?_)
 refine .gs 94 rfl rfl rfl ?_
 refine .gs 94 rfl rfl rfl ?_
 refine .gs 94 rfl rfl rfl ?_
 refine .gs 94 rfl rfl rfl ?_
 refine .gs 98 rfl rfl rfl ?_
 refine .gs 98 rfl rfl rfl ?_
 refine .gs 94 rfl rfl rfl ?_
 refine .vl (Y.pick rfl rfl rfl) ?_
 refine AOps.nil ?_
 refine AWp.condT rfl ?_
 refine AWp.sr ?_
 refine .vl (Y.assign rfl rfl) ?_
 refine AOps.nil ?_
 refine AWp.ret ?_
 exact ⟨_, _, rfl, rfl, (cg1 (fun (z0 : Bool) => X.v (.bool z0)) (df (by (simp only [Shaped, c63, Int.reduceEq, Bool.not_eq_true, false_and, true_and, and_true, and_false, or_false, false_or, ne_eq]) <;> (first | omega | grind)) : false = decide (Shaped n c)) : X.v (.bool false) = X.v (.bool (decide (Shaped n c)))), rfl⟩
 refine .gv 94 rfl rfl (Y.fieldAddr fl39_4 rfl rfl) ?_
 refine .gv 94 rfl rfl (Y.load sh37 rfl rfl rfl rfl) ?_
 refine .gv 94 rfl rfl (Y.neq rfl rfl) ?_
 refine .gv 94 rfl rfl (Y.move rfl rfl) ?_
 refine AOps.splitD (d := 98) rfl (fun c98 => ?_) (fun c98 => ?_)
 refine .gv 98 rfl rfl (Y.move rfl rfl) ?_
 refine .gv 98 rfl rfl (Y.not rfl) ?_
 refine .gv 94 rfl rfl (Y.pick rfl rfl rfl) ?_
 refine .vl (Y.pick rfl rfl rfl) ?_
 refine AOps.nil ?_
 refine AWp.condT rfl ?_
 refine AWp.sr ?_
 refine .vl (Y.assign rfl rfl) ?_
 refine AOps.nil ?_
 refine AWp.ret ?_
 exact ⟨_, _, rfl, rfl, (cg1 (fun (z0 : Bool) => X.v (.bool z0)) (df (by (simp only [Shaped, c63, Int.reduceEq, Bool.not_eq_true, false_and, true_and, and_true, and_false, or_false, false_or, ne_eq]) <;> (first | omega | grind)) : false = decide (Shaped n c)) : X.v (.bool false) = X.v (.bool (decide (Shaped n c)))), rfl⟩
 refine .gs 98 rfl rfl rfl ?_
 refine .gs 98 rfl rfl rfl ?_
 refine .gv 94 rfl rfl (Y.pick rfl rfl rfl) ?_
 refine .vl (Y.pick rfl rfl rfl) ?_
 refine AOps.nil ?_
 refine AWp.condF rfl ?_
 refine AWp.skip ?_
 refine AWp.seq ?_
 refine AWp.sr ?_
 refine .vl (Y.move rfl rfl) ?_
 refine .vl (Y.lss rfl rfl) ?_
 refine AOps.nil ?_
 refine AWp.condD rfl (fun c104 => ?_) (fun c104 => ?_)
 refine AWp.sr ?_
 refine .vl (Y.fieldAddr fl39_5 rfl rfl) ?_
 refine .vl (Y.load sh3 rfl rfl rfl rfl) ?_
 refine .vl (Y.eql rfl rfl) ?_
 refine .vl (Y.assign rfl rfl) ?_
 refine AOps.nil ?_
 refine AWp.ret ?_
 exact ⟨_, _, rfl, rfl, (cg1 (fun (z0 : Bool) => X.v (.bool z0)) (dd (by (simp only [Shaped, c63, Int.reduceEq, Bool.not_eq_true, false_and, true_and, and_true, and_false, or_false, false_or, ne_eq]) <;> (first | omega | grind)) : (decide (c.mem = 0)) = decide (Shaped n c)) : X.v (.bool (decide (c.mem = 0))) = X.v (.bool (decide (Shaped n c)))), rfl⟩
 refine AWp.skip ?_
 refine AWp.sr ?_
 refine .vl (Y.fieldAddr fl39_5 rfl rfl) ?_
 refine .vl (Y.load sh3 rfl rfl rfl rfl) ?_
 refine .vl (Y.geq rfl rfl) ?_
 refine .vl (Y.move rfl rfl) ?_
 refine AOps.splitD (d := 111) rfl (fun c111 => ?_) (fun c111 => ?_)
 refine .gv 111 rfl rfl (Y.fieldAddr fl39_5 rfl rfl) ?_
 refine .gv 111 rfl rfl (Y.load sh3 rfl rfl rfl rfl) ?_
 refine .gv 111 rfl rfl (Y.move rfl rfl) ?_
 refine .gv 111 rfl rfl (Y.lss rfl rfl) ?_
 refine .vl (Y.pick rfl rfl rfl) ?_
 refine .vl (Y.move rfl rfl) ?_
 refine AOps.splitD (d := 117) rfl (fun c117 => ?_) (fun c117 => ?_)
 refine .gv 117 rfl rfl (Y.fieldAddr fl39_0 rfl rfl) ?_
 refine .gv 117 rfl rfl (Y.load sh3 rfl rfl rfl rfl) ?_
 refine .gv 117 rfl rfl (Y.neq rfl rfl) ?_
 refine .gv 117 rfl rfl (Y.move rfl rfl) ?_
 refine AOps.splitD (d := 121) rfl (fun c121 => ?_) (fun c121 => ?_)
 refine .gs 121 rfl rfl rfl ?_
 refine .gs 121 rfl rfl rfl ?_
 refine .gs 121 rfl rfl rfl ?_
 refine .gs 121 rfl rfl rfl ?_
 refine .gs 121 rfl rfl rfl ?_
 refine .gs 121 rfl rfl rfl ?_
 refine .gs 121 rfl rfl rfl ?_
 refine .gs 121 rfl rfl rfl ?_
 refine .gv 117 rfl rfl (Y.pick rfl rfl rfl) ?_
 refine .vl (Y.pick rfl rfl rfl) ?_
 refine .vl (Y.assign rfl rfl) ?_
 refine AOps.nil ?_
 refine AWp.ret ?_
 exact ⟨_, _, rfl, rfl, (cg1 (fun (z0 : Bool) => X.v (.bool z0)) (dt (by (simp only [Shaped, c63, Int.reduceEq, Bool.not_eq_true, false_and, true_and, and_true, and_false, or_false, false_or, ne_eq]) <;> (first | omega | grind)) : true = decide (Shaped n c)) : X.v (.bool true) = X.v (.bool (decide (Shaped n c)))), rfl⟩
 refine .gv 121 rfl rfl (Y.fieldAddr fl27_5 rfl rfl) ?_
 refine .gv 121 rfl rfl (Y.load sh25 rfl rfl rfl rfl) ?_
 refine .gv 121 rfl rfl (Y.fieldAddr fl39_5 rfl rfl) ?_
 refine .gv 121 rfl rfl (Y.load sh3 rfl rfl rfl rfl) ?_
 refine .gv 121 rfl rfl (Y.indexF (m := (c.mem).toNat) sl25 rfl rfl (by first | omega | simp [-List.getD_eq_getElem?_getD] <;> omega) (row_getD (d := default) (by first | omega | simp [-List.getD_eq_getElem?_getD] <;> omega))) ?_
 refine .gv 121 rfl rfl (Y.fieldAddr fl83_2 rfl rfl) ?_
 refine .gv 121 rfl rfl (Y.load sh4 rfl rfl rfl rfl) ?_
 refine .gv 121 rfl rfl (Y.not rfl) ?_
 refine .gv 117 rfl rfl (Y.pick rfl rfl rfl) ?_
 refine .vl (Y.pick rfl rfl rfl) ?_
 refine .vl (Y.assign rfl rfl) ?_
 refine AOps.nil ?_
 refine AWp.ret ?_
 exact ⟨_, _, rfl, rfl, (cg1 (fun (z0 : Bool) => X.v (.bool z0)) (db (by (simp only [Shaped, c63, Int.reduceEq, Bool.not_eq_true, false_and, true_and, and_true, and_false, or_false, false_or, ne_eq]) <;> (first | omega | grind)) : (!((n.streams.getD ((c.mem).toNat) default).out)) = decide (Shaped n c)) : X.v (.bool (!((n.streams.getD ((c.mem).toNat) default).out))) = X.v (.bool (decide (Shaped n c)))), rfl⟩
 refine .gs 117 rfl rfl rfl ?_
 refine .gs 117 rfl rfl rfl ?_
 refine .gs 117 rfl rfl rfl ?_
 refine .gs 117 rfl rfl rfl ?_
 refine .gs 121 rfl rfl rfl ?_
 refine .gs 121 rfl rfl rfl ?_
 refine .gs 121 rfl rfl rfl ?_
 refine .gs 121 rfl rfl rfl ?_
 refine .gs 121 rfl rfl rfl ?_
 refine .gs 121 rfl rfl rfl ?_
 refine .gs 121 rfl rfl rfl ?_
 refine .gs 121 rfl rfl rfl ?_
 refine .gs 117 rfl rfl rfl ?_
 refine .vl (Y.pick rfl rfl rfl) ?_
 refine .vl (Y.assign rfl rfl) ?_
 refine AOps.nil ?_
 refine AWp.ret ?_
 exact ⟨_, _, rfl, rfl, (cg1 (fun (z0 : Bool) => X.v (.bool z0)) (df (by (simp only [Shaped, c63, Int.reduceEq, Bool.not_eq_true, false_and, true_and, and_true, and_false, or_false, false_or, ne_eq]) <;> (first | omega | grind)) : false = decide (Shaped n c)) : X.v (.bool false) = X.v (.bool (decide (Shaped n c)))), rfl⟩
 refine .gs 111 rfl rfl rfl ?_
 refine .gs 111 rfl rfl rfl ?_
 refine .gs 111 rfl rfl rfl ?_
 refine .gs 111 rfl rfl rfl ?_
 refine .vl (Y.pick rfl rfl rfl) ?_
 refine .vl (Y.move rfl rfl) ?_
 refine .gs 117 rfl rfl rfl ?_
 refine .gs 117 rfl rfl rfl ?_
 refine .gs 117 rfl rfl rfl ?_
 refine .gs 117 rfl rfl rfl ?_
 refine .gs 121 rfl rfl rfl ?_
 refine .gs 121 rfl rfl rfl ?_
 refine .gs 121 rfl rfl rfl ?_
 refine .gs 121 rfl rfl rfl ?_
 refine .gs 121 rfl rfl rfl ?_
 refine .gs 121 rfl rfl rfl ?_
 refine .gs 121 rfl rfl rfl ?_
 refine .gs 121 rfl rfl rfl ?_
 refine .gs 117 rfl rfl rfl ?_
 refine .vl (Y.pick rfl rfl rfl) ?_
 refine .vl (Y.assign rfl rfl) ?_
 refine AOps.nil ?_
 refine AWp.ret ?_
 exact ⟨_, _, rfl, rfl, (cg1 (fun (z0 : Bool) => X.v (.bool z0)) (df (by (simp only [Shaped, c63, Int.reduceEq, Bool.not_eq_true, false_and, true_and, and_true, and_false, or_false, false_or, ne_eq]) <;> (first | omega | grind)) : false = decide (Shaped n c)) : X.v (.bool false) = X.v (.bool (decide (Shaped n c)))), rfl⟩
 refine AWp.sr ?_
 refine .vl (Y.eql rfl rfl) ?_
 refine .vl (Y.assign rfl rfl) ?_
 refine AOps.nil ?_
 refine AWp.condD rfl (fun c68 => ?_) (fun c68 => ?_)
 refine AWp.sr ?_
 refine .vl (Y.assign rfl rfl) ?_
 refine AOps.nil ?_
 refine AWp.sr ?_
 refine .vl (Y.fieldAddr fl39_4 rfl rfl) ?_
 refine .vl (Y.load sh37 rfl rfl rfl rfl) ?_
 refine .vl (Y.fieldAddr fl27_3 rfl rfl) ?_
 refine .vl (Y.load sh22 rfl rfl rfl rfl) ?_
 refine .vl (Y.len (n := n.ins.length) sl22 rfl (congrArg some (List.length_map ..))) ?_
 refine .vl (Y.convK ii3 ii37 rfl (by first | rfl | exact IntWalk.u64_in _ (by first | omega | simp [-List.getD_eq_getElem?_getD] <;> omega))) ?_
 refine .vl (Y.geq rfl rfl) ?_
 refine AOps.nil ?_
 refine AWp.condD rfl (fun c76 => ?_) (fun c76 => ?_)
 refine AWp.sr ?_
 refine .vl (Y.assign rfl rfl) ?_
 refine AOps.nil ?_
 refine AWp.ret ?_
 exact ⟨_, _, rfl, rfl, (cg1 (fun (z0 : Bool) => X.v (.bool z0)) (df (by (simp only [Shaped, c68, Int.reduceEq, Bool.not_eq_true, false_and, true_and, and_true, and_false, or_false, false_or, ne_eq]) <;> (first | omega | grind)) : false = decide (Shaped n c)) : X.v (.bool false) = X.v (.bool (decide (Shaped n c)))), rfl⟩
 refine AWp.skip ?_
 refine AWp.join0 (⟨[(2, .ptr 102 0 0 0), (3, .ptr 103 0 0 0), (8, .v (.int .i64 (-1)))], [(102, .cells (Netlist.row n)), (103, .cells (Cell.row c))]⟩) (((¬ (((c.args.length : Nat) : Int) ≠ 0)) ∧ (¬ (c.op ≠ 0)) ∧ (((c.num : Nat) : Int) ≠ 0)) ∨ ((¬ (((c.args.length : Nat) : Int) ≠ 0)) ∧ (¬ (c.op ≠ 0)) ∧ (¬ (((c.num : Nat) : Int) ≠ 0)))) ?_ (fun hJ33 => ?_)
 refine AWp.sr ?_
 refine .vl (Y.fieldAddr fl39_3 rfl rfl) ?_
 refine .vl (Y.load sh22 rfl rfl rfl rfl) ?_
 refine .vl (Y.len (n := c.args.length) sl22 rfl (congrArg some (List.length_map ..))) ?_
 refine .vl (Y.move rfl rfl) ?_
 refine .vl (Y.neq rfl rfl) ?_
 refine .vl (Y.move rfl rfl) ?_
 refine AOps.splitD (d := 88) rfl (fun c88 => ?_) (fun c88 => ?_)
 refine .gs 88 rfl rfl rfl ?_
 refine .gs 88 rfl rfl rfl ?_
 refine .gs 88 rfl rfl rfl ?_
 refine .gs 88 rfl rfl rfl ?_
 refine .vl (Y.pick rfl rfl rfl) ?_
 refine .vl (Y.move rfl rfl) ?_
 refine .gs 94 rfl rfl rfl ?_
 refine .gs 94 rfl rfl rfl ?_
 refine .gs 94 rfl rfl rfl ?_
 refine .gs 94 rfl rfl rfl ?_
 refine .gs 98 rfl rfl rfl ?_
 refine .gs 98 rfl rfl rfl ?_
 refine .gs 94 rfl rfl rfl ?_
 refine .vl (Y.pick rfl rfl rfl) ?_
 refine AOps.nil ?_
 refine AWp.condT rfl ?_
 refine AWp.sr ?_
 refine .vl (Y.assign rfl rfl) ?_
 refine AOps.nil ?_
 refine AWp.ret ?_
 exact ⟨_, _, rfl, rfl, (cg1 (fun (z0 : Bool) => X.v (.bool z0)) (df (by (simp only [Shaped, c68, Int.reduceEq, Bool.not_eq_true, false_and, true_and, and_true, and_false, or_false, false_or, ne_eq]) <;> (first | omega | grind)) : false = decide (Shaped n c)) : X.v (.bool false) = X.v (.bool (decide (Shaped n c)))), rfl⟩
 refine .gv 88 rfl rfl (Y.fieldAddr fl39_1 rfl rfl) ?_
 refine .gv 88 rfl rfl (Y.load sh3 rfl rfl rfl rfl) ?_
 refine .gv 88 rfl rfl (Y.move rfl rfl) ?_
 refine .gv 88 rfl rfl (Y.neq rfl rfl) ?_
 refine .vl (Y.pick rfl rfl rfl) ?_
 refine .vl (Y.move rfl rfl) ?_
 refine AOps.splitD (d := 94) rfl (fun c94 => ?_) (fun c94 => ?_)
 refine .gs 94 rfl rfl rfl ?_
 refine .gs 94 rfl rfl rfl ?_
 refine .gs 94 rfl rfl rfl ?_
 refine .gs 94 rfl rfl rfl ?_
 refine .gs 98 rfl rfl rfl ?_
 refine .gs 98 rfl rfl rfl ?_
 refine .gs 94 rfl rfl rfl ?_
 refine .vl (Y.pick rfl rfl rfl) ?_
 refine AOps.nil ?_
 refine AWp.condT rfl ?_
 refine AWp.sr ?_
 refine .vl (Y.assign rfl rfl) ?_
 refine AOps.nil ?_
 refine AWp.ret ?_
 exact ⟨_, _, rfl, rfl, (cg1 (fun (z0 : Bool) => X.v (.bool z0)) (df (by (simp only [Shaped, c68, Int.reduceEq, Bool.not_eq_true, false_and, true_and, and_true, and_false, or_false, false_or, ne_eq]) <;> (first | omega | grind)) : false = decide (Shaped n c)) : X.v (.bool false) = X.v (.bool (decide (Shaped n c)))), rfl⟩
 refine .gv 94 rfl rfl (Y.fieldAddr fl39_4 rfl rfl) ?_
 refine .gv 94 rfl rfl (Y.load sh37 rfl rfl rfl rfl) ?_
 refine .gv 94 rfl rfl (Y.neq rfl rfl) ?_
 refine .gv 94 rfl rfl (Y.move rfl rfl) ?_
 refine AOps.splitD (d := 98) rfl (fun c98 => ?_) (fun c98 => ?_)
 refine .gv 98 rfl rfl (Y.move rfl rfl) ?_
 refine .gv 98 rfl rfl (Y.not rfl) ?_
 refine .gv 94 rfl rfl (Y.pick rfl rfl rfl) ?_
 refine .vl (Y.pick rfl rfl rfl) ?_
 refine AOps.nil ?_
 refine AWp.condF rfl ?_
 refine AWp.skip ?_
 exact ⟨.inl ⟨c88, c94, c98⟩, Le.mk (SubL.cons rfl (SubL.cons rfl (SubL.cons rfl (SubL.nil)))) (SubL.cons rfl (SubL.cons rfl (SubL.nil)))⟩
 refine .gs 98 rfl rfl rfl ?_
 refine .gs 98 rfl rfl rfl ?_
 refine .gv 94 rfl rfl (Y.pick rfl rfl rfl) ?_
 refine .vl (Y.pick rfl rfl rfl) ?_
 refine AOps.nil ?_
 refine AWp.condF rfl ?_
 refine AWp.skip ?_
 exact ⟨.inr (⟨c88, c94, c98⟩), Le.mk (SubL.cons rfl (SubL.cons rfl (SubL.cons rfl (SubL.nil)))) (SubL.cons rfl (SubL.cons rfl (SubL.nil)))⟩
 refine AWp.seq ?_
 refine AWp.sr ?_
 refine .vl (Y.move rfl rfl) ?_
 refine .vl (Y.lss rfl rfl) ?_
 refine AOps.nil ?_
 refine AWp.condT rfl ?_
 refine AWp.sr ?_
 refine .vl (Y.fieldAddr fl39_5 rfl rfl) ?_
 refine .vl (Y.load sh3 rfl rfl rfl rfl) ?_
 refine .vl (Y.eql rfl rfl) ?_
 refine .vl (Y.assign rfl rfl) ?_
 refine AOps.nil ?_
 refine AWp.ret ?_
 exact ⟨_, _, rfl, rfl, (cg1 (fun (z0 : Bool) => X.v (.bool z0)) (dd (by (simp only [Shaped, c68, Int.reduceEq, Bool.not_eq_true, false_and, true_and, and_true, and_false, or_false, false_or, ne_eq]) <;> (first | omega | grind)) : (decide (c.mem = 0)) = decide (Shaped n c)) : X.v (.bool (decide (c.mem = 0))) = X.v (.bool (decide (Shaped n c)))), rfl⟩
 refine AWp.seq ?_
 refine AWp.sr ?_
 refine .vl (Y.eql rfl rfl) ?_
 refine .vl (Y.assign rfl rfl) ?_
 refine AOps.nil ?_
 refine AWp.condKD rfl (fun c77 => ?_) (fun c77 => ?_)
 refine AWp.skip ?_
 refine AWp.condT rfl ?_
 refine AWp.region ?_
 refine .vl (Y.fieldAddr fl27_5 rfl rfl) ?_
 refine .vl (Y.load sh25 rfl rfl rfl rfl) ?_
 refine .vl (Y.len (n := n.streams.length) sl25 rfl (congrArg some (List.length_map ..))) ?_
 refine .vl (Y.assign rfl rfl) ?_
 refine AOps.nil ?_
 refine AWp.seq ?_
 refine AWp.sr ?_
 refine .vl (Y.fieldAddr fl39_3 rfl rfl) ?_
 refine .vl (Y.load sh22 rfl rfl rfl rfl) ?_
 refine .vl (Y.len (n := c.args.length) sl22 rfl (congrArg some (List.length_map ..))) ?_
 refine .vl (Y.move rfl rfl) ?_
 refine .vl (Y.neq rfl rfl) ?_
 refine .vl (Y.move rfl rfl) ?_
 refine AOps.splitD (d := 88) rfl (fun c88 => ?_) (fun c88 => ?_)
 refine .gs 88 rfl rfl rfl ?_
 refine .gs 88 rfl rfl rfl ?_
 refine .gs 88 rfl rfl rfl ?_
 refine .gs 88 rfl rfl rfl ?_
 refine .vl (Y.pick rfl rfl rfl) ?_
 refine .vl (Y.move rfl rfl) ?_
 refine .gs 94 rfl rfl rfl ?_
 refine .gs 94 rfl rfl rfl ?_
 refine .gs 94 rfl rfl rfl ?_
 refine .gs 94 rfl rfl rfl ?_
 refine .gs 98 rfl rfl rfl ?_
 refine .gs 98 rfl rfl rfl ?_
 refine .gs 94 rfl rfl rfl ?_
 refine .vl (Y.pick rfl rfl rfl) ?_
 refine AOps.nil ?_
 refine AWp.condT rfl ?_
 refine AWp.sr ?_
 refine .vl (Y.assign rfl rfl) ?_
 refine AOps.nil ?_
 refine AWp.ret ?_
 exact ⟨_, _, rfl, rfl, (cg1 (fun (z0 : Bool) => X.v (.bool z0)) (df (by (simp only [Shaped, c77, Int.reduceEq, Bool.not_eq_true, false_and, true_and, and_true, and_false, or_false, false_or, ne_eq]) <;> (first | omega | grind)) : false = decide (Shaped n c)) : X.v (.bool false) = X.v (.bool (decide (Shaped n c)))), rfl⟩
 refine .gv 88 rfl rfl (Y.fieldAddr fl39_1 rfl rfl) ?_
 refine .gv 88 rfl rfl (Y.load sh3 rfl rfl rfl rfl) ?_
 refine .gv 88 rfl rfl (Y.move rfl rfl) ?_
 refine .gv 88 rfl rfl (Y.neq rfl rfl) ?_
 refine .vl (Y.pick rfl rfl rfl) ?_
 refine .vl (Y.move rfl rfl) ?_
 refine AOps.splitD (d := 94) rfl (fun c94 => ?_) (fun c94 => ?_)
 refine .gs 94 rfl rfl rfl ?_
 refine .gs 94 rfl rfl rfl ?_
 refine .gs 94 rfl rfl rfl ?_
 refine .gs 94 rfl rfl rfl ?_
 refine .gs 98 rfl rfl rfl ?_
 refine .gs 98 rfl rfl rfl ?_
 refine .gs 94 rfl rfl rfl ?_
 refine .vl (Y.pick rfl rfl rfl) ?_
 refine AOps.nil ?_
 refine AWp.condT rfl ?_
 refine AWp.sr ?_
 refine .vl (Y.assign rfl rfl) ?_
 refine AOps.nil ?_
 refine AWp.ret ?_
 exact ⟨_, _, rfl, rfl, (cg1 (fun (z0 : Bool) => X.v (.bool z0)) (df (by (simp only [Shaped, c77, Int.reduceEq, Bool.not_eq_true, false_and, true_and, and_true, and_false, or_false, false_or, ne_eq]) <;> (first | omega | grind)) : false = decide (Shaped n c)) : X.v (.bool false) = X.v (.bool (decide (Shaped n c)))), rfl⟩
 refine .gv 94 rfl rfl (Y.fieldAddr fl39_4 rfl rfl) ?_
 refine .gv 94 rfl rfl (Y.load sh37 rfl rfl rfl rfl) ?_
 refine .gv 94 rfl rfl (Y.neq rfl rfl) ?_
 refine .gv 94 rfl rfl (Y.move rfl rfl) ?_
 refine AOps.splitD (d := 98) rfl (fun c98 => ?_) (fun c98 => ?_)
 refine .gv 98 rfl rfl (Y.move rfl rfl) ?_
 refine .gv 98 rfl rfl (Y.not rfl) ?_
 refine .gv 94 rfl rfl (Y.pick rfl rfl rfl) ?_
 refine .vl (Y.pick rfl rfl rfl) ?_
 refine AOps.nil ?_
 refine AWp.condT rfl ?_
 refine AWp.sr ?_
 refine .vl (Y.assign rfl rfl) ?_
 refine AOps.nil ?_
 refine AWp.ret ?_
 exact ⟨_, _, rfl, rfl, (cg1 (fun (z0 : Bool) => X.v (.bool z0)) (df (by (simp only [Shaped, c77, Int.reduceEq, Bool.not_eq_true, false_and, true_and, and_true, and_false, or_false, false_or, ne_eq]) <;> (first | omega | grind)) : false = decide (Shaped n c)) : X.v (.bool false) = X.v (.bool (decide (Shaped n c)))), rfl⟩
 refine .gs 98 rfl rfl rfl ?_
 refine .gs 98 rfl rfl rfl ?_
 refine .gv 94 rfl rfl (Y.pick rfl rfl rfl) ?_
 refine .vl (Y.pick rfl rfl rfl) ?_
 refine AOps.nil ?_
 refine AWp.condF rfl ?_
 refine AWp.skip ?_
 refine AWp.seq ?_
 refine AWp.sr ?_
 refine .vl (Y.move rfl rfl) ?_
 refine .vl (Y.lss rfl rfl) ?_
 refine AOps.nil ?_
 refine AWp.condD rfl (fun c104 => ?_) (fun c104 => ?_)
 refine AWp.sr ?_
 refine .vl (Y.fieldAddr fl39_5 rfl rfl) ?_
 refine .vl (Y.load sh3 rfl rfl rfl rfl) ?_
 refine .vl (Y.eql rfl rfl) ?_
 refine .vl (Y.assign rfl rfl) ?_
 refine AOps.nil ?_
 refine AWp.ret ?_
 exact ⟨_, _, rfl, rfl, (cg1 (fun (z0 : Bool) => X.v (.bool z0)) (dd (by (simp only [Shaped, c77, Int.reduceEq, Bool.not_eq_true, false_and, true_and, and_true, and_false, or_false, false_or, ne_eq]) <;> (first | omega | grind)) : (decide (c.mem = 0)) = decide (Shaped n c)) : X.v (.bool (decide (c.mem = 0))) = X.v (.bool (decide (Shaped n c)))), rfl⟩
 refine AWp.skip ?_
 refine AWp.sr ?_
 refine .vl (Y.fieldAddr fl39_5 rfl rfl) ?_
 refine .vl (Y.load sh3 rfl rfl rfl rfl) ?_
 refine .vl (Y.geq rfl rfl) ?_
 refine .vl (Y.move rfl rfl) ?_
 refine AOps.splitD (d := 111) rfl (fun c111 => ?_) (fun c111 => ?_)
 refine .gv 111 rfl rfl (Y.fieldAddr fl39_5 rfl rfl) ?_
 refine .gv 111 rfl rfl (Y.load sh3 rfl rfl rfl rfl) ?_
 refine .gv 111 rfl rfl (Y.move rfl rfl) ?_
 refine .gv 111 rfl rfl (Y.lss rfl rfl) ?_
 refine .vl (Y.pick rfl rfl rfl) ?_
 refine .vl (Y.move rfl rfl) ?_
 refine AOps.splitD (d := 117) rfl (fun c117 => ?_) (fun c117 => ?_)
 refine .gv 117 rfl rfl (Y.fieldAddr fl39_0 rfl rfl) ?_
 refine .gv 117 rfl rfl (Y.load sh3 rfl rfl rfl rfl) ?_
 refine .gv 117 rfl rfl (Y.neq rfl rfl) ?_
 refine .gv 117 rfl rfl (Y.move rfl rfl) ?_
 refine AOps.splitD (d := 121) rfl (fun c121 => ?_) (fun c121 => ?_)
 refine .gs 121 rfl rfl rfl ?_
 refine .gs 121 rfl rfl rfl ?_
 refine .gs 121 rfl rfl rfl ?_
 refine .gs 121 rfl rfl rfl ?_
 refine .gs 121 rfl rfl rfl ?_
 refine .gs 121 rfl rfl rfl ?_
 refine .gs 121 rfl rfl rfl ?_
 refine .gs 121 rfl rfl rfl ?_
 refine .gv 117 rfl rfl (Y.pick rfl rfl rfl) ?_
 refine .vl (Y.pick rfl rfl rfl) ?_
 refine .vl (Y.assign rfl rfl) ?_
 refine AOps.nil ?_
 refine AWp.ret ?_
 exact ⟨_, _, rfl, rfl, (cg1 (fun (z0 : Bool) => X.v (.bool z0)) (dt (by (simp only [Shaped, c77, Int.reduceEq, Bool.not_eq_true, false_and, true_and, and_true, and_false, or_false, false_or, ne_eq]) <;> (first | omega | grind)) : true = decide (Shaped n c)) : X.v (.bool true) = X.v (.bool (decide (Shaped n c)))), rfl⟩
 refine .gv 121 rfl rfl (Y.fieldAddr fl27_5 rfl rfl) ?_
 refine .gv 121 rfl rfl (Y.load sh25 rfl rfl rfl rfl) ?_
 refine .gv 121 rfl rfl (Y.fieldAddr fl39_5 rfl rfl) ?_
 refine .gv 121 rfl rfl (Y.load sh3 rfl rfl rfl rfl) ?_
 refine .gv 121 rfl rfl (Y.indexF (m := (c.mem).toNat) sl25 rfl rfl (by first | omega | simp [-List.getD_eq_getElem?_getD] <;> omega) (row_getD (d := default) (by first | omega | simp [-List.getD_eq_getElem?_getD] <;> omega))) ?_
 refine .gv 121 rfl rfl (Y.fieldAddr fl83_2 rfl rfl) ?_
 refine .gv 121 rfl rfl (Y.load sh4 rfl rfl rfl rfl) ?_
 refine .gv 121 rfl rfl (Y.not rfl) ?_
 refine .gv 117 rfl rfl (Y.pick rfl rfl rfl) ?_
 refine .vl (Y.pick rfl rfl rfl) ?_
 refine .vl (Y.assign rfl rfl) ?_
 refine AOps.nil ?_
 refine AWp.ret ?_
 exact ⟨_, _, rfl, rfl, (cg1 (fun (z0 : Bool) => X.v (.bool z0)) (db (by (simp only [Shaped, c77, Int.reduceEq, Bool.not_eq_true, false_and, true_and, and_true, and_false, or_false, false_or, ne_eq]) <;> (first | omega | grind)) : (!((n.streams.getD ((c.mem).toNat) default).out)) = decide (Shaped n c)) : X.v (.bool (!((n.streams.getD ((c.mem).toNat) default).out))) = X.v (.bool (decide (Shaped n c)))), rfl⟩
 refine .gs 117 rfl rfl rfl ?_
 refine .gs 117 rfl rfl rfl ?_
 refine .gs 117 rfl rfl rfl ?_
 refine .gs 117 rfl rfl rfl ?_
 refine .gs 121 rfl rfl rfl ?_
 refine .gs 121 rfl rfl rfl ?_
 refine .gs 121 rfl rfl rfl ?_
 refine .gs 121 rfl rfl rfl ?_
 refine .gs 121 rfl rfl rfl ?_
 refine .gs 121 rfl rfl rfl ?_
 refine .gs 121 rfl rfl rfl ?_
 refine .gs 121 rfl rfl rfl ?_
 refine .gs 117 rfl rfl rfl ?_
 refine .vl (Y.pick rfl rfl rfl) ?_
 refine .vl (Y.assign rfl rfl) ?_
 refine AOps.nil ?_
 refine AWp.ret ?_
 exact ⟨_, _, rfl, rfl, (cg1 (fun (z0 : Bool) => X.v (.bool z0)) (df (by (simp only [Shaped, c77, Int.reduceEq, Bool.not_eq_true, false_and, true_and, and_true, and_false, or_false, false_or, ne_eq]) <;> (first | omega | grind)) : false = decide (Shaped n c)) : X.v (.bool false) = X.v (.bool (decide (Shaped n c)))), rfl⟩
 refine .gs 111 rfl rfl rfl ?_
 refine .gs 111 rfl rfl rfl ?_
 refine .gs 111 rfl rfl rfl ?_
 refine .gs 111 rfl rfl rfl ?_
 refine .vl (Y.pick rfl rfl rfl) ?_
 refine .vl (Y.move rfl rfl) ?_
 refine .gs 117 rfl rfl rfl ?_
 refine .gs 117 rfl rfl rfl ?_
 refine .gs 117 rfl rfl rfl ?_
 refine .gs 117 rfl rfl rfl ?_
 refine .gs 121 rfl rfl rfl ?_
 refine .gs 121 rfl rfl rfl ?_
 refine .gs 121 rfl rfl rfl ?_
 refine .gs 121 rfl rfl rfl ?_
 refine .gs 121 rfl rfl rfl ?_
 refine .gs 121 rfl rfl rfl ?_
 refine .gs 121 rfl rfl rfl ?_
 refine .gs 121 rfl rfl rfl ?_
 refine .gs 117 rfl rfl rfl ?_
 refine .vl (Y.pick rfl rfl rfl) ?_
 refine .vl (Y.assign rfl rfl) ?_
 refine AOps.nil ?_
 refine AWp.ret ?_
 exact ⟨_, _, rfl, rfl, (cg1 (fun (z0 : Bool) => X.v (.bool z0)) (df (by (simp only [Shaped, c77, Int.reduceEq, Bool.not_eq_true, false_and, true_and, and_true, and_false, or_false, false_or, ne_eq]) <;> (first | omega | grind)) : false = decide (Shaped n c)) : X.v (.bool false) = X.v (.bool (decide (Shaped n c)))), rfl⟩
 refine AWp.region ?_
 refine .vl (Y.eql rfl rfl) ?_
 refine .vl (Y.assign rfl rfl) ?_
 refine AOps.nil ?_
 refine AWp.condKD rfl (fun c77 => ?_) (fun c77 => ?_)
 refine AWp.region ?_
 refine .vl (Y.fieldAddr fl27_5 rfl rfl) ?_
 refine .vl (Y.load sh25 rfl rfl rfl rfl) ?_
 refine .vl (Y.len (n := n.streams.length) sl25 rfl (congrArg some (List.length_map ..))) ?_
 refine .vl (Y.assign rfl rfl) ?_
 refine AOps.nil ?_
 refine AWp.seq ?_
 refine AWp.sr ?_
 refine .vl (Y.fieldAddr fl39_3 rfl rfl) ?_
 refine .vl (Y.load sh22 rfl rfl rfl rfl) ?_
 refine .vl (Y.len (n := c.args.length) sl22 rfl (congrArg some (List.length_map ..))) ?_
 refine .vl (Y.move rfl rfl) ?_
 refine .vl (Y.neq rfl rfl) ?_
 refine .vl (Y.move rfl rfl) ?_
 refine AOps.splitD (d := 88) rfl (fun c88 => ?_) (fun c88 => ?_)
 refine .gs 88 rfl rfl rfl ?_
 refine .gs 88 rfl rfl rfl ?_
 refine .gs 88 rfl rfl rfl ?_
 refine .gs 88 rfl rfl rfl ?_
 refine .vl (Y.pick rfl rfl rfl) ?_
 refine .vl (Y.move rfl rfl) ?_
 refine .gs 94 rfl rfl rfl ?_
 refine .gs 94 rfl rfl rfl ?_
 refine .gs 94 rfl rfl rfl ?_
 refine .gs 94 rfl rfl rfl ?_
 refine .gs 98 rfl rfl rfl ?_
 refine .gs 98 rfl rfl rfl ?_
 refine .gs 94 rfl rfl rfl ?_
 refine .vl (Y.pick rfl rfl rfl) ?_
 refine AOps.nil ?_
 refine AWp.condT rfl ?_
 refine AWp.sr ?_
 refine .vl (Y.assign rfl rfl) ?_
 refine AOps.nil ?_
 refine AWp.ret ?_
 exact ⟨_, _, rfl, rfl, (cg1 (fun (z0 : Bool) => X.v (.bool z0)) (df (by (simp only [Shaped, c77, Int.reduceEq, Bool.not_eq_true, false_and, true_and, and_true, and_false, or_false, false_or, ne_eq]) <;> (first | omega | grind)) : false = decide (Shaped n c)) : X.v (.bool false) = X.v (.bool (decide (Shaped n c)))), rfl⟩
 refine .gv 88 rfl rfl (Y.fieldAddr fl39_1 rfl rfl) ?_
 refine .gv 88 rfl rfl (Y.load sh3 rfl rfl rfl rfl) ?_
 refine .gv 88 rfl rfl (Y.move rfl rfl) ?_
 refine .gv 88 rfl rfl (Y.neq rfl rfl) ?_
 refine .vl (Y.pick rfl rfl rfl) ?_
 refine .vl (Y.move rfl rfl) ?_
 refine AOps.splitD (d := 94) rfl (fun c94 => ?_) (fun c94 => ?_)
 refine .gs 94 rfl rfl rfl ?_
 refine .gs 94 rfl rfl rfl ?_
 refine .gs 94 rfl rfl rfl ?_
 refine .gs 94 rfl rfl rfl ?_
 refine .gs 98 rfl rfl rfl ?_
 refine .gs 98 rfl rfl rfl ?_
 refine .gs 94 rfl rfl rfl ?_
 refine .vl (Y.pick rfl rfl rfl) ?_
 refine AOps.nil ?_
 refine AWp.condT rfl ?_
 refine AWp.sr ?_
 refine .vl (Y.assign rfl rfl) ?_
 refine AOps.nil ?_
 refine AWp.ret ?_
 exact ⟨_, _, rfl, rfl, (cg1 (fun (z0 : Bool) => X.v (.bool z0)) (df (by (simp only [Shaped, c77, Int.reduceEq, Bool.not_eq_true, false_and, true_and, and_true, and_false, or_false, false_or, ne_eq]) <;> (first | omega | grind)) : false = decide (Shaped n c)) : X.v (.bool false) = X.v (.bool (decide (Shaped n c)))), rfl⟩
 refine .gv 94 rfl rfl (Y.fieldAddr fl39_4 rfl rfl) ?_
 refine .gv 94 rfl rfl (Y.load sh37 rfl rfl rfl rfl) ?_
 refine .gv 94 rfl rfl (Y.neq rfl rfl) ?_
 refine .gv 94 rfl rfl (Y.move rfl rfl) ?_
 refine AOps.splitD (d := 98) rfl (fun c98 => ?_) (fun c98 => ?_)
 refine .gv 98 rfl rfl (Y.move rfl rfl) ?_
 refine .gv 98 rfl rfl (Y.not rfl) ?_
 refine .gv 94 rfl rfl (Y.pick rfl rfl rfl) ?_
 refine .vl (Y.pick rfl rfl rfl) ?_
 refine AOps.nil ?_
 refine AWp.condT rfl ?_
 refine AWp.sr ?_
 refine .vl (Y.assign rfl rfl) ?_
 refine AOps.nil ?_
 refine AWp.ret ?_
 exact ⟨_, _, rfl, rfl, (cg1 (fun (z0 : Bool) => X.v (.bool z0)) (df (by (simp only [Shaped, c77, Int.reduceEq, Bool.not_eq_true, false_and, true_and, and_true, and_false, or_false, false_or, ne_eq]) <;> (first | omega | grind)) : false = decide (Shaped n c)) : X.v (.bool false) = X.v (.bool (decide (Shaped n c)))), rfl⟩
 refine .gs 98 rfl rfl rfl ?_
 refine .gs 98 rfl rfl rfl ?_
 refine .gv 94 rfl rfl (Y.pick rfl rfl rfl) ?_
 refine .vl (Y.pick rfl rfl rfl) ?_
 refine AOps.nil ?_
 refine AWp.condF rfl ?_
 refine AWp.skip ?_
 refine AWp.seq ?_
 refine AWp.sr ?_
 refine .vl (Y.move rfl rfl) ?_
 refine .vl (Y.lss rfl rfl) ?_
 refine AOps.nil ?_
 refine AWp.condD rfl (fun c104 => ?_) (fun c104 => ?_)
 refine AWp.sr ?_
 refine .vl (Y.fieldAddr fl39_5 rfl rfl) ?_
 refine .vl (Y.load sh3 rfl rfl rfl rfl) ?_
 refine .vl (Y.eql rfl rfl) ?_
 refine .vl (Y.assign rfl rfl) ?_
 refine AOps.nil ?_
 refine AWp.ret ?_
 exact ⟨_, _, rfl, rfl, (cg1 (fun (z0 : Bool) => X.v (.bool z0)) (dd (by (simp only [Shaped, c77, Int.reduceEq, Bool.not_eq_true, false_and, true_and, and_true, and_false, or_false, false_or, ne_eq]) <;> (first | omega | grind)) : (decide (c.mem = 0)) = decide (Shaped n c)) : X.v (.bool (decide (c.mem = 0))) = X.v (.bool (decide (Shaped n c)))), rfl⟩
 refine AWp.skip ?_
 refine AWp.sr ?_
 refine .vl (Y.fieldAddr fl39_5 rfl rfl) ?_
 refine .vl (Y.load sh3 rfl rfl rfl rfl) ?_
 refine .vl (Y.geq rfl rfl) ?_
 refine .vl (Y.move rfl rfl) ?_
 refine AOps.splitD (d := 111) rfl (fun c111 => ?_) (fun c111 => ?_)
 refine .gv 111 rfl rfl (Y.fieldAddr fl39_5 rfl rfl) ?_
 refine .gv 111 rfl rfl (Y.load sh3 rfl rfl rfl rfl) ?_
 refine .gv 111 rfl rfl (Y.move rfl rfl) ?_
 refine .gv 111 rfl rfl (Y.lss rfl rfl) ?_
 refine .vl (Y.pick rfl rfl rfl) ?_
 refine .vl (Y.move rfl rfl) ?_
 refine AOps.splitD (d := 117) rfl (fun c117 => ?_) (fun c117 => ?_)
 refine .gv 117 rfl rfl (Y.fieldAddr fl39_0 rfl rfl) ?_
 refine .gv 117 rfl rfl (Y.load sh3 rfl rfl rfl rfl) ?_
 refine .gv 117 rfl rfl (Y.neq rfl rfl) ?_
 refine .gv 117 rfl rfl (Y.move rfl rfl) ?_
 refine AOps.splitD (d := 121) rfl (fun c121 => ?_) (fun c121 => ?_)
 refine .gs 121 rfl rfl rfl ?_
 refine .gs 121 rfl rfl rfl ?_
 refine .gs 121 rfl rfl rfl ?_
 refine .gs 121 rfl rfl rfl ?_
 refine .gs 121 rfl rfl rfl ?_
 refine .gs 121 rfl rfl rfl ?_
 refine .gs 121 rfl rfl rfl ?_
 refine .gs 121 rfl rfl rfl ?_
 refine .gv 117 rfl rfl (Y.pick rfl rfl rfl) ?_
 refine .vl (Y.pick rfl rfl rfl) ?_
 refine .vl (Y.assign rfl rfl) ?_
 refine AOps.nil ?_
 refine AWp.ret ?_
 exact ⟨_, _, rfl, rfl, (cg1 (fun (z0 : Bool) => X.v (.bool z0)) (dt (by (simp only [Shaped, c77, Int.reduceEq, Bool.not_eq_true, false_and, true_and, and_true, and_false, or_false, false_or, ne_eq]) <;> (first | omega | grind)) : true = decide (Shaped n c)) : X.v (.bool true) = X.v (.bool (decide (Shaped n c)))), rfl⟩
 refine .gv 121 rfl rfl (Y.fieldAddr fl27_5 rfl rfl) ?_
 refine .gv 121 rfl rfl (Y.load sh25 rfl rfl rfl rfl) ?_
 refine .gv 121 rfl rfl (Y.fieldAddr fl39_5 rfl rfl) ?_
 refine .gv 121 rfl rfl (Y.load sh3 rfl rfl rfl rfl) ?_
 refine .gv 121 rfl rfl (Y.indexF (m := (c.mem).toNat) sl25 rfl rfl (by first | omega | simp [-List.getD_eq_getElem?_getD] <;> omega) (row_getD (d := default) (by first | omega | simp [-List.getD_eq_getElem?_getD] <;> omega))) ?_
 refine .gv 121 rfl rfl (Y.fieldAddr fl83_2 rfl rfl) ?_
 refine .gv 121 rfl rfl (Y.load sh4 rfl rfl rfl rfl) ?_
 refine .gv 121 rfl rfl (Y.not rfl) ?_
 refine .gv 117 rfl rfl (Y.pick rfl rfl rfl) ?_
 refine .vl (Y.pick rfl rfl rfl) ?_
 refine .vl (Y.assign rfl rfl) ?_
 refine AOps.nil ?_
 refine AWp.ret ?_
 exact ⟨_, _, rfl, rfl, (cg1 (fun (z0 : Bool) => X.v (.bool z0)) (db (by (simp only [Shaped, c77, Int.reduceEq, Bool.not_eq_true, false_and, true_and, and_true, and_false, or_false, false_or, ne_eq]) <;> (first | omega | grind)) : (!((n.streams.getD ((c.mem).toNat) default).out)) = decide (Shaped n c)) : X.v (.bool (!((n.streams.getD ((c.mem).toNat) default).out))) = X.v (.bool (decide (Shaped n c)))), rfl⟩
 refine .gs 117 rfl rfl rfl ?_
 refine .gs 117 rfl rfl rfl ?_
 refine .gs 117 rfl rfl rfl ?_
 refine .gs 117 rfl rfl rfl ?_
 refine .gs 121 rfl rfl rfl ?_
 refine .gs 121 rfl rfl rfl ?_
 refine .gs 121 rfl rfl rfl ?_
 refine .gs 121 rfl rfl rfl ?_
 refine .gs 121 rfl rfl rfl ?_
 refine .gs 121 rfl rfl rfl ?_
 refine .gs 121 rfl rfl rfl ?_
 refine .gs 121 rfl rfl rfl ?_
 refine .gs 117 rfl rfl rfl ?_
 refine .vl (Y.pick rfl rfl rfl) ?_
 refine .vl (Y.assign rfl rfl) ?_
 refine AOps.nil ?_
 refine AWp.ret ?_
 exact ⟨_, _, rfl, rfl, (cg1 (fun (z0 : Bool) => X.v (.bool z0)) (df (by (simp only [Shaped, c77, Int.reduceEq, Bool.not_eq_true, false_and, true_and, and_true, and_false, or_false, false_or, ne_eq]) <;> (first | omega | grind)) : false = decide (Shaped n c)) : X.v (.bool false) = X.v (.bool (decide (Shaped n c)))), rfl⟩
 refine .gs 111 rfl rfl rfl ?_
 refine .gs 111 rfl rfl rfl ?_
 refine .gs 111 rfl rfl rfl ?_
 refine .gs 111 rfl rfl rfl ?_
 refine .vl (Y.pick rfl rfl rfl) ?_
 refine .vl (Y.move rfl rfl) ?_
 refine .gs 117 rfl rfl rfl ?_
 refine .gs 117 rfl rfl rfl ?_
 refine .gs 117 rfl rfl rfl ?_
 refine .gs 117 rfl rfl rfl ?_
 refine .gs 121 rfl rfl rfl ?_
 refine .gs 121 rfl rfl rfl ?_
 refine .gs 121 rfl rfl rfl ?_
 refine .gs 121 rfl rfl rfl ?_
 refine .gs 121 rfl rfl rfl ?_
 refine .gs 121 rfl rfl rfl ?_
 refine .gs 121 rfl rfl rfl ?_
 refine .gs 121 rfl rfl rfl ?_
 refine .gs 117 rfl rfl rfl ?_
 refine .vl (Y.pick rfl rfl rfl) ?_
 refine .vl (Y.assign rfl rfl) ?_
 refine AOps.nil ?_
 refine AWp.ret ?_
 exact ⟨_, _, rfl, rfl, (cg1 (fun (z0 : Bool) => X.v (.bool z0)) (df (by (simp only [Shaped, c77, Int.reduceEq, Bool.not_eq_true, false_and, true_and, and_true, and_false, or_false, false_or, ne_eq]) <;> (first | omega | grind)) : false = decide (Shaped n c)) : X.v (.bool false) = X.v (.bool (decide (Shaped n c)))), rfl⟩
 refine AWp.sr ?_
 refine .vl (Y.assign rfl rfl) ?_
 refine AOps.nil ?_
 refine AWp.ret ?_
 exact ⟨_, _, rfl, rfl, (cg1 (fun (z0 : Bool) => X.v (.bool z0)) (df (by (simp only [Shaped, c11, c13, c22, c34, c36, c58, c63, c68, c77, c77, Int.reduceEq, Bool.not_eq_true, false_and, true_and, and_true, and_false, or_false, false_or, ne_eq]) <;> (first | omega | grind)) : false = decide (Shaped n c)) : X.v (.bool false) = X.v (.bool (decide (Shaped n c)))), rfl⟩

end Go.Proofs.Ytligpghohcfpnaa
/- Walks through the searches of slices. -/
namespace Go.Proofs.Ytligpghohcfpnaa
open Go Go.AW Go.Proofs



set_option maxHeartbeats 1000000 in
theorem indexFuncInt_spec {l : List Int} {p : Int → Bool} {g : Nat} {row : List X} (hl : l.length ≤ 17592186043904) (hok : callOK Try.prog g = true) (hg : ∀ z ∈ l, ACalls Try.prog g [.v (.int .i64 z), .fp row 0] [] [] (fun r o => r = .v (.bool (p z)) ∧ o = [])) : ACalls Try.prog 123 [.fz 1 (l.map irow), .clo (.func g) [] [.fp row 0]] [] [] (fun r o => r = .v (.int .i64 (idxF p l)) ∧ o = []) := by
 refine ACalls.of Try.func123 rfl rfl rfl (n := 19) (by decide) (Nat.le_of_ble_eq_true rfl) ?_
 refine AWp.sr ?_
 refine .vl (Y.assign rfl rfl) ?_
 refine AOps.nil ?_
 refine AWp.seq ?_
 refine AWp.sr ?_
 refine .vl (Y.move rfl rfl) ?_
 refine .vl (Y.len (n := l.length) sl22 rfl (congrArg some (List.length_map ..))) ?_
 refine .vl (Y.move rfl rfl) ?_
 refine AOps.nil ?_
 refine AWp.block ?_
 refine AWp.loop1 (fun (n8_2 : Nat) => ⟨[(0, .fz 1 (l.map irow)), (1, .clo (.func g) [] [.fp row 0]), (7, .v (.int .i64 ((l.length : Nat) : Int))), (8, .v (.int .i64 (n8_2 : Int)))], []⟩) (fun (n8_2 : Nat) => ((n8_2 : Int) ≤ ((l.length : Nat) : Int)) ∧ (∀ j, j < n8_2 → p (l.getD j 0) = false)) (fun (n8_2 : Nat) => (((l.length : Nat) : Int) - (n8_2 : Int)).toNat) 0 (⟨by first | omega | (simp [-List.getD_eq_getElem?_getD]; done) | (simp [-List.getD_eq_getElem?_getD]; omega), fun j hj => by omega⟩) (Le.mk (SubL.cons rfl (SubL.cons rfl (SubL.cons rfl (SubL.cons (look_int rfl (by first | rfl | omega)) (SubL.nil))))) (SubL.nil)) (fun n8_2 hI2 => ?_)
 obtain ⟨hb2, h0⟩ := hI2
 refine AWp.sr ?_
 refine .vl (Y.lss rfl rfl) ?_
 refine AOps.nil ?_
 refine AWp.seq ?_
 refine AWp.condD rfl (fun c9 => ?_) (fun c9 => ?_)
 refine AWp.skip ?_
 refine AWp.seq ?_
 refine AWp.block ?_
 refine AWp.sr ?_
 refine .vl (Y.move rfl rfl) ?_
 refine .vl (Y.assign rfl rfl) ?_
 refine AOps.nil ?_
 refine AWp.sr ?_
 refine .vl (Y.move rfl rfl) ?_
 refine .vl (Y.move rfl rfl) ?_
 refine .vl (Y.move rfl rfl) ?_
 refine .vl (Y.indexF (m := n8_2) sl22 rfl rfl (by first | rfl | omega) (row_getD (d := 0) (by first | omega | simp [-List.getD_eq_getElem?_getD] <;> omega))) ?_
 refine .vl (Y.load sh3 rfl rfl rfl rfl) ?_
 refine AOps.callCP rfl hok (hg _ (getD_mem' (by omega))) rfl (.keep rfl rfl (.keep rfl rfl .nil)) (by decide) rfl ?_
 refine AOps.nil ?_
 refine AWp.cond rfl (fun c16 => ?_) (fun c16 => ?_)
 refine AWp.sr ?_
 refine .vl (Y.move rfl rfl) ?_
 refine .vl (Y.assign rfl rfl) ?_
 refine AOps.nil ?_
 refine AWp.ret ?_
 exact ⟨_, _, rfl, rfl, (cg1 (fun (z0 : Int) => X.v (.int .i64 z0)) (idxF_found h0 (by omega) c16 : (n8_2 : Int) = idxF p l) : X.v (.int .i64 (n8_2 : Int)) = X.v (.int .i64 (idxF p l))), rfl⟩
 refine AWp.skip ?_
 refine AWp.region ?_
 refine .vl (Y.addI rfl rfl (by first | omega | simp [-List.getD_eq_getElem?_getD] <;> omega)) ?_
 refine .vl (Y.move rfl rfl) ?_
 refine AOps.nil ?_
 exact ⟨n8_2 + 1, ⟨by first | omega | (simp [-List.getD_eq_getElem?_getD]; done) | (simp [-List.getD_eq_getElem?_getD]; omega), below_false h0 c16⟩, by omega, Le.mk (SubL.cons rfl (SubL.cons rfl (SubL.cons rfl (SubL.cons (look_int rfl (by first | rfl | omega)) (SubL.nil))))) (SubL.nil)⟩
 refine AWp.exit ?_
 refine AWp.sr ?_
 refine .vl (Y.assign rfl rfl) ?_
 refine AOps.nil ?_
 refine AWp.ret ?_
 exact ⟨_, _, rfl, rfl, (cg1 (fun (z0 : Int) => X.v (.int .i64 z0)) (idxF_none (fun j hj => h0 j (by omega)) : (-1) = idxF p l) : X.v (.int .i64 (-1)) = X.v (.int .i64 (idxF p l))), rfl⟩

set_option maxHeartbeats 1000000 in
theorem containsFuncInt_spec {l : List Int} {p : Int → Bool} {g : Nat} {row : List X} (hl : l.length ≤ 17592186043904) (hok : callOK Try.prog g = true) (hg : ∀ z ∈ l, ACalls Try.prog g [.v (.int .i64 z), .fp row 0] [] [] (fun r o => r = .v (.bool (p z)) ∧ o = [])) : ACalls Try.prog 95 [.fz 1 (l.map irow), .clo (.func g) [] [.fp row 0]] [] [] (fun r o => r = .v (.bool (l.any p)) ∧ o = []) := by
 refine ACalls.of Try.func95 rfl rfl rfl (n := 9) (by decide) (Nat.le_of_ble_eq_true rfl) ?_
 refine AWp.sr ?_
 refine .vl (Y.assign rfl rfl) ?_
 refine AOps.nil ?_
 refine AWp.sr ?_
 refine .vl (Y.move rfl rfl) ?_
 refine .vl (Y.move rfl rfl) ?_
 refine AOps.callP ok123 (indexFuncInt_spec (l := l) hl hok hg) rfl (.keep rfl rfl (.keep rfl rfl .nil)) (by decide) rfl ?_
 refine .vl (Y.geq rfl rfl) ?_
 refine .vl (Y.assign rfl rfl) ?_
 refine AOps.nil ?_
 refine AWp.ret ?_
 exact ⟨_, _, rfl, rfl, (cg1 (fun (z0 : Bool) => X.v (.bool z0)) (idxF_any : (decide (0 ≤ (idxF p l))) = l.any p) : X.v (.bool (decide (0 ≤ (idxF p l)))) = X.v (.bool (l.any p))), rfl⟩

set_option maxHeartbeats 1000000 in
theorem indexFuncCell_spec {l : List Cell} {p : Cell → Bool} {g : Nat} {row : List X} (hl : l.length ≤ 17592186043904) (hok : callOK Try.prog g = true) (hg : ∀ z ∈ l, ACalls Try.prog g [.agg (Cell.row z), .fp row 0] [] [] (fun r o => r = .v (.bool (p z)) ∧ o = [])) : ACalls Try.prog 126 [.fz 6 (l.map Cell.row), .clo (.func g) [] [.fp row 0]] [] [] (fun r o => r = .v (.int .i64 (idxF p l)) ∧ o = []) := by
 refine ACalls.of Try.func126 rfl rfl rfl (n := 19) (by decide) (Nat.le_of_ble_eq_true rfl) ?_
 refine AWp.sr ?_
 refine .vl (Y.assign rfl rfl) ?_
 refine AOps.nil ?_
 refine AWp.seq ?_
 refine AWp.sr ?_
 refine .vl (Y.move rfl rfl) ?_
 refine .vl (Y.len (n := l.length) sl23 rfl (congrArg some (List.length_map ..))) ?_
 refine .vl (Y.move rfl rfl) ?_
 refine AOps.nil ?_
 refine AWp.block ?_
 refine AWp.loop1 (fun (n8_2 : Nat) => ⟨[(0, .fz 6 (l.map Cell.row)), (1, .clo (.func g) [] [.fp row 0]), (7, .v (.int .i64 ((l.length : Nat) : Int))), (8, .v (.int .i64 (n8_2 : Int)))], []⟩) (fun (n8_2 : Nat) => ((n8_2 : Int) ≤ ((l.length : Nat) : Int)) ∧ (∀ j, j < n8_2 → p (l.getD j default) = false)) (fun (n8_2 : Nat) => (((l.length : Nat) : Int) - (n8_2 : Int)).toNat) 0 (⟨by first | omega | (simp [-List.getD_eq_getElem?_getD]; done) | (simp [-List.getD_eq_getElem?_getD]; omega), fun j hj => by omega⟩) (Le.mk (SubL.cons rfl (SubL.cons rfl (SubL.cons rfl (SubL.cons (look_int rfl (by first | rfl | omega)) (SubL.nil))))) (SubL.nil)) (fun n8_2 hI2 => ?_)
 obtain ⟨hb2, h0⟩ := hI2
 refine AWp.sr ?_
 refine .vl (Y.lss rfl rfl) ?_
 refine AOps.nil ?_
 refine AWp.seq ?_
 refine AWp.condD rfl (fun c9 => ?_) (fun c9 => ?_)
 refine AWp.skip ?_
 refine AWp.seq ?_
 refine AWp.block ?_
 refine AWp.sr ?_
 refine .vl (Y.move rfl rfl) ?_
 refine .vl (Y.assign rfl rfl) ?_
 refine AOps.nil ?_
 refine AWp.sr ?_
 refine .vl (Y.move rfl rfl) ?_
 refine .vl (Y.move rfl rfl) ?_
 refine .vl (Y.move rfl rfl) ?_
 refine .vl (Y.indexF (m := n8_2) sl23 rfl rfl (by first | rfl | omega) (row_getD (d := default) (by first | omega | simp [-List.getD_eq_getElem?_getD] <;> omega))) ?_
 refine .vl (Y.loadA sh39 rfl rfl (Nat.le_of_ble_eq_true rfl) rfl rfl) ?_
 refine AOps.callCP rfl hok (hg _ (getD_mem' (by omega))) rfl (.keep rfl rfl (.keep rfl rfl .nil)) (by decide) rfl ?_
 refine AOps.nil ?_
 refine AWp.cond rfl (fun c16 => ?_) (fun c16 => ?_)
 refine AWp.sr ?_
 refine .vl (Y.move rfl rfl) ?_
 refine .vl (Y.assign rfl rfl) ?_
 refine AOps.nil ?_
 refine AWp.ret ?_
 exact ⟨_, _, rfl, rfl, (cg1 (fun (z0 : Int) => X.v (.int .i64 z0)) (idxF_found h0 (by omega) c16 : (n8_2 : Int) = idxF p l) : X.v (.int .i64 (n8_2 : Int)) = X.v (.int .i64 (idxF p l))), rfl⟩
 refine AWp.skip ?_
 refine AWp.region ?_
 refine .vl (Y.addI rfl rfl (by first | omega | simp [-List.getD_eq_getElem?_getD] <;> omega)) ?_
 refine .vl (Y.move rfl rfl) ?_
 refine AOps.nil ?_
 exact ⟨n8_2 + 1, ⟨by first | omega | (simp [-List.getD_eq_getElem?_getD]; done) | (simp [-List.getD_eq_getElem?_getD]; omega), below_false h0 c16⟩, by omega, Le.mk (SubL.cons rfl (SubL.cons rfl (SubL.cons rfl (SubL.cons (look_int rfl (by first | rfl | omega)) (SubL.nil))))) (SubL.nil)⟩
 refine AWp.exit ?_
 refine AWp.sr ?_
 refine .vl (Y.assign rfl rfl) ?_
 refine AOps.nil ?_
 refine AWp.ret ?_
 exact ⟨_, _, rfl, rfl, (cg1 (fun (z0 : Int) => X.v (.int .i64 z0)) (idxF_none (fun j hj => h0 j (by omega)) : (-1) = idxF p l) : X.v (.int .i64 (-1)) = X.v (.int .i64 (idxF p l))), rfl⟩

set_option maxHeartbeats 1000000 in
theorem containsFuncCell_spec {l : List Cell} {p : Cell → Bool} {g : Nat} {row : List X} (hl : l.length ≤ 17592186043904) (hok : callOK Try.prog g = true) (hg : ∀ z ∈ l, ACalls Try.prog g [.agg (Cell.row z), .fp row 0] [] [] (fun r o => r = .v (.bool (p z)) ∧ o = [])) : ACalls Try.prog 100 [.fz 6 (l.map Cell.row), .clo (.func g) [] [.fp row 0]] [] [] (fun r o => r = .v (.bool (l.any p)) ∧ o = []) := by
 refine ACalls.of Try.func100 rfl rfl rfl (n := 9) (by decide) (Nat.le_of_ble_eq_true rfl) ?_
 refine AWp.sr ?_
 refine .vl (Y.assign rfl rfl) ?_
 refine AOps.nil ?_
 refine AWp.sr ?_
 refine .vl (Y.move rfl rfl) ?_
 refine .vl (Y.move rfl rfl) ?_
 refine AOps.callP ok126 (indexFuncCell_spec (l := l) hl hok hg) rfl (.keep rfl rfl (.keep rfl rfl .nil)) (by decide) rfl ?_
 refine .vl (Y.geq rfl rfl) ?_
 refine .vl (Y.assign rfl rfl) ?_
 refine AOps.nil ?_
 refine AWp.ret ?_
 exact ⟨_, _, rfl, rfl, (cg1 (fun (z0 : Bool) => X.v (.bool z0)) (idxF_any : (decide (0 ≤ (idxF p l))) = l.any p) : X.v (.bool (decide (0 ≤ (idxF p l)))) = X.v (.bool (l.any p))), rfl⟩

set_option maxHeartbeats 1000000 in
theorem indexBool_spec {l : List Bool} {b : Bool} (hl : l.length ≤ 140737488351232) : ACalls Try.prog 125 [.fz 1 (l.map brow), .v (.bool b)] [] [] (fun r o => r = .v (.int .i64 (idxF (fun x => b == x) l)) ∧ o = []) := by
 refine ACalls.of Try.func125 rfl rfl rfl (n := 19) (by decide) (Nat.le_of_ble_eq_true rfl) ?_
 refine AWp.sr ?_
 refine .vl (Y.assign rfl rfl) ?_
 refine AOps.nil ?_
 refine AWp.seq ?_
 refine AWp.sr ?_
 refine .vl (Y.move rfl rfl) ?_
 refine .vl (Y.len (n := l.length) sl63 rfl (congrArg some (List.length_map ..))) ?_
 refine .vl (Y.move rfl rfl) ?_
 refine AOps.nil ?_
 refine AWp.block ?_
 refine AWp.loop1 (fun (n8_2 : Nat) => ⟨[(0, .fz 1 (l.map brow)), (1, .v (.bool b)), (7, .v (.int .i64 ((l.length : Nat) : Int))), (8, .v (.int .i64 (n8_2 : Int)))], []⟩) (fun (n8_2 : Nat) => ((n8_2 : Int) ≤ ((l.length : Nat) : Int)) ∧ (∀ j, j < n8_2 → (fun x => b == x) (l.getD j false) = false)) (fun (n8_2 : Nat) => (((l.length : Nat) : Int) - (n8_2 : Int)).toNat) 0 (⟨by first | omega | (simp [-List.getD_eq_getElem?_getD]; done) | (simp [-List.getD_eq_getElem?_getD]; omega), fun j hj => by omega⟩) (Le.mk (SubL.cons rfl (SubL.cons rfl (SubL.cons rfl (SubL.cons (look_int rfl (by first | rfl | omega)) (SubL.nil))))) (SubL.nil)) (fun n8_2 hI2 => ?_)
 obtain ⟨hb2, h0⟩ := hI2
 refine AWp.sr ?_
 refine .vl (Y.lss rfl rfl) ?_
 refine AOps.nil ?_
 refine AWp.seq ?_
 refine AWp.condD rfl (fun c9 => ?_) (fun c9 => ?_)
 refine AWp.skip ?_
 refine AWp.seq ?_
 refine AWp.block ?_
 refine AWp.sr ?_
 refine .vl (Y.move rfl rfl) ?_
 refine .vl (Y.assign rfl rfl) ?_
 refine AOps.nil ?_
 refine AWp.sr ?_
 refine .vl (Y.move rfl rfl) ?_
 refine .vl (Y.move rfl rfl) ?_
 refine .vl (Y.move rfl rfl) ?_
 refine .vl (Y.indexF (m := n8_2) sl63 rfl rfl (by first | rfl | omega) (row_getD (d := false) (by first | omega | simp [-List.getD_eq_getElem?_getD] <;> omega))) ?_
 refine .vl (Y.load sh4 rfl rfl rfl rfl) ?_
 refine .vl (Y.eqlB un4 rfl rfl) ?_
 refine AOps.nil ?_
 refine AWp.cond rfl (fun c16 => ?_) (fun c16 => ?_)
 refine AWp.sr ?_
 refine .vl (Y.move rfl rfl) ?_
 refine .vl (Y.assign rfl rfl) ?_
 refine AOps.nil ?_
 refine AWp.ret ?_
 exact ⟨_, _, rfl, rfl, (cg1 (fun (z0 : Int) => X.v (.int .i64 z0)) (idxF_found (d := false) h0 (by omega) c16 : (n8_2 : Int) = idxF (fun x => b == x) l) : X.v (.int .i64 (n8_2 : Int)) = X.v (.int .i64 (idxF (fun x => b == x) l))), rfl⟩
 refine AWp.skip ?_
 refine AWp.region ?_
 refine .vl (Y.addI rfl rfl (by first | omega | simp [-List.getD_eq_getElem?_getD] <;> omega)) ?_
 refine .vl (Y.move rfl rfl) ?_
 refine AOps.nil ?_
 exact ⟨n8_2 + 1, ⟨by first | omega | (simp [-List.getD_eq_getElem?_getD]; done) | (simp [-List.getD_eq_getElem?_getD]; omega), below_false h0 c16⟩, by omega, Le.mk (SubL.cons rfl (SubL.cons rfl (SubL.cons rfl (SubL.cons (look_int rfl (by first | rfl | omega)) (SubL.nil))))) (SubL.nil)⟩
 refine AWp.exit ?_
 refine AWp.sr ?_
 refine .vl (Y.assign rfl rfl) ?_
 refine AOps.nil ?_
 refine AWp.ret ?_
 exact ⟨_, _, rfl, rfl, (cg1 (fun (z0 : Int) => X.v (.int .i64 z0)) (idxF_none (d := false) (fun j hj => h0 j (by omega)) : (-1) = idxF (fun x => b == x) l) : X.v (.int .i64 (-1)) = X.v (.int .i64 (idxF (fun x => b == x) l))), rfl⟩

set_option maxHeartbeats 1000000 in
theorem containsBool_spec {l : List Bool} {b : Bool} (hl : l.length ≤ 140737488351232) : ACalls Try.prog 99 [.fz 1 (l.map brow), .v (.bool b)] [] [] (fun r o => r = .v (.bool (l.any (fun x => b == x))) ∧ o = []) := by
 refine ACalls.of Try.func99 rfl rfl rfl (n := 9) (by decide) (Nat.le_of_ble_eq_true rfl) ?_
 refine AWp.sr ?_
 refine .vl (Y.assign rfl rfl) ?_
 refine AOps.nil ?_
 refine AWp.sr ?_
 refine .vl (Y.move rfl rfl) ?_
 refine .vl (Y.move rfl rfl) ?_
 refine AOps.callP ok125 (indexBool_spec (l := l) (b := b) ((by first | omega | simp [-List.getD_eq_getElem?_getD] <;> omega))) rfl (.keep rfl rfl (.keep rfl rfl .nil)) (by decide) rfl ?_
 refine .vl (Y.geq rfl rfl) ?_
 refine .vl (Y.assign rfl rfl) ?_
 refine AOps.nil ?_
 refine AWp.ret ?_
 exact ⟨_, _, rfl, rfl, (cg1 (fun (z0 : Bool) => X.v (.bool z0)) (idxF_any : (decide (0 ≤ (idxF (fun x => b == x) l))) = l.any (fun x => b == x)) : X.v (.bool (decide (0 ≤ (idxF (fun x => b == x) l)))) = X.v (.bool (l.any (fun x => b == x)))), rfl⟩

end Go.Proofs.Ytligpghohcfpnaa
/- Walks through slices.Concat. -/
namespace Go.Proofs.Ytligpghohcfpnaa
open Go Go.AW Go.Proofs



set_option maxHeartbeats 1000000 in
theorem grow_spec {n : Nat} (hn : n ≤ 35184372088832) : ACalls Try.prog 108 [.v (.slice none 0 0), .v (.int .i64 (n : Int))] [] [] (fun r o => r = .uni 1 (([] : List Int).map irow) ∧ o = []) := by
 refine ACalls.of Try.func108 rfl rfl rfl (n := 27) (by decide) (Nat.le_of_ble_eq_true rfl) ?_
 refine AWp.sr ?_
 refine .vl (Y.assign rfl rfl) ?_
 refine AOps.nil ?_
 refine AWp.seq ?_
 refine AWp.sr ?_
 refine .vl (Y.move rfl rfl) ?_
 refine .vl (Y.lss rfl rfl) ?_
 refine AOps.nil ?_
 refine AWp.condD rfl (fun c6 => ?_) (fun c6 => ?_)
 exfalso; omega
 refine AWp.skip ?_
 refine AWp.seq ?_
 refine AWp.sr ?_
 refine .vl (Y.move rfl rfl) ?_
 refine .vl (Y.move rfl rfl) ?_
 refine .vl (Y.capNil sl22 rfl) ?_
 refine .vl (Y.move rfl rfl) ?_
 refine .vl (Y.len (n := 0) sl22 rfl rfl) ?_
 refine .vl (Y.subI rfl rfl (by first | omega | simp [-List.getD_eq_getElem?_getD] <;> omega)) ?_
 refine .vl (Y.subI rfl rfl (by first | omega | simp [-List.getD_eq_getElem?_getD] <;> omega)) ?_
 refine .vl (Y.assign rfl rfl) ?_
 refine AOps.nil ?_
 refine AWp.sr ?_
 refine .vl (Y.move rfl rfl) ?_
 refine .vl (Y.gtr rfl rfl) ?_
 refine AOps.nil ?_
 refine AWp.condD rfl (fun c16 => ?_) (fun c16 => ?_)
 refine AWp.region ?_
 refine .vl (Y.move rfl rfl) ?_
 refine .vl (Y.move rfl rfl) ?_
 refine .vl (Y.capNil sl22 rfl) ?_
 refine .vl (Y.sliceNil sl22 rfl (.none _) (.some rfl)) ?_
 refine .vl (Y.move rfl rfl) ?_
 refine AOps.appendMake (n := (((n : Int) - (0 - 0)).toNat)) sl22 ze3 rfl rfl ii3 rfl (by first | rfl | (rw [show ((n : Int) - (0 - 0) : Int) = ((((n : Int) - (0 - 0)).toNat : Nat) : Int) by omega]; rfl)) (by first | omega | simp [-List.getD_eq_getElem?_getD] <;> omega) (by decide) (by first | omega | simp [-List.getD_eq_getElem?_getD] <;> omega) (by first | omega | simp [-List.getD_eq_getElem?_getD] <;> omega) (by decide) ?_
 refine .vl (Y.move rfl rfl) ?_
 refine .vl (Y.len (n := 0) sl22 rfl rfl) ?_
 refine AOps.sh (Sh.adoptE (d := 22) (n := (List.replicate (((n : Int) - (0 - 0)).toNat) 0).length) 122 ((List.replicate (((n : Int) - (0 - 0)).toNat) 0).map irow) rfl (by first | rfl | exact rep_map rfl) (len_map rfl) (by decide)) ?_
 refine .vl (Y.sliceO (l := 0) (h := 0) sl22 rfl (.none _) (.some rfl) (by first | omega | simp [-List.getD_eq_getElem?_getD] <;> omega) (by first | omega | simp [-List.getD_eq_getElem?_getD] <;> omega)) ?_
 refine .vl (Y.assign rfl rfl) ?_
 refine AOps.nil ?_
 refine AWp.sr ?_
 refine .vl (Y.move rfl rfl) ?_
 refine .vl (Y.assign rfl rfl) ?_
 refine AOps.sh (Sh.trimE (d := 4) (o := 122) (([] : List Int).map irow) rfl rfl (by simp) (by simp) (by decide)) ?_
 refine AOps.sh (Sh.detach (d := 4) (o := 122) rfl rfl (len_map (by first | omega | simp [-List.getD_eq_getElem?_getD] <;> omega)) (by decide)) ?_
 refine AOps.nil ?_
 refine AWp.ret ?_
 exact ⟨_, _, rfl, rfl, (cg1 (fun (z0 : List Int) => X.uni 1 (z0.map irow)) (rfl : ([] : List Int) = ([] : List Int)) : X.uni 1 (([] : List Int).map irow) = X.uni 1 (([] : List Int).map irow)), rfl⟩
 refine AWp.skip ?_
 refine AWp.sr ?_
 refine .vl (Y.move rfl rfl) ?_
 refine .vl (Y.assign rfl rfl) ?_
 refine AOps.nil ?_
 refine AWp.sh (Sh.nilU (d := 4) 1 rfl) ?_
 refine AWp.ret ?_
 exact ⟨_, _, rfl, rfl, (cg1 (fun (z0 : List Int) => X.uni 1 (z0.map irow)) (rfl : ([] : List Int) = ([] : List Int)) : X.uni 1 (([] : List Int).map irow) = X.uni 1 (([] : List Int).map irow)), rfl⟩

set_option maxHeartbeats 1000000 in
theorem concat_spec {ls : List (List Int)} (h1 : ls.length ≤ 1000) (hn : ls.flatten.length ≤ 17592186044416) : ACalls Try.prog 72 [.fz 1 (ls.map lrow)] [] [] (fun r o => r = .uni 1 (ls.flatten.map irow) ∧ o = []) := by
 refine ACalls.of Try.func72 rfl rfl rfl (n := 36) (by decide) (Nat.le_of_ble_eq_true rfl) ?_
 refine AWp.sr ?_
 refine .vl (Y.assign rfl rfl) ?_
 refine AOps.nil ?_
 refine AWp.sr ?_
 refine .vl (Y.assign rfl rfl) ?_
 refine AOps.nil ?_
 refine AWp.seq ?_
 refine AWp.sr ?_
 refine .vl (Y.move rfl rfl) ?_
 refine .vl (Y.len (n := ls.length) sl92 rfl (congrArg some (List.length_map ..))) ?_
 refine .vl (Y.move rfl rfl) ?_
 refine AOps.nil ?_
 refine AWp.block ?_
 refine AWp.loop2 (fun (size3_3 : Nat) (n11_3 : Nat) => ⟨[(0, .fz 1 (ls.map lrow)), (3, .v (.int .i64 (size3_3 : Int))), (9, .fz 1 (ls.map lrow)), (10, .v (.int .i64 ((ls.length : Nat) : Int))), (11, .v (.int .i64 (n11_3 : Int)))], []⟩) (fun (size3_3 : Nat) (n11_3 : Nat) => ((n11_3 : Int) ≤ ((ls.length : Nat) : Int)) ∧ (size3_3 = (ls.take n11_3).flatten.length)) (fun (size3_3 : Nat) (n11_3 : Nat) => (((ls.length : Nat) : Int) - (n11_3 : Int)).toNat) 0 0 (⟨by first | omega | (simp [-List.getD_eq_getElem?_getD]; done) | (simp [-List.getD_eq_getElem?_getD]; omega), rfl⟩) (Le.mk (SubL.cons rfl (SubL.cons (look_int rfl (by first | rfl | omega)) (SubL.cons rfl (SubL.cons rfl (SubL.cons (look_int rfl (by first | rfl | omega)) (SubL.nil)))))) (SubL.nil)) (fun size3_3 n11_3 hI3 => ?_)
 obtain ⟨hb3, hs⟩ := hI3
 refine AWp.sr ?_
 refine .vl (Y.lss rfl rfl) ?_
 refine AOps.nil ?_
 refine AWp.seq ?_
 refine AWp.condD rfl (fun c12 => ?_) (fun c12 => ?_)
 refine AWp.skip ?_
 refine AWp.seq ?_
 refine AWp.block ?_
 refine AWp.sr ?_
 have hf := congrArg List.length (flat_succ (ls := ls) (i := n11_3) (by omega))
 rw [List.length_append] at hf
 have hf2 := flat_le ls (n11_3 + 1)
 have hf3 := flat_le ls n11_3
 refine .vl (Y.indexF (m := n11_3) sl92 rfl rfl (by first | rfl | omega) (row_getD (d := []) (by first | omega | simp [-List.getD_eq_getElem?_getD] <;> omega))) ?_
 refine .vl (Y.load sh22 rfl rfl rfl rfl) ?_
 refine .vl (Y.assign rfl rfl) ?_
 refine AOps.nil ?_
 refine AWp.sr ?_
 refine .vl (Y.move rfl rfl) ?_
 refine .vl (Y.move rfl rfl) ?_
 refine .vl (Y.len (n := (ls.getD n11_3 []).length) sl22 rfl (congrArg some (List.length_map ..))) ?_
 refine .vl (Y.addI rfl rfl (by first | omega | simp [-List.getD_eq_getElem?_getD] <;> omega)) ?_
 refine .vl (Y.assign rfl rfl) ?_
 refine AOps.nil ?_
 refine AWp.sr ?_
 refine .vl (Y.move rfl rfl) ?_
 refine .vl (Y.lss rfl rfl) ?_
 refine AOps.nil ?_
 refine AWp.condD rfl (fun c20 => ?_) (fun c20 => ?_)
 exfalso; omega
 refine AWp.skip ?_
 refine AWp.region ?_
 refine .vl (Y.addI rfl rfl (by first | omega | simp [-List.getD_eq_getElem?_getD] <;> omega)) ?_
 refine .vl (Y.move rfl rfl) ?_
 refine AOps.nil ?_
 exact ⟨size3_3 + ((ls.getD n11_3 []).length), n11_3 + 1, ⟨by first | omega | (simp [-List.getD_eq_getElem?_getD]; done) | (simp [-List.getD_eq_getElem?_getD]; omega), by omega⟩, by omega, Le.mk (SubL.cons rfl (SubL.cons (look_int rfl (by first | rfl | omega)) (SubL.cons rfl (SubL.cons rfl (SubL.cons (look_int rfl (by first | rfl | omega)) (SubL.nil)))))) (SubL.nil)⟩
 refine AWp.exit ?_
 refine AWp.sr ?_
 have hf3 := flat_le ls n11_3
 refine .vl (Y.move rfl rfl) ?_
 refine AOps.callP ok108 (grow_spec (n := size3_3) ((by first | omega | simp [-List.getD_eq_getElem?_getD] <;> omega))) rfl (.keep rfl rfl (.keep rfl rfl .nil)) (by decide) rfl ?_
 refine AOps.assignX rfl (by decide) ?_
 refine AOps.sh (Sh.adoptE (d := 6) (n := ([] : List Int).length) 106 (([] : List Int).map irow) rfl (by first | rfl | exact rep_map rfl) (len_map rfl) (by decide)) ?_
 refine AOps.nil ?_
 refine AWp.seq ?_
 refine AWp.sr ?_
 refine .vl (Y.move rfl rfl) ?_
 refine .vl (Y.len (n := ls.length) sl92 rfl (congrArg some (List.length_map ..))) ?_
 refine .vl (Y.move rfl rfl) ?_
 refine AOps.nil ?_
 refine AWp.block ?_
 refine AWp.loop2 (fun (n27_11 : Nat) (newslice6_11 : List Int) => ⟨[(6, .slc 106 1 0 newslice6_11.length), (25, .fz 1 (ls.map lrow)), (26, .v (.int .i64 ((ls.length : Nat) : Int))), (27, .v (.int .i64 (n27_11 : Int)))], [(106, .rows 1 (newslice6_11.map irow))]⟩) (fun (n27_11 : Nat) (newslice6_11 : List Int) => ((n27_11 : Int) ≤ ((ls.length : Nat) : Int)) ∧ (newslice6_11 = (ls.take n27_11).flatten)) (fun (n27_11 : Nat) (newslice6_11 : List Int) => (((ls.length : Nat) : Int) - (n27_11 : Int)).toNat) 0 ([] : List Int) (⟨by first | omega | (simp [-List.getD_eq_getElem?_getD]; done) | (simp [-List.getD_eq_getElem?_getD]; omega), rfl⟩) (Le.mk (SubL.cons (look_slc rfl (by first | omega | simp [-List.getD_eq_getElem?_getD] <;> omega)) (SubL.cons rfl (SubL.cons rfl (SubL.cons (look_int rfl (by first | rfl | omega)) (SubL.nil))))) (SubL.cons rfl (SubL.nil))) (fun n27_11 newslice6_11 hI11 => ?_)
 obtain ⟨hb11, ht⟩ := hI11
 refine AWp.sr ?_
 refine .vl (Y.lss rfl rfl) ?_
 refine AOps.nil ?_
 refine AWp.seq ?_
 refine AWp.condD rfl (fun c28 => ?_) (fun c28 => ?_)
 refine AWp.skip ?_
 refine AWp.seq ?_
 refine AWp.block ?_
 refine AWp.sr ?_
 have hf := flat_succ (ls := ls) (i := n27_11) (by omega)
 have hf1 := congrArg List.length hf
 rw [List.length_append] at hf1
 have hf2 := flat_le ls (n27_11 + 1)
 have hf3 := flat_le ls n27_11
 have hf4 := congrArg List.length ht
 refine .vl (Y.indexF (m := n27_11) sl92 rfl rfl (by first | rfl | omega) (row_getD (d := []) (by first | omega | simp [-List.getD_eq_getElem?_getD] <;> omega))) ?_
 refine .vl (Y.load sh22 rfl rfl rfl rfl) ?_
 refine .vl (Y.assign rfl rfl) ?_
 refine AOps.nil ?_
 refine AWp.region ?_
 refine .vl (Y.move rfl rfl) ?_
 refine .vl (Y.move rfl rfl) ?_
 refine AOps.appendFE ((newslice6_11 ++ (ls.getD n27_11 [])).map irow) (newslice6_11 ++ (ls.getD n27_11 [])).length sl22 ze3 rfl rfl rfl rfl (app_le (by first | omega | simp [-List.getD_eq_getElem?_getD] <;> omega)) (app_map (by first | omega | simp [-List.getD_eq_getElem?_getD] <;> omega)) (app_n (by first | omega | simp [-List.getD_eq_getElem?_getD] <;> omega)) (by first | omega | simp [-List.getD_eq_getElem?_getD] <;> omega) (by first | omega | simp [-List.getD_eq_getElem?_getD] <;> omega) (by decide) (by decide) ?_
 refine .vl (Y.assign rfl rfl) ?_
 refine AOps.nil ?_
 refine AWp.region ?_
 refine .vl (Y.addI rfl rfl (by first | omega | simp [-List.getD_eq_getElem?_getD] <;> omega)) ?_
 refine .vl (Y.move rfl rfl) ?_
 refine AOps.nil ?_
 exact ⟨n27_11 + 1, newslice6_11 ++ (ls.getD n27_11 []), ⟨by first | omega | (simp [-List.getD_eq_getElem?_getD]; done) | (simp [-List.getD_eq_getElem?_getD]; omega), by rw [ht]; exact hf.symm⟩, by omega, Le.mk (SubL.cons (look_slc rfl (by first | omega | simp [-List.getD_eq_getElem?_getD] <;> omega)) (SubL.cons rfl (SubL.cons rfl (SubL.cons (look_int rfl (by first | rfl | omega)) (SubL.nil))))) (SubL.cons rfl (SubL.nil))⟩
 refine AWp.exit ?_
 refine AWp.sr ?_
 refine .vl (Y.move rfl rfl) ?_
 refine .vl (Y.assign rfl rfl) ?_
 refine AOps.sh (Sh.detach (d := 2) (o := 106) rfl rfl (len_map (by first | omega | simp [-List.getD_eq_getElem?_getD] <;> omega)) (by decide)) ?_
 refine AOps.nil ?_
 refine AWp.ret ?_
 exact ⟨_, _, rfl, rfl, (cg1 (fun (z0 : List Int) => X.uni 1 (z0.map irow)) (by rw [ht, List.take_of_length_le (by omega)] : newslice6_11 = ls.flatten) : X.uni 1 (newslice6_11.map irow) = X.uni 1 (ls.flatten.map irow)), rfl⟩

end Go.Proofs.Ytligpghohcfpnaa
