/- The walk of library.Of. -/
import Derived.Test.YtligpghohcfpnaaNetx0
import Derived.Test.YtligpghohcfpnaaNetx1
import Derived.Test.YtligpghohcfpnaaAWx2
set_option linter.unusedSimpArgs false
set_option linter.unusedVariables false
set_option linter.unusedSectionVars false
set_option maxRecDepth 4000
set_option maxHeartbeats 8000000
namespace Go.Proofs.Ytligpghohcfpnaa
open Go Go.AW Go.Proofs
theorem EX {op x : Int} (hp : Plain op) (h0 : 1 ≤ x) (h1 : x ≤ 64) : au Try.prog 75 [vi op, vi x] [] [] (fun r o => ∃ c : Int, r = .tup [.agg [vi 0, vi x, vi (aQ op x.toNat), vi 0, vi 0, vi c], vi 0] ∧ o = []) := by
 refine au.of Try.func75 rfl rfl rfl (n := 184) ae (aI rfl) ?_
 have EF := hp; unfold Plain BG Seq Unary at EF; have AK := q8 (n := x.toNat) om; have HE := q8 (n := (x + 1).toNat) om; have hle : (x + 1).toNat = x.toNat + 1 := om; have Ov := rI h0 h1 AK; have Mu := rI h0 h1 HE
 refine .sr (.alloc 104 jM rfl rfl ae ?_)
 refine .an ?_
 refine .nil (.seq (.sr ?_))
 refine .mv ?_
 refine .vl (Y.qz rfl rfl) ?_
 refine .mv ?_
 refine .ax (d := 12) rfl (fun EO => ?_) (fun EO => ?_)
 refine .gz 12 (.gz 12 ?_)
 refine .pk ?_
 refine .nil (.aM rfl (.sr ?_))
 refine .vl (Y.qh nz jM rfl rfl rfl) (.ak cO rfl rfl rfl rfl rfl rfl (aI rfl) rfl ?_)
 refine .an ?_
 refine .nil (.ret ?_)
 first | (exfalso; omega) | exact ⟨_, _, rfl, rfl, 0, by rw [show aQ op x.toNat = 0 by (try rw [hle]); unfold aQ; (repeat' split) <;> omega]; rfl, rfl⟩
 refine .gw 12 (Y.zg rfl rfl) (.gw 12 (Y.qq rfl rfl) ?_)
 refine .pk ?_
 refine .nil ?_
 refine .a8 rfl (fun rJ => ?_) (fun rJ => ?_)
 refine .sr (.vl (Y.qh nz jM rfl rfl rfl) (.ak cO rfl rfl rfl rfl rfl rfl (aI rfl) rfl ?_))
 refine .an ?_
 refine .nil (.ret ?_)
 first | (exfalso; omega) | exact ⟨_, _, rfl, rfl, 0, by rw [show aQ op x.toNat = 0 by (try rw [hle]); unfold aQ; (repeat' split) <;> omega]; rfl, rfl⟩
 refine .skip (.seq (.sr ?_))
 refine .mv ?_
 refine .vl (Y.zc rfl rfl) ?_
 refine .mv ?_
 refine .ax (d := 19) rfl (fun oq => ?_) (fun oq => ?_)
 refine .gz 19 (.gz 19 ?_)
 refine .pk ?_
 refine .nil (.aM rfl (.sr ?_))
 refine .vl (Y.qh nz jM rfl rfl rfl) (.ak cO rfl rfl rfl rfl rfl rfl (aI rfl) rfl ?_)
 refine .an ?_
 refine .nil (.ret ?_)
 first | (exfalso; omega) | exact ⟨_, _, rfl, rfl, 0, by rw [show aQ op x.toNat = 0 by (try rw [hle]); unfold aQ; (repeat' split) <;> omega]; rfl, rfl⟩
 refine .gw 19 (Y.zg rfl rfl) (.gw 19 (Y.qr rfl rfl) ?_)
 refine .pk ?_
 refine .nil ?_
 refine .a8 rfl (fun nY => ?_) (fun nY => ?_)
 refine .sr (.vl (Y.qh nz jM rfl rfl rfl) (.ak cO rfl rfl rfl rfl rfl rfl (aI rfl) rfl ?_))
 refine .an ?_
 refine .nil (.ret ?_)
 first | (exfalso; omega) | exact ⟨_, _, rfl, rfl, 0, by rw [show aQ op x.toNat = 0 by (try rw [hle]); unfold aQ; (repeat' split) <;> omega]; rfl, rfl⟩
 refine .skip (.sr ?_)
 refine .mv ?_
 refine .mv ?_
 refine .aH Hm (n7 (x := x) (om) (om)) rfl (.ah rfl rfl .nil) ae rfl ?_
 refine .mv ?_
 refine .vl (Y.qb rfl rfl bw) (.aH Hm (n7 (x := (x + 1)) (om) (om)) rfl (.ah rfl rfl .nil) ae rfl ?_)
 refine .an ?_
 refine .an ?_
 refine .an ?_
 refine .nil (.sr ?_)
 refine .mv ?_
 refine .vl (Y.qh nz jM rfl rfl rfl) (.alloc 109 jM rfl rfl ae (.ak cO rfl rfl rfl rfl rfl rfl (aI rfl) rfl ?_))
 refine .nil (.seq (.sr ?_))
 refine .mv ?_
 refine .nil (.block (.seq ?_))
 refine .sr (.vl (Y.ql rfl rfl) ?_)
 refine .an ?_
 refine .nil ?_
 refine .bx rfl (fun HW => ?_) (fun HW => ?_)
 refine .skip (.aM rfl (.region ?_))
 refine .mv ?_
 refine .fa eP ?_
 refine .ak eQ rfl rfl rfl rfl rfl rfl (aI rfl) rfl ?_
 refine .fa ea ?_
 refine .ak eQ rfl rfl rfl rfl rfl rfl (aI rfl) rfl (.nil (.sr ?_))
 refine .vl (Y.zb gF rfl rfl (aI rfl) rfl rfl) (.ak cO rfl rfl rfl rfl rfl rfl (aI rfl) rfl ?_)
 refine .an ?_
 refine .nil (.ret ?_)
 first | (exfalso; omega) | exact ⟨_, _, rfl, rfl, x, by rw [show aQ op x.toNat = 20 by (try rw [hle]); unfold aQ; (repeat' split) <;> omega]; rfl, rfl⟩
 refine .sr (.vl (Y.ql rfl rfl) ?_)
 refine .an ?_
 refine .nil ?_
 refine .bx rfl (fun HW => ?_) (fun HW => ?_)
 refine .skip (.aM rfl (.region ?_))
 refine .mv ?_
 refine .fa eP ?_
 refine .ak eQ rfl rfl rfl rfl rfl rfl (aI rfl) rfl ?_
 refine .fa ea ?_
 refine .ak eQ rfl rfl rfl rfl rfl rfl (aI rfl) rfl (.nil (.sr ?_))
 refine .vl (Y.zb gF rfl rfl (aI rfl) rfl rfl) (.ak cO rfl rfl rfl rfl rfl rfl (aI rfl) rfl ?_)
 refine .an ?_
 refine .nil (.ret ?_)
 first | (exfalso; omega) | exact ⟨_, _, rfl, rfl, x, by rw [show aQ op x.toNat = 20 by (try rw [hle]); unfold aQ; (repeat' split) <;> omega]; rfl, rfl⟩
 refine .region (.vl (Y.ql rfl rfl) ?_)
 refine .an ?_
 refine .nil ?_
 refine .bx rfl (fun HW => ?_) (fun HW => ?_)
 refine .region ?_
 refine .mv ?_
 refine .fa eP ?_
 refine .ak eQ rfl rfl rfl rfl rfl rfl (aI rfl) rfl ?_
 refine .fa ea ?_
 refine .ak eQ rfl rfl rfl rfl rfl rfl (aI rfl) rfl (.nil (.sr ?_))
 refine .vl (Y.zb gF rfl rfl (aI rfl) rfl rfl) (.ak cO rfl rfl rfl rfl rfl rfl (aI rfl) rfl ?_)
 refine .an ?_
 refine .nil (.ret ?_)
 first | (exfalso; omega) | exact ⟨_, _, rfl, rfl, x, by rw [show aQ op x.toNat = 20 by (try rw [hle]); unfold aQ; (repeat' split) <;> omega]; rfl, rfl⟩
 refine .sr (.vl (Y.ql rfl rfl) ?_)
 refine .an ?_
 refine .nil ?_
 refine .a8 rfl (fun p7 => ?_) (fun p7 => ?_)
 refine .region ?_
 refine .mv ?_
 refine .vl (Y.zi rfl rfl om) (.vl (Y.qb rfl rfl bw) ?_)
 refine .mv ?_
 refine .vl (Y.zi rfl rfl om) ?_
 refine .mv ?_
 refine .vl (Y.zi rfl rfl om) ?_
 refine .mv ?_
 refine .vl (Y.zi rfl rfl om) (.vl (Y.qb rfl rfl bw) ?_)
 refine .fa eP ?_
 refine .ak eQ rfl rfl rfl rfl rfl rfl (aI rfl) rfl ?_
 refine .fa ea ?_
 refine .ak eQ rfl rfl rfl rfl rfl rfl (aI rfl) rfl (.nil (.sr ?_))
 refine .vl (Y.zb gF rfl rfl (aI rfl) rfl rfl) (.ak cO rfl rfl rfl rfl rfl rfl (aI rfl) rfl ?_)
 refine .an ?_
 refine .nil (.ret ?_)
 first | (exfalso; omega) | exact ⟨_, _, rfl, rfl, (3 * x) + ((3 * x) * ((fe x.toNat : Nat) : Int)), by rw [show aQ op x.toNat = 40 + (40 * ((fe x.toNat : Nat) : Int)) by (try rw [hle]); unfold aQ; (repeat' split) <;> omega]; rfl, rfl⟩
 refine .sr (.vl (Y.ql rfl rfl) ?_)
 refine .an ?_
 refine .nil ?_
 refine .a8 rfl (fun Dy => ?_) (fun Dy => ?_)
 refine .region ?_
 refine .mv ?_
 refine .vl (Y.zi rfl rfl om) (.vl (Y.qb rfl rfl bw) ?_)
 refine .mv ?_
 refine .vl (Y.zi rfl rfl om) ?_
 refine .mv ?_
 refine .vl (Y.zi rfl rfl om) ?_
 refine .mv ?_
 refine .vl (Y.zi rfl rfl om) (.vl (Y.qb rfl rfl bw) ?_)
 refine .fa eP ?_
 refine .ak eQ rfl rfl rfl rfl rfl rfl (aI rfl) rfl ?_
 refine .fa ea ?_
 refine .ak eQ rfl rfl rfl rfl rfl rfl (aI rfl) rfl (.nil (.sr ?_))
 refine .vl (Y.zb gF rfl rfl (aI rfl) rfl rfl) (.ak cO rfl rfl rfl rfl rfl rfl (aI rfl) rfl ?_)
 refine .an ?_
 refine .nil (.ret ?_)
 first | (exfalso; omega) | exact ⟨_, _, rfl, rfl, (4 * x) + ((3 * x) * ((fe x.toNat : Nat) : Int)), by rw [show aQ op x.toNat = 50 + (40 * ((fe x.toNat : Nat) : Int)) by (try rw [hle]); unfold aQ; (repeat' split) <;> omega]; rfl, rfl⟩
 refine .seq (.sr (.vl (Y.ql rfl rfl) ?_))
 refine .an ?_
 refine .nil ?_
 refine .bx rfl (fun Gl => ?_) (fun Gl => ?_)
 refine .skip (.aM rfl (.region ?_))
 refine .mv ?_
 refine .vl (Y.zi rfl rfl om) (.vl (Y.qb rfl rfl bw) ?_)
 refine .mv ?_
 refine .vl (Y.zi rfl rfl om) ?_
 refine .fa eP ?_
 refine .ak eQ rfl rfl rfl rfl rfl rfl (aI rfl) rfl ?_
 refine .fa ea ?_
 refine .ak eQ rfl rfl rfl rfl rfl rfl (aI rfl) rfl (.nil (.sr ?_))
 refine .vl (Y.zb gF rfl rfl (aI rfl) rfl rfl) (.ak cO rfl rfl rfl rfl rfl rfl (aI rfl) rfl ?_)
 refine .an ?_
 refine .nil (.ret ?_)
 first | (exfalso; omega) | exact ⟨_, _, rfl, rfl, 2 * x, by rw [show aQ op x.toNat = 30 + (20 * ((fe x.toNat : Nat) : Int)) by (try rw [hle]); unfold aQ; (repeat' split) <;> omega]; rfl, rfl⟩
 refine .region (.vl (Y.ql rfl rfl) ?_)
 refine .an ?_
 refine .nil ?_
 refine .bx rfl (fun Gl => ?_) (fun Gl => ?_)
 refine .region ?_
 refine .mv ?_
 refine .vl (Y.zi rfl rfl om) (.vl (Y.qb rfl rfl bw) ?_)
 refine .mv ?_
 refine .vl (Y.zi rfl rfl om) ?_
 refine .fa eP ?_
 refine .ak eQ rfl rfl rfl rfl rfl rfl (aI rfl) rfl ?_
 refine .fa ea ?_
 refine .ak eQ rfl rfl rfl rfl rfl rfl (aI rfl) rfl (.nil (.sr ?_))
 refine .vl (Y.zb gF rfl rfl (aI rfl) rfl rfl) (.ak cO rfl rfl rfl rfl rfl rfl (aI rfl) rfl ?_)
 refine .an ?_
 refine .nil (.ret ?_)
 first | (exfalso; omega) | exact ⟨_, _, rfl, rfl, 2 * x, by rw [show aQ op x.toNat = 30 + (20 * ((fe x.toNat : Nat) : Int)) by (try rw [hle]); unfold aQ; (repeat' split) <;> omega]; rfl, rfl⟩
 refine .seq (.sr (.vl (Y.ql rfl rfl) ?_))
 refine .an ?_
 refine .nil ?_
 refine .bx rfl (fun CH => ?_) (fun CH => ?_)
 refine .skip (.aM rfl (.region ?_))
 refine .mv ?_
 refine .vl (Y.zi rfl rfl om) (.vl (Y.qb rfl rfl bw) ?_)
 refine .mv ?_
 refine .vl (Y.zi rfl rfl om) ?_
 refine .mv ?_
 refine .vl (Y.zi rfl rfl om) ?_
 refine .mv ?_
 refine .vl (Y.zi rfl rfl om) (.vl (Y.qb rfl rfl bw) ?_)
 refine .fa eP ?_
 refine .ak eQ rfl rfl rfl rfl rfl rfl (aI rfl) rfl ?_
 refine .fa ea ?_
 refine .ak eQ rfl rfl rfl rfl rfl rfl (aI rfl) rfl (.nil (.sr ?_))
 refine .vl (Y.zb gF rfl rfl (aI rfl) rfl rfl) (.ak cO rfl rfl rfl rfl rfl rfl (aI rfl) rfl ?_)
 refine .an ?_
 refine .nil (.ret ?_)
 first | (exfalso; omega) | exact ⟨_, _, rfl, rfl, (4 * x) + ((3 * x) * ((fe (x + 1).toNat : Nat) : Int)), by rw [show aQ op x.toNat = 40 + (40 * ((fe (x + 1).toNat : Nat) : Int)) by (try rw [hle]); unfold aQ; (repeat' split) <;> omega]; rfl, rfl⟩
 refine .region (.vl (Y.ql rfl rfl) ?_)
 refine .an ?_
 refine .nil ?_
 refine .bx rfl (fun CH => ?_) (fun CH => ?_)
 refine .region ?_
 refine .mv ?_
 refine .vl (Y.zi rfl rfl om) (.vl (Y.qb rfl rfl bw) ?_)
 refine .mv ?_
 refine .vl (Y.zi rfl rfl om) ?_
 refine .mv ?_
 refine .vl (Y.zi rfl rfl om) ?_
 refine .mv ?_
 refine .vl (Y.zi rfl rfl om) (.vl (Y.qb rfl rfl bw) ?_)
 refine .fa eP ?_
 refine .ak eQ rfl rfl rfl rfl rfl rfl (aI rfl) rfl ?_
 refine .fa ea ?_
 refine .ak eQ rfl rfl rfl rfl rfl rfl (aI rfl) rfl (.nil (.sr ?_))
 refine .vl (Y.zb gF rfl rfl (aI rfl) rfl rfl) (.ak cO rfl rfl rfl rfl rfl rfl (aI rfl) rfl ?_)
 refine .an ?_
 refine .nil (.ret ?_)
 first | (exfalso; omega) | exact ⟨_, _, rfl, rfl, (4 * x) + ((3 * x) * ((fe (x + 1).toNat : Nat) : Int)), by rw [show aQ op x.toNat = 40 + (40 * ((fe (x + 1).toNat : Nat) : Int)) by (try rw [hle]); unfold aQ; (repeat' split) <;> omega]; rfl, rfl⟩
 refine .seq (.sr (.vl (Y.ql rfl rfl) ?_))
 refine .an ?_
 refine .nil ?_
 refine .bx rfl (fun AR => ?_) (fun AR => ?_)
 refine .skip (.aM rfl (.region ?_))
 refine .mv ?_
 refine .vl (Y.zi rfl rfl om) (.vl (Y.qb rfl rfl bw) ?_)
 refine .mv ?_
 refine .vl (Y.zi rfl rfl om) ?_
 refine .mv ?_
 refine .vl (Y.zi rfl rfl om) ?_
 refine .mv ?_
 refine .vl (Y.zi rfl rfl om) (.vl (Y.qb rfl rfl bw) (.vl (Y.qb rfl rfl bw) ?_))
 refine .fa eP ?_
 refine .ak eQ rfl rfl rfl rfl rfl rfl (aI rfl) rfl ?_
 refine .fa ea ?_
 refine .ak eQ rfl rfl rfl rfl rfl rfl (aI rfl) rfl (.nil (.sr ?_))
 refine .vl (Y.zb gF rfl rfl (aI rfl) rfl rfl) (.ak cO rfl rfl rfl rfl rfl rfl (aI rfl) rfl ?_)
 refine .an ?_
 refine .nil (.ret ?_)
 first | (exfalso; omega) | exact ⟨_, _, rfl, rfl, ((4 * x) + ((3 * x) * ((fe (x + 1).toNat : Nat) : Int))) + 2, by rw [show aQ op x.toNat = 50 + (40 * ((fe (x + 1).toNat : Nat) : Int)) by (try rw [hle]); unfold aQ; (repeat' split) <;> omega]; rfl, rfl⟩
 refine .region (.vl (Y.ql rfl rfl) ?_)
 refine .an ?_
 refine .nil ?_
 refine .bx rfl (fun AR => ?_) (fun AR => ?_)
 refine .region ?_
 refine .mv ?_
 refine .vl (Y.zi rfl rfl om) (.vl (Y.qb rfl rfl bw) ?_)
 refine .mv ?_
 refine .vl (Y.zi rfl rfl om) ?_
 refine .mv ?_
 refine .vl (Y.zi rfl rfl om) ?_
 refine .mv ?_
 refine .vl (Y.zi rfl rfl om) (.vl (Y.qb rfl rfl bw) (.vl (Y.qb rfl rfl bw) ?_))
 refine .fa eP ?_
 refine .ak eQ rfl rfl rfl rfl rfl rfl (aI rfl) rfl ?_
 refine .fa ea ?_
 refine .ak eQ rfl rfl rfl rfl rfl rfl (aI rfl) rfl (.nil (.sr ?_))
 refine .vl (Y.zb gF rfl rfl (aI rfl) rfl rfl) (.ak cO rfl rfl rfl rfl rfl rfl (aI rfl) rfl ?_)
 refine .an ?_
 refine .nil (.ret ?_)
 first | (exfalso; omega) | exact ⟨_, _, rfl, rfl, ((4 * x) + ((3 * x) * ((fe (x + 1).toNat : Nat) : Int))) + 2, by rw [show aQ op x.toNat = 50 + (40 * ((fe (x + 1).toNat : Nat) : Int)) by (try rw [hle]); unfold aQ; (repeat' split) <;> omega]; rfl, rfl⟩
 refine .sr (.vl (Y.ql rfl rfl) ?_)
 refine .an ?_
 refine .nil ?_
 refine .a8 rfl (fun OR => ?_) (fun OR => ?_)
 refine .region ?_
 refine .mv ?_
 refine .vl (Y.zi rfl rfl om) (.vl (Y.qb rfl rfl bw) ?_)
 refine .fa eP ?_
 refine .ak eQ rfl rfl rfl rfl rfl rfl (aI rfl) rfl ?_
 refine .fa ea ?_
 refine .ak eQ rfl rfl rfl rfl rfl rfl (aI rfl) rfl (.nil (.sr ?_))
 refine .vl (Y.zb gF rfl rfl (aI rfl) rfl rfl) (.ak cO rfl rfl rfl rfl rfl rfl (aI rfl) rfl ?_)
 refine .an ?_
 refine .nil (.ret ?_)
 first | (exfalso; omega) | exact ⟨_, _, rfl, rfl, (3 * x) + 1, by rw [show aQ op x.toNat = 50 by (try rw [hle]); unfold aQ; (repeat' split) <;> omega]; rfl, rfl⟩
 refine .seq (.sr (.vl (Y.ql rfl rfl) ?_))
 refine .an ?_
 refine .nil ?_
 refine .bx rfl (fun xV => ?_) (fun xV => ?_)
 refine .skip (.aM rfl (.region ?_))
 refine .mv ?_
 refine .vl (Y.zi rfl rfl om) (.vl (Y.qb rfl rfl bw) ?_)
 refine .mv ?_
 refine .vl (Y.zi rfl rfl om) ?_
 refine .mv ?_
 refine .vl (Y.zi rfl rfl om) ?_
 refine .mv ?_
 refine .vl (Y.zi rfl rfl om) (.vl (Y.qb rfl rfl bw) ?_)
 refine .fa eP ?_
 refine .ak eQ rfl rfl rfl rfl rfl rfl (aI rfl) rfl ?_
 refine .fa ea ?_
 refine .ak eQ rfl rfl rfl rfl rfl rfl (aI rfl) rfl (.nil (.sr ?_))
 refine .vl (Y.zb gF rfl rfl (aI rfl) rfl rfl) (.ak cO rfl rfl rfl rfl rfl rfl (aI rfl) rfl ?_)
 refine .an ?_
 refine .nil (.ret ?_)
 first | (exfalso; omega) | exact ⟨_, _, rfl, rfl, (2 * x) + ((3 * x) * ((fe x.toNat : Nat) : Int)), by rw [show aQ op x.toNat = 30 + (40 * ((fe x.toNat : Nat) : Int)) by (try rw [hle]); unfold aQ; (repeat' split) <;> omega]; rfl, rfl⟩
 refine .region (.vl (Y.ql rfl rfl) ?_)
 refine .an ?_
 refine .nil ?_
 refine .bx rfl (fun xV => ?_) (fun xV => ?_)
 refine .region ?_
 refine .mv ?_
 refine .vl (Y.zi rfl rfl om) (.vl (Y.qb rfl rfl bw) ?_)
 refine .mv ?_
 refine .vl (Y.zi rfl rfl om) ?_
 refine .mv ?_
 refine .vl (Y.zi rfl rfl om) ?_
 refine .mv ?_
 refine .vl (Y.zi rfl rfl om) (.vl (Y.qb rfl rfl bw) ?_)
 refine .fa eP ?_
 refine .ak eQ rfl rfl rfl rfl rfl rfl (aI rfl) rfl ?_
 refine .fa ea ?_
 refine .ak eQ rfl rfl rfl rfl rfl rfl (aI rfl) rfl (.nil (.sr ?_))
 refine .vl (Y.zb gF rfl rfl (aI rfl) rfl rfl) (.ak cO rfl rfl rfl rfl rfl rfl (aI rfl) rfl ?_)
 refine .an ?_
 refine .nil (.ret ?_)
 first | (exfalso; omega) | exact ⟨_, _, rfl, rfl, (2 * x) + ((3 * x) * ((fe x.toNat : Nat) : Int)), by rw [show aQ op x.toNat = 30 + (40 * ((fe x.toNat : Nat) : Int)) by (try rw [hle]); unfold aQ; (repeat' split) <;> omega]; rfl, rfl⟩
 refine .sr (.vl (Y.ql rfl rfl) ?_)
 refine .an ?_
 refine .nil ?_
 refine .a8 rfl (fun oN => ?_) (fun oN => ?_)
 refine .region ?_
 refine .mv ?_
 refine .vl (Y.zi rfl rfl om) (.vl (Y.qb rfl rfl bw) ?_)
 refine .mv ?_
 refine .vl (Y.zi rfl rfl om) ?_
 refine .mv ?_
 refine .vl (Y.zi rfl rfl om) ?_
 refine .mv ?_
 refine .vl (Y.zi rfl rfl om) (.vl (Y.qb rfl rfl bw) ?_)
 refine .fa eP ?_
 refine .ak eQ rfl rfl rfl rfl rfl rfl (aI rfl) rfl ?_
 refine .fa ea ?_
 refine .ak eQ rfl rfl rfl rfl rfl rfl (aI rfl) rfl (.nil (.sr ?_))
 refine .vl (Y.zb gF rfl rfl (aI rfl) rfl rfl) (.ak cO rfl rfl rfl rfl rfl rfl (aI rfl) rfl ?_)
 refine .an ?_
 refine .nil (.ret ?_)
 first | (exfalso; omega) | exact ⟨_, _, rfl, rfl, (4 * x) + ((3 * x) * ((fe x.toNat : Nat) : Int)), by rw [show aQ op x.toNat = 50 + (40 * ((fe x.toNat : Nat) : Int)) by (try rw [hle]); unfold aQ; (repeat' split) <;> omega]; rfl, rfl⟩
 refine .sr (.vl (Y.ql rfl rfl) ?_)
 refine .an ?_
 refine .nil ?_
 refine .a8 rfl (fun CR => ?_) (fun CR => ?_)
 refine .region ?_
 refine .mv ?_
 refine .vl (Y.qb rfl rfl bw) (.vl (Y.zp rfl rfl om) (.vl (Y.qb rfl rfl bw) ?_))
 refine .mv ?_
 refine .vl (Y.zi rfl rfl om) ?_
 refine .mv ?_
 refine .vl (Y.zi rfl rfl om) ?_
 refine .fa pq ?_
 refine .ak eQ rfl rfl rfl rfl rfl rfl (aI rfl) rfl ?_
 refine .fa pt ?_
 refine .ak eQ rfl rfl rfl rfl rfl rfl (aI rfl) rfl ?_
 refine .fa pv ?_
 refine .ak eQ rfl rfl rfl rfl rfl rfl (aI rfl) rfl ?_
 refine .fa ea ?_
 refine .ak eQ rfl rfl rfl rfl rfl rfl (aI rfl) rfl (.nil (.sr ?_))
 refine .vl (Y.zb gF rfl rfl (aI rfl) rfl rfl) (.ak cO rfl rfl rfl rfl rfl rfl (aI rfl) rfl ?_)
 refine .an ?_
 refine .nil (.ret ?_)
 first | (exfalso; omega) | exact ⟨_, _, rfl, rfl, (6 * x) * x, by rw [show aQ op x.toNat = 0 by (try rw [hle]); unfold aQ; (repeat' split) <;> omega]; rfl, rfl⟩
 refine .seq (.sr (.vl (Y.ql rfl rfl) ?_))
 refine .an ?_
 refine .nil ?_
 refine .bx rfl (fun mo => ?_) (fun mo => ?_)
 refine .skip (.aM rfl (.sr ?_))
 refine .mv ?_
 refine .vl (Y.qb rfl rfl bw) (.vl (Y.zz rfl rfl bw) ?_)
 refine .fa pq ?_
 refine .ak eQ rfl rfl rfl rfl rfl rfl (aI rfl) rfl (.nil (.region ?_))
 refine .mv ?_
 refine .vl (Y.qb rfl rfl bw) (.vl (Y.zp rfl rfl om) (.vl (Y.qb rfl rfl bw) ?_))
 refine .mv ?_
 refine .vl (Y.qb rfl rfl bw) (.vl (Y.zp rfl rfl om) (.vl (Y.qb rfl rfl bw) ?_))
 refine .mv ?_
 refine .vl (Y.zi rfl rfl om) ?_
 refine .mv ?_
 refine .vl (Y.zi rfl rfl om) ?_
 refine .fa pt ?_
 refine .ak eQ rfl rfl rfl rfl rfl rfl (aI rfl) rfl ?_
 refine .fa pv ?_
 refine .ak eQ rfl rfl rfl rfl rfl rfl (aI rfl) rfl ?_
 refine .fa ea ?_
 refine .ak eQ rfl rfl rfl rfl rfl rfl (aI rfl) rfl (.nil (.sr ?_))
 refine .vl (Y.zb gF rfl rfl (aI rfl) rfl rfl) (.ak cO rfl rfl rfl rfl rfl rfl (aI rfl) rfl ?_)
 refine .an ?_
 refine .nil (.ret ?_)
 first | (exfalso; omega) | exact ⟨_, _, rfl, rfl, (8 * x) * x, by rw [show aQ op x.toNat = 0 by (try rw [hle]); unfold aQ; (repeat' split) <;> omega]; rfl, rfl⟩
 refine .sr (.vl (Y.ql rfl rfl) ?_)
 refine .an ?_
 refine .nil ?_
 refine .bx rfl (fun mo => ?_) (fun mo => ?_)
 refine .skip (.aM rfl (.sr ?_))
 refine .mv ?_
 refine .vl (Y.qb rfl rfl bw) (.vl (Y.zz rfl rfl bw) ?_)
 refine .fa pq ?_
 refine .ak eQ rfl rfl rfl rfl rfl rfl (aI rfl) rfl (.nil (.region ?_))
 refine .mv ?_
 refine .vl (Y.qb rfl rfl bw) (.vl (Y.zp rfl rfl om) (.vl (Y.qb rfl rfl bw) ?_))
 refine .mv ?_
 refine .vl (Y.qb rfl rfl bw) (.vl (Y.zp rfl rfl om) (.vl (Y.qb rfl rfl bw) ?_))
 refine .mv ?_
 refine .vl (Y.zi rfl rfl om) ?_
 refine .mv ?_
 refine .vl (Y.zi rfl rfl om) ?_
 refine .fa pt ?_
 refine .ak eQ rfl rfl rfl rfl rfl rfl (aI rfl) rfl ?_
 refine .fa pv ?_
 refine .ak eQ rfl rfl rfl rfl rfl rfl (aI rfl) rfl ?_
 refine .fa ea ?_
 refine .ak eQ rfl rfl rfl rfl rfl rfl (aI rfl) rfl (.nil (.sr ?_))
 refine .vl (Y.zb gF rfl rfl (aI rfl) rfl rfl) (.ak cO rfl rfl rfl rfl rfl rfl (aI rfl) rfl ?_)
 refine .an ?_
 refine .nil (.ret ?_)
 first | (exfalso; omega) | exact ⟨_, _, rfl, rfl, (8 * x) * x, by rw [show aQ op x.toNat = 0 by (try rw [hle]); unfold aQ; (repeat' split) <;> omega]; rfl, rfl⟩
 refine .sr (.vl (Y.ql rfl rfl) ?_)
 refine .an ?_
 refine .nil ?_
 refine .bx rfl (fun mo => ?_) (fun mo => ?_)
 refine .skip (.aM rfl (.sr ?_))
 refine .mv ?_
 refine .vl (Y.qb rfl rfl bw) (.vl (Y.zz rfl rfl bw) ?_)
 refine .fa pq ?_
 refine .ak eQ rfl rfl rfl rfl rfl rfl (aI rfl) rfl (.nil (.region ?_))
 refine .mv ?_
 refine .vl (Y.qb rfl rfl bw) (.vl (Y.zp rfl rfl om) (.vl (Y.qb rfl rfl bw) ?_))
 refine .mv ?_
 refine .vl (Y.qb rfl rfl bw) (.vl (Y.zp rfl rfl om) (.vl (Y.qb rfl rfl bw) ?_))
 refine .mv ?_
 refine .vl (Y.zi rfl rfl om) ?_
 refine .mv ?_
 refine .vl (Y.zi rfl rfl om) ?_
 refine .fa pt ?_
 refine .ak eQ rfl rfl rfl rfl rfl rfl (aI rfl) rfl ?_
 refine .fa pv ?_
 refine .ak eQ rfl rfl rfl rfl rfl rfl (aI rfl) rfl ?_
 refine .fa ea ?_
 refine .ak eQ rfl rfl rfl rfl rfl rfl (aI rfl) rfl (.nil (.sr ?_))
 refine .vl (Y.zb gF rfl rfl (aI rfl) rfl rfl) (.ak cO rfl rfl rfl rfl rfl rfl (aI rfl) rfl ?_)
 refine .an ?_
 refine .nil (.ret ?_)
 first | (exfalso; omega) | exact ⟨_, _, rfl, rfl, (8 * x) * x, by rw [show aQ op x.toNat = 0 by (try rw [hle]); unfold aQ; (repeat' split) <;> omega]; rfl, rfl⟩
 refine .region (.vl (Y.ql rfl rfl) ?_)
 refine .an ?_
 refine .nil ?_
 refine .bx rfl (fun mo => ?_) (fun mo => ?_)
 refine .sr ?_
 refine .mv ?_
 refine .vl (Y.qb rfl rfl bw) (.vl (Y.zz rfl rfl bw) ?_)
 refine .fa pq ?_
 refine .ak eQ rfl rfl rfl rfl rfl rfl (aI rfl) rfl (.nil (.region ?_))
 refine .mv ?_
 refine .vl (Y.qb rfl rfl bw) (.vl (Y.zp rfl rfl om) (.vl (Y.qb rfl rfl bw) ?_))
 refine .mv ?_
 refine .vl (Y.qb rfl rfl bw) (.vl (Y.zp rfl rfl om) (.vl (Y.qb rfl rfl bw) ?_))
 refine .mv ?_
 refine .vl (Y.zi rfl rfl om) ?_
 refine .mv ?_
 refine .vl (Y.zi rfl rfl om) ?_
 refine .fa pt ?_
 refine .ak eQ rfl rfl rfl rfl rfl rfl (aI rfl) rfl ?_
 refine .fa pv ?_
 refine .ak eQ rfl rfl rfl rfl rfl rfl (aI rfl) rfl ?_
 refine .fa ea ?_
 refine .ak eQ rfl rfl rfl rfl rfl rfl (aI rfl) rfl (.nil (.sr ?_))
 refine .vl (Y.zb gF rfl rfl (aI rfl) rfl rfl) (.ak cO rfl rfl rfl rfl rfl rfl (aI rfl) rfl ?_)
 refine .an ?_
 refine .nil (.ret ?_)
 first | (exfalso; omega) | exact ⟨_, _, rfl, rfl, (8 * x) * x, by rw [show aQ op x.toNat = 0 by (try rw [hle]); unfold aQ; (repeat' split) <;> omega]; rfl, rfl⟩
 refine .skip (.sr (.vl (Y.zb gF rfl rfl (aI rfl) rfl rfl) ?_))
 refine .ak cO rfl rfl rfl rfl rfl rfl (aI rfl) rfl ?_
 refine .an ?_
 refine .nil (.ret ?_)
 first | (exfalso; omega) | exact ⟨_, _, rfl, rfl, 0, by rw [show aQ op x.toNat = 0 by (try rw [hle]); unfold aQ; (repeat' split) <;> omega]; rfl, rfl⟩
open Go Go.AW Go.Proofs
theorem jc {n : ab} {c : Cell} (hw : ∀ w ∈ n.aa, eO w) (j9 : gS n c) (ha : c.args.length ≤ 200) (yt : n.aa.length ≤ 1000) : au Try.prog 41 [.agg (ab.row n), .agg (Cell.row c)] [] [] (fun r o => r = (vi (eJ n c)) ∧ o = []) := by
 refine au.of Try.func41 rfl rfl rfl (n := 49) ae (aI rfl) (.sr (.box 102 rfl rfl rfl rfl rfl ae ?_))
 refine .box 103 rfl rfl rfl rfl rfl ae ?_
 refine .an ?_
 refine .nil (.seq (.seq ?_))
 refine .sh (Sh.cW 102 rfl rfl) (.sh (Sh.cW 103 rfl rfl) (.region ?_))
 refine .fa bP ?_
 refine .ld aV ?_
 refine .nil (.block (.sr ?_))
 refine .vl (Y.ql rfl rfl) ?_
 refine .an ?_
 refine .nil ?_
 refine .a8 rfl (fun EE => ?_) (fun EE => ?_)
 refine .sr ?_
 refine .an ?_
 refine .nil (.ret ?_)
 exact .ri rfl (by unfold eJ; rw [if_pos bm])
 refine .sr (.vl (Y.ql rfl rfl) ?_)
 refine .an ?_
 refine .nil ?_
 refine .a8 rfl (fun EO => ?_) (fun EO => ?_)
 refine .seq ?_
 have h5 := Cp j9 bm; have Ow := h5.1; unfold In at Ow; have Sj := uP hw h5.1; have KW := j9.1 (c.args.getD 0 0) (br om); have Sk := uP hw KW; have Ox := KW; unfold In at Ox
 refine .region ?_
 refine .fa bu ?_
 refine .ld aW ?_
 refine .fa cN ?_
 refine .ld aV ?_
 refine .vl (Y.qs (m := (c.out).toNat) az rfl rfl om (aq (d := 0) om)) ?_
 refine .ld aV ?_
 refine .an ?_
 refine .nil ?_
 refine .fb (fun (kC : Int) => ⟨[(3, .fp (Cell.row c) 0), (5, vi kC)], []⟩) (fun kC => kC = (if ga c.op then n.av c 0 else n.wd c.out)) ?_ (fun kC Dx => ?_)
 refine .sr ?_
 refine .fa ct ?_
 refine .ld aV ?_
 refine .aH K0 (n4 (w := c.op)) rfl (.ah rfl rfl .nil) ae rfl (.nil ?_)
 refine .a8 rfl (fun nY => ?_) (fun nY => ?_)
 refine .fR rfl ao (.val (Y.qp bu rfl rfl) ae (.val (Y.za aW rfl rfl rfl rfl) ae ?_))
 refine .val (Y.qp bF rfl rfl) ae (.val (Y.za aW rfl rfl rfl rfl) ae ?_)
 refine .val (Y.qs (m := 0) az rfl rfl bf (aq (d := 0) om)) ae (.val (Y.za aV rfl rfl rfl rfl) ae (.val (Y.qs (m := (c.args.getD 0 0).toNat) az rfl rfl om (aq (d := 0) om)) ae ?_))
 refine .val (Y.za aV rfl rfl rfl rfl) ae (.val (Y.qf rfl rfl) ae (.nil ?_))
 exact ⟨n.aa.getD ((c.args.getD 0 0).toNat) 0, by rw [if_pos bm]; rfl, Le.mk (.c (.cons (aj rfl bf) .nil)) .nil⟩
 refine .skip ⟨n.aa.getD ((c.out).toNat) 0, by rw [if_neg bm]; rfl, Le.mk (.c (.cons (aj rfl bf) .nil)) .nil⟩
 have h8 : 1 ≤ kC ∧ kC ≤ 64 := by (rw [Dx]; split <;> assumption)
 refine .sr ?_
 refine .fa ct ?_
 refine .ld aV ?_
 refine .mv ?_
 refine .kh NK (EX (op := c.op) (x := kC) h5.2.1 h8.1 h8.2) rfl (.ah rfl rfl (.ah rfl rfl .nil)) ae ?_
 rintro _ ⟨SF, rfl, _⟩
 refine ⟨rfl, ?_⟩
 refine .mv ?_
 refine .vl (Y.qn rfl rfl rfl) (.vl (Y.qn rfl rfl rfl) (.alloc 106 jM rfl rfl ae ?_))
 refine .ak cO rfl rfl rfl rfl rfl rfl (aI rfl) rfl ?_
 refine .an ?_
 refine .nil (.sr ?_)
 refine .fa eP ?_
 refine .ld aV ?_
 refine .an ?_
 refine .nil (.ret ?_)
 exact .ri rfl (by unfold eJ; rw [if_neg om, if_pos bm, Dx])
 refine .sr (.vl (Y.ql rfl rfl) ?_)
 refine .an ?_
 refine .nil ?_
 refine .a8 rfl (fun p7 => ?_) (fun p7 => ?_)
 refine .seq ?_
 have Q6 := q8 (n := ((c.args.length : Int) / 2).toNat) om
 refine .region ?_
 refine .fa bF ?_
 refine .ld aW ?_
 refine .vl (Y.qx (n := c.args.length) az rfl cS) (.vl (Y.zp rfl rfl om) (.aH Hm (n7 (x := ((c.args.length : Int) / 2)) (om) (om)) rfl (.ah rfl rfl .nil) ae rfl (.vl (Y.zi rfl rfl om) (.vl (Y.qb rfl rfl bw) ?_))))
 refine .an ?_
 refine .nil (.ret ?_)
 exact .ri rfl (by unfold eJ; rw [if_neg om, if_neg om, if_pos bm, show ((c.args.length : Int) / 2).toNat = c.args.length / 2 by omega])
 refine .skip (.sr ?_)
 refine .an ?_
 refine .nil (.ret ?_)
 exact .ri rfl (by unfold eJ; rw [if_neg om, if_neg om, if_neg om])
open Go Go.AW Go.Proofs
theorem wz {n : ab} {c : Cell} (hs : n.Small) (hc : c.args.length ≤ 17592186043904) : au Try.prog 98 [.agg (ab.row n), .agg (Cell.row c)] [] [] (fun r o => r = .v (.bool (decide (Shaped n c))) ∧ o = []) := by
 refine au.of Try.func98 rfl rfl rfl (n := 132) ae (aI rfl) ?_
 have EY := hs.ins; have EZ := hs.a7; have Gm := hs.streams
 refine .sr (.box 102 rfl rfl rfl rfl rfl ae (.box 103 rfl rfl rfl rfl rfl ae ?_))
 refine .an ?_
 refine .nil (.sr ?_)
 refine .an ?_
 refine .an ?_
 refine .an ?_
 refine .an ?_
 refine .nil (.seq (.sr ?_))
 refine .fa bP ?_
 refine .ld aV ?_
 refine .nil (.block (.sr ?_))
 refine .vl (Y.ql rfl rfl) ?_
 refine .an ?_
 refine .nil ?_
 refine .a8 rfl (fun Gb => ?_) (fun Gb => ?_)
 refine .region ?_
 refine .an ?_
 refine .nil ?_
 refine .nn (⟨[(2, .ptr 102 0 0 0), (3, .ptr 103 0 0 0), (8, vi (-1))], [(102, .cells (ab.row n)), (103, .cells (Cell.row c))]⟩) (((¬ ((c.args.length : Int) ≠ 0)) ∧ (¬ (c.op ≠ 0)) ∧ ((c.num : Int) ≠ 0)) ∨ ((¬ ((c.args.length : Int) ≠ 0)) ∧ (¬ (c.op ≠ 0)) ∧ (¬ ((c.num : Int) ≠ 0)))) ?_ (fun HX => ?_)
 refine .sr ?_
 refine .fa bF ?_
 refine .ld aW ?_
 refine .vl (Y.qx (n := c.args.length) az rfl cS) ?_
 refine .mv ?_
 refine .vl (Y.zk rfl rfl) ?_
 refine .mv ?_
 refine .ax (d := 88) rfl (fun nZ => ?_) (fun nZ => ?_)
 refine .gz 88 (.gz 88 (.gz 88 ?_))
 refine .gz 88 ?_
 refine .pk ?_
 refine .mv ?_
 refine .gz 94 (.gz 94 (.gz 94 ?_))
 refine .gz 94 (.gz 98 (.gz 98 ?_))
 refine .gz 94 ?_
 refine .pk ?_
 refine .nil (.aM rfl (.sr ?_))
 refine .an ?_
 refine .nil (.ret ?_)
 exact .rb rfl (df gp)
 refine .gw 88 (Y.qp ct rfl rfl) (.gw 88 (Y.za aV rfl rfl rfl rfl) (.gw 88 (Y.zg rfl rfl) ?_))
 refine .gw 88 (Y.zk rfl rfl) ?_
 refine .pk ?_
 refine .mv ?_
 refine .ax (d := 94) rfl (fun oO => ?_) (fun oO => ?_)
 refine .gz 94 (.gz 94 (.gz 94 ?_))
 refine .gz 94 (.gz 98 (.gz 98 ?_))
 refine .gz 94 ?_
 refine .pk ?_
 refine .nil (.aM rfl (.sr ?_))
 refine .an ?_
 refine .nil (.ret ?_)
 exact .rb rfl (df gp)
 refine .gw 94 (Y.qp dp rfl rfl) (.gw 94 (Y.za fv rfl rfl rfl rfl) (.gw 94 (Y.zk rfl rfl) ?_))
 refine .gw 94 (Y.zg rfl rfl) ?_
 refine .ax (d := 98) rfl (fun mO => ?_) (fun mO => ?_)
 refine .gw 98 (Y.zg rfl rfl) (.gw 98 (Y.zm rfl) (.gw 94 (Y.zn rfl rfl rfl) ?_))
 refine .pk ?_
 refine .nil (.bO rfl (.skip ?_))
 exact ⟨.inl ⟨nZ, oO, mO⟩, Le.mk (.c2 (.c .nil)) (.c (.c .nil))⟩
 refine .gz 98 (.gz 98 (.gw 94 (Y.zn rfl rfl rfl) ?_))
 refine .pk ?_
 refine .nil (.bO rfl (.skip ?_))
 exact ⟨.inr (⟨nZ, oO, mO⟩), Le.mk (.c2 (.c .nil)) (.c (.c .nil))⟩
 refine .seq (.sr ?_)
 refine .mv ?_
 refine .vl (Y.zc rfl rfl) (.nil (.aM rfl ?_))
 refine .sr ?_
 refine .fa bU ?_
 refine .ld aV ?_
 refine .vl (Y.ql rfl rfl) ?_
 refine .an ?_
 refine .nil (.ret ?_)
 exact .rb rfl (dd gp)
 refine .sr (.vl (Y.ql rfl rfl) ?_)
 refine .an ?_
 refine .nil ?_
 refine .a8 rfl (fun wL => ?_) (fun wL => ?_)
 refine .seq (.fN rfl (.blind 0 rfl ao (aw.fieldAddr ct rfl rfl) ae ?_))
 refine .blind 3 rfl ao (aw.fieldAddr ct rfl rfl) ae ?_
 refine .two 1 4 rfl rfl ao ?_ ?_
 refine .ld aV ?_
 refine .nil ⟨rfl, ?_⟩
 refine .two 2 4 rfl rfl ao ?_ ?_
 refine .aH Cf (lg (op := c.op)) rfl (.ah rfl rfl .nil) ae rfl ?_
 refine .nil ⟨rfl, ?_⟩
 refine .bT (n := 0) [4, 5, 6] [] 0 rfl ao (.cn 4 rfl (Y.za aV rfl rfl rfl rfl) (.cn 5 rfl (Y.qf rfl rfl) ?_))
 refine .cn 6 rfl (Y.qf rfl rfl) (.nil (.done ao ?_))
 refine .sr ?_
 refine .mv ?_
 refine .vl (Y.ql rfl rfl) (.nil ?_)
 refine .a8 rfl (fun xG => ?_) (fun xG => ?_)
 refine .sr ?_
 refine .an ?_
 refine .nil (.ret ?_)
 exact .rb rfl (df gp)
 refine .skip (.seq (.sr ?_))
 refine .fa bF ?_
 refine .ld aW ?_
 refine .vl (Y.qx (n := c.args.length) az rfl cS) ?_
 refine .mv ?_
 refine .vl (Y.zk rfl rfl) ?_
 refine .mv ?_
 refine .ax (d := 88) rfl (fun nZ => ?_) (fun nZ => ?_)
 refine .gz 88 (.gz 88 (.gz 88 ?_))
 refine .gz 88 ?_
 refine .pk ?_
 refine .mv ?_
 refine .gz 94 (.gz 94 (.gz 94 ?_))
 refine .gz 94 (.gz 98 (.gz 98 ?_))
 refine .gz 94 ?_
 refine .pk ?_
 refine .nil (.aM rfl (.sr ?_))
 refine .an ?_
 refine .nil (.ret ?_)
 exact .rb rfl (df gp)
 refine .gw 88 (Y.qp ct rfl rfl) (.gw 88 (Y.za aV rfl rfl rfl rfl) (.gw 88 (Y.zg rfl rfl) ?_))
 refine .gw 88 (Y.zk rfl rfl) ?_
 refine .pk ?_
 refine .mv ?_
 refine .ax (d := 94) rfl (fun oO => ?_) (fun oO => ?_)
 refine .gz 94 (.gz 94 (.gz 94 ?_))
 refine .gz 94 (.gz 98 (.gz 98 ?_))
 refine .gz 94 ?_
 refine .pk ?_
 refine .nil (.aM rfl (.sr ?_))
 refine .an ?_
 refine .nil (.ret ?_)
 exact .rb rfl (df gp)
 refine .gw 94 (Y.qp dp rfl rfl) (.gw 94 (Y.za fv rfl rfl rfl rfl) (.gw 94 (Y.zk rfl rfl) ?_))
 refine .gw 94 (Y.zg rfl rfl) ?_
 refine .ax (d := 98) rfl (fun mO => ?_) (fun mO => ?_)
 refine .gw 98 (Y.zg rfl rfl) (.gw 98 (Y.zm rfl) (.gw 94 (Y.zn rfl rfl rfl) ?_))
 refine .pk ?_
 refine .nil (.aM rfl (.sr ?_))
 refine .an ?_
 refine .nil (.ret ?_)
 exact .rb rfl (df gp)
 refine .gz 98 (.gz 98 (.gw 94 (Y.zn rfl rfl rfl) ?_))
 refine .pk ?_
 refine .nil (.bO rfl (.skip ?_))
 refine .seq (.sr ?_)
 refine .mv ?_
 refine .vl (Y.zc rfl rfl) (.nil (.aM rfl ?_))
 refine .sr ?_
 refine .fa bU ?_
 refine .ld aV ?_
 refine .vl (Y.ql rfl rfl) ?_
 refine .an ?_
 refine .nil (.ret ?_)
 exact .rb rfl (dd gp)
 refine .ld aV ?_
 refine .nil ⟨rfl, ?_⟩
 refine .one 2 rfl ao (.aH Cf (lg (op := c.op)) rfl (.ah rfl rfl .nil) ae rfl ?_)
 refine .nil ⟨rfl, ?_⟩
 refine .bT (n := 0) [5, 6] [] 0 rfl ao (.cn 5 rfl (Y.qf rfl rfl) (.cn 6 rfl (Y.qf rfl rfl) ?_))
 refine .nil (.done ao (.sr ?_))
 refine .mv ?_
 refine .vl (Y.ql rfl rfl) (.nil ?_)
 refine .a8 rfl (fun xG => ?_) (fun xG => ?_)
 refine .sr ?_
 refine .an ?_
 refine .nil (.ret ?_)
 exact .rb rfl (df gp)
 refine .skip (.seq (.sr ?_))
 refine .fa bF ?_
 refine .ld aW ?_
 refine .vl (Y.qx (n := c.args.length) az rfl cS) ?_
 refine .mv ?_
 refine .vl (Y.zk rfl rfl) ?_
 refine .mv ?_
 refine .ax (d := 88) rfl (fun nZ => ?_) (fun nZ => ?_)
 refine .gz 88 (.gz 88 (.gz 88 ?_))
 refine .gz 88 ?_
 refine .pk ?_
 refine .mv ?_
 refine .gz 94 (.gz 94 (.gz 94 ?_))
 refine .gz 94 (.gz 98 (.gz 98 ?_))
 refine .gz 94 ?_
 refine .pk ?_
 refine .nil (.aM rfl (.sr ?_))
 refine .an ?_
 refine .nil (.ret ?_)
 exact .rb rfl (df gp)
 refine .gw 88 (Y.qp ct rfl rfl) (.gw 88 (Y.za aV rfl rfl rfl rfl) (.gw 88 (Y.zg rfl rfl) ?_))
 refine .gw 88 (Y.zk rfl rfl) ?_
 refine .pk ?_
 refine .mv ?_
 refine .ax (d := 94) rfl (fun oO => ?_) (fun oO => ?_)
 refine .gz 94 (.gz 94 (.gz 94 ?_))
 refine .gz 94 (.gz 98 (.gz 98 ?_))
 refine .gz 94 ?_
 refine .pk ?_
 refine .nil (.aM rfl (.sr ?_))
 refine .an ?_
 refine .nil (.ret ?_)
 exact .rb rfl (df gp)
 refine .gw 94 (Y.qp dp rfl rfl) (.gw 94 (Y.za fv rfl rfl rfl rfl) (.gw 94 (Y.zk rfl rfl) ?_))
 refine .gw 94 (Y.zg rfl rfl) ?_
 refine .ax (d := 98) rfl (fun mO => ?_) (fun mO => ?_)
 refine .gw 98 (Y.zg rfl rfl) (.gw 98 (Y.zm rfl) (.gw 94 (Y.zn rfl rfl rfl) ?_))
 refine .pk ?_
 refine .nil (.aM rfl (.sr ?_))
 refine .an ?_
 refine .nil (.ret ?_)
 exact .rb rfl (df gp)
 refine .gz 98 (.gz 98 (.gw 94 (Y.zn rfl rfl rfl) ?_))
 refine .pk ?_
 refine .nil (.bO rfl (.skip ?_))
 refine .seq (.sr ?_)
 refine .mv ?_
 refine .vl (Y.zc rfl rfl) (.nil (.aM rfl ?_))
 refine .sr ?_
 refine .fa bU ?_
 refine .ld aV ?_
 refine .vl (Y.ql rfl rfl) ?_
 refine .an ?_
 refine .nil (.ret ?_)
 exact .rb rfl (dd gp)
 refine .ld aV ?_
 refine .nil ⟨rfl, ?_⟩
 refine .bT (n := 3) [1] [2, 5, 6] 2 rfl ao (.cn 1 rfl (Y.za aV rfl rfl rfl rfl) (.nil ?_))
 refine .one 2 rfl ao (.aH Cf (lg (op := c.op)) rfl (.ah rfl rfl .nil) ae rfl ?_)
 refine .nil ⟨rfl, ?_⟩
 refine .bT (n := 0) [5, 6] [] 0 rfl ao (.cn 5 rfl (Y.qf rfl rfl) (.cn 6 rfl (Y.qf rfl rfl) ?_))
 refine .nil (.done ao (.sr ?_))
 refine .mv ?_
 refine .vl (Y.ql rfl rfl) (.nil ?_)
 refine .a8 rfl (fun xG => ?_) (fun xG => ?_)
 refine .sr ?_
 refine .an ?_
 refine .nil (.ret ?_)
 exact .rb rfl (df gp)
 refine .skip (.seq (.sr ?_))
 refine .fa bF ?_
 refine .ld aW ?_
 refine .vl (Y.qx (n := c.args.length) az rfl cS) ?_
 refine .mv ?_
 refine .vl (Y.zk rfl rfl) ?_
 refine .mv ?_
 refine .ax (d := 88) rfl (fun nZ => ?_) (fun nZ => ?_)
 refine .gz 88 (.gz 88 (.gz 88 ?_))
 refine .gz 88 ?_
 refine .pk ?_
 refine .mv ?_
 refine .gz 94 (.gz 94 (.gz 94 ?_))
 refine .gz 94 (.gz 98 (.gz 98 ?_))
 refine .gz 94 ?_
 refine .pk ?_
 refine .nil (.aM rfl (.sr ?_))
 refine .an ?_
 refine .nil (.ret ?_)
 exact .rb rfl (df gp)
 refine .gw 88 (Y.qp ct rfl rfl) (.gw 88 (Y.za aV rfl rfl rfl rfl) (.gw 88 (Y.zg rfl rfl) ?_))
 refine .gw 88 (Y.zk rfl rfl) ?_
 refine .pk ?_
 refine .mv ?_
 refine .ax (d := 94) rfl (fun oO => ?_) (fun oO => ?_)
 refine .gz 94 (.gz 94 (.gz 94 ?_))
 refine .gz 94 (.gz 98 (.gz 98 ?_))
 refine .gz 94 ?_
 refine .pk ?_
 refine .nil (.aM rfl (.sr ?_))
 refine .an ?_
 refine .nil (.ret ?_)
 exact .rb rfl (df gp)
 refine .gw 94 (Y.qp dp rfl rfl) (.gw 94 (Y.za fv rfl rfl rfl rfl) (.gw 94 (Y.zk rfl rfl) ?_))
 refine .gw 94 (Y.zg rfl rfl) ?_
 refine .ax (d := 98) rfl (fun mO => ?_) (fun mO => ?_)
 refine .gw 98 (Y.zg rfl rfl) (.gw 98 (Y.zm rfl) (.gw 94 (Y.zn rfl rfl rfl) ?_))
 refine .pk ?_
 refine .nil (.aM rfl (.sr ?_))
 refine .an ?_
 refine .nil (.ret ?_)
 exact .rb rfl (df gp)
 refine .gz 98 (.gz 98 (.gw 94 (Y.zn rfl rfl rfl) ?_))
 refine .pk ?_
 refine .nil (.bO rfl (.skip ?_))
 refine .seq (.sr ?_)
 refine .mv ?_
 refine .vl (Y.zc rfl rfl) (.nil (.aM rfl ?_))
 refine .sr ?_
 refine .fa bU ?_
 refine .ld aV ?_
 refine .vl (Y.ql rfl rfl) ?_
 refine .an ?_
 refine .nil (.ret ?_)
 exact .rb rfl (dd gp)
 refine .sr (.vl (Y.ql rfl rfl) ?_)
 refine .an ?_
 refine .nil ?_
 refine .a8 rfl (fun nY => ?_) (fun nY => ?_)
 refine .sr ?_
 refine .fa bF ?_
 refine .ld aW ?_
 refine .vl (Y.qx (n := c.args.length) az rfl cS) ?_
 refine .an ?_
 refine .nil (.sr ?_)
 refine .mv ?_
 refine .vl (Y.zc rfl rfl) ?_
 refine .mv ?_
 refine .ax (d := 29) rfl (fun CS => ?_) (fun CS => ?_)
 refine .gz 29 (.gz 29 (.gz 29 ?_))
 refine .pk ?_
 refine .nil (.aM rfl (.sr ?_))
 refine .an ?_
 refine .nil (.ret ?_)
 exact .rb rfl (df gp)
 refine .gw 29 (Y.zg rfl rfl) (.gw 29 (Y.zs rfl rfl om) (.gw 29 (Y.ql rfl rfl) ?_))
 refine .pk ?_
 refine .nil ?_
 refine .a8 rfl (fun HW => ?_) (fun HW => ?_)
 refine .sr ?_
 refine .an ?_
 refine .nil (.ret ?_)
 exact .rb rfl (df gp)
 refine .skip (.seq (.sr ?_))
 refine .fa bF ?_
 refine .ld aW ?_
 refine .vl (Y.qx (n := c.args.length) az rfl cS) ?_
 refine .mv ?_
 refine .vl (Y.zk rfl rfl) ?_
 refine .mv ?_
 refine .ax (d := 88) rfl (fun nZ => ?_) (fun nZ => ?_)
 refine .gz 88 (.gz 88 (.gz 88 ?_))
 refine .gz 88 ?_
 refine .pk ?_
 refine .mv ?_
 refine .gz 94 (.gz 94 (.gz 94 ?_))
 refine .gz 94 (.gz 98 (.gz 98 ?_))
 refine .gz 94 ?_
 refine .pk ?_
 refine .nil (.aM rfl (.sr ?_))
 refine .an ?_
 refine .nil (.ret ?_)
 exact .rb rfl (df gp)
 refine .gw 88 (Y.qp ct rfl rfl) (.gw 88 (Y.za aV rfl rfl rfl rfl) (.gw 88 (Y.zg rfl rfl) ?_))
 refine .gw 88 (Y.zk rfl rfl) ?_
 refine .pk ?_
 refine .mv ?_
 refine .ax (d := 94) rfl (fun oO => ?_) (fun oO => ?_)
 refine .gz 94 (.gz 94 (.gz 94 ?_))
 refine .gz 94 (.gz 98 (.gz 98 ?_))
 refine .gz 94 ?_
 refine .pk ?_
 refine .nil (.aM rfl (.sr ?_))
 refine .an ?_
 refine .nil (.ret ?_)
 exact .rb rfl (df gp)
 refine .gw 94 (Y.qp dp rfl rfl) (.gw 94 (Y.za fv rfl rfl rfl rfl) (.gw 94 (Y.zk rfl rfl) ?_))
 refine .gw 94 (Y.zg rfl rfl) ?_
 refine .ax (d := 98) rfl (fun mO => ?_) (fun mO => ?_)
 refine .gw 98 (Y.zg rfl rfl) (.gw 98 (Y.zm rfl) (.gw 94 (Y.zn rfl rfl rfl) ?_))
 refine .pk ?_
 refine .nil (.aM rfl (.sr ?_))
 refine .an ?_
 refine .nil (.ret ?_)
 exact .rb rfl (df gp)
 refine .gz 98 (.gz 98 (.gw 94 (Y.zn rfl rfl rfl) ?_))
 refine .pk ?_
 refine .nil (.bO rfl (.skip ?_))
 refine .seq (.sr ?_)
 refine .mv ?_
 refine .vl (Y.zc rfl rfl) (.nil (.aM rfl ?_))
 refine .sr ?_
 refine .fa bU ?_
 refine .ld aV ?_
 refine .vl (Y.ql rfl rfl) ?_
 refine .an ?_
 refine .nil (.ret ?_)
 exact .rb rfl (dd gp)
 refine .sr (.vl (Y.ql rfl rfl) ?_)
 refine .an ?_
 refine .nil ?_
 refine .a8 rfl (fun wc => ?_) (fun wc => ?_)
 refine .region ?_
 refine .an ?_
 refine .an ?_
 refine .nil ?_
 refine .nn (⟨[(2, .ptr 102 0 0 0), (3, .ptr 103 0 0 0), (8, vi (-1))], [(102, .cells (ab.row n)), (103, .cells (Cell.row c))]⟩) (((¬ ((c.args.length : Int) ≠ 2)) ∧ (¬ (c.op ≠ 0)) ∧ ((c.num : Int) ≠ 0)) ∨ ((¬ ((c.args.length : Int) ≠ 2)) ∧ (¬ (c.op ≠ 0)) ∧ (¬ ((c.num : Int) ≠ 0)))) ?_ (fun HX => ?_)
 refine .sr ?_
 refine .fa bF ?_
 refine .ld aW ?_
 refine .vl (Y.qx (n := c.args.length) az rfl cS) ?_
 refine .mv ?_
 refine .vl (Y.zk rfl rfl) ?_
 refine .mv ?_
 refine .ax (d := 88) rfl (fun nZ => ?_) (fun nZ => ?_)
 refine .gz 88 (.gz 88 (.gz 88 ?_))
 refine .gz 88 ?_
 refine .pk ?_
 refine .mv ?_
 refine .gz 94 (.gz 94 (.gz 94 ?_))
 refine .gz 94 (.gz 98 (.gz 98 ?_))
 refine .gz 94 ?_
 refine .pk ?_
 refine .nil (.aM rfl (.sr ?_))
 refine .an ?_
 refine .nil (.ret ?_)
 exact .rb rfl (df gp)
 refine .gw 88 (Y.qp ct rfl rfl) (.gw 88 (Y.za aV rfl rfl rfl rfl) (.gw 88 (Y.zg rfl rfl) ?_))
 refine .gw 88 (Y.zk rfl rfl) ?_
 refine .pk ?_
 refine .mv ?_
 refine .ax (d := 94) rfl (fun oO => ?_) (fun oO => ?_)
 refine .gz 94 (.gz 94 (.gz 94 ?_))
 refine .gz 94 (.gz 98 (.gz 98 ?_))
 refine .gz 94 ?_
 refine .pk ?_
 refine .nil (.aM rfl (.sr ?_))
 refine .an ?_
 refine .nil (.ret ?_)
 exact .rb rfl (df gp)
 refine .gw 94 (Y.qp dp rfl rfl) (.gw 94 (Y.za fv rfl rfl rfl rfl) (.gw 94 (Y.zk rfl rfl) ?_))
 refine .gw 94 (Y.zg rfl rfl) ?_
 refine .ax (d := 98) rfl (fun mO => ?_) (fun mO => ?_)
 refine .gw 98 (Y.zg rfl rfl) (.gw 98 (Y.zm rfl) (.gw 94 (Y.zn rfl rfl rfl) ?_))
 refine .pk ?_
 refine .nil (.bO rfl (.skip ?_))
 exact ⟨.inl ⟨nZ, oO, mO⟩, Le.mk (.c2 (.c .nil)) (.c (.c .nil))⟩
 refine .gz 98 (.gz 98 (.gw 94 (Y.zn rfl rfl rfl) ?_))
 refine .pk ?_
 refine .nil (.bO rfl (.skip ?_))
 exact ⟨.inr (⟨nZ, oO, mO⟩), Le.mk (.c2 (.c .nil)) (.c (.c .nil))⟩
 refine .seq (.sr ?_)
 refine .mv ?_
 refine .vl (Y.zc rfl rfl) (.nil (.aM rfl ?_))
 refine .sr ?_
 refine .fa bU ?_
 refine .ld aV ?_
 refine .vl (Y.ql rfl rfl) ?_
 refine .an ?_
 refine .nil (.ret ?_)
 exact .rb rfl (dd gp)
 refine .sr (.vl (Y.ql rfl rfl) ?_)
 refine .an ?_
 refine .nil ?_
 refine .a8 rfl (fun uc => ?_) (fun uc => ?_)
 refine .seq (.fR rfl ao (.val (Y.qp ct rfl rfl) ae ?_))
 refine .val (Y.za aV rfl rfl rfl rfl) ae (.val (Y.qf rfl rfl) ae (.val (Y.qf rfl rfl) ae ?_))
 refine .val (Y.qf rfl rfl) ae (.nil (.sr ?_))
 refine .fa ct ?_
 refine .ld aV ?_
 refine .vl (Y.zc rfl rfl) ?_
 refine .mv ?_
 refine .ax (d := 43) rfl (fun OS => ?_) (fun OS => ?_)
 refine .gz 43 (.gz 43 (.gz 43 ?_))
 refine .pk ?_
 refine .mv ?_
 refine .gz 48 (.gz 48 (.gz 48 ?_))
 refine .pk ?_
 refine .mv ?_
 refine .gz 53 (.gz 53 (.gz 53 ?_))
 refine .pk ?_
 refine .nil (.aM rfl (.sr ?_))
 refine .an ?_
 refine .nil (.ret ?_)
 exact .rb rfl (df gp)
 refine .gw 43 (Y.qp ct rfl rfl) (.gw 43 (Y.za aV rfl rfl rfl rfl) (.gw 43 (Y.qr rfl rfl) ?_))
 refine .pk ?_
 refine .mv ?_
 refine .ax (d := 48) rfl (fun KU => ?_) (fun KU => ?_)
 refine .gz 48 (.gz 48 (.gz 48 ?_))
 refine .pk ?_
 refine .mv ?_
 refine .gz 53 (.gz 53 (.gz 53 ?_))
 refine .pk ?_
 refine .nil (.aM rfl (.sr ?_))
 refine .an ?_
 refine .nil (.ret ?_)
 exact .rb rfl (df gp)
 refine .gw 48 (Y.qp dp rfl rfl) (.gw 48 (Y.za fv rfl rfl rfl rfl) (.gw 48 (Y.zc rfl rfl) ?_))
 refine .pk ?_
 refine .mv ?_
 refine .ax (d := 53) rfl (fun Ap => ?_) (fun Ap => ?_)
 refine .gz 53 (.gz 53 (.gz 53 ?_))
 refine .pk ?_
 refine .nil (.aM rfl (.sr ?_))
 refine .an ?_
 refine .nil (.ret ?_)
 exact .rb rfl (df gp)
 refine .gw 53 (Y.qp dp rfl rfl) (.gw 53 (Y.za fv rfl rfl rfl rfl) (.gw 53 (Y.qr rfl rfl) ?_))
 refine .pk ?_
 refine .nil ?_
 refine .a8 rfl (fun OT => ?_) (fun OT => ?_)
 refine .sr ?_
 refine .an ?_
 refine .nil (.ret ?_)
 exact .rb rfl (df gp)
 refine .skip ?_
 refine .nn (⟨[(2, .ptr 102 0 0 0), (3, .ptr 103 0 0 0), (8, vi (-1))], [(102, .cells (ab.row n)), (103, .cells (Cell.row c))]⟩) (((¬ ((c.args.length : Int) ≠ 2)) ∧ (¬ (c.op ≠ c.op)) ∧ ((c.num : Int) ≠ 0)) ∨ ((¬ ((c.args.length : Int) ≠ 2)) ∧ (¬ (c.op ≠ c.op)) ∧ (¬ ((c.num : Int) ≠ 0)))) ?_ (fun HX => ?_)
 refine .sr ?_
 refine .fa bF ?_
 refine .ld aW ?_
 refine .vl (Y.qx (n := c.args.length) az rfl cS) ?_
 refine .mv ?_
 refine .vl (Y.zk rfl rfl) ?_
 refine .mv ?_
 refine .ax (d := 88) rfl (fun nZ => ?_) (fun nZ => ?_)
 refine .gz 88 (.gz 88 (.gz 88 ?_))
 refine .gz 88 ?_
 refine .pk ?_
 refine .mv ?_
 refine .gz 94 (.gz 94 (.gz 94 ?_))
 refine .gz 94 (.gz 98 (.gz 98 ?_))
 refine .gz 94 ?_
 refine .pk ?_
 refine .nil (.aM rfl (.sr ?_))
 refine .an ?_
 refine .nil (.ret ?_)
 exact .rb rfl (df gp)
 refine .gw 88 (Y.qp ct rfl rfl) (.gw 88 (Y.za aV rfl rfl rfl rfl) (.gw 88 (Y.zg rfl rfl) ?_))
 refine .gw 88 (Y.zk rfl rfl) ?_
 refine .pk ?_
 refine .mv ?_
 refine .ax (d := 94) rfl (fun oO => ?_) (fun oO => ?_)
 refine .gz 94 (.gz 94 (.gz 94 ?_))
 refine .gz 94 (.gz 98 (.gz 98 ?_))
 refine .gz 94 ?_
 refine .pk ?_
 refine .nil (.aM rfl (.sr ?_))
 refine .an ?_
 refine .nil (.ret ?_)
 exact .rb rfl (df gp)
 refine .gw 94 (Y.qp dp rfl rfl) (.gw 94 (Y.za fv rfl rfl rfl rfl) (.gw 94 (Y.zk rfl rfl) ?_))
 refine .gw 94 (Y.zg rfl rfl) ?_
 refine .ax (d := 98) rfl (fun mO => ?_) (fun mO => ?_)
 refine .gw 98 (Y.zg rfl rfl) (.gw 98 (Y.zm rfl) (.gw 94 (Y.zn rfl rfl rfl) ?_))
 refine .pk ?_
 refine .nil (.bO rfl (.skip ?_))
 exact ⟨.inl ⟨nZ, oO, mO⟩, Le.mk (.c2 (.c .nil)) (.c (.c .nil))⟩
 refine .gz 98 (.gz 98 (.gw 94 (Y.zn rfl rfl rfl) ?_))
 refine .pk ?_
 refine .nil (.bO rfl (.skip ?_))
 exact ⟨.inr (⟨nZ, oO, mO⟩), Le.mk (.c2 (.c .nil)) (.c (.c .nil))⟩
 refine .seq (.sr ?_)
 refine .mv ?_
 refine .vl (Y.zc rfl rfl) (.nil (.aM rfl ?_))
 refine .sr ?_
 refine .fa bU ?_
 refine .ld aV ?_
 refine .vl (Y.ql rfl rfl) ?_
 refine .an ?_
 refine .nil (.ret ?_)
 exact .rb rfl (dd gp)
 refine .sr (.vl (Y.ql rfl rfl) ?_)
 refine .an ?_
 refine .nil ?_
 refine .a8 rfl (fun M4 => ?_) (fun M4 => ?_)
 refine .fR rfl ao (.val (Y.qp ef rfl rfl) ae (.val (Y.za jS rfl rfl rfl rfl) ae ?_))
 refine .val (Y.qx (n := n.a7.length) iG rfl cS) ae (.val (Y.qf rfl rfl) ae (.val (Y.qf rfl rfl) ae ?_))
 refine .nil (.seq (.sr ?_))
 refine .fa bF ?_
 refine .ld aW ?_
 refine .vl (Y.qx (n := c.args.length) az rfl cS) ?_
 refine .mv ?_
 refine .vl (Y.zk rfl rfl) ?_
 refine .mv ?_
 refine .ax (d := 88) rfl (fun nZ => ?_) (fun nZ => ?_)
 refine .gz 88 (.gz 88 (.gz 88 ?_))
 refine .gz 88 ?_
 refine .pk ?_
 refine .mv ?_
 refine .gz 94 (.gz 94 (.gz 94 ?_))
 refine .gz 94 (.gz 98 (.gz 98 ?_))
 refine .gz 94 ?_
 refine .pk ?_
 refine .nil (.aM rfl (.sr ?_))
 refine .an ?_
 refine .nil (.ret ?_)
 exact .rb rfl (df gp)
 refine .gw 88 (Y.qp ct rfl rfl) (.gw 88 (Y.za aV rfl rfl rfl rfl) (.gw 88 (Y.zg rfl rfl) ?_))
 refine .gw 88 (Y.zk rfl rfl) ?_
 refine .pk ?_
 refine .mv ?_
 refine .ax (d := 94) rfl (fun oO => ?_) (fun oO => ?_)
 refine .gz 94 (.gz 94 (.gz 94 ?_))
 refine .gz 94 (.gz 98 (.gz 98 ?_))
 refine .gz 94 ?_
 refine .pk ?_
 refine .nil (.aM rfl (.sr ?_))
 refine .an ?_
 refine .nil (.ret ?_)
 exact .rb rfl (df gp)
 refine .gw 94 (Y.qp dp rfl rfl) (.gw 94 (Y.za fv rfl rfl rfl rfl) (.gw 94 (Y.zk rfl rfl) ?_))
 refine .gw 94 (Y.zg rfl rfl) ?_
 refine .ax (d := 98) rfl (fun mO => ?_) (fun mO => ?_)
 refine .gw 98 (Y.zg rfl rfl) (.gw 98 (Y.zm rfl) (.gw 94 (Y.zn rfl rfl rfl) ?_))
 refine .pk ?_
 refine .nil (.aM rfl (.sr ?_))
 refine .an ?_
 refine .nil (.ret ?_)
 exact .rb rfl (df gp)
 refine .gz 98 (.gz 98 (.gw 94 (Y.zn rfl rfl rfl) ?_))
 refine .pk ?_
 refine .nil (.bO rfl (.skip ?_))
 refine .seq (.sr ?_)
 refine .mv ?_
 refine .vl (Y.zc rfl rfl) (.nil ?_)
 refine .a8 rfl (fun xW => ?_) (fun xW => ?_)
 refine .sr ?_
 refine .fa bU ?_
 refine .ld aV ?_
 refine .vl (Y.ql rfl rfl) ?_
 refine .an ?_
 refine .nil (.ret ?_)
 exact .rb rfl (dd gp)
 refine .skip (.sr ?_)
 refine .fa bU ?_
 refine .ld aV ?_
 refine .vl (Y.qq rfl rfl) ?_
 refine .mv ?_
 refine .ax (d := 111) rfl (fun uW => ?_) (fun uW => ?_)
 refine .gw 111 (Y.qp bU rfl rfl) (.gw 111 (Y.za aV rfl rfl rfl rfl) (.gw 111 (Y.zg rfl rfl) ?_))
 refine .gw 111 (Y.zc rfl rfl) ?_
 refine .pk ?_
 refine .mv ?_
 refine .ax (d := 117) rfl (fun oa => ?_) (fun oa => ?_)
 refine .gw 117 (Y.qp bP rfl rfl) (.gw 117 (Y.za aV rfl rfl rfl rfl) (.gw 117 (Y.zk rfl rfl) ?_))
 refine .gw 117 (Y.zg rfl rfl) ?_
 refine .ax (d := 121) rfl (fun xX => ?_) (fun xX => ?_)
 refine .gz 121 (.gz 121 (.gz 121 ?_))
 refine .gz 121 (.gz 121 (.gz 121 ?_))
 refine .gz 121 (.gz 121 (.gw 117 (Y.zn rfl rfl rfl) ?_))
 refine .pk ?_
 refine .an ?_
 refine .nil (.ret ?_)
 exact .rb rfl (dt gp)
 refine .gw 121 (Y.qp cC rfl rfl) (.gw 121 (Y.za fC rfl rfl rfl rfl) (.gw 121 (Y.qp bU rfl rfl) ?_))
 refine .gw 121 (Y.za aV rfl rfl rfl rfl) (.gw 121 (Y.qs (m := (c.mem).toNat) eG rfl rfl om (aq (d := default) om)) ?_)
 refine .gw 121 (Y.qp gU rfl rfl) (.gw 121 (Y.za ta rfl rfl rfl rfl) (.gw 121 (Y.zm rfl) ?_))
 refine .gw 117 (Y.zn rfl rfl rfl) ?_
 refine .pk ?_
 refine .an ?_
 refine .nil (.ret ?_)
 exact .rb rfl (db gp)
 refine .gz 117 (.gz 117 (.gz 117 ?_))
 refine .gz 117 (.gz 121 (.gz 121 ?_))
 refine .gz 121 (.gz 121 (.gz 121 ?_))
 refine .gz 121 (.gz 121 (.gz 121 ?_))
 refine .gz 117 ?_
 refine .pk ?_
 refine .an ?_
 refine .nil (.ret ?_)
 exact .rb rfl (df gp)
 refine .gz 111 (.gz 111 (.gz 111 ?_))
 refine .gz 111 ?_
 refine .pk ?_
 refine .mv ?_
 refine .gz 117 (.gz 117 (.gz 117 ?_))
 refine .gz 117 (.gz 121 (.gz 121 ?_))
 refine .gz 121 (.gz 121 (.gz 121 ?_))
 refine .gz 121 (.gz 121 (.gz 121 ?_))
 refine .gz 117 ?_
 refine .pk ?_
 refine .an ?_
 refine .nil (.ret ?_)
 exact .rb rfl (df gp)
 refine .sr (.vl (Y.ql rfl rfl) ?_)
 refine .an ?_
 refine .nil ?_
 refine .a8 rfl (fun tc => ?_) (fun tc => ?_)
 refine .fR rfl ao (.val (Y.qp ef rfl rfl) ae (.val (Y.za jS rfl rfl rfl rfl) ae ?_))
 refine .val (Y.qx (n := n.a7.length) iG rfl cS) ae (.val (Y.qf rfl rfl) ae (.val (Y.qf rfl rfl) ae ?_))
 refine .nil (.seq (.sr ?_))
 refine .fa bF ?_
 refine .ld aW ?_
 refine .vl (Y.qx (n := c.args.length) az rfl cS) ?_
 refine .mv ?_
 refine .vl (Y.zk rfl rfl) ?_
 refine .mv ?_
 refine .ax (d := 88) rfl (fun nZ => ?_) (fun nZ => ?_)
 refine .gz 88 (.gz 88 (.gz 88 ?_))
 refine .gz 88 ?_
 refine .pk ?_
 refine .mv ?_
 refine .gz 94 (.gz 94 (.gz 94 ?_))
 refine .gz 94 (.gz 98 (.gz 98 ?_))
 refine .gz 94 ?_
 refine .pk ?_
 refine .nil (.aM rfl (.sr ?_))
 refine .an ?_
 refine .nil (.ret ?_)
 exact .rb rfl (df gp)
 refine .gw 88 (Y.qp ct rfl rfl) (.gw 88 (Y.za aV rfl rfl rfl rfl) (.gw 88 (Y.zg rfl rfl) ?_))
 refine .gw 88 (Y.zk rfl rfl) ?_
 refine .pk ?_
 refine .mv ?_
 refine .ax (d := 94) rfl (fun oO => ?_) (fun oO => ?_)
 refine .gz 94 (.gz 94 (.gz 94 ?_))
 refine .gz 94 (.gz 98 (.gz 98 ?_))
 refine .gz 94 ?_
 refine .pk ?_
 refine .nil (.aM rfl (.sr ?_))
 refine .an ?_
 refine .nil (.ret ?_)
 exact .rb rfl (df gp)
 refine .gw 94 (Y.qp dp rfl rfl) (.gw 94 (Y.za fv rfl rfl rfl rfl) (.gw 94 (Y.zk rfl rfl) ?_))
 refine .gw 94 (Y.zg rfl rfl) ?_
 refine .ax (d := 98) rfl (fun mO => ?_) (fun mO => ?_)
 refine .gw 98 (Y.zg rfl rfl) (.gw 98 (Y.zm rfl) (.gw 94 (Y.zn rfl rfl rfl) ?_))
 refine .pk ?_
 refine .nil (.aM rfl (.sr ?_))
 refine .an ?_
 refine .nil (.ret ?_)
 exact .rb rfl (df gp)
 refine .gz 98 (.gz 98 (.gw 94 (Y.zn rfl rfl rfl) ?_))
 refine .pk ?_
 refine .nil (.bO rfl (.skip ?_))
 refine .seq (.sr ?_)
 refine .mv ?_
 refine .vl (Y.zc rfl rfl) (.nil ?_)
 refine .a8 rfl (fun xW => ?_) (fun xW => ?_)
 refine .sr ?_
 refine .fa bU ?_
 refine .ld aV ?_
 refine .vl (Y.ql rfl rfl) ?_
 refine .an ?_
 refine .nil (.ret ?_)
 exact .rb rfl (dd gp)
 refine .skip (.sr ?_)
 refine .fa bU ?_
 refine .ld aV ?_
 refine .vl (Y.qq rfl rfl) ?_
 refine .mv ?_
 refine .ax (d := 111) rfl (fun uW => ?_) (fun uW => ?_)
 refine .gw 111 (Y.qp bU rfl rfl) (.gw 111 (Y.za aV rfl rfl rfl rfl) (.gw 111 (Y.zg rfl rfl) ?_))
 refine .gw 111 (Y.zc rfl rfl) ?_
 refine .pk ?_
 refine .mv ?_
 refine .ax (d := 117) rfl (fun oa => ?_) (fun oa => ?_)
 refine .gw 117 (Y.qp bP rfl rfl) (.gw 117 (Y.za aV rfl rfl rfl rfl) (.gw 117 (Y.zk rfl rfl) ?_))
 refine .gw 117 (Y.zg rfl rfl) ?_
 refine .ax (d := 121) rfl (fun xX => ?_) (fun xX => ?_)
 refine .gz 121 (.gz 121 (.gz 121 ?_))
 refine .gz 121 (.gz 121 (.gz 121 ?_))
 refine .gz 121 (.gz 121 (.gw 117 (Y.zn rfl rfl rfl) ?_))
 refine .pk ?_
 refine .an ?_
 refine .nil (.ret ?_)
 exact .rb rfl (dt gp)
 refine .gw 121 (Y.qp cC rfl rfl) (.gw 121 (Y.za fC rfl rfl rfl rfl) (.gw 121 (Y.qp bU rfl rfl) ?_))
 refine .gw 121 (Y.za aV rfl rfl rfl rfl) (.gw 121 (Y.qs (m := (c.mem).toNat) eG rfl rfl om (aq (d := default) om)) ?_)
 refine .gw 121 (Y.qp gU rfl rfl) (.gw 121 (Y.za ta rfl rfl rfl rfl) (.gw 121 (Y.zm rfl) ?_))
 refine .gw 117 (Y.zn rfl rfl rfl) ?_
 refine .pk ?_
 refine .an ?_
 refine .nil (.ret ?_)
 exact .rb rfl (db gp)
 refine .gz 117 (.gz 117 (.gz 117 ?_))
 refine .gz 117 (.gz 121 (.gz 121 ?_))
 refine .gz 121 (.gz 121 (.gz 121 ?_))
 refine .gz 121 (.gz 121 (.gz 121 ?_))
 refine .gz 117 ?_
 refine .pk ?_
 refine .an ?_
 refine .nil (.ret ?_)
 exact .rb rfl (df gp)
 refine .gz 111 (.gz 111 (.gz 111 ?_))
 refine .gz 111 ?_
 refine .pk ?_
 refine .mv ?_
 refine .gz 117 (.gz 117 (.gz 117 ?_))
 refine .gz 117 (.gz 121 (.gz 121 ?_))
 refine .gz 121 (.gz 121 (.gz 121 ?_))
 refine .gz 121 (.gz 121 (.gz 121 ?_))
 refine .gz 117 ?_
 refine .pk ?_
 refine .an ?_
 refine .nil (.ret ?_)
 exact .rb rfl (df gp)
 refine .sr (.vl (Y.ql rfl rfl) ?_)
 refine .an ?_
 refine .nil ?_
 refine .a8 rfl (fun Gl => ?_) (fun Gl => ?_)
 refine .sr ?_
 refine .an ?_
 refine .nil (.sr ?_)
 refine .fa dp ?_
 refine .ld fv ?_
 refine .fa iZ ?_
 refine .ld aW ?_
 refine .vl (Y.qx (n := n.ins.length) az rfl cS) (.vl (Y.qk q4 xy rfl (by first | rfl | exact IntWalk.u64_in _ om)) ?_)
 refine .vl (Y.qq rfl rfl) (.nil ?_)
 refine .a8 rfl (fun Aq => ?_) (fun Aq => ?_)
 refine .sr ?_
 refine .an ?_
 refine .nil (.ret ?_)
 exact .rb rfl (df gp)
 refine .skip ?_
 refine .nn (⟨[(2, .ptr 102 0 0 0), (3, .ptr 103 0 0 0), (8, vi (-1))], [(102, .cells (ab.row n)), (103, .cells (Cell.row c))]⟩) (((¬ ((c.args.length : Int) ≠ 0)) ∧ (¬ (c.op ≠ 0)) ∧ ((c.num : Int) ≠ 0)) ∨ ((¬ ((c.args.length : Int) ≠ 0)) ∧ (¬ (c.op ≠ 0)) ∧ (¬ ((c.num : Int) ≠ 0)))) ?_ (fun HX => ?_)
 refine .sr ?_
 refine .fa bF ?_
 refine .ld aW ?_
 refine .vl (Y.qx (n := c.args.length) az rfl cS) ?_
 refine .mv ?_
 refine .vl (Y.zk rfl rfl) ?_
 refine .mv ?_
 refine .ax (d := 88) rfl (fun nZ => ?_) (fun nZ => ?_)
 refine .gz 88 (.gz 88 (.gz 88 ?_))
 refine .gz 88 ?_
 refine .pk ?_
 refine .mv ?_
 refine .gz 94 (.gz 94 (.gz 94 ?_))
 refine .gz 94 (.gz 98 (.gz 98 ?_))
 refine .gz 94 ?_
 refine .pk ?_
 refine .nil (.aM rfl (.sr ?_))
 refine .an ?_
 refine .nil (.ret ?_)
 exact .rb rfl (df gp)
 refine .gw 88 (Y.qp ct rfl rfl) (.gw 88 (Y.za aV rfl rfl rfl rfl) (.gw 88 (Y.zg rfl rfl) ?_))
 refine .gw 88 (Y.zk rfl rfl) ?_
 refine .pk ?_
 refine .mv ?_
 refine .ax (d := 94) rfl (fun oO => ?_) (fun oO => ?_)
 refine .gz 94 (.gz 94 (.gz 94 ?_))
 refine .gz 94 (.gz 98 (.gz 98 ?_))
 refine .gz 94 ?_
 refine .pk ?_
 refine .nil (.aM rfl (.sr ?_))
 refine .an ?_
 refine .nil (.ret ?_)
 exact .rb rfl (df gp)
 refine .gw 94 (Y.qp dp rfl rfl) (.gw 94 (Y.za fv rfl rfl rfl rfl) (.gw 94 (Y.zk rfl rfl) ?_))
 refine .gw 94 (Y.zg rfl rfl) ?_
 refine .ax (d := 98) rfl (fun mO => ?_) (fun mO => ?_)
 refine .gw 98 (Y.zg rfl rfl) (.gw 98 (Y.zm rfl) (.gw 94 (Y.zn rfl rfl rfl) ?_))
 refine .pk ?_
 refine .nil (.bO rfl (.skip ?_))
 exact ⟨.inl ⟨nZ, oO, mO⟩, Le.mk (.c2 (.c .nil)) (.c (.c .nil))⟩
 refine .gz 98 (.gz 98 (.gw 94 (Y.zn rfl rfl rfl) ?_))
 refine .pk ?_
 refine .nil (.bO rfl (.skip ?_))
 exact ⟨.inr (⟨nZ, oO, mO⟩), Le.mk (.c2 (.c .nil)) (.c (.c .nil))⟩
 refine .seq (.sr ?_)
 refine .mv ?_
 refine .vl (Y.zc rfl rfl) (.nil (.aM rfl ?_))
 refine .sr ?_
 refine .fa bU ?_
 refine .ld aV ?_
 refine .vl (Y.ql rfl rfl) ?_
 refine .an ?_
 refine .nil (.ret ?_)
 exact .rb rfl (dd gp)
 refine .seq (.sr (.vl (Y.ql rfl rfl) ?_))
 refine .an ?_
 refine .nil ?_
 refine .bx rfl (fun EG => ?_) (fun EG => ?_)
 refine .skip (.aM rfl (.region ?_))
 refine .fa cC ?_
 refine .ld fC ?_
 refine .vl (Y.qx (n := n.streams.length) eG rfl cS) ?_
 refine .an ?_
 refine .nil (.seq (.sr ?_))
 refine .fa bF ?_
 refine .ld aW ?_
 refine .vl (Y.qx (n := c.args.length) az rfl cS) ?_
 refine .mv ?_
 refine .vl (Y.zk rfl rfl) ?_
 refine .mv ?_
 refine .ax (d := 88) rfl (fun nZ => ?_) (fun nZ => ?_)
 refine .gz 88 (.gz 88 (.gz 88 ?_))
 refine .gz 88 ?_
 refine .pk ?_
 refine .mv ?_
 refine .gz 94 (.gz 94 (.gz 94 ?_))
 refine .gz 94 (.gz 98 (.gz 98 ?_))
 refine .gz 94 ?_
 refine .pk ?_
 refine .nil (.aM rfl (.sr ?_))
 refine .an ?_
 refine .nil (.ret ?_)
 exact .rb rfl (df gp)
 refine .gw 88 (Y.qp ct rfl rfl) (.gw 88 (Y.za aV rfl rfl rfl rfl) (.gw 88 (Y.zg rfl rfl) ?_))
 refine .gw 88 (Y.zk rfl rfl) ?_
 refine .pk ?_
 refine .mv ?_
 refine .ax (d := 94) rfl (fun oO => ?_) (fun oO => ?_)
 refine .gz 94 (.gz 94 (.gz 94 ?_))
 refine .gz 94 (.gz 98 (.gz 98 ?_))
 refine .gz 94 ?_
 refine .pk ?_
 refine .nil (.aM rfl (.sr ?_))
 refine .an ?_
 refine .nil (.ret ?_)
 exact .rb rfl (df gp)
 refine .gw 94 (Y.qp dp rfl rfl) (.gw 94 (Y.za fv rfl rfl rfl rfl) (.gw 94 (Y.zk rfl rfl) ?_))
 refine .gw 94 (Y.zg rfl rfl) ?_
 refine .ax (d := 98) rfl (fun mO => ?_) (fun mO => ?_)
 refine .gw 98 (Y.zg rfl rfl) (.gw 98 (Y.zm rfl) (.gw 94 (Y.zn rfl rfl rfl) ?_))
 refine .pk ?_
 refine .nil (.aM rfl (.sr ?_))
 refine .an ?_
 refine .nil (.ret ?_)
 exact .rb rfl (df gp)
 refine .gz 98 (.gz 98 (.gw 94 (Y.zn rfl rfl rfl) ?_))
 refine .pk ?_
 refine .nil (.bO rfl (.skip ?_))
 refine .seq (.sr ?_)
 refine .mv ?_
 refine .vl (Y.zc rfl rfl) (.nil ?_)
 refine .a8 rfl (fun xW => ?_) (fun xW => ?_)
 refine .sr ?_
 refine .fa bU ?_
 refine .ld aV ?_
 refine .vl (Y.ql rfl rfl) ?_
 refine .an ?_
 refine .nil (.ret ?_)
 exact .rb rfl (dd gp)
 refine .skip (.sr ?_)
 refine .fa bU ?_
 refine .ld aV ?_
 refine .vl (Y.qq rfl rfl) ?_
 refine .mv ?_
 refine .ax (d := 111) rfl (fun uW => ?_) (fun uW => ?_)
 refine .gw 111 (Y.qp bU rfl rfl) (.gw 111 (Y.za aV rfl rfl rfl rfl) (.gw 111 (Y.zg rfl rfl) ?_))
 refine .gw 111 (Y.zc rfl rfl) ?_
 refine .pk ?_
 refine .mv ?_
 refine .ax (d := 117) rfl (fun oa => ?_) (fun oa => ?_)
 refine .gw 117 (Y.qp bP rfl rfl) (.gw 117 (Y.za aV rfl rfl rfl rfl) (.gw 117 (Y.zk rfl rfl) ?_))
 refine .gw 117 (Y.zg rfl rfl) ?_
 refine .ax (d := 121) rfl (fun xX => ?_) (fun xX => ?_)
 refine .gz 121 (.gz 121 (.gz 121 ?_))
 refine .gz 121 (.gz 121 (.gz 121 ?_))
 refine .gz 121 (.gz 121 (.gw 117 (Y.zn rfl rfl rfl) ?_))
 refine .pk ?_
 refine .an ?_
 refine .nil (.ret ?_)
 exact .rb rfl (dt gp)
 refine .gw 121 (Y.qp cC rfl rfl) (.gw 121 (Y.za fC rfl rfl rfl rfl) (.gw 121 (Y.qp bU rfl rfl) ?_))
 refine .gw 121 (Y.za aV rfl rfl rfl rfl) (.gw 121 (Y.qs (m := (c.mem).toNat) eG rfl rfl om (aq (d := default) om)) ?_)
 refine .gw 121 (Y.qp gU rfl rfl) (.gw 121 (Y.za ta rfl rfl rfl rfl) (.gw 121 (Y.zm rfl) ?_))
 refine .gw 117 (Y.zn rfl rfl rfl) ?_
 refine .pk ?_
 refine .an ?_
 refine .nil (.ret ?_)
 exact .rb rfl (db gp)
 refine .gz 117 (.gz 117 (.gz 117 ?_))
 refine .gz 117 (.gz 121 (.gz 121 ?_))
 refine .gz 121 (.gz 121 (.gz 121 ?_))
 refine .gz 121 (.gz 121 (.gz 121 ?_))
 refine .gz 117 ?_
 refine .pk ?_
 refine .an ?_
 refine .nil (.ret ?_)
 exact .rb rfl (df gp)
 refine .gz 111 (.gz 111 (.gz 111 ?_))
 refine .gz 111 ?_
 refine .pk ?_
 refine .mv ?_
 refine .gz 117 (.gz 117 (.gz 117 ?_))
 refine .gz 117 (.gz 121 (.gz 121 ?_))
 refine .gz 121 (.gz 121 (.gz 121 ?_))
 refine .gz 121 (.gz 121 (.gz 121 ?_))
 refine .gz 117 ?_
 refine .pk ?_
 refine .an ?_
 refine .nil (.ret ?_)
 exact .rb rfl (df gp)
 refine .region (.vl (Y.ql rfl rfl) ?_)
 refine .an ?_
 refine .nil ?_
 refine .bx rfl (fun EG => ?_) (fun EG => ?_)
 refine .region ?_
 refine .fa cC ?_
 refine .ld fC ?_
 refine .vl (Y.qx (n := n.streams.length) eG rfl cS) ?_
 refine .an ?_
 refine .nil (.seq (.sr ?_))
 refine .fa bF ?_
 refine .ld aW ?_
 refine .vl (Y.qx (n := c.args.length) az rfl cS) ?_
 refine .mv ?_
 refine .vl (Y.zk rfl rfl) ?_
 refine .mv ?_
 refine .ax (d := 88) rfl (fun nZ => ?_) (fun nZ => ?_)
 refine .gz 88 (.gz 88 (.gz 88 ?_))
 refine .gz 88 ?_
 refine .pk ?_
 refine .mv ?_
 refine .gz 94 (.gz 94 (.gz 94 ?_))
 refine .gz 94 (.gz 98 (.gz 98 ?_))
 refine .gz 94 ?_
 refine .pk ?_
 refine .nil (.aM rfl (.sr ?_))
 refine .an ?_
 refine .nil (.ret ?_)
 exact .rb rfl (df gp)
 refine .gw 88 (Y.qp ct rfl rfl) (.gw 88 (Y.za aV rfl rfl rfl rfl) (.gw 88 (Y.zg rfl rfl) ?_))
 refine .gw 88 (Y.zk rfl rfl) ?_
 refine .pk ?_
 refine .mv ?_
 refine .ax (d := 94) rfl (fun oO => ?_) (fun oO => ?_)
 refine .gz 94 (.gz 94 (.gz 94 ?_))
 refine .gz 94 (.gz 98 (.gz 98 ?_))
 refine .gz 94 ?_
 refine .pk ?_
 refine .nil (.aM rfl (.sr ?_))
 refine .an ?_
 refine .nil (.ret ?_)
 exact .rb rfl (df gp)
 refine .gw 94 (Y.qp dp rfl rfl) (.gw 94 (Y.za fv rfl rfl rfl rfl) (.gw 94 (Y.zk rfl rfl) ?_))
 refine .gw 94 (Y.zg rfl rfl) ?_
 refine .ax (d := 98) rfl (fun mO => ?_) (fun mO => ?_)
 refine .gw 98 (Y.zg rfl rfl) (.gw 98 (Y.zm rfl) (.gw 94 (Y.zn rfl rfl rfl) ?_))
 refine .pk ?_
 refine .nil (.aM rfl (.sr ?_))
 refine .an ?_
 refine .nil (.ret ?_)
 exact .rb rfl (df gp)
 refine .gz 98 (.gz 98 (.gw 94 (Y.zn rfl rfl rfl) ?_))
 refine .pk ?_
 refine .nil (.bO rfl (.skip ?_))
 refine .seq (.sr ?_)
 refine .mv ?_
 refine .vl (Y.zc rfl rfl) (.nil ?_)
 refine .a8 rfl (fun xW => ?_) (fun xW => ?_)
 refine .sr ?_
 refine .fa bU ?_
 refine .ld aV ?_
 refine .vl (Y.ql rfl rfl) ?_
 refine .an ?_
 refine .nil (.ret ?_)
 exact .rb rfl (dd gp)
 refine .skip (.sr ?_)
 refine .fa bU ?_
 refine .ld aV ?_
 refine .vl (Y.qq rfl rfl) ?_
 refine .mv ?_
 refine .ax (d := 111) rfl (fun uW => ?_) (fun uW => ?_)
 refine .gw 111 (Y.qp bU rfl rfl) (.gw 111 (Y.za aV rfl rfl rfl rfl) (.gw 111 (Y.zg rfl rfl) ?_))
 refine .gw 111 (Y.zc rfl rfl) ?_
 refine .pk ?_
 refine .mv ?_
 refine .ax (d := 117) rfl (fun oa => ?_) (fun oa => ?_)
 refine .gw 117 (Y.qp bP rfl rfl) (.gw 117 (Y.za aV rfl rfl rfl rfl) (.gw 117 (Y.zk rfl rfl) ?_))
 refine .gw 117 (Y.zg rfl rfl) ?_
 refine .ax (d := 121) rfl (fun xX => ?_) (fun xX => ?_)
 refine .gz 121 (.gz 121 (.gz 121 ?_))
 refine .gz 121 (.gz 121 (.gz 121 ?_))
 refine .gz 121 (.gz 121 (.gw 117 (Y.zn rfl rfl rfl) ?_))
 refine .pk ?_
 refine .an ?_
 refine .nil (.ret ?_)
 exact .rb rfl (dt gp)
 refine .gw 121 (Y.qp cC rfl rfl) (.gw 121 (Y.za fC rfl rfl rfl rfl) (.gw 121 (Y.qp bU rfl rfl) ?_))
 refine .gw 121 (Y.za aV rfl rfl rfl rfl) (.gw 121 (Y.qs (m := (c.mem).toNat) eG rfl rfl om (aq (d := default) om)) ?_)
 refine .gw 121 (Y.qp gU rfl rfl) (.gw 121 (Y.za ta rfl rfl rfl rfl) (.gw 121 (Y.zm rfl) ?_))
 refine .gw 117 (Y.zn rfl rfl rfl) ?_
 refine .pk ?_
 refine .an ?_
 refine .nil (.ret ?_)
 exact .rb rfl (db gp)
 refine .gz 117 (.gz 117 (.gz 117 ?_))
 refine .gz 117 (.gz 121 (.gz 121 ?_))
 refine .gz 121 (.gz 121 (.gz 121 ?_))
 refine .gz 121 (.gz 121 (.gz 121 ?_))
 refine .gz 117 ?_
 refine .pk ?_
 refine .an ?_
 refine .nil (.ret ?_)
 exact .rb rfl (df gp)
 refine .gz 111 (.gz 111 (.gz 111 ?_))
 refine .gz 111 ?_
 refine .pk ?_
 refine .mv ?_
 refine .gz 117 (.gz 117 (.gz 117 ?_))
 refine .gz 117 (.gz 121 (.gz 121 ?_))
 refine .gz 121 (.gz 121 (.gz 121 ?_))
 refine .gz 121 (.gz 121 (.gz 121 ?_))
 refine .gz 117 ?_
 refine .pk ?_
 refine .an ?_
 refine .nil (.ret ?_)
 exact .rb rfl (df gp)
 refine .sr ?_
 refine .an ?_
 refine .nil (.ret ?_)
 exact .rb rfl (df (by (simp only [Shaped, Gb, wL, nY, wc, uc, M4, tc, Gl, EG, EG, Int.reduceEq, Bool.not_eq_true, false_and, true_and, and_true, and_false, or_false, false_or, ne_eq]) <;> (first | omega | grind)))
open Go Go.AW Go.Proofs
theorem pB {l : List Int} {p : Int → Bool} {g : Nat} {row : List X} (hl : l.length ≤ 17592186043904) (j9 : aP Try.prog g = true) (hg : ∀ z ∈ l, au Try.prog g [vi z, .fp row 0] [] [] (fun r o => r = .v (.bool (p z)) ∧ o = [])) : au Try.prog 123 [.fz 1 (l.map ai), .gB (.func g) [] [.fp row 0]] [] [] (fun r o => r = (vi (u7 p l)) ∧ o = []) := by
 refine au.of Try.func123 rfl rfl rfl (n := 19) ae (aI rfl) (.sr ?_)
 refine .an ?_
 refine .nil (.seq (.sr ?_))
 refine .mv ?_
 refine .vl (Y.qx (n := l.length) az rfl cS) ?_
 refine .mv ?_
 refine .nil (.block ?_)
 refine .fY (fun (iK : Nat) => ⟨[(0, .fz 1 (l.map ai)), (1, .gB (.func g) [] [.fp row 0]), (7, vi l.length), (8, vi iK)], []⟩) (fun iK => ((iK : Int) ≤ (l.length : Int)) ∧ (∀ j, j < iK → p (l.getD j 0) = false)) (fun iK => ((l.length : Int) - (iK : Int)).toNat) 0 (⟨om, fun j hj => by omega⟩) (Le.mk (.c2 (.c (.cons (aj rfl bf) .nil))) .nil) (fun iK th => ?_)
 obtain ⟨rz, h0⟩ := th
 refine .sr (.vl (Y.zc rfl rfl) (.nil ?_))
 refine .seq ?_
 refine .a8 rfl (fun c9 => ?_) (fun c9 => ?_)
 refine .skip (.seq (.block ?_))
 refine .sr ?_
 refine .mv ?_
 refine .an ?_
 refine .nil (.sr ?_)
 refine .mv ?_
 refine .mv ?_
 refine .mv ?_
 refine .vl (Y.qs (m := iK) az rfl rfl bf (aq (d := 0) om)) ?_
 refine .ld aV ?_
 refine .lX rfl j9 (hg _ (dZ om)) rfl (.ah rfl rfl (.ah rfl rfl .nil)) ae rfl (.nil ?_)
 refine .cond rfl (fun ot => ?_) (fun ot => ?_)
 refine .sr ?_
 refine .mv ?_
 refine .an ?_
 refine .nil (.ret ?_)
 exact .ri rfl (oC h0 om ot)
 refine .skip (.region ?_)
 refine .vl (Y.qb rfl rfl bw) ?_
 refine .mv ?_
 refine .nil (⟨iK + 1, ⟨om, nt h0 ot⟩, om, Le.mk (.c2 (.c (.cons (aj rfl bf) .nil))) .nil⟩)
 refine .exit (.sr ?_)
 refine .an ?_
 refine .nil (.ret ?_)
 exact .ri rfl (pU (fun j hj => h0 j om))
theorem jy {l : List Int} {p : Int → Bool} {g : Nat} {row : List X} (hl : l.length ≤ 17592186043904) (j9 : aP Try.prog g = true) (hg : ∀ z ∈ l, au Try.prog g [vi z, .fp row 0] [] [] (fun r o => r = .v (.bool (p z)) ∧ o = [])) : au Try.prog 95 [.fz 1 (l.map ai), .gB (.func g) [] [.fp row 0]] [] [] (fun r o => r = .v (.bool (l.any p)) ∧ o = []) := by
 refine au.of Try.func95 rfl rfl rfl (n := 9) ae (aI rfl) (.sr ?_)
 refine .an ?_
 refine .nil (.sr ?_)
 refine .mv ?_
 refine .mv ?_
 refine .aH Km (pB (l := l) hl j9 hg) rfl (.ah rfl rfl (.ah rfl rfl .nil)) ae rfl (.vl (Y.qq rfl rfl) ?_)
 refine .an ?_
 refine .nil (.ret ?_)
 exact .rb rfl (sn)
theorem oP {l : List Cell} {p : Cell → Bool} {g : Nat} {row : List X} (hl : l.length ≤ 17592186043904) (j9 : aP Try.prog g = true) (hg : ∀ z ∈ l, au Try.prog g [.agg (Cell.row z), .fp row 0] [] [] (fun r o => r = .v (.bool (p z)) ∧ o = [])) : au Try.prog 126 [.fz 6 (l.map Cell.row), .gB (.func g) [] [.fp row 0]] [] [] (fun r o => r = (vi (u7 p l)) ∧ o = []) := by
 refine au.of Try.func126 rfl rfl rfl (n := 19) ae (aI rfl) (.sr ?_)
 refine .an ?_
 refine .nil (.seq (.sr ?_))
 refine .mv ?_
 refine .vl (Y.qx (n := l.length) dr rfl cS) ?_
 refine .mv ?_
 refine .nil (.block ?_)
 refine .fY (fun (iK : Nat) => ⟨[(0, .fz 6 (l.map Cell.row)), (1, .gB (.func g) [] [.fp row 0]), (7, vi l.length), (8, vi iK)], []⟩) (fun iK => ((iK : Int) ≤ (l.length : Int)) ∧ (∀ j, j < iK → p (l.getD j default) = false)) (fun iK => ((l.length : Int) - (iK : Int)).toNat) 0 (⟨om, fun j hj => by omega⟩) (Le.mk (.c2 (.c (.cons (aj rfl bf) .nil))) .nil) (fun iK th => ?_)
 obtain ⟨rz, h0⟩ := th
 refine .sr (.vl (Y.zc rfl rfl) (.nil ?_))
 refine .seq ?_
 refine .a8 rfl (fun c9 => ?_) (fun c9 => ?_)
 refine .skip (.seq (.block ?_))
 refine .sr ?_
 refine .mv ?_
 refine .an ?_
 refine .nil (.sr ?_)
 refine .mv ?_
 refine .mv ?_
 refine .mv ?_
 refine .vl (Y.qs (m := iK) dr rfl rfl bf (aq (d := default) om)) ?_
 refine .vl (Y.zb dS rfl rfl (aI rfl) rfl rfl) (.lX rfl j9 (hg _ (dZ om)) rfl (.ah rfl rfl (.ah rfl rfl .nil)) ae rfl (.nil ?_))
 refine .cond rfl (fun ot => ?_) (fun ot => ?_)
 refine .sr ?_
 refine .mv ?_
 refine .an ?_
 refine .nil (.ret ?_)
 exact .ri rfl (oC h0 om ot)
 refine .skip (.region ?_)
 refine .vl (Y.qb rfl rfl bw) ?_
 refine .mv ?_
 refine .nil (⟨iK + 1, ⟨om, nt h0 ot⟩, om, Le.mk (.c2 (.c (.cons (aj rfl bf) .nil))) .nil⟩)
 refine .exit (.sr ?_)
 refine .an ?_
 refine .nil (.ret ?_)
 exact .ri rfl (pU (fun j hj => h0 j om))
theorem mP {l : List Cell} {p : Cell → Bool} {g : Nat} {row : List X} (hl : l.length ≤ 17592186043904) (j9 : aP Try.prog g = true) (hg : ∀ z ∈ l, au Try.prog g [.agg (Cell.row z), .fp row 0] [] [] (fun r o => r = .v (.bool (p z)) ∧ o = [])) : au Try.prog 100 [.fz 6 (l.map Cell.row), .gB (.func g) [] [.fp row 0]] [] [] (fun r o => r = .v (.bool (l.any p)) ∧ o = []) := by
 refine au.of Try.func100 rfl rfl rfl (n := 9) ae (aI rfl) (.sr ?_)
 refine .an ?_
 refine .nil (.sr ?_)
 refine .mv ?_
 refine .mv ?_
 refine .aH Ko (oP (l := l) hl j9 hg) rfl (.ah rfl rfl (.ah rfl rfl .nil)) ae rfl (.vl (Y.qq rfl rfl) ?_)
 refine .an ?_
 refine .nil (.ret ?_)
 exact .rb rfl (sn)
theorem sI {l : List Bool} {b : Bool} (hl : l.length ≤ 140737488351232) : au Try.prog 125 [.fz 1 (l.map fI), .v (.bool b)] [] [] (fun r o => r = (vi (u7 (fun x => b == x) l)) ∧ o = []) := by
 refine au.of Try.func125 rfl rfl rfl (n := 19) ae (aI rfl) (.sr ?_)
 refine .an ?_
 refine .nil (.seq (.sr ?_))
 refine .mv ?_
 refine .vl (Y.qx (n := l.length) mN rfl cS) ?_
 refine .mv ?_
 refine .nil (.block ?_)
 refine .fY (fun (iK : Nat) => ⟨[(0, .fz 1 (l.map fI)), (1, .v (.bool b)), (7, vi l.length), (8, vi iK)], []⟩) (fun iK => ((iK : Int) ≤ (l.length : Int)) ∧ (∀ j, j < iK → (fun x => b == x) (l.getD j false) = false)) (fun iK => ((l.length : Int) - (iK : Int)).toNat) 0 (⟨om, fun j hj => by omega⟩) (Le.mk (.c2 (.c (.cons (aj rfl bf) .nil))) .nil) (fun iK th => ?_)
 obtain ⟨rz, h0⟩ := th
 refine .sr (.vl (Y.zc rfl rfl) (.nil ?_))
 refine .seq ?_
 refine .a8 rfl (fun c9 => ?_) (fun c9 => ?_)
 refine .skip (.seq (.block ?_))
 refine .sr ?_
 refine .mv ?_
 refine .an ?_
 refine .nil (.sr ?_)
 refine .mv ?_
 refine .mv ?_
 refine .mv ?_
 refine .vl (Y.qs (m := iK) mN rfl rfl bf (aq (d := false) om)) ?_
 refine .ld ta ?_
 refine .vl (Y.qm RY rfl rfl) (.nil ?_)
 refine .cond rfl (fun ot => ?_) (fun ot => ?_)
 refine .sr ?_
 refine .mv ?_
 refine .an ?_
 refine .nil (.ret ?_)
 exact .ri rfl (oC (d := false) h0 om ot)
 refine .skip (.region ?_)
 refine .vl (Y.qb rfl rfl bw) ?_
 refine .mv ?_
 refine .nil (⟨iK + 1, ⟨om, nt h0 ot⟩, om, Le.mk (.c2 (.c (.cons (aj rfl bf) .nil))) .nil⟩)
 refine .exit (.sr ?_)
 refine .an ?_
 refine .nil (.ret ?_)
 exact .ri rfl (pU (d := false) (fun j hj => h0 j om))
theorem pC {l : List Bool} {b : Bool} (hl : l.length ≤ 140737488351232) : au Try.prog 99 [.fz 1 (l.map fI), .v (.bool b)] [] [] (fun r o => r = .v (.bool (l.any (fun x => b == x))) ∧ o = []) := by
 refine au.of Try.func99 rfl rfl rfl (n := 9) ae (aI rfl) (.sr ?_)
 refine .an ?_
 refine .nil (.sr ?_)
 refine .mv ?_
 refine .mv ?_
 refine .aH Kn (sI (l := l) (b := b) (om)) rfl (.ah rfl rfl (.ah rfl rfl .nil)) ae rfl (.vl (Y.qq rfl rfl) ?_)
 refine .an ?_
 refine .nil (.ret ?_)
 exact .rb rfl (sn)
open Go Go.AW Go.Proofs
theorem fE {i : Int} {n : ab} : au Try.prog 94 [vi i, .fp (ab.row n) 0] [] [] (fun r o => r = .v (.bool (decide (In i n.aa.length))) ∧ o = []) := by
 refine au.of Try.func94 rfl rfl rfl (n := 13) ae (aI rfl) (.sr ?_)
 refine .an ?_
 refine .nil (.sr ?_)
 refine .mv ?_
 refine .vl (Y.qq rfl rfl) ?_
 refine .mv ?_
 refine .ax (d := 6) rfl (fun c6 => ?_) (fun c6 => ?_)
 refine .gw 6 (Y.zg rfl rfl) (.gw 6 (Y.qp bu rfl rfl) (.gw 6 (Y.za aW rfl rfl rfl rfl) ?_))
 refine .gw 6 (Y.qx (n := n.aa.length) az rfl cS) (.gw 6 (Y.zc rfl rfl) ?_)
 refine .pk ?_
 refine .an ?_
 refine .nil (.ret ?_)
 exact .rb rfl (dd (by (simp only [In]) <;> (first | omega | grind)))
 refine .gz 6 (.gz 6 (.gz 6 ?_))
 refine .gz 6 (.gz 6 ?_)
 refine .pk ?_
 refine .an ?_
 refine .nil (.ret ?_)
 exact .rb rfl (df (by (simp only [In]) <;> (first | omega | grind)))
theorem uX {i : Int} {n : ab} : au Try.prog 96 [vi i, .fp ([.gB (.func 94) [] [.fp (ab.row n) 0]]) 0] [] [] (fun r o => r = .v (.bool (!decide (In i n.aa.length))) ∧ o = []) := by
 refine au.of Try.func96 rfl rfl rfl (n := 8) ae (aI rfl) (.sr ?_)
 refine .an ?_
 refine .nil (.sr ?_)
 refine .ld x5 ?_
 refine .mv ?_
 refine .lX rfl xz (fE (i := i)) rfl (.ah rfl rfl (.ah rfl rfl .nil)) ae rfl (.vl (Y.zm rfl) ?_)
 refine .an ?_
 refine .nil (.ret ?_)
 exact .rb rfl (rfl)
theorem uY {i : Int} {n : ab} : au Try.prog 97 [vi i, .fp ([.gB (.func 94) [] [.fp (ab.row n) 0]]) 0] [] [] (fun r o => r = .v (.bool (!decide (In i n.aa.length))) ∧ o = []) := by
 refine au.of Try.func97 rfl rfl rfl (n := 8) ae (aI rfl) (.sr ?_)
 refine .an ?_
 refine .nil (.sr ?_)
 refine .ld x5 ?_
 refine .mv ?_
 refine .lX rfl xz (fE (i := i)) rfl (.ah rfl rfl (.ah rfl rfl .nil)) ae rfl (.vl (Y.zm rfl) ?_)
 refine .an ?_
 refine .nil (.ret ?_)
 exact .rb rfl (rfl)
theorem w4 {n : ab} (hs : n.Small) (SH : n.aa.length + n.ins.length ≤ 17592186044416) : au Try.prog 57 [.agg (ab.row n)] [] [] (fun r o => r = .v (.bool (decide (aU n))) ∧ o = []) := by
 refine au.of Try.func57 rfl rfl rfl (n := 234) ae (aI rfl) ?_
 have IN := hs.name; have M5 := hs.aa; have M6 := hs.cells; have EY := hs.ins; have EZ := hs.a7; have Gm := hs.streams; have M7 := hs.aR; have SI := hs.data; have Lu := hs.bE
 have Lv : ([n.aa, n.ins] : List (List Int)).flatten = n.aa ++ n.ins := by simp
 have DC : (([n.aa, n.ins] : List (List Int)).flatten).length = n.aa.length + n.ins.length := by simp
 refine .sr (.box 101 rfl rfl rfl rfl rfl ae ?_)
 refine .an ?_
 refine .nil (.seq (.sr ?_))
 refine .fa BX ?_
 refine .ld I9 ?_
 refine .aH Hp (oJ (s := n.name) (by first | assumption | omega)) rfl (.ah rfl rfl .nil) ae rfl (.vl (Y.zm rfl) ?_)
 refine .mv ?_
 refine .dP (d := 17) rfl (fun OU => ?_) (fun OU => ?_)
 refine .gz 17 (.gz 17 (.gz 17 ?_))
 refine .gz 17 ?_
 refine .pk ?_
 refine .mv ?_
 refine .gz 23 (.gz 23 (.gz 23 ?_))
 refine .gz 23 ?_
 refine .pk ?_
 refine .mv ?_
 refine .gz 29 (.gz 29 (.gz 29 ?_))
 refine .gz 29 ?_
 refine .pk ?_
 refine .mv ?_
 refine .gz 35 (.gz 35 (.gz 35 ?_))
 refine .gz 35 ?_
 refine .pk ?_
 refine .mv ?_
 refine .gz 41 (.gz 41 (.gz 41 ?_))
 refine .gz 41 (.gz 41 (.gz 41 ?_))
 refine .gz 41 ?_
 refine .pk ?_
 refine .mv ?_
 refine .gz 50 (.gz 50 (.gz 50 ?_))
 refine .gz 50 (.gz 50 (.gz 50 ?_))
 refine .gz 50 ?_
 refine .pk ?_
 refine .nil (.aM rfl (.sr ?_))
 refine .an ?_
 refine .nil (.ret ?_)
 exact .rb rfl (df (fun h => by have h1 := h.name; have h2 := h.bR; have h3 := h.b8; have h4 := h.fk; have h5 := h.bt; have h6 := h.cb; have h7 := h.dR; first | omega | contradiction))
 refine .gw 17 (Y.qp bL rfl rfl) (.gw 17 (Y.za eT rfl rfl rfl rfl) (.gw 17 (Y.qx (n := n.cells.length) dr rfl cS) ?_))
 refine .gw 17 (Y.qr rfl rfl) ?_
 refine .pk ?_
 refine .mv ?_
 refine .ax (d := 23) rfl (fun pK => ?_) (fun pK => ?_)
 refine .gz 23 (.gz 23 (.gz 23 ?_))
 refine .gz 23 ?_
 refine .pk ?_
 refine .mv ?_
 refine .gz 29 (.gz 29 (.gz 29 ?_))
 refine .gz 29 ?_
 refine .pk ?_
 refine .mv ?_
 refine .gz 35 (.gz 35 (.gz 35 ?_))
 refine .gz 35 ?_
 refine .pk ?_
 refine .mv ?_
 refine .gz 41 (.gz 41 (.gz 41 ?_))
 refine .gz 41 (.gz 41 (.gz 41 ?_))
 refine .gz 41 ?_
 refine .pk ?_
 refine .mv ?_
 refine .gz 50 (.gz 50 (.gz 50 ?_))
 refine .gz 50 (.gz 50 (.gz 50 ?_))
 refine .gz 50 ?_
 refine .pk ?_
 refine .nil (.aM rfl (.sr ?_))
 refine .an ?_
 refine .nil (.ret ?_)
 exact .rb rfl (df (fun h => by have h1 := h.name; have h2 := h.bR; have h3 := h.b8; have h4 := h.fk; have h5 := h.bt; have h6 := h.cb; have h7 := h.dR; first | omega | contradiction))
 refine .gw 23 (Y.qp bu rfl rfl) (.gw 23 (Y.za aW rfl rfl rfl rfl) (.gw 23 (Y.qx (n := n.aa.length) az rfl cS) ?_))
 refine .gw 23 (Y.qr rfl rfl) ?_
 refine .pk ?_
 refine .mv ?_
 refine .ax (d := 29) rfl (fun CS => ?_) (fun CS => ?_)
 refine .gz 29 (.gz 29 (.gz 29 ?_))
 refine .gz 29 ?_
 refine .pk ?_
 refine .mv ?_
 refine .gz 35 (.gz 35 (.gz 35 ?_))
 refine .gz 35 ?_
 refine .pk ?_
 refine .mv ?_
 refine .gz 41 (.gz 41 (.gz 41 ?_))
 refine .gz 41 (.gz 41 (.gz 41 ?_))
 refine .gz 41 ?_
 refine .pk ?_
 refine .mv ?_
 refine .gz 50 (.gz 50 (.gz 50 ?_))
 refine .gz 50 (.gz 50 (.gz 50 ?_))
 refine .gz 50 ?_
 refine .pk ?_
 refine .nil (.aM rfl (.sr ?_))
 refine .an ?_
 refine .nil (.ret ?_)
 exact .rb rfl (df (fun h => by have h1 := h.name; have h2 := h.bR; have h3 := h.b8; have h4 := h.fk; have h5 := h.bt; have h6 := h.cb; have h7 := h.dR; first | omega | contradiction))
 refine .gw 29 (Y.qp ef rfl rfl) (.gw 29 (Y.za jS rfl rfl rfl rfl) (.gw 29 (Y.qx (n := n.a7.length) iG rfl cS) ?_))
 refine .gw 29 (Y.qr rfl rfl) ?_
 refine .pk ?_
 refine .mv ?_
 refine .ax (d := 35) rfl (fun r6 => ?_) (fun r6 => ?_)
 refine .gz 35 (.gz 35 (.gz 35 ?_))
 refine .gz 35 ?_
 refine .pk ?_
 refine .mv ?_
 refine .gz 41 (.gz 41 (.gz 41 ?_))
 refine .gz 41 (.gz 41 (.gz 41 ?_))
 refine .gz 41 ?_
 refine .pk ?_
 refine .mv ?_
 refine .gz 50 (.gz 50 (.gz 50 ?_))
 refine .gz 50 (.gz 50 (.gz 50 ?_))
 refine .gz 50 ?_
 refine .pk ?_
 refine .nil (.aM rfl (.sr ?_))
 refine .an ?_
 refine .nil (.ret ?_)
 exact .rb rfl (df (fun h => by have h1 := h.name; have h2 := h.bR; have h3 := h.b8; have h4 := h.fk; have h5 := h.bt; have h6 := h.cb; have h7 := h.dR; first | omega | contradiction))
 refine .gw 35 (Y.qp cC rfl rfl) (.gw 35 (Y.za fC rfl rfl rfl rfl) (.gw 35 (Y.qx (n := n.streams.length) eG rfl cS) ?_))
 refine .gw 35 (Y.qr rfl rfl) ?_
 refine .pk ?_
 refine .mv ?_
 refine .ax (d := 41) rfl (fun tt => ?_) (fun tt => ?_)
 refine .gz 41 (.gz 41 (.gz 41 ?_))
 refine .gz 41 (.gz 41 (.gz 41 ?_))
 refine .gz 41 ?_
 refine .pk ?_
 refine .mv ?_
 refine .gz 50 (.gz 50 (.gz 50 ?_))
 refine .gz 50 (.gz 50 (.gz 50 ?_))
 refine .gz 50 ?_
 refine .pk ?_
 refine .nil (.aM rfl (.sr ?_))
 refine .an ?_
 refine .nil (.ret ?_)
 exact .rb rfl (df (fun h => by have h1 := h.name; have h2 := h.bR; have h3 := h.b8; have h4 := h.fk; have h5 := h.bt; have h6 := h.cb; have h7 := h.dR; first | omega | contradiction))
 refine .gw 41 (Y.qp jE rfl rfl) (.gw 41 (Y.za aW rfl rfl rfl rfl) (.gw 41 (Y.qx (n := n.aR.length) az rfl cS) ?_))
 refine .gw 41 (Y.qp cC rfl rfl) (.gw 41 (Y.za fC rfl rfl rfl rfl) (.gw 41 (Y.qx (n := n.streams.length) eG rfl cS) ?_))
 refine .gw 41 (Y.zk rfl rfl) ?_
 refine .pk ?_
 refine .mv ?_
 refine .ax (d := 50) rfl (fun OV => ?_) (fun OV => ?_)
 refine .gz 50 (.gz 50 (.gz 50 ?_))
 refine .gz 50 (.gz 50 (.gz 50 ?_))
 refine .gz 50 ?_
 refine .pk ?_
 refine .nil (.aM rfl (.sr ?_))
 refine .an ?_
 refine .nil (.ret ?_)
 exact .rb rfl (df (fun h => by have h1 := h.name; have h2 := h.bR; have h3 := h.b8; have h4 := h.fk; have h5 := h.bt; have h6 := h.cb; have h7 := h.dR; first | omega | contradiction))
 refine .gw 50 (Y.qp iF rfl rfl) (.gw 50 (Y.za aW rfl rfl rfl rfl) (.gw 50 (Y.qx (n := n.data.length) az rfl cS) ?_))
 refine .gw 50 (Y.qp cC rfl rfl) (.gw 50 (Y.za fC rfl rfl rfl rfl) (.gw 50 (Y.qx (n := n.streams.length) eG rfl cS) ?_))
 refine .gw 50 (Y.zk rfl rfl) ?_
 refine .pk ?_
 refine .nil ?_
 refine .a8 rfl (fun M4 => ?_) (fun M4 => ?_)
 refine .sr ?_
 refine .an ?_
 refine .nil (.ret ?_)
 exact .rb rfl (df (fun h => by have h1 := h.name; have h2 := h.bR; have h3 := h.b8; have h4 := h.fk; have h5 := h.bt; have h6 := h.cb; have h7 := h.dR; first | omega | contradiction))
 refine .skip (.seq (.sr ?_))
 refine .fa bu ?_
 refine .ld aW ?_
 refine .fa iZ ?_
 refine .ld aW ?_
 refine .buildSlice (([n.aa, n.ins] : List (List Int)).map nq) tk zN rfl rfl rfl rfl rfl (aA (s := 1) (f := nq) (fun _ => rfl)) rfl rfl rfl ae ?_
 refine .sh (Sh.dg (d := 63) (([n.aa, n.ins] : List (List Int)).map nq) rfl jJ (cQ.map si)) (.aH Kz (rp (ls := ([n.aa, n.ins] : List (List Int))) (by simp) (by simp; omega)) rfl (.ah rfl rfl .nil) ae rfl (.vl (Y.qx (n := (([n.aa, n.ins] : List (List Int)).flatten).length) az rfl cS) ?_))
 refine .mv ?_
 refine .nil (.block (.sh (Sh.dg (d := 64) ((([n.aa, n.ins] : List (List Int)).flatten).map ai) rfl jJ (cQ.map aE)) ?_))
 refine .fY (fun (n8 : Nat) => ⟨[(1, .ptr 101 0 0 0), (64, .fz 1 ((([n.aa, n.ins] : List (List Int)).flatten).map ai)), (65, vi (((([n.aa, n.ins] : List (List Int)).flatten).length : Nat) : Int)), (66, vi n8)], [(101, .cells (ab.row n))]⟩) (fun n8 => ((n8 : Int) ≤ (((([n.aa, n.ins] : List (List Int)).flatten).length : Nat) : Int)) ∧ (∀ j, j < n8 → eO (([n.aa, n.ins] : List (List Int)).flatten.getD j 0))) (fun n8 => ((((([n.aa, n.ins] : List (List Int)).flatten).length : Nat) : Int) - (n8 : Int)).toNat) 0 (⟨om, fun j hj => by omega⟩) (Le.mk (.c2 (.c (.cons (aj rfl bf) .nil))) (.c .nil)) (fun n8 CD => ?_)
 obtain ⟨Lj, hw⟩ := CD
 refine .sr (.vl (Y.zc rfl rfl) (.nil ?_))
 refine .seq ?_
 refine .a8 rfl (fun OW => ?_) (fun OW => ?_)
 refine .skip (.seq (.block ?_))
 refine .sr (.vl (Y.qs (m := n8) az rfl rfl bf (aq (d := 0) om)) ?_)
 refine .ld aV ?_
 refine .an ?_
 refine .nil (.sr ?_)
 refine .mv ?_
 refine .aH Hq (qF (w := ((([n.aa, n.ins] : List (List Int)).flatten).getD n8 0))) rfl (.ah rfl rfl .nil) ae rfl (.vl (Y.zm rfl) (.nil ?_))
 refine .dB rfl (fun SJ => ?_) (fun SJ => ?_)
 refine .sr ?_
 refine .an ?_
 refine .nil (.ret ?_)
 exact .rb rfl (df (fun h => by have h1 := h.wide n8 (by rw [List.length_append]; omega); rw [← Lv] at h1; contradiction))
 refine .skip (.region ?_)
 refine .vl (Y.qb rfl rfl om) ?_
 refine .mv ?_
 refine .nil (⟨n8 + 1, ⟨om, cT hw bm⟩, om, Le.mk (.c2 (.c (.cons (aj rfl bf) .nil))) (.c .nil)⟩)
 refine .exit (.seq (.sr ?_))
 refine .fa ef ?_
 refine .ld jS ?_
 refine .vl (Y.qx (n := n.a7.length) iG rfl cS) ?_
 refine .mv ?_
 refine .nil (.block ?_)
 refine .fY (fun (fP : Nat) => ⟨[(1, .ptr 101 0 0 0), (75, .fz 5 (n.a7.map eu.row)), (76, vi n.a7.length), (77, vi fP)], [(101, .cells (ab.row n))]⟩) (fun fP => ((fP : Int) ≤ (n.a7.length : Int)) ∧ (∀ j, j < fP → gE (n.a7.getD j default))) (fun fP => ((n.a7.length : Int) - (fP : Int)).toNat) 0 (⟨om, fun j hj => by omega⟩) (Le.mk (.c2 (.c (.cons (aj rfl bf) .nil))) (.c .nil)) (fun fP xY => ?_)
 obtain ⟨HY, hm⟩ := xY
 refine .sr (.vl (Y.zc rfl rfl) (.nil ?_))
 refine .seq ?_
 refine .a8 rfl (fun CH => ?_) (fun CH => ?_)
 refine .skip (.seq (.block ?_))
 refine .sr (.vl (Y.qs (m := fP) iG rfl rfl bf (aq (d := default) om)) ?_)
 refine .vl (Y.zb K8 rfl rfl (aI rfl) rfl rfl) (.alloc 106 q5 rfl rfl ae (.ak K9 rfl rfl rfl rfl rfl rfl (aI rfl) rfl ?_))
 refine .nil (.sr ?_)
 have SK := hs.kq _ (dZ (l := n.a7) (i := fP) (d := default) om)
 refine .fa BY ?_
 refine .ld I9 ?_
 refine .aH Hp (oJ (s := ((n.a7.getD fP default).name)) (by first | assumption | omega)) rfl (.ah rfl rfl .nil) ae rfl (.vl (Y.zm rfl) ?_)
 refine .mv ?_
 refine .dP (d := 85) rfl (fun SM => ?_) (fun SM => ?_)
 refine .gz 85 (.gz 85 (.gz 85 ?_))
 refine .gz 85 ?_
 refine .pk ?_
 refine .mv ?_
 refine .gz 91 (.gz 91 (.gz 91 ?_))
 refine .pk ?_
 refine .mv ?_
 refine .gz 96 (.gz 96 (.gz 96 ?_))
 refine .pk ?_
 refine .mv ?_
 refine .gz 101 (.gz 101 (.gz 101 ?_))
 refine .pk ?_
 refine .mv ?_
 refine .gz 106 (.gz 106 (.gz 106 ?_))
 refine .pk ?_
 refine .nil (.aM rfl (.sr ?_))
 refine .an ?_
 refine .nil (.ret ?_)
 exact .rb rfl (df (fun h => by have h1 := h.a7 fP om; unfold gE at h1; obtain ⟨a1, a2, a3, a4, a5, a6⟩ := h1; first | contradiction | omega))
 refine .gw 85 (Y.qp nw rfl rfl) (.gw 85 (Y.za aV rfl rfl rfl rfl) (.ar (d := 85) rfl ae rfl ?_))
 refine .aH Hq (qF (w := ((n.a7.getD fP default).width))) rfl (.ah rfl rfl .nil) ae rfl (.gw 85 (Y.zm rfl) ?_)
 refine .pk ?_
 refine .mv ?_
 refine .dP (d := 91) rfl (fun SN => ?_) (fun SN => ?_)
 refine .gz 91 (.gz 91 (.gz 91 ?_))
 refine .pk ?_
 refine .mv ?_
 refine .gz 96 (.gz 96 (.gz 96 ?_))
 refine .pk ?_
 refine .mv ?_
 refine .gz 101 (.gz 101 (.gz 101 ?_))
 refine .pk ?_
 refine .mv ?_
 refine .gz 106 (.gz 106 (.gz 106 ?_))
 refine .pk ?_
 refine .nil (.aM rfl (.sr ?_))
 refine .an ?_
 refine .nil (.ret ?_)
 exact .rb rfl (df (fun h => by have h1 := h.a7 fP om; unfold gE at h1; obtain ⟨a1, a2, a3, a4, a5, a6⟩ := h1; first | contradiction | omega))
 refine .gw 91 (Y.qp uC rfl rfl) (.gw 91 (Y.za aV rfl rfl rfl rfl) (.gw 91 (Y.zc rfl rfl) ?_))
 refine .pk ?_
 refine .mv ?_
 refine .ax (d := 96) rfl (fun Gn => ?_) (fun Gn => ?_)
 refine .gz 96 (.gz 96 (.gz 96 ?_))
 refine .pk ?_
 refine .mv ?_
 refine .gz 101 (.gz 101 (.gz 101 ?_))
 refine .pk ?_
 refine .mv ?_
 refine .gz 106 (.gz 106 (.gz 106 ?_))
 refine .pk ?_
 refine .nil (.aM rfl (.sr ?_))
 refine .an ?_
 refine .nil (.ret ?_)
 exact .rb rfl (df (fun h => by have h1 := h.a7 fP om; unfold gE at h1; obtain ⟨a1, a2, a3, a4, a5, a6⟩ := h1; first | contradiction | omega))
 refine .gw 96 (Y.qp uC rfl rfl) (.gw 96 (Y.za aV rfl rfl rfl rfl) (.gw 96 (Y.qr rfl rfl) ?_))
 refine .pk ?_
 refine .mv ?_
 refine .ax (d := 101) rfl (fun Fa => ?_) (fun Fa => ?_)
 refine .gz 101 (.gz 101 (.gz 101 ?_))
 refine .pk ?_
 refine .mv ?_
 refine .gz 106 (.gz 106 (.gz 106 ?_))
 refine .pk ?_
 refine .nil (.aM rfl (.sr ?_))
 refine .an ?_
 refine .nil (.ret ?_)
 exact .rb rfl (df (fun h => by have h1 := h.a7 fP om; unfold gE at h1; obtain ⟨a1, a2, a3, a4, a5, a6⟩ := h1; first | contradiction | omega))
 refine .gw 101 (Y.qp BZ rfl rfl) (.gw 101 (Y.za aV rfl rfl rfl rfl) (.gw 101 (Y.zk rfl rfl) ?_))
 refine .pk ?_
 refine .mv ?_
 refine .ax (d := 106) rfl (fun CT => ?_) (fun CT => ?_)
 refine .gz 106 (.gz 106 (.gz 106 ?_))
 refine .pk ?_
 refine .nil (.aM rfl (.sr ?_))
 refine .an ?_
 refine .nil (.ret ?_)
 exact .rb rfl (df (fun h => by have h1 := h.a7 fP om; unfold gE at h1; obtain ⟨a1, a2, a3, a4, a5, a6⟩ := h1; first | contradiction | omega))
 refine .gw 106 (Y.qp Ca rfl rfl) (.gw 106 (Y.za aV rfl rfl rfl rfl) (.gw 106 (Y.zk rfl rfl) ?_))
 refine .pk ?_
 refine .nil ?_
 refine .a8 rfl (fun CU => ?_) (fun CU => ?_)
 refine .sr ?_
 refine .an ?_
 refine .nil (.ret ?_)
 exact .rb rfl (df (fun h => by have h1 := h.a7 fP om; unfold gE at h1; obtain ⟨a1, a2, a3, a4, a5, a6⟩ := h1; first | contradiction | omega))
 refine .skip (.region ?_)
 refine .vl (Y.qb rfl rfl om) ?_
 refine .mv ?_
 refine .nil ?_
 exact ⟨fP + 1, ⟨om, cT hm (by unfold gE; refine ⟨?_, ?_, ?_, ?_, ?_, ?_⟩ <;> first | assumption | omega)⟩, om, Le.mk (.c2 (.c (.cons (aj rfl bf) .nil))) (.c .nil)⟩
 refine .exit (.sr (.sh (Sh.cW 101 rfl rfl) ?_))
 refine .vl (Y.zd rfl rfl rfl rfl) (.alloc 107 Oa rfl rfl ae (.ak NZ rfl rfl rfl rfl rfl rfl (aI rfl) rfl ?_))
 refine .nil (.seq (.seq ?_))
 refine .sh (Sh.cW 107 rfl rfl) (.region ?_)
 refine .fa cC ?_
 refine .ld fC ?_
 refine .vl (Y.qx (n := n.streams.length) eG rfl cS) ?_
 refine .mv ?_
 refine .nil (.block ?_)
 refine .fY (fun (bl : Nat) => ⟨[(1, .fp (ab.row n) 0), (7, .fp ([.gB (.func 94) [] [.fp (ab.row n) 0]]) 0), (114, .fz 3 (n.streams.map bI.row)), (115, vi n.streams.length), (116, vi bl)], []⟩) (fun bl => ((bl : Int) ≤ (n.streams.length : Int)) ∧ (∀ j, j < bl → fy n j)) (fun bl => ((n.streams.length : Int) - (bl : Int)).toNat) 0 (⟨om, fun j hj => by omega⟩) (Le.mk (.c4 (.cons (aj rfl bf) .nil)) .nil) (fun bl CV => ?_)
 obtain ⟨Lw, vy⟩ := CV
 refine .sr (.vl (Y.zc rfl rfl) (.nil ?_))
 refine .seq ?_
 refine .a8 rfl (fun oa => ?_) (fun oa => ?_)
 refine .skip ?_
 refine .yw (fun (sJ : Bool) (sK : Bool) (sL : Bool) (sM : Bool) => ⟨[(1, .fp (ab.row n) 0), (7, .fp ([.gB (.func 94) [] [.fp (ab.row n) 0]]) 0), (114, .fz 3 (n.streams.map bI.row)), (115, vi n.streams.length), (116, vi bl), (126, .ptr 109 0 0 1), (127, vi ((n.streams.getD bl default).width)), (128, .v (.bool (decide (eO ((n.streams.getD bl default).width))))), (129, .v (.bool (!decide (eO ((n.streams.getD bl default).width))))), (132, .gB (.func 94) [] [.fp (ab.row n) 0]), (133, .fp (ab.row n) 6), (134, .fz 1 (n.aR.map ai)), (135, vi bl), (136, .fp (ai (n.aR.getD bl 0)) 0), (137, vi (n.aR.getD bl 0)), (138, .v (.bool (decide (In (n.aR.getD bl 0) n.aa.length)))), (139, .v (.bool (!decide (In (n.aR.getD bl 0) n.aa.length)))), (142, .ptr 109 0 0 2), (143, .v (.bool ((n.streams.getD bl default).out))), (144, .v (.bool sJ)), (153, .v (.bool sK)), (156, .ptr 109 0 0 2), (157, .v (.bool ((n.streams.getD bl default).out))), (158, .v (.bool (!((n.streams.getD bl default).out)))), (159, .v (.bool sL)), (166, .v (.bool sM))], [(109, .cells [.v (.string ((n.streams.getD bl default).name)), vi ((n.streams.getD bl default).width), .v (.bool ((n.streams.getD bl default).out))])]⟩) (fun sJ sK sL sM => fy n bl) ?_ (fun sJ sK sL sM xZ => ?_)
 refine .block (.sr ?_)
 have SO := hs.kr _ (dZ (l := n.streams) (i := bl) (d := default) om)
 refine .mv ?_
 refine .vl (Y.qs (m := bl) eG rfl rfl bf (aq (d := default) om)) ?_
 refine .vl (Y.zb Ht rfl rfl (aI rfl) rfl rfl) (.alloc 109 px rfl rfl ae ?_)
 refine .an ?_
 refine .ak Hv rfl rfl rfl rfl rfl rfl (aI rfl) rfl (.nil (.seq ?_))
 refine .fN rfl (.bT (n := 45) [0, 1] [2, 3, 4, 5, 6, 7, 8, 9, 10, 11, 12, 13, 14, 15, 16, 17, 18, 19, 20, 21, 22, 23, 24, 25, 26, 27, 28, 29, 30, 31, 32, 33, 34, 35, 36, 37, 38, 39, 40, 41, 42, 43, 44, 45, 46] 2 rfl ao (.cn 0 rfl (Y.qp Cb rfl rfl) ?_))
 refine .cn 1 rfl (Y.za I9 rfl rfl rfl rfl) (.nil (.one 2 rfl ao ?_))
 refine .aH Hp (oJ (s := ((n.streams.getD bl default).name)) (by first | assumption | omega)) rfl (.ah rfl rfl .nil) ae rfl ?_
 refine .nil ⟨rfl, ?_⟩
 refine .bT (n := 40) [3, 4, 5, 6] [7, 8, 9, 10, 11, 12, 13, 14, 15, 16, 17, 18, 19, 20, 21, 22, 23, 24, 25, 26, 27, 28, 29, 30, 31, 32, 33, 34, 35, 36, 37, 38, 39, 40, 41, 42, 43, 44, 45, 46] 7 rfl ao (.cn 3 rfl (Y.zm rfl) (.cn 4 rfl (Y.zg rfl rfl) ?_))
 refine .split (d := 125) rfl (fun xJ => ?_) (fun xJ => ?_)
 replace xJ : ¬ (ks ((n.streams.getD bl default).name)) := by simpa using xJ
 refine .sk 5 rfl rfl rfl rfl (.sk 6 rfl rfl rfl rfl (.nil ?_))
 refine .aZ 7 rfl ao rfl ae ae rfl rfl (.aZ 8 rfl ao rfl ae ae rfl rfl (.bT (n := 30) [9, 10, 11, 12, 13, 14, 15, 16] [17, 18, 19, 20, 21, 22, 23, 24, 25, 26, 27, 28, 29, 30, 31, 32, 33, 34, 35, 36, 37, 38, 39, 40, 41, 42, 43, 44, 45, 46] 17 rfl ao ?_))
 refine .cn 9 rfl (Y.zn rfl rfl rfl) (.cn 10 rfl (Y.zg rfl rfl) (.sk 11 rfl rfl rfl rfl ?_))
 refine .sk 12 rfl rfl rfl rfl (.sk 13 rfl rfl rfl rfl (.sk 14 rfl rfl rfl rfl ?_))
 refine .sk 15 rfl rfl rfl rfl (.sk 16 rfl rfl rfl rfl (.nil ?_))
 refine .aZ 17 rfl ao rfl ae ae rfl rfl (.aZ 18 rfl ao rfl ae ae rfl rfl (.bT (n := 17) [19, 20, 21, 22, 23, 24, 25, 26, 27, 28, 29] [30, 31, 32, 33, 34, 35, 36, 37, 38, 39, 40, 41, 42, 43, 44, 45, 46] 30 rfl ao ?_))
 refine .cn 19 rfl (Y.zn rfl rfl rfl) (.cn 20 rfl (Y.zg rfl rfl) (.sk 21 rfl rfl rfl rfl ?_))
 refine .sk 22 rfl rfl rfl rfl (.sk 23 rfl rfl rfl rfl (.sk 24 rfl rfl rfl rfl ?_))
 refine .sk 25 rfl rfl rfl rfl (.sk 26 rfl rfl rfl rfl (.sk 27 rfl rfl rfl rfl ?_))
 refine .sk 28 rfl rfl rfl rfl (.sk 29 rfl rfl rfl rfl (.nil ?_))
 refine .aZ 30 rfl ao rfl ae ae rfl rfl (.aZ 31 rfl ao rfl ae ae rfl rfl (.aZ 32 rfl ao rfl ae ae rfl rfl ?_))
 refine .bT (n := 0) [33, 34, 35, 36, 37, 38, 39, 40, 41, 42, 43, 44, 45, 46] [] 0 rfl ao (.cn 33 rfl (Y.zn rfl rfl rfl) (.cn 34 rfl (Y.zg rfl rfl) ?_))
 refine .sk 35 rfl rfl rfl rfl (.sk 36 rfl rfl rfl rfl (.sk 37 rfl rfl rfl rfl ?_))
 refine .sk 38 rfl rfl rfl rfl (.sk 39 rfl rfl rfl rfl (.sk 40 rfl rfl rfl rfl ?_))
 refine .sk 41 rfl rfl rfl rfl (.sk 42 rfl rfl rfl rfl (.sk 43 rfl rfl rfl rfl ?_))
 refine .sk 44 rfl rfl rfl rfl (.sk 45 rfl rfl rfl rfl (.cn 46 rfl (Y.zn rfl rfl rfl) ?_))
 refine .nil (.done ao (.aM rfl ?_))
 refine .sr ?_
 refine .an ?_
 refine .nil (.ret ?_)
 exact .rb rfl (df (fun h => by have h1 := h.strs bl om; unfold fy at h1; obtain ⟨a1, a2, a3, a4, a5⟩ := h1; first | contradiction | grind))
 replace xJ : ks ((n.streams.getD bl default).name) := by simpa using xJ
 refine .rn 5 rfl rfl rfl (Y.qp ny rfl rfl) (.rn 6 rfl rfl rfl (Y.za aV rfl rfl rfl rfl) (.nil ?_))
 refine .one 7 rfl ao (.ar (d := 125) rfl ae rfl (.aH Hq (qF (w := ((n.streams.getD bl default).width))) rfl (.ah rfl rfl .nil) ae rfl ?_))
 refine .nil ⟨rfl, ?_⟩
 refine .bT (n := 30) [8, 9, 10, 11, 12, 13, 14, 15, 16] [17, 18, 19, 20, 21, 22, 23, 24, 25, 26, 27, 28, 29, 30, 31, 32, 33, 34, 35, 36, 37, 38, 39, 40, 41, 42, 43, 44, 45, 46] 17 rfl ao (.rn 8 rfl rfl rfl (Y.zm rfl) (.cn 9 rfl (Y.zn rfl rfl rfl) ?_))
 refine .cn 10 rfl (Y.zg rfl rfl) ?_
 refine .split (d := 131) rfl (fun oN => ?_) (fun oN => ?_)
 replace oN : ¬ (eO ((n.streams.getD bl default).width)) := by simpa using oN
 refine .sk 11 rfl rfl rfl rfl (.sk 12 rfl rfl rfl rfl (.sk 13 rfl rfl rfl rfl ?_))
 refine .sk 14 rfl rfl rfl rfl (.sk 15 rfl rfl rfl rfl (.sk 16 rfl rfl rfl rfl ?_))
 refine .nil (.aZ 17 rfl ao rfl ae ae rfl rfl (.aZ 18 rfl ao rfl ae ae rfl rfl ?_))
 refine .bT (n := 17) [19, 20, 21, 22, 23, 24, 25, 26, 27, 28, 29] [30, 31, 32, 33, 34, 35, 36, 37, 38, 39, 40, 41, 42, 43, 44, 45, 46] 30 rfl ao (.cn 19 rfl (Y.zn rfl rfl rfl) (.cn 20 rfl (Y.zg rfl rfl) ?_))
 refine .sk 21 rfl rfl rfl rfl (.sk 22 rfl rfl rfl rfl (.sk 23 rfl rfl rfl rfl ?_))
 refine .sk 24 rfl rfl rfl rfl (.sk 25 rfl rfl rfl rfl (.sk 26 rfl rfl rfl rfl ?_))
 refine .sk 27 rfl rfl rfl rfl (.sk 28 rfl rfl rfl rfl (.sk 29 rfl rfl rfl rfl ?_))
 refine .nil (.aZ 30 rfl ao rfl ae ae rfl rfl (.aZ 31 rfl ao rfl ae ae rfl rfl ?_))
 refine .aZ 32 rfl ao rfl ae ae rfl rfl (.bT (n := 0) [33, 34, 35, 36, 37, 38, 39, 40, 41, 42, 43, 44, 45, 46] [] 0 rfl ao (.cn 33 rfl (Y.zn rfl rfl rfl) ?_))
 refine .cn 34 rfl (Y.zg rfl rfl) (.sk 35 rfl rfl rfl rfl (.sk 36 rfl rfl rfl rfl ?_))
 refine .sk 37 rfl rfl rfl rfl (.sk 38 rfl rfl rfl rfl (.sk 39 rfl rfl rfl rfl ?_))
 refine .sk 40 rfl rfl rfl rfl (.sk 41 rfl rfl rfl rfl (.sk 42 rfl rfl rfl rfl ?_))
 refine .sk 43 rfl rfl rfl rfl (.sk 44 rfl rfl rfl rfl (.sk 45 rfl rfl rfl rfl ?_))
 refine .cn 46 rfl (Y.zn rfl rfl rfl) (.nil (.done ao ?_))
 refine .aM rfl (.sr ?_)
 refine .an ?_
 refine .nil (.ret ?_)
 exact .rb rfl (df (fun h => by have h1 := h.strs bl om; unfold fy at h1; obtain ⟨a1, a2, a3, a4, a5⟩ := h1; first | contradiction | grind))
 replace oN : eO ((n.streams.getD bl default).width) := by simpa using oN
 refine .rn 11 rfl rfl rfl (Y.za x5 rfl rfl rfl rfl) (.rn 12 rfl rfl rfl (Y.qp jE rfl rfl) (.rn 13 rfl rfl rfl (Y.za aW rfl rfl rfl rfl) ?_))
 refine .rn 14 rfl rfl rfl (Y.zg rfl rfl) (.rn 15 rfl rfl rfl (Y.qs (m := bl) az rfl rfl bf (aq (d := 0) om)) ?_)
 refine .rn 16 rfl rfl rfl (Y.za aV rfl rfl rfl rfl) (.nil (.one 17 rfl ao ?_))
 refine .ar (d := 131) rfl ae rfl (.lX rfl xz (fE (i := (n.aR.getD bl 0))) rfl (.ah rfl rfl (.ah rfl rfl .nil)) ae rfl ?_)
 refine .nil ⟨rfl, ?_⟩
 refine .bT (n := 17) [18, 19, 20, 21, 22, 23, 24, 25, 26, 27, 28, 29] [30, 31, 32, 33, 34, 35, 36, 37, 38, 39, 40, 41, 42, 43, 44, 45, 46] 30 rfl ao (.rn 18 rfl rfl rfl (Y.zm rfl) (.cn 19 rfl (Y.zn rfl rfl rfl) ?_))
 refine .cn 20 rfl (Y.zg rfl rfl) ?_
 refine .split (d := 141) rfl (fun sN => ?_) (fun sN => ?_)
 replace sN : ¬ (In (n.aR.getD bl 0) n.aa.length) := by simpa using sN
 refine .sk 21 rfl rfl rfl rfl (.sk 22 rfl rfl rfl rfl (.sk 23 rfl rfl rfl rfl ?_))
 refine .sk 24 rfl rfl rfl rfl (.sk 25 rfl rfl rfl rfl (.sk 26 rfl rfl rfl rfl ?_))
 refine .sk 27 rfl rfl rfl rfl (.sk 28 rfl rfl rfl rfl (.sk 29 rfl rfl rfl rfl ?_))
 refine .nil (.aZ 30 rfl ao rfl ae ae rfl rfl (.aZ 31 rfl ao rfl ae ae rfl rfl ?_))
 refine .aZ 32 rfl ao rfl ae ae rfl rfl (.bT (n := 0) [33, 34, 35, 36, 37, 38, 39, 40, 41, 42, 43, 44, 45, 46] [] 0 rfl ao (.cn 33 rfl (Y.zn rfl rfl rfl) ?_))
 refine .cn 34 rfl (Y.zg rfl rfl) (.sk 35 rfl rfl rfl rfl (.sk 36 rfl rfl rfl rfl ?_))
 refine .sk 37 rfl rfl rfl rfl (.sk 38 rfl rfl rfl rfl (.sk 39 rfl rfl rfl rfl ?_))
 refine .sk 40 rfl rfl rfl rfl (.sk 41 rfl rfl rfl rfl (.sk 42 rfl rfl rfl rfl ?_))
 refine .sk 43 rfl rfl rfl rfl (.sk 44 rfl rfl rfl rfl (.sk 45 rfl rfl rfl rfl ?_))
 refine .cn 46 rfl (Y.zn rfl rfl rfl) (.nil (.done ao ?_))
 refine .aM rfl (.sr ?_)
 refine .an ?_
 refine .nil (.ret ?_)
 exact .rb rfl (df (fun h => by have h1 := h.strs bl om; unfold fy at h1; obtain ⟨a1, a2, a3, a4, a5⟩ := h1; first | contradiction | grind))
 replace sN : In (n.aR.getD bl 0) n.aa.length := by simpa using sN
 refine .rn 21 rfl rfl rfl (Y.qp gU rfl rfl) (.rn 22 rfl rfl rfl (Y.za ta rfl rfl rfl rfl) (.rn 23 rfl rfl rfl (Y.zg rfl rfl) ?_))
 refine .split (d := 144) rfl (fun uZ => ?_) (fun uZ => ?_)
 refine .rn 24 rfl rfl rfl (Y.za x5 rfl rfl rfl rfl) (.rn 25 rfl rfl rfl (Y.qp iF rfl rfl) (.rn 26 rfl rfl rfl (Y.za aW rfl rfl rfl rfl) ?_))
 refine .rn 27 rfl rfl rfl (Y.zg rfl rfl) (.rn 28 rfl rfl rfl (Y.qs (m := bl) az rfl rfl bf (aq (d := 0) om)) ?_)
 refine .rn 29 rfl rfl rfl (Y.za aV rfl rfl rfl rfl) (.nil (.one 30 rfl ao ?_))
 refine .ar (d := 144) rfl ae rfl (.lX rfl xz (fE (i := (n.data.getD bl 0))) rfl (.ah rfl rfl (.ah rfl rfl .nil)) ae rfl ?_)
 refine .nil ⟨rfl, ?_⟩
 refine .bT (n := 0) [31, 32, 33, 34, 35, 36, 37, 38, 39, 40, 41, 42, 43, 44, 45, 46] [] 0 rfl ao (.rn 31 rfl rfl rfl (Y.zm rfl) (.rn 32 rfl rfl rfl (Y.zn rfl rfl rfl) ?_))
 refine .cn 33 rfl (Y.zn rfl rfl rfl) (.cn 34 rfl (Y.zg rfl rfl) ?_)
 refine .split (d := 155) rfl (fun CW => ?_) (fun CW => ?_)
 replace CW : ¬ (In (n.data.getD bl 0) n.aa.length) := by simpa using CW
 refine .sk 35 rfl rfl rfl rfl (.sk 36 rfl rfl rfl rfl (.sk 37 rfl rfl rfl rfl ?_))
 refine .sk 38 rfl rfl rfl rfl (.sk 39 rfl rfl rfl rfl (.sk 40 rfl rfl rfl rfl ?_))
 refine .sk 41 rfl rfl rfl rfl (.sk 42 rfl rfl rfl rfl (.sk 43 rfl rfl rfl rfl ?_))
 refine .sk 44 rfl rfl rfl rfl (.sk 45 rfl rfl rfl rfl (.cn 46 rfl (Y.zn rfl rfl rfl) ?_))
 refine .nil (.done ao (.aM rfl ?_))
 refine .sr ?_
 refine .an ?_
 refine .nil (.ret ?_)
 exact .rb rfl (df (fun h => by have h1 := h.strs bl om; unfold fy at h1; obtain ⟨a1, a2, a3, a4, a5⟩ := h1; first | contradiction | grind))
 replace CW : In (n.data.getD bl 0) n.aa.length := by simpa using CW
 refine .rn 35 rfl rfl rfl (Y.qp gU rfl rfl) (.rn 36 rfl rfl rfl (Y.za ta rfl rfl rfl rfl) (.rn 37 rfl rfl rfl (Y.zm rfl) ?_))
 refine .rn 38 rfl rfl rfl (Y.zg rfl rfl) ?_
 refine .split (d := 159) rfl (fun mo => ?_) (fun mo => ?_)
 replace mo : ((n.streams.getD bl default).out) = false := by simpa using mo
 refine .rn 39 rfl rfl rfl (Y.qp iF rfl rfl) (.rn 40 rfl rfl rfl (Y.za aW rfl rfl rfl rfl) (.rn 41 rfl rfl rfl (Y.zg rfl rfl) ?_))
 refine .rn 42 rfl rfl rfl (Y.qs (m := bl) az rfl rfl bf (aq (d := 0) om)) ?_
 refine .rn 43 rfl rfl rfl (Y.za aV rfl rfl rfl rfl) (.rn 44 rfl rfl rfl (Y.zk rfl rfl) (.rn 45 rfl rfl rfl (Y.zn rfl rfl rfl) ?_))
 refine .cn 46 rfl (Y.zn rfl rfl rfl) (.nil (.done ao ?_))
 refine .a8 rfl (fun CX => ?_) (fun CX => ?_)
 refine .sr ?_
 refine .an ?_
 refine .nil (.ret ?_)
 exact .rb rfl (df (fun h => by have h1 := h.strs bl om; unfold fy at h1; obtain ⟨a1, a2, a3, a4, a5⟩ := h1; first | contradiction | grind))
 refine .skip ⟨true, (!decide (In (n.data.getD bl 0) n.aa.length)), true, decide ((n.data.getD bl 0) ≠ (-1)), by unfold fy; grind, Le.mk (.c8 (.c8 (.c2 (.c (.cons (aF rfl fw) (.cons (aF rfl fw) (.c2 (.c (.cons (aF rfl fw) (.cons (aF rfl fw) .nil)))))))))) (.c .nil)⟩
 replace mo : ((n.streams.getD bl default).out) = true := by simpa using mo
 refine .sk 39 rfl rfl rfl rfl (.sk 40 rfl rfl rfl rfl (.sk 41 rfl rfl rfl rfl ?_))
 refine .sk 42 rfl rfl rfl rfl (.sk 43 rfl rfl rfl rfl (.sk 44 rfl rfl rfl rfl ?_))
 refine .rn 45 rfl rfl rfl (Y.zn rfl rfl rfl) (.cn 46 rfl (Y.zn rfl rfl rfl) (.nil ?_))
 refine .done ao (.bO rfl (.skip ?_))
 exact ⟨true, (!decide (In (n.data.getD bl 0) n.aa.length)), false, false, by unfold fy; grind, Le.mk (.c8 (.c8 (.c2 (.c (.cons (aF rfl fw) (.cons (aF rfl fw) (.c2 (.c (.cons (aF rfl fw) (.cons (aF rfl fw) .nil)))))))))) (.c .nil)⟩
 refine .sk 24 rfl rfl rfl rfl (.sk 25 rfl rfl rfl rfl (.sk 26 rfl rfl rfl rfl ?_))
 refine .sk 27 rfl rfl rfl rfl (.sk 28 rfl rfl rfl rfl (.sk 29 rfl rfl rfl rfl ?_))
 refine .nil (.aZ 30 rfl ao rfl ae ae rfl rfl (.aZ 31 rfl ao rfl ae ae rfl rfl ?_))
 refine .bT (n := 0) [32, 33, 34, 35, 36, 37, 38, 39, 40, 41, 42, 43, 44, 45, 46] [] 0 rfl ao (.rn 32 rfl rfl rfl (Y.zn rfl rfl rfl) (.cn 33 rfl (Y.zn rfl rfl rfl) ?_))
 refine .cn 34 rfl (Y.zg rfl rfl) (.rn 35 rfl rfl rfl (Y.qp gU rfl rfl) (.rn 36 rfl rfl rfl (Y.za ta rfl rfl rfl rfl) ?_))
 refine .rn 37 rfl rfl rfl (Y.zm rfl) (.rn 38 rfl rfl rfl (Y.zg rfl rfl) ?_)
 refine .split (d := 159) rfl (fun mo => ?_) (fun mo => ?_)
 replace mo : ((n.streams.getD bl default).out) = false := by simpa using mo
 refine .rn 39 rfl rfl rfl (Y.qp iF rfl rfl) (.rn 40 rfl rfl rfl (Y.za aW rfl rfl rfl rfl) (.rn 41 rfl rfl rfl (Y.zg rfl rfl) ?_))
 refine .rn 42 rfl rfl rfl (Y.qs (m := bl) az rfl rfl bf (aq (d := 0) om)) ?_
 refine .rn 43 rfl rfl rfl (Y.za aV rfl rfl rfl rfl) (.rn 44 rfl rfl rfl (Y.zk rfl rfl) (.rn 45 rfl rfl rfl (Y.zn rfl rfl rfl) ?_))
 refine .cn 46 rfl (Y.zn rfl rfl rfl) (.nil (.done ao ?_))
 refine .a8 rfl (fun CX => ?_) (fun CX => ?_)
 refine .sr ?_
 refine .an ?_
 refine .nil (.ret ?_)
 exact .rb rfl (df (fun h => by have h1 := h.strs bl om; unfold fy at h1; obtain ⟨a1, a2, a3, a4, a5⟩ := h1; first | contradiction | grind))
 refine .skip ⟨false, false, true, decide ((n.data.getD bl 0) ≠ (-1)), by unfold fy; grind, Le.mk (.c8 (.c8 (.c2 (.c (.cons (aF rfl fw) (.cons (aF rfl fw) (.c2 (.c (.cons (aF rfl fw) (.cons (aF rfl fw) .nil)))))))))) (.c .nil)⟩
 replace mo : ((n.streams.getD bl default).out) = true := by simpa using mo
 refine .sk 39 rfl rfl rfl rfl (.sk 40 rfl rfl rfl rfl (.sk 41 rfl rfl rfl rfl ?_))
 refine .sk 42 rfl rfl rfl rfl (.sk 43 rfl rfl rfl rfl (.sk 44 rfl rfl rfl rfl ?_))
 refine .rn 45 rfl rfl rfl (Y.zn rfl rfl rfl) (.cn 46 rfl (Y.zn rfl rfl rfl) (.nil ?_))
 refine .done ao (.bO rfl (.skip ?_))
 exact ⟨false, false, false, false, by unfold fy; grind, Le.mk (.c8 (.c8 (.c2 (.c (.cons (aF rfl fw) (.cons (aF rfl fw) (.c2 (.c (.cons (aF rfl fw) (.cons (aF rfl fw) .nil)))))))))) (.c .nil)⟩
 refine .region (.vl (Y.qb rfl rfl om) ?_)
 refine .mv ?_
 refine .nil (⟨bl + 1, ⟨om, cT vy xZ⟩, om, Le.mk (.c4 (.cons (aj rfl bf) .nil)) .nil⟩)
 refine .exit (.seq (.sr ?_))
 refine .ld x5 ?_
 refine .fa oE ?_
 refine .ld aV ?_
 refine .lX rfl xz (fE (i := n.freeze)) rfl (.ah rfl rfl (.ah rfl rfl .nil)) ae rfl (.vl (Y.zm rfl) ?_)
 refine .mv ?_
 refine .dP (d := 174) rfl (fun OX => ?_) (fun OX => ?_)
 refine .gz 174 (.gz 174 (.gz 174 ?_))
 refine .gz 174 (.gz 174 ?_)
 refine .pk ?_
 refine .mv ?_
 refine .gz 181 (.gz 181 (.gz 181 ?_))
 refine .gz 181 ?_
 refine .pk ?_
 refine .nil (.aM rfl (.sr ?_))
 refine .an ?_
 refine .nil (.ret ?_)
 exact .rb rfl (df (fun h => by have h1 := h.freeze; have h2 := h.done; contradiction))
 refine .gw 174 (Y.za x5 rfl rfl rfl rfl) (.gw 174 (Y.qp pZ rfl rfl) (.gw 174 (Y.za aV rfl rfl rfl rfl) ?_))
 refine .ar (d := 174) rfl ae rfl (.lX rfl xz (fE (i := n.done)) rfl (.ah rfl rfl (.ah rfl rfl .nil)) ae rfl (.gw 174 (Y.zm rfl) ?_))
 refine .pk ?_
 refine .mv ?_
 refine .dP (d := 181) rfl (fun OY => ?_) (fun OY => ?_)
 refine .gz 181 (.gz 181 (.gz 181 ?_))
 refine .gz 181 ?_
 refine .pk ?_
 refine .nil (.aM rfl (.sr ?_))
 refine .an ?_
 refine .nil (.ret ?_)
 exact .rb rfl (df (fun h => by have h1 := h.freeze; have h2 := h.done; contradiction))
 refine .gw 181 (Y.qp jR rfl rfl) (.gw 181 (Y.za aW rfl rfl rfl rfl) (.gw 181 (Y.zd rfl rfl rfl rfl) ?_))
 refine .ar (d := 181) rfl ae rfl ?_
 refine .aH K4 (jy (l := n.bE) (p := fun z => !decide (In z n.aa.length)) (om) NU (fun z _ => uX)) rfl (.ah rfl rfl (.ah rfl rfl .nil)) ae rfl ?_
 refine .pk ?_
 refine .nil ?_
 refine .cond rfl (fun HZ => ?_) (fun HZ => ?_)
 refine .sr ?_
 refine .an ?_
 refine .nil (.ret ?_)
 exact .rb rfl (df (fun h => absurd h.bE (nO.1 bm)))
 refine .skip (.sr ?_)
 refine .fa bu ?_
 refine .ld aW ?_
 refine .vl (Y.qx (n := n.aa.length) az rfl cS) (.makeSlice (n := n.aa.length) mN Mp rfl rfl rfl rfl om om ae ?_)
 refine .dy rfl ae (.sh (Sh.ep (d := 10) (n := n.aa.length) 110 ((List.replicate n.aa.length false).map fI) rfl jJ (b5 (by simp)) ae) (.nil ?_))
 refine .seq (.sr ?_)
 refine .fa bL ?_
 refine .ld eT ?_
 refine .vl (Y.qx (n := n.cells.length) dr rfl cS) ?_
 refine .mv ?_
 refine .nil (.block ?_)
 refine .e0 (fun (cv : Nat) (dU : List Bool) => ⟨[(1, .fp (ab.row n) 0), (7, .fp ([.gB (.func 94) [] [.fp (ab.row n) 0]]) 0), (10, .ba 110 1 0 n.aa.length), (192, .fz 6 (n.cells.map Cell.row)), (193, vi n.cells.length), (194, vi cv)], [(110, .rows 1 (dU.map fI))]⟩) (fun cv dU => (dU.length = n.aa.length) ∧ ((cv : Int) ≤ (n.cells.length : Int)) ∧ (vj n cv dU) ∧ (∀ j, j < cv → gS n (n.cells.getD j default))) (fun cv dU => ((n.cells.length : Int) - (cv : Int)).toNat) 0 (List.replicate n.aa.length false) (⟨gu, gu, vj.init n, fun j hj => by omega⟩) (Le.mk (.c4 (.c (.cons (aj rfl bf) .nil))) (.c .nil)) (fun cv dU Ia => ?_)
 obtain ⟨Gp, OZ, hd, hc⟩ := Ia
 refine .sr (.vl (Y.zc rfl rfl) (.nil ?_))
 refine .seq ?_
 refine .a8 rfl (fun Pa => ?_) (fun Pa => ?_)
 refine .skip ?_
 refine .fb (fun (gv : List Bool) => ⟨[(1, .fp (ab.row n) 0), (7, .fp ([.gB (.func 94) [] [.fp (ab.row n) 0]]) 0), (10, .ba 110 1 0 n.aa.length), (192, .fz 6 (n.cells.map Cell.row)), (193, vi n.cells.length), (194, vi cv), (203, .agg [.v (.string n.name), .fz 1 (n.aa.map ai), .fz 6 (n.cells.map Cell.row), .fz 1 (n.ins.map ai), .fz 5 (n.a7.map eu.row), .fz 3 (n.streams.map bI.row), .fz 1 (n.aR.map ai), .fz 1 (n.data.map ai), vi n.freeze, vi n.done, .fz 1 (n.bE.map ai)]), (204, .agg [vi ((n.cells.getD cv default).kind), vi ((n.cells.getD cv default).op), vi ((n.cells.getD cv default).out), .fz 1 (((n.cells.getD cv default).args).map ai), .v (.int .u64 (((n.cells.getD cv default).num : Nat) : Int)), vi ((n.cells.getD cv default).mem)]), (205, .v (.bool (decide (Shaped n (n.cells.getD cv default))))), (206, .v (.bool (!decide (Shaped n (n.cells.getD cv default)))))], [(110, .rows 1 (gv.map fI))]⟩) (fun gv => (gv.length = n.aa.length) ∧ (gS n (n.cells.getD cv default) ∧ vj n (cv + 1) gv)) ?_ (fun gv Lx => ?_)
 refine .block (.sr ?_)
 refine .vl (Y.qs (m := cv) dr rfl rfl bf (aq (d := default) om)) ?_
 refine .vl (Y.zb dS rfl rfl (aI rfl) rfl rfl) (.alloc 112 dM rfl rfl ae (.ak eE rfl rfl rfl rfl rfl rfl (aI rfl) rfl ?_))
 refine .nil (.seq (.sr ?_))
 have QO := hs.args (n.cells.getD cv default) (dZ om)
 refine .fa bF ?_
 refine .ld aW ?_
 refine .vl (Y.zd rfl rfl rfl rfl) ?_
 refine .aH K4 (jy (l := ((n.cells.getD cv default).args)) (p := fun z => !decide (In z n.aa.length)) (om) NV (fun z _ => uY)) rfl (.ah rfl rfl (.ah rfl rfl .nil)) ae rfl ?_
 refine .mv ?_
 refine .split (d := 202) rfl (fun Pb => ?_) (fun Pb => ?_)
 refine .gz 202 (.gz 202 (.gz 202 ?_))
 refine .gz 202 ?_
 refine .pk ?_
 refine .nil (.aM rfl (.sr ?_))
 refine .an ?_
 refine .nil (.ret ?_)
 exact .rb rfl (df (fun h => by have h1 := h.cells cv om; obtain ⟨a1, a2, a3, a4⟩ := h1; first | contradiction | exact absurd a1 (nO.1 bm) | (have := a3 bm; contradiction) | (have := a4 bm; contradiction)))
 refine .gw 202 (Y.zb dD rfl rfl (aI rfl) rfl rfl) (.gw 202 (Y.zb dS rfl rfl (aI rfl) rfl rfl) (.ar (d := 202) rfl ae rfl ?_))
 refine .aH NW (wz (n := n) (c := (n.cells.getD cv default)) hs (by first | assumption | omega)) rfl (.ah rfl rfl (.ah rfl rfl .nil)) ae rfl (.gw 202 (Y.zm rfl) ?_)
 refine .pk ?_
 refine .nil ?_
 refine .dB rfl (fun Pc => ?_) (fun Pc => ?_)
 refine .sr ?_
 refine .an ?_
 refine .nil (.ret ?_)
 exact .rb rfl (df (fun h => by have h1 := h.cells cv om; obtain ⟨a1, a2, a3, a4⟩ := h1; first | contradiction | exact absurd a1 (nO.1 bm) | (have := a3 bm; contradiction) | (have := a4 bm; contradiction)))
 refine .skip (.seq (.sr ?_))
 refine .fa bP ?_
 refine .ld aV ?_
 refine .vl (Y.ql rfl rfl) (.nil ?_)
 refine .a8 rfl (fun Pd => ?_) (fun Pd => ?_)
 refine .seq (.sr ?_)
 refine .fa cN ?_
 refine .ld aV ?_
 refine .vl (Y.zk rfl rfl) (.nil ?_)
 refine .a8 rfl (fun Pe => ?_) (fun Pe => ?_)
 refine .sr ?_
 refine .an ?_
 refine .nil (.ret ?_)
 exact .rb rfl (df (fun h => by have h1 := h.cells cv om; obtain ⟨a1, a2, a3, a4⟩ := h1; first | contradiction | exact absurd a1 (nO.1 bm) | (have := a3 bm; contradiction) | (have := a4 bm; contradiction)))
 refine .skip (.exit ?_)
 exact ⟨dU, ⟨om, ⟨⟨kZ bm, bm, fun _ => by omega, fun h => absurd bm h⟩, hd.skip om bm⟩⟩, Le.mk (.c8 (.c (.c .nil))) (.c .nil)⟩
 refine .skip (.seq (.sr ?_))
 refine .ld x5 ?_
 refine .fa cN ?_
 refine .ld aV ?_
 refine .lX rfl xz (fE (i := ((n.cells.getD cv default).out))) rfl (.ah rfl rfl (.ah rfl rfl .nil)) ae rfl (.vl (Y.zm rfl) ?_)
 refine .mv ?_
 refine .dP (d := 219) rfl (fun Pf => ?_) (fun Pf => ?_)
 refine .gz 219 (.gz 219 (.gz 219 ?_))
 refine .gz 219 (.gz 219 ?_)
 refine .pk ?_
 refine .nil (.aM rfl (.sr ?_))
 refine .an ?_
 refine .nil (.ret ?_)
 exact .rb rfl (df (fun h => by have h1 := h.cells cv om; obtain ⟨a1, a2, a3, a4⟩ := h1; first | contradiction | exact absurd a1 (nO.1 bm) | (have := a3 bm; contradiction) | (have := a4 bm; contradiction)))
 refine .gw 219 (Y.zg rfl rfl) (.gw 219 (Y.qp cN rfl rfl) (.gw 219 (Y.za aV rfl rfl rfl rfl) ?_))
 refine .gw 219 (Y.qt (m := ((n.cells.getD cv default).out).toNat) mN rfl rfl gu gu) (.gw 219 (Y.za ta rfl (aB (d := false) gu) rfl rfl) ?_)
 refine .pk ?_
 refine .nil ?_
 refine .cond rfl (fun Pg => ?_) (fun Pg => ?_)
 refine .sr ?_
 refine .an ?_
 refine .nil (.ret ?_)
 exact .rb rfl (df (fun h => vj.dup hd om bm bm bm h))
 refine .skip (.region ?_)
 refine .mv ?_
 refine .fa cN ?_
 refine .ld aV ?_
 refine .vl (Y.qt (m := ((n.cells.getD cv default).out).toNat) mN rfl rfl gu gu) (.dC ((dU.set (((n.cells.getD cv default).out).toNat) true).map fI) IA rfl rfl rfl rfl rfl rfl rfl (aB (d := false) gu) (aI rfl) (ck rfl) (.nil (⟨dU.set (((n.cells.getD cv default).out).toNat) true, ⟨gu, ⟨⟨kZ bm, bm, fun h => absurd h bm, fun _ => by assumption⟩, hd.step om bm bm Gp bm⟩⟩, Le.mk (.c8 (.c (.c .nil))) (.c .nil)⟩)))
 obtain ⟨IP, Ly⟩ := Lx
 refine .region (.vl (Y.qb rfl rfl om) ?_)
 refine .mv ?_
 refine .nil (⟨cv + 1, gv, ⟨om, om, Ly.2, cT hc Ly.1⟩, om, Le.mk (.c4 (.c (.cons (aj rfl bf) .nil))) (.c .nil)⟩)
 refine .exit (.sr ?_)
 refine .mv ?_
 refine .g7 [110] NX (pC (l := dU) (b := false) (om)) rfl (.cw rfl rfl (bo om) (bp om) (.ah rfl rfl .nil)) (hY rfl (aY se)) ae rfl trivial (.vl (Y.zm rfl) ?_)
 refine .an ?_
 refine .nil (.ret ?_)
 exact .rb rfl (db ((vj.all (d := dU) (by rw [show n.cells.length = cv by omega]; exact hd) Gp).trans ⟨fun h => ⟨bm, om, om, om, om, om, om, fun j hj => by have := hw j (by rw [List.length_append] at hj; omega); rw [Lv] at this; exact this, fun j hj => hm j om, fun j hj => vy j om, bm, bm, kZ bm, fun j hj => hc j om, h⟩, fun h => h.iD⟩))
open Go Go.AW Go.Proofs
theorem Ar {n : ab} {c : Cell} (hs : n.Small) (hc : c.args.length ≤ 17592186043904) (hn : c.num < 18446744073709551616) (qG : Shaped n c) (hw : tQ n c) : au Try.prog 102 [.agg (ab.row n), .agg (Cell.row c)] [] [] (fun r o => r = .v (.bool (decide (Fits n c))) ∧ o = []) := by
 refine au.of Try.func102 rfl rfl rfl (n := 239) ae (aI rfl) ?_
 have EY := hs.ins; have EZ := hs.a7; have Gm := hs.streams; have ho := hw.out; have IN := hs.aa
 refine .sr (.box 102 rfl rfl rfl rfl rfl ae (.box 103 rfl rfl rfl rfl rfl ae ?_))
 refine .an ?_
 refine .nil (.sr ?_)
 refine .an ?_
 refine .nil ?_
 refine .fb (fun (iL : Int) => ⟨[(2, .ptr 102 0 0 0), (3, .ptr 103 0 0 0), (5, vi iL)], [(102, .cells (ab.row n)), (103, .cells (Cell.row c))]⟩) (fun iL => iL = n.ow c) ?_ (fun iL wM => ?_)
 refine .sr ?_
 refine .fa cN ?_
 refine .ld aV ?_
 refine .vl (Y.qq rfl rfl) (.nil ?_)
 refine .a8 rfl (fun wL => ?_) (fun wL => ?_)
 refine .region ?_
 refine .fa bu ?_
 refine .ld aW ?_
 refine .fa cN ?_
 refine .ld aV ?_
 refine .vl (Y.qs (m := (c.out).toNat) az rfl rfl om (aq (d := 0) om)) ?_
 refine .ld aV ?_
 refine .an ?_
 refine .nil ⟨n.aa.getD ((c.out).toNat) 0, by unfold ab.ow ab.wd; rw [if_pos wL], Le.mk (.c2 (.cons (aj rfl bf) .nil)) (.c (.c .nil))⟩
 refine .skip ⟨0, by unfold ab.ow; rw [if_neg wL], Le.mk (.c2 (.cons (aj rfl bf) .nil)) (.c (.c .nil))⟩
 refine .sr ?_
 refine .fa bF ?_
 refine .ld aW ?_
 refine .vl (Y.qx (n := c.args.length) az rfl cS) (.makeSlice (n := c.args.length) az ey rfl rfl rfl rfl om om ae ?_)
 refine .dy rfl ae (.sh (Sh.ep (d := 6) (n := c.args.length) 106 ((List.replicate c.args.length 0).map ai) rfl jJ (b5 (by simp)) ae) (.nil ?_))
 refine .seq (.sr ?_)
 refine .fa bF ?_
 refine .ld aW ?_
 refine .vl (Y.qx (n := c.args.length) az rfl cS) ?_
 refine .mv ?_
 refine .nil (.block ?_)
 refine .e0 (fun (bN : Nat) (ll : List Int) => ⟨[(2, .ptr 102 0 0 0), (3, .ptr 103 0 0 0), (5, vi iL), (6, .ba 106 1 0 c.args.length), (25, .fz 1 (c.args.map ai)), (26, vi c.args.length), (27, vi bN)], [(102, .cells (ab.row n)), (103, .cells (Cell.row c)), (106, .rows 1 (ll.map ai))]⟩) (fun bN ll => (ll.length = c.args.length) ∧ ((bN : Int) ≤ (c.args.length : Int)) ∧ (∀ j, j < bN → ll.getD j 0 = n.av c j)) (fun bN ll => ((c.args.length : Int) - (bN : Int)).toNat) 0 (List.replicate c.args.length 0) (⟨oS, oS, fun j hj => by omega⟩) (Le.mk (.c4 (.c2 (.cons (aj rfl bf) .nil))) (.c2 (.c .nil))) (fun bN ll Lz => ?_)
 obtain ⟨yN, QP, ha⟩ := Lz
 refine .sr (.vl (Y.zc rfl rfl) (.nil ?_))
 refine .seq ?_
 refine .a8 rfl (fun tm => ?_) (fun tm => ?_)
 refine .skip (.seq (.block ?_))
 refine .sr ?_
 refine .mv ?_
 refine .vl (Y.qs (m := bN) az rfl rfl bf (aq (d := 0) om)) ?_
 refine .ld aV ?_
 refine .an ?_
 refine .an ?_
 refine .nil (.region ?_)
 have HC := hw.arg (k := bN) om
 refine .mv ?_
 refine .mv ?_
 refine .fa bu ?_
 refine .ld aW ?_
 refine .mv ?_
 refine .vl (Y.qs (m := (c.args.getD bN 0).toNat) az rfl rfl om (aq (d := 0) om)) ?_
 refine .ld aV ?_
 refine .vl (Y.qt (m := bN) az rfl rfl bf om) (.dC ((ll.set bN (n.aa.getD ((c.args.getD bN 0).toNat) 0)).map ai) eQ rfl rfl rfl rfl rfl rfl rfl (aB (d := 0) om) (aI rfl) (ck rfl) ?_)
 refine .nil (.region ?_)
 refine .vl (Y.qb rfl rfl bw) ?_
 refine .mv ?_
 refine .nil (⟨bN + 1, ll.set bN (n.aa.getD ((c.args.getD bN 0).toNat) 0), ⟨oS, oS, zC ha rfl om⟩, om, Le.mk (.c4 (.c2 (.cons (aj rfl bf) .nil))) (.c2 (.c .nil))⟩)
 refine .exit (.seq (.seq ?_))
 have QQ : 0 < c.args.length → ll.getD 0 0 = n.av c 0 := fun h => ha 0 om
 have IQ : 1 < c.args.length → ll.getD 1 0 = n.av c 1 := fun h => ha 1 om
 have QR : 2 < c.args.length → ll.getD 2 0 = n.av c 2 := fun h => ha 2 om
 refine .region ?_
 refine .fa bP ?_
 refine .ld aV ?_
 refine .nil (.block (.sr ?_))
 refine .vl (Y.ql rfl rfl) ?_
 refine .an ?_
 refine .nil ?_
 refine .a8 rfl (fun OS => ?_) (fun OS => ?_)
 refine .seq (.fN rfl (.blind 0 rfl ao (aw.move rfl rfl) ae ?_))
 refine .blind 1 rfl ao (aw.fieldAddr dp rfl rfl) ae (.blind 4 rfl ao (aw.fieldAddr dp rfl rfl) ae ?_)
 refine .two 2 5 rfl rfl ao ?_ ?_
 refine .ld fv ?_
 refine .nil ⟨rfl, ?_⟩
 refine .two 3 5 rfl rfl ao ?_ ?_
 refine .aH zK (jX (w := iL) (x := c.num) (om)) rfl (.ah rfl rfl (.ah rfl rfl .nil)) ae rfl ?_
 refine .nil ⟨rfl, ?_⟩
 refine .bT (n := 0) [5, 6, 7] [] 0 rfl ao (.cn 5 rfl (Y.za fv rfl rfl rfl rfl) (.cn 6 rfl (Y.ql rfl rfl) ?_))
 refine .cn 7 rfl (Y.qf rfl rfl) (.nil (.done ao ?_))
 refine .ret (.rb rfl (dd wH))
 refine .ld fv ?_
 refine .nil ⟨rfl, ?_⟩
 refine .one 3 rfl ao (.aH zK (jX (w := iL) (x := c.num) (om)) rfl (.ah rfl rfl (.ah rfl rfl .nil)) ae rfl ?_)
 refine .nil ⟨rfl, ?_⟩
 refine .bT (n := 0) [6, 7] [] 0 rfl ao (.cn 6 rfl (Y.ql rfl rfl) (.cn 7 rfl (Y.qf rfl rfl) ?_))
 refine .nil (.done ao (.ret ?_))
 exact .rb rfl (dd wH)
 refine .ld fv ?_
 refine .nil ⟨rfl, ?_⟩
 refine .bT (n := 3) [2] [3, 6, 7] 3 rfl ao (.cn 2 rfl (Y.za fv rfl rfl rfl rfl) (.nil ?_))
 refine .one 3 rfl ao (.aH zK (jX (w := iL) (x := c.num) (om)) rfl (.ah rfl rfl (.ah rfl rfl .nil)) ae rfl ?_)
 refine .nil ⟨rfl, ?_⟩
 refine .bT (n := 0) [6, 7] [] 0 rfl ao (.cn 6 rfl (Y.ql rfl rfl) (.cn 7 rfl (Y.qf rfl rfl) ?_))
 refine .nil (.done ao (.ret ?_))
 exact .rb rfl (dd wH)
 refine .sr (.vl (Y.ql rfl rfl) ?_)
 refine .an ?_
 refine .nil ?_
 refine .a8 rfl (fun yO => ?_) (fun yO => ?_)
 have hk := qG.k2 yO
 refine .seq (.sr ?_)
 refine .fa ct ?_
 refine .ld aV ?_
 refine .nil (.block (.sr ?_))
 refine .vl (Y.ql rfl rfl) ?_
 refine .an ?_
 refine .nil ?_
 refine .a8 rfl (fun Ib => ?_) (fun Ib => ?_)
 refine .sr ?_
 refine .mv ?_
 refine .vl (Y.qt (m := 0) az rfl rfl bf bw) (.vl (Y.za aV rfl (aB (d := 0) om) rfl rfl) (.vl (Y.ql rfl rfl) ?_))
 refine .mv ?_
 refine .ax (d := 62) rfl (fun Ic => ?_) (fun Ic => ?_)
 refine .gw 62 (Y.zg rfl rfl) (.gw 62 (Y.qt (m := 1) az rfl rfl bf om) (.gw 62 (Y.za aV rfl (aB (d := 0) om) rfl rfl) ?_))
 refine .gw 62 (Y.zg rfl rfl) (.gw 62 (Y.ql rfl rfl) ?_)
 refine .pk ?_
 refine .mv ?_
 refine .ax (d := 69) rfl (fun Gg => ?_) (fun Gg => ?_)
 refine .gw 69 (Y.zg rfl rfl) (.gw 69 (Y.qt (m := 2) az rfl rfl bf om) (.gw 69 (Y.za aV rfl (aB (d := 0) om) rfl rfl) ?_))
 refine .gw 69 (Y.zg rfl rfl) (.gw 69 (Y.ql rfl rfl) ?_)
 refine .pk ?_
 refine .an ?_
 refine .nil (.ret ?_)
 exact .rb rfl (dd (by (simp only [Fits, cp, ga, ← wM, yO, Int.reduceEq, Bool.not_eq_true, false_and, true_and, and_true, and_false, or_false, false_or, ne_eq]) <;> omega))
 refine .gz 69 (.gz 69 (.gz 69 ?_))
 refine .gz 69 (.gz 69 ?_)
 refine .pk ?_
 refine .an ?_
 refine .nil (.ret ?_)
 exact .rb rfl (df (by (simp only [Fits, cp, ga, ← wM, yO, Int.reduceEq, Bool.not_eq_true, false_and, true_and, and_true, and_false, or_false, false_or, ne_eq]) <;> omega))
 refine .gz 62 (.gz 62 (.gz 62 ?_))
 refine .gz 62 (.gz 62 ?_)
 refine .pk ?_
 refine .mv ?_
 refine .gz 69 (.gz 69 (.gz 69 ?_))
 refine .gz 69 (.gz 69 ?_)
 refine .pk ?_
 refine .an ?_
 refine .nil (.ret ?_)
 exact .rb rfl (df (by (simp only [Fits, cp, ga, ← wM, yO, Int.reduceEq, Bool.not_eq_true, false_and, true_and, and_true, and_false, or_false, false_or, ne_eq]) <;> omega))
 refine .seq (.sr (.vl (Y.ql rfl rfl) ?_))
 refine .an ?_
 refine .nil ?_
 refine .bx rfl (fun Aq => ?_) (fun Aq => ?_)
 refine .skip (.aM rfl (.sr ?_))
 refine .mv ?_
 refine .vl (Y.qt (m := 0) az rfl rfl bf bw) (.vl (Y.za aV rfl (aB (d := 0) om) rfl rfl) ?_)
 refine .mv ?_
 refine .vl (Y.qz rfl rfl) ?_
 refine .an ?_
 refine .nil (.ret ?_)
 exact .rb rfl (dd (by (simp only [Fits, cp, ga, ← wM, yO, Int.reduceEq, Bool.not_eq_true, false_and, true_and, and_true, and_false, or_false, false_or, ne_eq]) <;> omega))
 refine .region (.vl (Y.ql rfl rfl) ?_)
 refine .an ?_
 refine .nil ?_
 refine .bx rfl (fun Aq => ?_) (fun Aq => ?_)
 refine .sr ?_
 refine .mv ?_
 refine .vl (Y.qt (m := 0) az rfl rfl bf bw) (.vl (Y.za aV rfl (aB (d := 0) om) rfl rfl) ?_)
 refine .mv ?_
 refine .vl (Y.qz rfl rfl) ?_
 refine .an ?_
 refine .nil (.ret ?_)
 exact .rb rfl (dd (by (simp only [Fits, cp, ga, ← wM, yO, Int.reduceEq, Bool.not_eq_true, false_and, true_and, and_true, and_false, or_false, false_or, ne_eq]) <;> omega))
 refine .sr (.vl (Y.ql rfl rfl) ?_)
 refine .an ?_
 refine .nil ?_
 refine .a8 rfl (fun Ph => ?_) (fun Ph => ?_)
 refine .sr ?_
 refine .mv ?_
 refine .vl (Y.qt (m := 0) az rfl rfl bf bw) (.vl (Y.za aV rfl (aB (d := 0) om) rfl rfl) ?_)
 refine .mv ?_
 refine .vl (Y.qq rfl rfl) ?_
 refine .an ?_
 refine .nil (.ret ?_)
 exact .rb rfl (dd (by (simp only [Fits, cp, ga, ← wM, yO, Int.reduceEq, Bool.not_eq_true, false_and, true_and, and_true, and_false, or_false, false_or, ne_eq]) <;> omega))
 refine .skip (.seq (.sr ?_))
 refine .fa ct ?_
 refine .ld aV ?_
 refine .aH K0 (n4 (w := c.op)) rfl (.ah rfl rfl .nil) ae rfl (.nil ?_)
 refine .a8 rfl (fun AR => ?_) (fun AR => ?_)
 unfold ga at AR
 refine .seq (.fR rfl ao (.val (Y.zg rfl rfl) ae ?_))
 refine .val (Y.ql rfl rfl) ae (.val (Y.zg rfl rfl) ae ?_)
 refine .ax (d := 96) rfl (fun Gn => ?_) (fun Gn => ?_)
 refine .ar (d := 96) rfl ae rfl (.val (Y.zg rfl rfl) ae (.ar (d := 96) rfl ae rfl ?_))
 refine .val (Y.qt (m := 0) az rfl rfl bf om) ae (.ar (d := 96) rfl ae rfl (.val (Y.za aV rfl (aB (d := 0) om) rfl rfl) ae ?_))
 refine .ar (d := 96) rfl ae rfl (.val (Y.zg rfl rfl) ae (.ar (d := 96) rfl ae rfl ?_))
 refine .val (Y.qt (m := 1) az rfl rfl bf om) ae (.ar (d := 96) rfl ae rfl (.val (Y.za aV rfl (aB (d := 0) om) rfl rfl) ae ?_))
 refine .ar (d := 96) rfl ae rfl (.val (Y.ql rfl rfl) ae (.val (Y.zn rfl rfl rfl) ae ?_))
 refine .val (Y.qf rfl rfl) ae (.nil (.ret ?_))
 exact .rb rfl (dd (by (simp only [Fits, cp, ga, ← wM, yO, Int.reduceEq, Bool.not_eq_true, false_and, true_and, and_true, and_false, or_false, false_or, ne_eq]) <;> omega))
 refine .al (d := 96) rfl ae ae rfl rfl (.al (d := 96) rfl ae ae rfl rfl (.al (d := 96) rfl ae ae rfl rfl ?_))
 refine .al (d := 96) rfl ae ae rfl rfl (.al (d := 96) rfl ae ae rfl rfl (.al (d := 96) rfl ae ae rfl rfl ?_))
 refine .al (d := 96) rfl ae ae rfl rfl (.val (Y.zn rfl rfl rfl) ae (.val (Y.qf rfl rfl) ae ?_))
 refine .nil (.ret ?_)
 exact .rb rfl (df (by (simp only [Fits, cp, ga, ← wM, yO, Int.reduceEq, Bool.not_eq_true, false_and, true_and, and_true, and_false, or_false, false_or, ne_eq]) <;> omega))
 unfold ga at AR
 refine .skip (.sr ?_)
 refine .mv ?_
 refine .vl (Y.qt (m := 0) az rfl rfl bf bw) (.vl (Y.za aV rfl (aB (d := 0) om) rfl rfl) ?_)
 refine .mv ?_
 refine .vl (Y.ql rfl rfl) ?_
 refine .mv ?_
 refine .ax (d := 110) rfl (fun CU => ?_) (fun CU => ?_)
 refine .gw 110 (Y.zg rfl rfl) (.gw 110 (Y.qt (m := 1) az rfl rfl bf om) (.gw 110 (Y.za aV rfl (aB (d := 0) om) rfl rfl) ?_))
 refine .gw 110 (Y.zg rfl rfl) (.gw 110 (Y.ql rfl rfl) ?_)
 refine .pk ?_
 refine .an ?_
 refine .nil (.ret ?_)
 exact .rb rfl (dd (by (simp only [Fits, cp, ga, ← wM, yO, Int.reduceEq, Bool.not_eq_true, false_and, true_and, and_true, and_false, or_false, false_or, ne_eq]) <;> omega))
 refine .gz 110 (.gz 110 (.gz 110 ?_))
 refine .gz 110 (.gz 110 ?_)
 refine .pk ?_
 refine .an ?_
 refine .nil (.ret ?_)
 exact .rb rfl (df (by (simp only [Fits, cp, ga, ← wM, yO, Int.reduceEq, Bool.not_eq_true, false_and, true_and, and_true, and_false, or_false, false_or, ne_eq]) <;> omega))
 refine .sr (.vl (Y.ql rfl rfl) ?_)
 refine .an ?_
 refine .nil ?_
 refine .a8 rfl (fun oa => ?_) (fun oa => ?_)
 have hk := qG.k3 oa
 refine .seq (.sr ?_)
 refine .mv ?_
 refine .vl (Y.qx (n := c.args.length) az rfl rfl) ?_
 refine .mv ?_
 refine .nil (.block ?_)
 refine .fY (fun (cd : Nat) => ⟨[(5, vi iL), (119, .ba 106 1 0 c.args.length), (120, vi c.args.length), (121, vi cd)], [(106, .rows 1 (ll.map ai))]⟩) (fun cd => ((cd : Int) ≤ (c.args.length : Int)) ∧ (∀ k, k < cd → fj n c k)) (fun cd => ((c.args.length : Int) - (cd : Int)).toNat) 0 (⟨om, fun k hk => by omega⟩) (Le.mk (.c2 (.c (.cons (aj rfl bf) .nil))) (.c .nil)) (fun cd CY => ?_)
 obtain ⟨L0, hm⟩ := CY
 refine .sr (.vl (Y.zc rfl rfl) (.nil ?_))
 refine .seq ?_
 refine .a8 rfl (fun Ie => ?_) (fun Ie => ?_)
 refine .skip ?_
 refine .np (fun (kK : Bool) (kL : Bool) => ⟨[(5, vi iL), (119, .ba 106 1 0 c.args.length), (120, vi c.args.length), (121, vi cd), (134, vi cd), (135, vi ((cd : Int) % 2)), (136, .v (.bool (decide (((cd : Int) % 2) = 1)))), (137, .v (.bool kK)), (141, .v (.bool kL))], [(106, .rows 1 (ll.map ai))]⟩) (fun kK kL => ((((cd : Int) % 2) = 0) ∧ (¬ ((ll.getD cd 0) ≠ 1)) ∧ (((cd : Int) % 2) = 1) ∧ (¬ ((ll.getD cd 0) ≠ iL)) ∧ (kK = true) ∧ (kL = (decide ((ll.getD cd 0) ≠ iL)))) ∨ ((((cd : Int) % 2) = 0) ∧ (¬ ((ll.getD cd 0) ≠ 1)) ∧ (¬ (((cd : Int) % 2) = 1)) ∧ (kK = false) ∧ (kL = false)) ∨ ((¬ (((cd : Int) % 2) = 0)) ∧ (((cd : Int) % 2) = 1) ∧ (¬ ((ll.getD cd 0) ≠ iL)) ∧ (kK = true) ∧ (kL = (decide ((ll.getD cd 0) ≠ iL)))) ∨ ((¬ (((cd : Int) % 2) = 0)) ∧ (¬ (((cd : Int) % 2) = 1)) ∧ (kK = false) ∧ (kL = false))) ?_ (fun kK kL L1 => ?_)
 refine .block (.sr ?_)
 refine .mv ?_
 refine .vl (Y.qt (m := cd) az rfl rfl bf om) (.vl (Y.za aV rfl (aB (d := 0) om) rfl rfl) ?_)
 refine .an ?_
 refine .an ?_
 refine .nil (.sr ?_)
 refine .mv ?_
 refine .vl (Y.zs rfl rfl bw) (.vl (Y.ql rfl rfl) ?_)
 refine .mv ?_
 refine .ax (d := 129) rfl (fun sO => ?_) (fun sO => ?_)
 refine .gw 129 (Y.zg rfl rfl) (.gw 129 (Y.zk rfl rfl) ?_)
 refine .pk ?_
 refine .mv ?_
 refine .ax (d := 133) rfl (fun sP => ?_) (fun sP => ?_)
 refine .gz 133 (.gz 133 (.gz 133 ?_))
 refine .gz 133 (.gz 137 (.gz 137 ?_))
 refine .gz 137 (.gz 133 ?_)
 refine .pk ?_
 refine .nil (.aM rfl (.sr ?_))
 refine .an ?_
 refine .nil (.ret ?_)
 exact .rb rfl (df (fun h => by simp only [Fits, oa, Int.reduceEq, Bool.not_eq_true, false_and, true_and, and_true, and_false, or_false, false_or, ne_eq] at h; have h1 := h cd om; have h2 := ha cd om; unfold fj at h1; omega))
 refine .gw 133 (Y.zg rfl rfl) (.gw 133 (Y.zs rfl rfl om) ?_)
 refine .gw 133 (Y.ql rfl rfl) (.gw 133 (Y.zg rfl rfl) ?_)
 refine .ax (d := 137) rfl (fun oK => ?_) (fun oK => ?_)
 refine .gw 137 (Y.zg rfl rfl) (.gw 137 (Y.zg rfl rfl) (.gw 137 (Y.zk rfl rfl) ?_))
 refine .gw 133 (Y.zn rfl rfl rfl) ?_
 refine .pk ?_
 refine .nil ?_
 refine .a8 rfl (fun CZ => ?_) (fun CZ => ?_)
 refine .sr ?_
 refine .an ?_
 refine .nil (.ret ?_)
 exact .rb rfl (df (fun h => by simp only [Fits, oa, Int.reduceEq, Bool.not_eq_true, false_and, true_and, and_true, and_false, or_false, false_or, ne_eq] at h; have h1 := h cd om; have h2 := ha cd om; unfold fj at h1; omega))
 refine .skip (⟨true, decide ((ll.getD cd 0) ≠ iL), .inl ⟨sO, sP, oK, CZ, rfl, rfl⟩, Le.mk (.c4 (.c2 (.c (.cons (aF rfl fw) (.cons (aF rfl fw) .nil))))) (.c .nil)⟩)
 refine .gz 137 (.gz 137 (.gz 137 ?_))
 refine .gw 133 (Y.zn rfl rfl rfl) ?_
 refine .pk ?_
 refine .nil (.bO rfl (.skip ?_))
 exact ⟨false, false, .inr (.inl ⟨sO, sP, oK, rfl, rfl⟩), Le.mk (.c4 (.c2 (.c (.cons (aF rfl fw) (.cons (aF rfl fw) .nil))))) (.c .nil)⟩
 refine .gz 129 (.gz 129 ?_)
 refine .pk ?_
 refine .mv ?_
 refine .gw 133 (Y.zg rfl rfl) (.gw 133 (Y.zs rfl rfl om) ?_)
 refine .gw 133 (Y.ql rfl rfl) (.gw 133 (Y.zg rfl rfl) ?_)
 refine .ax (d := 137) rfl (fun oK => ?_) (fun oK => ?_)
 refine .gw 137 (Y.zg rfl rfl) (.gw 137 (Y.zg rfl rfl) (.gw 137 (Y.zk rfl rfl) ?_))
 refine .gw 133 (Y.zn rfl rfl rfl) ?_
 refine .pk ?_
 refine .nil ?_
 refine .a8 rfl (fun CZ => ?_) (fun CZ => ?_)
 refine .sr ?_
 refine .an ?_
 refine .nil (.ret ?_)
 exact .rb rfl (df (fun h => by simp only [Fits, oa, Int.reduceEq, Bool.not_eq_true, false_and, true_and, and_true, and_false, or_false, false_or, ne_eq] at h; have h1 := h cd om; have h2 := ha cd om; unfold fj at h1; omega))
 refine .skip (⟨true, decide ((ll.getD cd 0) ≠ iL), .inr (.inr (.inl ⟨sO, oK, CZ, rfl, rfl⟩)), Le.mk (.c4 (.c2 (.c (.cons (aF rfl fw) (.cons (aF rfl fw) .nil))))) (.c .nil)⟩)
 refine .gz 137 (.gz 137 (.gz 137 ?_))
 refine .gw 133 (Y.zn rfl rfl rfl) ?_
 refine .pk ?_
 refine .nil (.bO rfl (.skip ?_))
 exact ⟨false, false, .inr (.inr (.inr (⟨sO, oK, rfl, rfl⟩))), Le.mk (.c4 (.c2 (.c (.cons (aF rfl fw) (.cons (aF rfl fw) .nil))))) (.c .nil)⟩
 refine .region (.vl (Y.qb rfl rfl bw) ?_)
 refine .mv ?_
 refine .nil (⟨cd + 1, ⟨om, sm hm (by have h2 := ha cd om; unfold fj; omega)⟩, om, Le.mk (.c2 (.c (.cons (aj rfl bf) .nil))) (.c .nil)⟩)
 refine .exit (.sr ?_)
 refine .an ?_
 refine .nil (.ret ?_)
 exact .rb rfl (dt (by simp only [Fits, oa, Int.reduceEq, Bool.not_eq_true, false_and, true_and, and_true, and_false, or_false, false_or, ne_eq]; exact fun k hk => hm k om))
 refine .sr (.vl (Y.ql rfl rfl) ?_)
 refine .an ?_
 refine .nil ?_
 refine .a8 rfl (fun uZ => ?_) (fun uZ => ?_)
 have hk := qG.k4 uZ
 refine .seq (.fN rfl (.blind 0 rfl ao (aw.move rfl rfl) ae ?_))
 refine .one 1 rfl ao (.vl (Y.qt (m := 0) az rfl rfl bf bw) ?_)
 refine .nil ⟨rfl, ?_⟩
 refine .one 2 rfl ao (.vl (Y.za aV rfl (aB (d := 0) om) rfl rfl) ?_)
 refine .nil ⟨rfl, ?_⟩
 refine .one 3 rfl ao (.vl (Y.ql rfl rfl) ?_)
 refine .nil ⟨rfl, ?_⟩
 refine .blind 4 rfl ao (aw.move rfl rfl) ae ?_
 refine .ax (d := 150) rfl (fun Pj => ?_) (fun Pj => ?_)
 refine .dQ 5 rfl ao rfl ae rfl (aw.move rfl rfl) ae (.dQ 8 rfl ao rfl ae rfl (aw.move rfl rfl) ae (.one 6 rfl ao ?_))
 refine .gw 150 (Y.qt (m := 1) az rfl rfl bf om) ?_
 refine .nil ⟨rfl, ?_⟩
 refine .one 7 rfl ao (.gw 150 (Y.za aV rfl (aB (d := 0) om) rfl rfl) ?_)
 refine .nil ⟨rfl, ?_⟩
 refine .one 9 rfl ao (.gw 150 (Y.ql rfl rfl) ?_)
 refine .nil ⟨rfl, ?_⟩
 refine .one 10 rfl ao ?_
 refine .pk ?_
 refine .nil ⟨rfl, ?_⟩
 refine .blind 11 rfl ao (aw.move rfl rfl) ae ?_
 refine .ax (d := 157) rfl (fun va => ?_) (fun va => ?_)
 refine .dQ 12 rfl ao rfl ae rfl (aw.move rfl rfl) ae (.dQ 13 rfl ao rfl ae rfl (aw.fieldAddr dp rfl rfl) ae (.dQ 16 rfl ao rfl ae rfl (aw.fieldAddr dp rfl rfl) ae ?_))
 refine .two 14 17 rfl rfl ao ?_ ?_
 refine .gw 157 (Y.za fv rfl rfl rfl rfl) ?_
 refine .nil ⟨rfl, ?_⟩
 refine .two 15 17 rfl rfl ao ?_ ?_
 refine .ar (d := 157) rfl ae rfl (.aH zK (jX (w := iL) (x := c.num) (om)) rfl (.ah rfl rfl (.ah rfl rfl .nil)) ae rfl ?_)
 refine .nil ⟨rfl, ?_⟩
 refine .bT (n := 0) [17, 18, 19, 20] [] 0 rfl ao (.rn 17 rfl rfl rfl (Y.za fv rfl rfl rfl rfl) (.rn 18 rfl rfl rfl (Y.ql rfl rfl) ?_))
 refine .cn 19 rfl (Y.zn rfl rfl rfl) (.cn 20 rfl (Y.qf rfl rfl) (.nil ?_))
 refine .done ao (.ret ?_)
 exact .rb rfl (dd wH)
 refine .gw 157 (Y.za fv rfl rfl rfl rfl) ?_
 refine .nil ⟨rfl, ?_⟩
 refine .one 15 rfl ao (.ar (d := 157) rfl ae rfl ?_)
 refine .aH zK (jX (w := iL) (x := c.num) (om)) rfl (.ah rfl rfl (.ah rfl rfl .nil)) ae rfl ?_
 refine .nil ⟨rfl, ?_⟩
 refine .bT (n := 0) [18, 19, 20] [] 0 rfl ao (.rn 18 rfl rfl rfl (Y.ql rfl rfl) (.cn 19 rfl (Y.zn rfl rfl rfl) ?_))
 refine .cn 20 rfl (Y.qf rfl rfl) (.nil (.done ao ?_))
 refine .ret (.rb rfl (dd wH))
 refine .gw 157 (Y.za fv rfl rfl rfl rfl) ?_
 refine .nil ⟨rfl, ?_⟩
 refine .bT (n := 4) [14] [15, 18, 19, 20] 15 rfl ao (.rn 14 rfl rfl rfl (Y.za fv rfl rfl rfl rfl) (.nil ?_))
 refine .one 15 rfl ao (.ar (d := 157) rfl ae rfl ?_)
 refine .aH zK (jX (w := iL) (x := c.num) (om)) rfl (.ah rfl rfl (.ah rfl rfl .nil)) ae rfl ?_
 refine .nil ⟨rfl, ?_⟩
 refine .bT (n := 0) [18, 19, 20] [] 0 rfl ao (.rn 18 rfl rfl rfl (Y.ql rfl rfl) (.cn 19 rfl (Y.zn rfl rfl rfl) ?_))
 refine .cn 20 rfl (Y.qf rfl rfl) (.nil (.done ao ?_))
 refine .ret (.rb rfl (dd wH))
 refine .aZ 12 rfl ao rfl ae ae rfl rfl (.aZ 13 rfl ao rfl ae ae rfl rfl (.aZ 14 rfl ao rfl ae ae rfl rfl ?_))
 refine .aZ 15 rfl ao rfl ae ae rfl rfl (.aZ 16 rfl ao rfl ae ae rfl rfl (.aZ 17 rfl ao rfl ae ae rfl rfl ?_))
 refine .aZ 18 rfl ao rfl ae ae rfl rfl (.bT (n := 0) [19, 20] [] 0 rfl ao (.cn 19 rfl (Y.zn rfl rfl rfl) ?_))
 refine .cn 20 rfl (Y.qf rfl rfl) (.nil (.done ao ?_))
 refine .ret (.rb rfl (df wH))
 refine .aZ 5 rfl ao rfl ae ae rfl rfl (.aZ 6 rfl ao rfl ae ae rfl rfl (.aZ 7 rfl ao rfl ae ae rfl rfl ?_))
 refine .aZ 8 rfl ao rfl ae ae rfl rfl (.aZ 9 rfl ao rfl ae ae rfl rfl (.one 10 rfl ao ?_))
 refine .pk ?_
 refine .nil ⟨rfl, ?_⟩
 refine .blind 11 rfl ao (aw.move rfl rfl) ae (.aZ 12 rfl ao rfl ae ae rfl rfl (.aZ 13 rfl ao rfl ae ae rfl rfl ?_))
 refine .aZ 14 rfl ao rfl ae ae rfl rfl (.aZ 15 rfl ao rfl ae ae rfl rfl (.aZ 16 rfl ao rfl ae ae rfl rfl ?_))
 refine .aZ 17 rfl ao rfl ae ae rfl rfl (.aZ 18 rfl ao rfl ae ae rfl rfl (.bT (n := 0) [19, 20] [] 0 rfl ao ?_))
 refine .cn 19 rfl (Y.zn rfl rfl rfl) (.cn 20 rfl (Y.qf rfl rfl) (.nil ?_))
 refine .done ao (.ret ?_)
 exact .rb rfl (df wH)
 refine .sr (.vl (Y.ql rfl rfl) ?_)
 refine .an ?_
 refine .nil ?_
 refine .a8 rfl (fun Fb => ?_) (fun Fb => ?_)
 have hk := qG.k5 Fb
 refine .sr ?_
 refine .mv ?_
 refine .vl (Y.qt (m := 0) az rfl rfl bf bw) (.vl (Y.za aV rfl (aB (d := 0) om) rfl rfl) ?_)
 refine .mv ?_
 refine .vl (Y.ql rfl rfl) ?_
 refine .mv ?_
 refine .ax (d := 173) rfl (fun Pk => ?_) (fun Pk => ?_)
 refine .gw 173 (Y.zg rfl rfl) (.gw 173 (Y.qt (m := 1) az rfl rfl bf om) (.gw 173 (Y.za aV rfl (aB (d := 0) om) rfl rfl) ?_))
 refine .gw 173 (Y.zg rfl rfl) (.gw 173 (Y.ql rfl rfl) ?_)
 refine .pk ?_
 refine .an ?_
 refine .nil (.ret ?_)
 exact .rb rfl (dd wH)
 refine .gz 173 (.gz 173 (.gz 173 ?_))
 refine .gz 173 (.gz 173 ?_)
 refine .pk ?_
 refine .an ?_
 refine .nil (.ret ?_)
 exact .rb rfl (df wH)
 refine .sr (.vl (Y.ql rfl rfl) ?_)
 refine .an ?_
 refine .nil ?_
 refine .a8 rfl (fun Fc => ?_) (fun Fc => ?_)
 have hk := qG.k6 Fc
 refine .sr ?_
 refine .mv ?_
 refine .vl (Y.qt (m := 0) az rfl rfl bf bw) (.vl (Y.za aV rfl (aB (d := 0) om) rfl rfl) (.vl (Y.ql rfl rfl) ?_))
 refine .mv ?_
 refine .ax (d := 186) rfl (fun HZ => ?_) (fun HZ => ?_)
 refine .gw 186 (Y.qp ef rfl rfl) (.gw 186 (Y.za jS rfl rfl rfl rfl) (.gw 186 (Y.qp bU rfl rfl) ?_))
 refine .gw 186 (Y.za aV rfl rfl rfl rfl) (.gw 186 (Y.qs (m := (c.mem).toNat) iG rfl rfl om (aq (d := default) om)) ?_)
 refine .gw 186 (Y.qp nw rfl rfl) (.gw 186 (Y.za aV rfl rfl rfl rfl) (.gw 186 (Y.zg rfl rfl) ?_))
 refine .gw 186 (Y.ql rfl rfl) ?_
 refine .pk ?_
 refine .an ?_
 refine .nil (.ret ?_)
 exact .rb rfl (dd wH)
 refine .gz 186 (.gz 186 (.gz 186 ?_))
 refine .gz 186 (.gz 186 (.gz 186 ?_))
 refine .gz 186 (.gz 186 (.gz 186 ?_))
 refine .pk ?_
 refine .an ?_
 refine .nil (.ret ?_)
 exact .rb rfl (df wH)
 refine .sr (.vl (Y.ql rfl rfl) ?_)
 refine .an ?_
 refine .nil ?_
 refine .a8 rfl (fun Fe => ?_) (fun Fe => ?_)
 have hk := qG.k7 Fe
 refine .seq (.fR rfl ao (.val (Y.zg rfl rfl) ae ?_))
 refine .val (Y.qt (m := 0) az rfl rfl bf om) ae (.val (Y.za aV rfl (aB (d := 0) om) rfl rfl) ae ?_)
 refine .val (Y.ql rfl rfl) ae (.val (Y.zg rfl rfl) ae ?_)
 refine .ax (d := 203) rfl (fun Pm => ?_) (fun Pm => ?_)
 refine .ar (d := 203) rfl ae rfl (.val (Y.qp ef rfl rfl) ae (.ar (d := 203) rfl ae rfl ?_))
 refine .val (Y.za jS rfl rfl rfl rfl) ae (.ar (d := 203) rfl ae rfl (.val (Y.qp bU rfl rfl) ae ?_))
 refine .ar (d := 203) rfl ae rfl (.val (Y.za aV rfl rfl rfl rfl) ae (.ar (d := 203) rfl ae rfl ?_))
 refine .val (Y.qs (m := (c.mem).toNat) iG rfl rfl om (aq (d := default) om)) ae ?_
 refine .ar (d := 203) rfl ae rfl (.val (Y.qp nw rfl rfl) ae (.ar (d := 203) rfl ae rfl ?_))
 refine .val (Y.za aV rfl rfl rfl rfl) ae (.ar (d := 203) rfl ae rfl (.val (Y.zg rfl rfl) ae ?_))
 refine .ar (d := 203) rfl ae rfl (.val (Y.qt (m := 2) az rfl rfl bf om) ae (.ar (d := 203) rfl ae rfl (.val (Y.za aV rfl (aB (d := 0) om) rfl rfl) ae ?_)))
 refine .ar (d := 203) rfl ae rfl (.val (Y.ql rfl rfl) ae (.val (Y.zn rfl rfl rfl) ae ?_))
 refine .val (Y.qf rfl rfl) ae (.nil (.ret ?_))
 exact .rb rfl (dd wH)
 refine .al (d := 203) rfl ae ae rfl rfl (.al (d := 203) rfl ae ae rfl rfl (.al (d := 203) rfl ae ae rfl rfl ?_))
 refine .al (d := 203) rfl ae ae rfl rfl (.al (d := 203) rfl ae ae rfl rfl (.al (d := 203) rfl ae ae rfl rfl ?_))
 refine .al (d := 203) rfl ae ae rfl rfl (.al (d := 203) rfl ae ae rfl rfl (.al (d := 203) rfl ae ae rfl rfl ?_))
 refine .al (d := 203) rfl ae ae rfl rfl (.al (d := 203) rfl ae ae rfl rfl (.val (Y.zn rfl rfl rfl) ae ?_))
 refine .val (Y.qf rfl rfl) ae (.nil (.ret ?_))
 exact .rb rfl (df wH)
 refine .sr (.vl (Y.ql rfl rfl) ?_)
 refine .an ?_
 refine .nil ?_
 refine .a8 rfl (fun L2 => ?_) (fun L2 => ?_)
 have hk := qG.k8 L2
 refine .sr ?_
 refine .fa iZ ?_
 refine .ld aW ?_
 refine .fa dp ?_
 refine .ld fv ?_
 refine .vl (Y.qs (m := c.num) az rfl rfl bf (aq (d := 0) om)) ?_
 refine .ld aV ?_
 refine .mv ?_
 refine .vl (Y.ql rfl rfl) ?_
 refine .an ?_
 refine .nil (.ret ?_)
 exact .rb rfl (dd wH)
 refine .sr (.vl (Y.ql rfl rfl) ?_)
 refine .an ?_
 refine .nil ?_
 refine .a8 rfl (fun Pn => ?_) (fun Pn => ?_)
 refine .sr ?_
 refine .mv ?_
 refine .vl (Y.ql rfl rfl) ?_
 refine .an ?_
 refine .nil (.ret ?_)
 exact .rb rfl (dd wH)
 have JP : c.kind = 10 := by have := qG.kind; omega
 have hk := qG.JP JP
 refine .skip (.sr ?_)
 refine .fa cC ?_
 refine .ld fC ?_
 refine .fa bU ?_
 refine .ld aV ?_
 refine .vl (Y.qs (m := (c.mem).toNat) eG rfl rfl om (aq (d := default) om)) ?_
 refine .fa ny ?_
 refine .ld aV ?_
 refine .mv ?_
 refine .vl (Y.ql rfl rfl) ?_
 refine .an ?_
 refine .nil (.ret ?_)
 exact .rb rfl (dd (by (simp only [Fits, cp, ga, ← wM, JP, Int.reduceEq, Bool.not_eq_true, false_and, true_and, and_true, and_false, or_false, false_or, ne_eq]) <;> omega))
open Go Go.AW Go.Proofs
theorem vb {n : ab} {c : Cell} (hs : n.Small) (hf : aU n) (hc : c ∈ n.cells) : au Try.prog 101 [.agg (Cell.row c), .fp (ab.row n) 0] [] [] (fun r o => r = .v (.bool (!decide (Fits n c))) ∧ o = []) := by
 refine au.of Try.func101 rfl rfl rfl (n := 8) ae (aI rfl) (.sr (.box 102 rfl rfl rfl rfl rfl ae ?_))
 refine .an ?_
 refine .nil (.sr (.vl (Y.zb dD rfl rfl (aI rfl) rfl rfl) ?_))
 refine .vl (Y.zb dS rfl rfl (aI rfl) rfl rfl) (.aH Kh (Ar (n := n) (c := c) hs (hs.args _ hc) (hs.xj _ hc) (hf.cell hc).2.1 (hf.cell hc).FF) rfl (.ah rfl rfl (.ah rfl rfl .nil)) ae rfl (.vl (Y.zm rfl) ?_))
 refine .an ?_
 refine .nil (.ret ?_)
 exact .rb rfl (rfl)
theorem w5 {n : ab} (hs : n.Small) (hf : aU n) : au Try.prog 58 [.agg (ab.row n)] [] [] (fun r o => r = .v (.bool (decide (Fit n))) ∧ o = []) := by
 refine au.of Try.func58 rfl rfl rfl (n := 63) ae (aI rfl) ?_
 have IN := hf.cb; have M5 := hf.dR; have M6 := hf.bt; have EY := hf.freeze; have EZ := hf.done; unfold In at EY EZ; have Gm := hf.b8; have M7 := hf.bR
 refine .sr (.box 101 rfl rfl rfl rfl rfl ae ?_)
 refine .an ?_
 refine .nil (.seq (.sr ?_))
 refine .fa bu ?_
 refine .ld aW ?_
 refine .fa oE ?_
 refine .ld aV ?_
 refine .vl (Y.qs (m := (n.freeze).toNat) az rfl rfl om (aq (d := 0) om)) ?_
 refine .ld aV ?_
 refine .vl (Y.zk rfl rfl) ?_
 refine .mv ?_
 refine .ax (d := 12) rfl (fun EO => ?_) (fun EO => ?_)
 refine .gz 12 (.gz 12 (.gz 12 ?_))
 refine .gz 12 (.gz 12 (.gz 12 ?_))
 refine .gz 12 ?_
 refine .pk ?_
 refine .nil (.aM rfl (.sr ?_))
 refine .an ?_
 refine .nil (.ret ?_)
 exact .rb rfl (df (fun h => by have h1 := h.freeze; have h2 := h.done; unfold ab.wd at h1 h2; first | contradiction | omega))
 refine .gw 12 (Y.qp bu rfl rfl) (.gw 12 (Y.za aW rfl rfl rfl rfl) (.gw 12 (Y.qp pZ rfl rfl) ?_))
 refine .gw 12 (Y.za aV rfl rfl rfl rfl) (.gw 12 (Y.qs (m := (n.done).toNat) az rfl rfl om (aq (d := 0) om)) ?_)
 refine .gw 12 (Y.za aV rfl rfl rfl rfl) (.gw 12 (Y.zk rfl rfl) ?_)
 refine .pk ?_
 refine .nil ?_
 refine .a8 rfl (fun sA => ?_) (fun sA => ?_)
 refine .sr ?_
 refine .an ?_
 refine .nil (.ret ?_)
 exact .rb rfl (df (fun h => by have h1 := h.freeze; have h2 := h.done; unfold ab.wd at h1 h2; first | contradiction | omega))
 refine .skip (.seq (.sr ?_))
 refine .fa cC ?_
 refine .ld fC ?_
 refine .vl (Y.qx (n := n.streams.length) eG rfl cS) ?_
 refine .mv ?_
 refine .nil (.block ?_)
 refine .fY (fun (fT : Nat) => ⟨[(1, .ptr 101 0 0 0), (22, .fz 3 (n.streams.map bI.row)), (23, vi n.streams.length), (24, vi fT)], [(101, .cells (ab.row n))]⟩) (fun fT => ((fT : Int) ≤ (n.streams.length : Int)) ∧ (∀ j, j < fT → iE n j)) (fun fT => ((n.streams.length : Int) - (fT : Int)).toNat) 0 (⟨om, fun j hj => by omega⟩) (Le.mk (.c2 (.c (.cons (aj rfl bf) .nil))) (.c .nil)) (fun fT CD => ?_)
 obtain ⟨Lj, vy⟩ := CD
 refine .sr (.vl (Y.zc rfl rfl) (.nil ?_))
 refine .seq ?_
 refine .a8 rfl (fun EL => ?_) (fun EL => ?_)
 refine .skip ?_
 refine .np (fun (ya : Bool) (yb : Bool) => ⟨[(1, .ptr 101 0 0 0), (22, .fz 3 (n.streams.map bI.row)), (23, vi n.streams.length), (24, vi fT), (40, .ptr 104 0 0 2), (41, .v (.bool ((n.streams.getD fT default).out))), (42, .v (.bool ya)), (55, .v (.bool yb))], [(101, .cells (ab.row n)), (104, .cells [.v (.string ((n.streams.getD fT default).name)), vi ((n.streams.getD fT default).width), .v (.bool ((n.streams.getD fT default).out))])]⟩) (fun ya yb => iE n fT) ?_ (fun ya yb Dx => ?_)
 refine .block (.sr ?_)
 refine .mv ?_
 refine .vl (Y.qs (m := fT) eG rfl rfl bf (aq (d := default) om)) ?_
 refine .vl (Y.zb Ht rfl rfl (aI rfl) rfl rfl) (.alloc 104 px rfl rfl ae ?_)
 refine .an ?_
 refine .ak Hv rfl rfl rfl rfl rfl rfl (aI rfl) rfl (.nil (.seq ?_))
 refine .fR rfl ao ?_
 obtain ⟨_, _, IQ, HM, _⟩ := hf.strs fT om
 unfold In at IQ HM
 refine .val (Y.qp bu rfl rfl) ae (.val (Y.za aW rfl rfl rfl rfl) ae (.val (Y.qp jE rfl rfl) ae ?_))
 refine .val (Y.za aW rfl rfl rfl rfl) ae (.val (Y.zg rfl rfl) ae ?_)
 refine .val (Y.qs (m := fT) az rfl rfl bf (aq (d := 0) om)) ae (.val (Y.za aV rfl rfl rfl rfl) ae (.val (Y.qs (m := (n.aR.getD fT 0).toNat) az rfl rfl om (aq (d := 0) om)) ae ?_))
 refine .val (Y.za aV rfl rfl rfl rfl) ae (.val (Y.zk rfl rfl) ae (.val (Y.zg rfl rfl) ae ?_))
 refine .ax (d := 39) rfl (fun r7 => ?_) (fun r7 => ?_)
 refine .al (d := 39) rfl ae ae rfl rfl (.al (d := 39) rfl ae ae rfl rfl (.al (d := 39) rfl ae ae rfl rfl ?_))
 refine .al (d := 42) rfl ae ae rfl rfl (.al (d := 42) rfl ae ae rfl rfl (.al (d := 42) rfl ae ae rfl rfl ?_))
 refine .al (d := 42) rfl ae ae rfl rfl (.al (d := 42) rfl ae ae rfl rfl (.al (d := 42) rfl ae ae rfl rfl ?_))
 refine .al (d := 42) rfl ae ae rfl rfl (.al (d := 42) rfl ae ae rfl rfl (.al (d := 42) rfl ae ae rfl rfl ?_))
 refine .al (d := 42) rfl ae ae rfl rfl (.al (d := 42) rfl ae ae rfl rfl (.al (d := 42) rfl ae ae rfl rfl ?_))
 refine .al (d := 39) rfl ae ae rfl rfl (.val (Y.zn rfl rfl rfl) ae (.nil ?_))
 refine .aM rfl (.sr ?_)
 refine .an ?_
 refine .nil (.ret ?_)
 exact .rb rfl (df (fun h => by have h1 := h.strs fT om; unfold iE ab.wd at h1; grind))
 refine .ar (d := 39) rfl ae rfl (.val (Y.qp gU rfl rfl) ae (.ar (d := 39) rfl ae rfl ?_))
 refine .val (Y.za ta rfl rfl rfl rfl) ae (.ar (d := 39) rfl ae rfl (.val (Y.zg rfl rfl) ae ?_))
 refine .split (d := 42) rfl (fun wN => ?_) (fun wN => ?_)
 have IS := HM bm
 refine .ar (d := 42) rfl ae rfl (.val (Y.qp bu rfl rfl) ae (.ar (d := 42) rfl ae rfl ?_))
 refine .val (Y.za aW rfl rfl rfl rfl) ae (.ar (d := 42) rfl ae rfl (.val (Y.qp iF rfl rfl) ae ?_))
 refine .ar (d := 42) rfl ae rfl (.val (Y.za aW rfl rfl rfl rfl) ae (.ar (d := 42) rfl ae rfl ?_))
 refine .val (Y.zg rfl rfl) ae (.ar (d := 42) rfl ae rfl ?_)
 refine .val (Y.qs (m := fT) az rfl rfl bf (aq (d := 0) om)) ae ?_
 refine .ar (d := 42) rfl ae rfl (.val (Y.za aV rfl rfl rfl rfl) ae (.ar (d := 42) rfl ae rfl ?_))
 refine .val (Y.qs (m := (n.data.getD fT 0).toNat) az rfl rfl om (aq (d := 0) om)) ae ?_
 refine .ar (d := 42) rfl ae rfl (.val (Y.za aV rfl rfl rfl rfl) ae (.ar (d := 42) rfl ae rfl ?_))
 refine .val (Y.qp ny rfl rfl) ae (.ar (d := 42) rfl ae rfl (.val (Y.za aV rfl rfl rfl rfl) ae ?_))
 refine .ar (d := 42) rfl ae rfl (.val (Y.zk rfl rfl) ae (.ar (d := 39) rfl ae rfl ?_))
 refine .val (Y.zn rfl rfl rfl) ae (.val (Y.zn rfl rfl rfl) ae (.nil ?_))
 refine .a8 rfl (fun Ib => ?_) (fun Ib => ?_)
 refine .sr ?_
 refine .an ?_
 refine .nil (.ret ?_)
 exact .rb rfl (df (fun h => by have h1 := h.strs fT om; unfold iE ab.wd at h1; grind))
 refine .skip ⟨true, decide ((n.aa.getD ((n.data.getD fT 0).toNat) 0) ≠ ((n.streams.getD fT default).width)), by unfold iE ab.wd; grind, Le.mk (.c4 (.c2 (.cons (aF rfl fw) (.cons (aF rfl fw) .nil)))) (.c (.c .nil))⟩
 refine .al (d := 42) rfl ae ae rfl rfl (.al (d := 42) rfl ae ae rfl rfl (.al (d := 42) rfl ae ae rfl rfl ?_))
 refine .al (d := 42) rfl ae ae rfl rfl (.al (d := 42) rfl ae ae rfl rfl (.al (d := 42) rfl ae ae rfl rfl ?_))
 refine .al (d := 42) rfl ae ae rfl rfl (.al (d := 42) rfl ae ae rfl rfl (.al (d := 42) rfl ae ae rfl rfl ?_))
 refine .al (d := 42) rfl ae ae rfl rfl (.al (d := 42) rfl ae ae rfl rfl (.al (d := 42) rfl ae ae rfl rfl ?_))
 refine .ar (d := 39) rfl ae rfl (.val (Y.zn rfl rfl rfl) ae (.val (Y.zn rfl rfl rfl) ae ?_))
 refine .nil (.bO rfl (.skip ?_))
 exact ⟨false, false, by unfold iE ab.wd; grind, Le.mk (.c4 (.c2 (.cons (aF rfl fw) (.cons (aF rfl fw) .nil)))) (.c (.c .nil))⟩
 refine .region (.vl (Y.qb rfl rfl bw) ?_)
 refine .mv ?_
 refine .nil (⟨fT + 1, ⟨om, cT vy Dx⟩, om, Le.mk (.c2 (.c (.cons (aj rfl bf) .nil))) (.c .nil)⟩)
 refine .exit (.sr ?_)
 refine .fa bL ?_
 refine .ld eT ?_
 refine .sh (Sh.cW 101 rfl rfl) (.vl (Y.zd rfl rfl rfl rfl) ?_)
 refine .aH Kf (mP (l := n.cells) (p := fun z => !decide (Fits n z)) (om) Kg (fun z hz => vb hs hf hz)) rfl (.ah rfl rfl (.ah rfl rfl .nil)) ae rfl ?_
 refine .vl (Y.zm rfl) ?_
 refine .an ?_
 refine .nil (.ret ?_)
 exact .rb rfl (db (vK (by unfold ab.wd; omega) (by unfold ab.wd; omega) (fun j hj => vy j om)))
open Go Go.AW Go.Proofs
theorem oQ {n : ab} (hs : n.Small) (SH : n.aa.length + n.ins.length ≤ 17592186044416) : au Try.prog 20 [.agg (ab.row n)] [] [] (fun r o => ∃ (l : List Int) (e : Int), nv n l e ∧ r = .tup [.ei 1 (l.map ai), vi e] ∧ o = []) := by
 refine au.of Try.func20 rfl rfl rfl (n := 169) ae (aI rfl) (.sr (.box 101 rfl rfl rfl rfl rfl ae ?_))
 refine .an ?_
 refine .an ?_
 refine .nil (.seq (.sr ?_))
 refine .vl (Y.zb dD rfl rfl (aI rfl) rfl rfl) (.aH NG (w4 (n := n) hs (om)) rfl (.ah rfl rfl .nil) ae rfl ?_)
 refine .vl (Y.zm rfl) (.nil ?_)
 refine .dB rfl (fun nY => ?_) (fun nY => ?_)
 refine .sr ?_
 refine .an ?_
 refine .an ?_
 refine .nil (.sh (Sh.z2 (d := 2) 1 rfl) (.ret ?_))
 exact ⟨_, _, rfl, rfl, ([] : List Int), 3, .inl ⟨bm, rfl, rfl⟩, rfl, rfl⟩
 have hf : aU n := by assumption
 refine .skip (.seq (.sr ?_))
 refine .vl (Y.zb dD rfl rfl (aI rfl) rfl rfl) (.aH NH (w5 (n := n) hs bm) rfl (.ah rfl rfl .nil) ae rfl (.vl (Y.zm rfl) ?_))
 refine .nil ?_
 refine .dB rfl (fun EL => ?_) (fun EL => ?_)
 refine .sr ?_
 refine .an ?_
 refine .an ?_
 refine .nil (.sh (Sh.z2 (d := 2) 1 rfl) (.ret ?_))
 exact ⟨_, _, rfl, rfl, ([] : List Int), 13, .inr (.inl ⟨bm, bm, rfl, rfl⟩), rfl, rfl⟩
 have QS : Fit n := by assumption
 have ML := hf.bR; have Qi := hf.b8
 refine .skip (.sr ?_)
 refine .an ?_
 refine .sh (Sh.nil (d := 4) 104 1 rfl ae) (.nil (.sr ?_))
 refine .fa bL ?_
 refine .ld eT ?_
 refine .vl (Y.qx (n := n.cells.length) dr rfl cS) (.makeSlice (n := n.cells.length) az ey rfl rfl rfl rfl om om ae ?_)
 refine .dy rfl ae (.sh (Sh.ep (d := 5) (n := n.cells.length) 105 ((List.replicate n.cells.length 0).map ai) rfl jJ (b5 (by simp)) ae) (.nil ?_))
 refine .sr ?_
 refine .fa bu ?_
 refine .ld aW ?_
 refine .vl (Y.qx (n := n.aa.length) az rfl cS) (.makeSlice (n := n.aa.length) tk zN rfl rfl rfl rfl om om ae ?_)
 refine .sh (Sh.DZ (d := 33) 1 rfl) (.dy rfl ae (.sh (Sh.ep (d := 6) (n := n.aa.length) 106 ((List.replicate n.aa.length []).map mL) rfl jJ (b5 (by simp)) ae) ?_))
 refine .nil (.sr ?_)
 refine .fa bu ?_
 refine .ld aW ?_
 refine .vl (Y.qx (n := n.aa.length) az rfl cS) (.makeSlice (n := n.aa.length) mN Mp rfl rfl rfl rfl om om ae ?_)
 refine .dy rfl ae (.sh (Sh.ep (d := 7) (n := n.aa.length) 107 ((List.replicate n.aa.length false).map fI) rfl jJ (b5 (by simp)) ae) (.nil ?_))
 refine .seq (.sr ?_)
 refine .fa bL ?_
 refine .ld eT ?_
 refine .vl (Y.qx (n := n.cells.length) dr rfl cS) ?_
 refine .mv ?_
 refine .nil (.block ?_)
 refine .e0 (fun (gk : Nat) (ek : List Bool) => ⟨[(1, .ptr 101 0 0 0), (4, .ba 104 1 0 0), (5, .ba 105 1 0 n.cells.length), (6, .ba 106 1 0 n.aa.length), (7, .ba 107 1 0 n.aa.length), (39, .fz 6 (n.cells.map Cell.row)), (40, vi n.cells.length), (41, vi gk)], [(101, .cells (ab.row n)), (104, .rows 1 (([] : List Int).map ai)), (105, .rows 1 ((List.replicate n.cells.length 0).map ai)), (106, .rows 1 ((List.replicate n.aa.length []).map mL)), (107, .rows 1 (ek.map fI))]⟩) (fun gk ek => (ek.length = n.aa.length) ∧ ((gk : Int) ≤ (n.cells.length : Int)) ∧ (fc n gk ek)) (fun gk ek => ((n.cells.length : Int) - (gk : Int)).toNat) 0 (List.replicate n.aa.length false) (⟨gu, gu, fc.init n⟩) (Le.mk (.c4 (.c2 (.c (.cons (aj rfl bf) .nil)))) (.c4 (.c .nil))) (fun gk ek xY => ?_)
 obtain ⟨L3, HY, Po⟩ := xY
 refine .sr (.vl (Y.zc rfl rfl) (.nil ?_))
 refine .seq ?_
 refine .a8 rfl (fun wN => ?_) (fun wN => ?_)
 refine .skip ?_
 refine .fb (fun (ka : List Bool) => ⟨[(1, .ptr 101 0 0 0), (4, .ba 104 1 0 0), (5, .ba 105 1 0 n.cells.length), (6, .ba 106 1 0 n.aa.length), (7, .ba 107 1 0 n.aa.length), (39, .fz 6 (n.cells.map Cell.row)), (40, vi n.cells.length), (41, vi gk)], [(101, .cells (ab.row n)), (104, .rows 1 (([] : List Int).map ai)), (105, .rows 1 ((List.replicate n.cells.length 0).map ai)), (106, .rows 1 ((List.replicate n.aa.length []).map mL)), (107, .rows 1 (ka.map fI))]⟩) (fun ka => (ka.length = n.aa.length) ∧ (fc n (gk + 1) ka)) ?_ (fun ka L4 => ?_)
 refine .block (.sr ?_)
 refine .vl (Y.qs (m := gk) dr rfl rfl bf (aq (d := default) om)) ?_
 refine .vl (Y.zb dS rfl rfl (aI rfl) rfl rfl) (.alloc 109 dM rfl rfl ae (.ak eE rfl rfl rfl rfl rfl rfl (aI rfl) rfl ?_))
 refine .nil (.sr ?_)
 refine .fa bP ?_
 refine .ld aV ?_
 refine .aH zH (jY (w := ((n.cells.getD gk default).kind))) rfl (.ah rfl rfl .nil) ae rfl (.nil ?_)
 refine .a8 rfl (fun IT => ?_) (fun IT => ?_)
 have IU := hf.eF (b6.iW (n := n) (i := (gk : Int)) ⟨⟨om, om⟩, IT⟩)
 rw [l2] at IU
 have tu := IU; unfold In at tu
 refine .region ?_
 refine .mv ?_
 refine .fa cN ?_
 refine .ld aV ?_
 refine .vl (Y.qt (m := ((n.cells.getD gk default).out).toNat) mN rfl rfl om om) (.dC ((ek.set (((n.cells.getD gk default).out).toNat) true).map fI) IA rfl rfl rfl rfl rfl rfl rfl (aB (d := false) om) (aI rfl) (ck rfl) (.nil (⟨ek.set (((n.cells.getD gk default).out).toNat) true, ⟨gu, Po.step om L3 IT IU⟩, Le.mk (.c4 (.c2 (.c (.c .nil)))) (.c4 (.c .nil))⟩)))
 refine .skip (⟨ek, ⟨om, Po.skip IT⟩, Le.mk (.c4 (.c2 (.c (.c .nil)))) (.c4 (.c .nil))⟩)
 obtain ⟨IV, Pp⟩ := L4
 refine .region (.vl (Y.qb rfl rfl om) ?_)
 refine .mv ?_
 refine .nil (⟨gk + 1, ka, ⟨om, om, Pp⟩, om, Le.mk (.c4 (.c2 (.c (.cons (aj rfl bf) .nil)))) (.c4 (.c .nil))⟩)
 refine .exit (.seq (.seq ?_))
 have L5 : fc n n.cells.length ek := by rw [show n.cells.length = gk by omega]; exact Po
 refine .region ?_
 refine .fa bL ?_
 refine .ld eT ?_
 refine .vl (Y.qx (n := n.cells.length) dr rfl cS) ?_
 refine .mv ?_
 refine .nil (.block ?_)
 refine .e0 (fun (gl : Nat) (eD : List Int) => ⟨[(1, .ptr 101 0 0 0), (4, .ba 104 1 0 eD.length), (5, .ba 105 1 0 n.cells.length), (6, .ba 106 1 0 n.aa.length), (7, .ba 107 1 0 n.aa.length), (54, .fz 6 (n.cells.map Cell.row)), (55, vi n.cells.length), (56, vi gl)], [(101, .cells (ab.row n)), (104, .rows 1 (eD.map ai)), (105, .rows 1 ((List.replicate n.cells.length 0).map ai)), (106, .rows 1 ((List.replicate n.aa.length []).map mL)), (107, .rows 1 (ek.map fI))]⟩) (fun gl eD => ((gl : Int) ≤ (n.cells.length : Int)) ∧ (eD = fJ n gl)) (fun gl eD => ((n.cells.length : Int) - (gl : Int)).toNat) 0 ([] : List Int) (⟨gu, rfl⟩) (Le.mk (.c (.cons (bV rfl gu) (.c4 (.c (.cons (aj rfl bf) .nil))))) (.c4 (.c .nil))) (fun gl eD Da => ?_)
 obtain ⟨L6, M8⟩ := Da
 refine .sr (.vl (Y.zc rfl rfl) (.nil ?_))
 refine .seq ?_
 refine .a8 rfl (fun OT => ?_) (fun OT => ?_)
 refine .skip ?_
 refine .fb (fun (lD : List Int) => ⟨[(1, .ptr 101 0 0 0), (4, .ba 104 1 0 lD.length), (5, .ba 105 1 0 n.cells.length), (6, .ba 106 1 0 n.aa.length), (7, .ba 107 1 0 n.aa.length), (54, .fz 6 (n.cells.map Cell.row)), (55, vi n.cells.length), (56, vi gl)], [(101, .cells (ab.row n)), (104, .rows 1 (lD.map ai)), (105, .rows 1 ((List.replicate n.cells.length 0).map ai)), (106, .rows 1 ((List.replicate n.aa.length []).map mL)), (107, .rows 1 (ek.map fI))]⟩) (fun lD => lD = fJ n (gl + 1)) ?_ (fun lD Pq => ?_)
 refine .block (.sr ?_)
 refine .mv ?_
 refine .vl (Y.qs (m := gl) dr rfl rfl bf (aq (d := default) om)) ?_
 refine .vl (Y.zb dS rfl rfl (aI rfl) rfl rfl) (.alloc 111 dM rfl rfl ae ?_)
 refine .an ?_
 refine .ak eE rfl rfl rfl rfl rfl rfl (aI rfl) rfl (.nil (.sr ?_))
 have IF := BK n gl; rw [← M8] at IF
 refine .fa bP ?_
 refine .ld aV ?_
 refine .aH zH (jY (w := ((n.cells.getD gl default).kind))) rfl (.ah rfl rfl .nil) ae rfl (.vl (Y.zm rfl) (.nil ?_))
 refine .dB rfl (fun As => ?_) (fun As => ?_)
 refine .region ?_
 refine .mv ?_
 refine .mv ?_
 refine .buildSlice (([(gl : Int)] : List Int).map ai) az ey rfl rfl rfl rfl rfl (aA (s := 1) (f := ai) (fun _ => rfl)) rfl rfl rfl ae ?_
 refine .dW ai (eD ++ ([(gl : Int)] : List Int)) az ey rfl rfl rfl rfl (bK gu) (bq gu) (cD gu) gu gu ae ae ?_
 refine .an ?_
 refine .nil ⟨eD ++ ([(gl : Int)] : List Int), by rw [pW, if_neg As, M8], Le.mk (.c (.cons (bV rfl om) (.c4 (.c (.c .nil))))) (.c4 (.c .nil))⟩
 refine .skip ⟨eD, by rw [pW, if_pos As, M8, List.append_nil], Le.mk (.c (.cons (bV rfl om) (.c4 (.c (.c .nil))))) (.c4 (.c .nil))⟩
 refine .region (.vl (Y.qb rfl rfl om) ?_)
 refine .mv ?_
 refine .nil (⟨gl + 1, lD, ⟨om, Pq⟩, om, Le.mk (.c (.cons (bV rfl om) (.c4 (.c (.cons (aj rfl bf) .nil))))) (.c4 (.c .nil))⟩)
 refine .exit (.sr ?_)
 refine .an ?_
 refine .sh (Sh.nil (d := 12) 112 1 rfl ae) (.nil (.seq ?_))
 refine .sr ?_
 refine .fa bL ?_
 refine .ld eT ?_
 refine .vl (Y.qx (n := n.cells.length) dr rfl cS) ?_
 refine .mv ?_
 refine .nil (.block ?_)
 refine .vF (fun (bG : Nat) (cV : List Int) (bg : List (List Int)) (de : List Int) => ⟨[(1, .ptr 101 0 0 0), (4, .ba 104 1 0 eD.length), (5, .ba 105 1 0 n.cells.length), (6, .ba 106 1 0 n.aa.length), (7, .ba 107 1 0 n.aa.length), (12, .ba 112 1 0 de.length), (71, .fz 6 (n.cells.map Cell.row)), (72, vi n.cells.length), (73, vi bG)], [(101, .cells (ab.row n)), (104, .rows 1 (eD.map ai)), (105, .rows 1 (cV.map ai)), (106, .rows 1 (bg.map mL)), (107, .rows 1 (ek.map fI)), (112, .rows 1 (de.map ai))]⟩) (fun bG cV bg de => (cV.length = n.cells.length) ∧ (bg.length = n.aa.length) ∧ ((bG : Int) ≤ (n.cells.length : Int)) ∧ (BI n bG cV bg de)) (fun bG cV bg de => ((n.cells.length : Int) - (bG : Int)).toNat) 0 (List.replicate n.cells.length 0) (List.replicate n.aa.length []) ([] : List Int) (⟨gu, gu, gu, BI.init n⟩) (Le.mk (.c4 (.c (.cons (bV rfl gu) (.c2 (.cons (aj rfl bf) .nil))))) (.c4 (.c (.c .nil)))) (fun bG cV bg de Pr => ?_)
 obtain ⟨uo, yN, SP, Ig⟩ := Pr
 refine .sr (.vl (Y.zc rfl rfl) (.nil ?_))
 refine .seq ?_
 refine .a8 rfl (fun qH => ?_) (fun qH => ?_)
 refine .skip ?_
 refine .vE (fun (fo : List Int) (jd : List (List Int)) (ik : List Int) => ⟨[(1, .ptr 101 0 0 0), (4, .ba 104 1 0 eD.length), (5, .ba 105 1 0 n.cells.length), (6, .ba 106 1 0 n.aa.length), (7, .ba 107 1 0 n.aa.length), (12, .ba 112 1 0 ik.length), (71, .fz 6 (n.cells.map Cell.row)), (72, vi n.cells.length), (73, vi bG)], [(101, .cells (ab.row n)), (104, .rows 1 (eD.map ai)), (105, .rows 1 (fo.map ai)), (106, .rows 1 (jd.map mL)), (107, .rows 1 (ek.map fI)), (112, .rows 1 (ik.map ai))]⟩) (fun fo jd ik => (fo.length = n.cells.length) ∧ ((jd.length = n.aa.length) ∧ (BI n (bG + 1) fo jd ik))) ?_ (fun fo jd ik L7 => ?_)
 refine .block (.sr ?_)
 refine .mv ?_
 refine .vl (Y.qs (m := bG) dr rfl rfl bf (aq (d := default) om)) ?_
 refine .vl (Y.zb dS rfl rfl (aI rfl) rfl rfl) (.alloc 114 dM rfl rfl ae ?_)
 refine .an ?_
 refine .ak eE rfl rfl rfl rfl rfl rfl (aI rfl) rfl (.nil (.seq ?_))
 refine .sr ?_
 have QO := hs.args (n.cells.getD bG default) (dZ om)
 have Fj := Ig.rl
 refine .fa bP ?_
 refine .ld aV ?_
 refine .aH zH (jY (w := ((n.cells.getD bG default).kind))) rfl (.ah rfl rfl .nil) ae rfl (.vl (Y.zm rfl) (.nil ?_))
 refine .dB rfl (fun Dz => ?_) (fun Dz => ?_)
 refine .exit (⟨cV, bg, de, ⟨om, ⟨om, Ig.skip om Dz⟩⟩, Le.mk (.c4 (.c (.cons (bV rfl om) (.c2 (.c .nil))))) (.c4 (.c (.c .nil)))⟩)
 refine .skip (.seq (.sr ?_))
 refine .fa bF ?_
 refine .ld aW ?_
 refine .vl (Y.qx (n := ((n.cells.getD bG default).args).length) az rfl cS) ?_
 refine .mv ?_
 refine .nil (.block ?_)
 refine .jt (fun (eg : Nat) (cL : List Int) (dx : List (List Int)) => ⟨[(1, .ptr 101 0 0 0), (4, .ba 104 1 0 eD.length), (5, .ba 105 1 0 n.cells.length), (6, .ba 106 1 0 n.aa.length), (7, .ba 107 1 0 n.aa.length), (12, .ba 112 1 0 de.length), (13, vi bG), (71, .fz 6 (n.cells.map Cell.row)), (72, vi n.cells.length), (73, vi bG), (83, .fz 1 (((n.cells.getD bG default).args).map ai)), (84, vi ((((n.cells.getD bG default).args).length : Nat) : Int)), (85, vi eg)], [(101, .cells (ab.row n)), (104, .rows 1 (eD.map ai)), (105, .rows 1 (cL.map ai)), (106, .rows 1 (dx.map mL)), (107, .rows 1 (ek.map fI)), (112, .rows 1 (de.map ai))]⟩) (fun eg cL dx => (cL.length = n.cells.length) ∧ (dx.length = n.aa.length) ∧ ((eg : Int) ≤ ((((n.cells.getD bG default).args).length : Nat) : Int)) ∧ (BJ n bG eg cV bg cL dx)) (fun eg cL dx => (((((n.cells.getD bG default).args).length : Nat) : Int) - (eg : Int)).toNat) 0 cV bg (⟨om, om, om, BJ.init Ig om⟩) (Le.mk (.c8 (.c4 (.cons (aj rfl bf) .nil))) (.c4 (.c (.c .nil)))) (fun eg cL dx CY => ?_)
 obtain ⟨uo, yN, L0, IW⟩ := CY
 refine .sr (.vl (Y.zc rfl rfl) (.nil ?_))
 refine .seq ?_
 refine .a8 rfl (fun Ih => ?_) (fun Ih => ?_)
 refine .skip ?_
 refine .np (fun (fq : List Int) (je : List (List Int)) => ⟨[(1, .ptr 101 0 0 0), (4, .ba 104 1 0 eD.length), (5, .ba 105 1 0 n.cells.length), (6, .ba 106 1 0 n.aa.length), (7, .ba 107 1 0 n.aa.length), (12, .ba 112 1 0 de.length), (13, vi bG), (71, .fz 6 (n.cells.map Cell.row)), (72, vi n.cells.length), (73, vi bG), (83, .fz 1 (((n.cells.getD bG default).args).map ai)), (84, vi ((((n.cells.getD bG default).args).length : Nat) : Int)), (85, vi eg)], [(101, .cells (ab.row n)), (104, .rows 1 (eD.map ai)), (105, .rows 1 (fq.map ai)), (106, .rows 1 (je.map mL)), (107, .rows 1 (ek.map fI)), (112, .rows 1 (de.map ai))]⟩) (fun fq je => (fq.length = n.cells.length) ∧ ((je.length = n.aa.length) ∧ (BJ n bG (eg + 1) cV bg fq je))) ?_ (fun fq je L8 => ?_)
 refine .block (.sr ?_)
 refine .vl (Y.qs (m := eg) az rfl rfl bf (aq (d := 0) om)) ?_
 refine .ld aV ?_
 refine .an ?_
 refine .nil (.sr ?_)
 have IX := hf.ia (i := (bG : Int)) ⟨om, om⟩ (br (i := eg) (by rw [l2]; omega))
 rw [l2] at IX
 have Ps := IX; unfold In at Ps
 have ug := IW.GZ
 have ET := BJ.len Ig IW IX
 have Mx := BM hs (bG + 1); rw [sq om] at Mx
 refine .mv ?_
 refine .mv ?_
 refine .vl (Y.qt (m := (((n.cells.getD bG default).args).getD eg 0).toNat) mN rfl rfl om om) (.vl (Y.za ta rfl (aB (d := false) om) rfl rfl) (.nil ?_))
 refine .cond rfl (fun Gq => ?_) (fun Gq => ?_)
 refine .sr ?_
 refine .mv ?_
 refine .mv ?_
 refine .vl (Y.qt (m := bG) az rfl rfl bf om) (.vl (Y.za aV rfl (aB (d := 0) gu) rfl rfl) (.vl (Y.qb rfl rfl om) (.vl (Y.qt (m := bG) az rfl rfl bf om) (.dC ((cL.set bG ((cL.getD bG 0) + 1)).map ai) eQ rfl rfl rfl rfl rfl rfl rfl (aB (d := 0) om) (aI rfl) (ck rfl) ?_))))
 refine .nil (.region ?_)
 refine .mv ?_
 refine .mv ?_
 refine .mv ?_
 refine .mv ?_
 refine .vl (Y.qt (m := (((n.cells.getD bG default).args).getD eg 0).toNat) tk rfl rfl om om) (.JN ((dx.map mL).set (0 + ((((n.cells.getD bG default).args).getD eg 0).toNat)) [.no]) aW rfl rfl (aB (d := []) om) rfl rfl ae ?_)
 refine .mv ?_
 refine .buildSlice (([(bG : Int)] : List Int).map ai) az ey rfl rfl rfl rfl rfl (aA (s := 1) (f := ai) (fun _ => rfl)) rfl rfl rfl ae ?_
 refine .sh (Sh.ep (d := 104) (n := (dx.getD ((((n.cells.getD bG default).args).getD eg 0).toNat) []).length) 204 ((dx.getD ((((n.cells.getD bG default).args).getD eg 0).toNat) []).map ai) rfl jJ (b5 rfl) ae) (.dW ai ((dx.getD ((((n.cells.getD bG default).args).getD eg 0).toNat) []) ++ ([(bG : Int)] : List Int)) az ey rfl rfl rfl rfl (bK gu) (bq gu) (cD gu) gu gu ae ae (.vl (Y.qt (m := (((n.cells.getD bG default).args).getD eg 0).toNat) tk rfl rfl om om) (.sh (Sh.kX (d := 107) (o := 204) rfl rfl (b5 om) ae) (.DX ((dx.set ((((n.cells.getD bG default).args).getD eg 0).toNat) ((dx.getD ((((n.cells.getD bG default).args).getD eg 0).toNat) []) ++ ([(bG : Int)] : List Int))).map mL) fm rfl rfl rfl (Ea om) ae (Bz rfl) (.nil (⟨cL.set bG ((cL.getD bG 0) + 1), dx.set ((((n.cells.getD bG default).args).getD eg 0).toNat) ((dx.getD ((((n.cells.getD bG default).args).getD eg 0).toNat) []) ++ ([(bG : Int)] : List Int)), ⟨gu, ⟨gu, IW.step om uo yN om IX ((fc.all L5 IX).1 Gq)⟩⟩, Le.mk (.c8 (.c4 (.c .nil))) (.c4 (.c (.c .nil)))⟩))))))
 refine .skip (⟨cL, dx, ⟨om, ⟨om, IW.skip om (fun h => by rw [(fc.all L5 IX).2 h] at Gq; cases Gq)⟩⟩, Le.mk (.c8 (.c4 (.c .nil))) (.c4 (.c (.c .nil)))⟩)
 obtain ⟨IY, IZ, Ii⟩ := L8
 refine .region (.vl (Y.qb rfl rfl om) ?_)
 refine .mv ?_
 refine .nil (⟨eg + 1, fq, je, ⟨om, om, om, Ii⟩, om, Le.mk (.c8 (.c4 (.cons (aj rfl bf) .nil))) (.c4 (.c (.c .nil)))⟩)
 refine .exit (.sr ?_)
 refine .mv ?_
 refine .mv ?_
 refine .vl (Y.qt (m := bG) az rfl rfl bf om) (.vl (Y.za aV rfl (aB (d := 0) gu) rfl rfl) ?_)
 refine .vl (Y.ql rfl rfl) (.nil ?_)
 refine .a8 rfl (fun vc => ?_) (fun vc => ?_)
 refine .region ?_
 refine .mv ?_
 refine .mv ?_
 refine .buildSlice (([(bG : Int)] : List Int).map ai) az ey rfl rfl rfl rfl rfl (aA (s := 1) (f := ai) (fun _ => rfl)) rfl rfl rfl ae ?_
 refine .dW ai (de ++ ([(bG : Int)] : List Int)) az ey rfl rfl rfl rfl (bK gu) (bq gu) (cD gu) gu gu ae ae ?_
 refine .an ?_
 refine .nil (⟨cL, dx, de ++ ([(bG : Int)] : List Int), ⟨om, ⟨om, (BJ.fin Ig om Dz (by rw [show (n.cells.getD bG default).args.length = eg by omega]; exact IW)).1 vc⟩⟩, Le.mk (.c4 (.c (.cons (bV rfl om) (.c2 (.c .nil))))) (.c4 (.c (.c .nil)))⟩)
 refine .skip (⟨cL, dx, de, ⟨om, ⟨om, (BJ.fin Ig om Dz (by rw [show (n.cells.getD bG default).args.length = eg by omega]; exact IW)).2 vc⟩⟩, Le.mk (.c4 (.c (.cons (bV rfl om) (.c2 (.c .nil))))) (.c4 (.c (.c .nil)))⟩)
 obtain ⟨Ja, Jb, Pt⟩ := L7
 refine .region (.vl (Y.qb rfl rfl om) ?_)
 refine .mv ?_
 refine .nil (⟨bG + 1, fo, jd, ik, ⟨om, om, om, Pt⟩, om, Le.mk (.c4 (.c (.cons (bV rfl om) (.c2 (.cons (aj rfl bf) .nil))))) (.c4 (.c (.c .nil)))⟩)
 refine .exit (.seq (.block ?_))
 have Ij : BI n n.cells.length cV bg de := by rw [show n.cells.length = bG by omega]; exact Ig
 have QT := Ij.us
 refine .sh (Sh.kX (d := 6) (o := 106) rfl rfl (b5 om) ae) (.sh (Sh.xi (d := 6) (l := bg) (f := mL) (g := nq) BA rfl) ?_)
 refine .jt (fun (fF : List Int) (eW : List Int) (aN : List Int) => ⟨[(1, .ptr 101 0 0 0), (4, .ba 104 1 0 fF.length), (5, .ba 105 1 0 n.cells.length), (6, .fz 1 (bg.map nq)), (12, .ba 112 1 0 aN.length)], [(101, .cells (ab.row n)), (104, .rows 1 (fF.map ai)), (105, .rows 1 (eW.map ai)), (112, .rows 1 (aN.map ai))]⟩) (fun fF eW aN => (eW.length = n.cells.length) ∧ (∃ done, fF = fJ n n.cells.length ++ done ∧ KI n done aN eW)) (fun fF eW aN => n.cells.length - fF.length) eD cV de (⟨om, ⟨[], by rw [M8, show gl = n.cells.length by omega, List.append_nil], Ij.ki⟩⟩) (Le.mk (.c (.cons (bV rfl om) (.c2 (.cons (bV rfl om) .nil)))) (.c2 (.c (.c .nil)))) (fun fF eW aN Pu => ?_)
 obtain ⟨uo, hK⟩ := Pu
 refine .seq (.sr ?_)
 refine .mv ?_
 refine .vl (Y.qx (n := aN.length) az rfl rfl) (.vl (Y.qr rfl rfl) (.nil ?_))
 refine .a8 rfl (fun Ie => ?_) (fun Ie => ?_)
 obtain ⟨done, mK, wE⟩ := hK
 have qP := wE.len
 rw [← mK] at qP
 have oV := wE.cm (aN.getD 0 0) (List.mem_append.2 (.inr (br om)))
 have RQ := oV.1
 have Ff := hf.eF oV.iW
 have Ik := Ff; unfold In ab.cell at Ik
 have FA : ∀ x, b6 n x → (bg.getD (((n.cells.getD ((aN.getD 0 0).toNat) default).out).toNat) []).count x = (n.cell x).args.count (n.cell (aN.getD 0 0)).out := fun x hx => QT.Eg _ x Ff ⟨_, oV, rfl⟩ hx
 have M9 : ∀ x ∈ (bg.getD (((n.cells.getD ((aN.getD 0 0).toNat) default).out).toNat) []), b6 n x := fun x hx => QT.mem _ x Ff hx
 have SQ := Ij.ul _ Ff; unfold ab.cell at SQ
 have Mx := BM hs n.cells.length
 refine .skip (.block (.sr ?_))
 refine .mv ?_
 refine .vl (Y.qt (m := 0) az rfl rfl bf om) (.vl (Y.za aV rfl (aB (d := 0) gu) rfl rfl) ?_)
 refine .an ?_
 refine .nil (.sr ?_)
 refine .mv ?_
 refine .vl (Y.zx (l := 1) (h := aN.length) az rfl (.some rfl) (.none _) om om) ?_
 refine .an ?_
 refine .sh (Sh.Fy (d := 12) (o := 112) ((aN.drop 1).map ai) rfl rfl gu (z8 gu) ae) ?_
 refine .nil (.sr ?_)
 refine .mv ?_
 refine .mv ?_
 refine .buildSlice (([aN.getD 0 0] : List Int).map ai) az ey rfl rfl rfl rfl rfl (aA (s := 1) (f := ai) (fun _ => rfl)) rfl rfl rfl ae ?_
 refine .dW ai (fF ++ ([aN.getD 0 0] : List Int)) az ey rfl rfl rfl rfl (bK gu) (bq gu) (cD gu) gu gu ae ae ?_
 refine .an ?_
 refine .nil (.sr ?_)
 refine .mv ?_
 refine .fa bL ?_
 refine .ld eT ?_
 refine .mv ?_
 refine .vl (Y.qs (m := (aN.getD 0 0).toNat) dr rfl rfl om (aq (d := default) om)) ?_
 refine .fa cN ?_
 refine .ld aV ?_
 refine .vl (Y.qs (m := ((n.cells.getD ((aN.getD 0 0).toNat) default).out).toNat) tk rfl rfl om (aq (d := []) om)) ?_
 refine .ld aW ?_
 refine .vl (Y.qx (n := (bg.getD (((n.cells.getD ((aN.getD 0 0).toNat) default).out).toNat) []).length) az rfl cS) ?_
 refine .mv ?_
 refine .nil (.block ?_)
 refine .jt (fun (cX : Nat) (cu : List Int) (eX : List Int) => ⟨[(1, .ptr 101 0 0 0), (4, .ba 104 1 0 ((fF ++ ([aN.getD 0 0] : List Int)).length)), (5, .ba 105 1 0 n.cells.length), (6, .fz 1 (bg.map nq)), (12, .ba 112 1 0 eX.length), (140, .fz 1 ((bg.getD (((n.cells.getD ((aN.getD 0 0).toNat) default).out).toNat) []).map ai)), (141, vi (((bg.getD (((n.cells.getD ((aN.getD 0 0).toNat) default).out).toNat) []).length : Nat) : Int)), (142, vi cX)], [(101, .cells (ab.row n)), (104, .rows 1 ((fF ++ ([aN.getD 0 0] : List Int)).map ai)), (105, .rows 1 (cu.map ai)), (112, .rows 1 (eX.map ai))]⟩) (fun cX cu eX => (cu.length = n.cells.length) ∧ ((cX : Int) ≤ (((bg.getD (((n.cells.getD ((aN.getD 0 0).toNat) default).out).toNat) []).length : Nat) : Int)) ∧ (KJ n done (aN.getD 0 0) (bg.getD (((n.cells.getD ((aN.getD 0 0).toNat) default).out).toNat) []) cX eX cu)) (fun cX cu eX => ((((bg.getD (((n.cells.getD ((aN.getD 0 0).toNat) default).out).toNat) []).length : Nat) : Int) - (cX : Int)).toNat) 0 eW (aN.drop 1) (⟨gu, gu, KJ.init wE om⟩) (Le.mk (.c4 (.cons (bV rfl gu) (.c2 (.cons (aj rfl bf) .nil)))) (.c2 (.c (.c .nil)))) (fun cX cu eX Pv => ?_)
 obtain ⟨uo, SR, MA⟩ := Pv
 refine .sr (.vl (Y.zc rfl rfl) (.nil ?_))
 refine .seq ?_
 refine .a8 rfl (fun Il => ?_) (fun Il => ?_)
 refine .skip ?_
 refine .fb (fun (il : List Int) => ⟨[(1, .ptr 101 0 0 0), (4, .ba 104 1 0 ((fF ++ ([aN.getD 0 0] : List Int)).length)), (5, .ba 105 1 0 n.cells.length), (6, .fz 1 (bg.map nq)), (12, .ba 112 1 0 il.length), (140, .fz 1 ((bg.getD (((n.cells.getD ((aN.getD 0 0).toNat) default).out).toNat) []).map ai)), (141, vi (((bg.getD (((n.cells.getD ((aN.getD 0 0).toNat) default).out).toNat) []).length : Nat) : Int)), (142, vi cX)], [(101, .cells (ab.row n)), (104, .rows 1 ((fF ++ ([aN.getD 0 0] : List Int)).map ai)), (105, .rows 1 ((cu.set (((bg.getD (((n.cells.getD ((aN.getD 0 0).toNat) default).out).toNat) []).getD cX 0).toNat) ((cu.getD (((bg.getD (((n.cells.getD ((aN.getD 0 0).toNat) default).out).toNat) []).getD cX 0).toNat) 0) - 1)).map ai)), (112, .rows 1 (il.map ai))]⟩) (fun il => KJ n done (aN.getD 0 0) (bg.getD (((n.cells.getD ((aN.getD 0 0).toNat) default).out).toNat) []) (cX + 1) il (cu.set ((bg.getD (((n.cells.getD ((aN.getD 0 0).toNat) default).out).toNat) []).getD cX 0).toNat (cu.getD ((bg.getD (((n.cells.getD ((aN.getD 0 0).toNat) default).out).toNat) []).getD cX 0).toNat 0 - 1))) ?_ (fun il Pw => ?_)
 refine .block (.sr ?_)
 refine .vl (Y.qs (m := cX) az rfl rfl bf (aq (d := 0) om)) ?_
 refine .ld aV ?_
 refine .an ?_
 refine .nil (.sr ?_)
 have No := MA.bound hf hs om FA M9
 have Uj := (M9 _ (br (l := (bg.getD (((n.cells.getD ((aN.getD 0 0).toNat) default).out).toNat) [])) (i := cX) om)).1
 refine .mv ?_
 refine .mv ?_
 refine .vl (Y.qt (m := ((bg.getD (((n.cells.getD ((aN.getD 0 0).toNat) default).out).toNat) []).getD cX 0).toNat) az rfl rfl om om) (.vl (Y.za aV rfl (aB (d := 0) gu) rfl rfl) (.vl (Y.zz rfl rfl om) (.vl (Y.qt (m := ((bg.getD (((n.cells.getD ((aN.getD 0 0).toNat) default).out).toNat) []).getD cX 0).toNat) az rfl rfl om om) (.dC ((cu.set (((bg.getD (((n.cells.getD ((aN.getD 0 0).toNat) default).out).toNat) []).getD cX 0).toNat) ((cu.getD (((bg.getD (((n.cells.getD ((aN.getD 0 0).toNat) default).out).toNat) []).getD cX 0).toNat) 0) - 1)).map ai) eQ rfl rfl rfl rfl rfl rfl rfl (aB (d := 0) om) (aI rfl) (ck rfl) ?_))))
 refine .nil (.sr ?_)
 refine .mv ?_
 refine .mv ?_
 refine .vl (Y.qt (m := ((bg.getD (((n.cells.getD ((aN.getD 0 0).toNat) default).out).toNat) []).getD cX 0).toNat) az rfl rfl om om) (.vl (Y.za aV rfl (aB (d := 0) gu) rfl rfl) ?_)
 refine .vl (Y.ql rfl rfl) (.nil ?_)
 refine .a8 rfl (fun yd => ?_) (fun yd => ?_)
 rw [bs, if_pos ⟨rfl, om⟩] at yd
 refine .region ?_
 refine .mv ?_
 refine .mv ?_
 refine .buildSlice (([(bg.getD (((n.cells.getD ((aN.getD 0 0).toNat) default).out).toNat) []).getD cX 0] : List Int).map ai) az ey rfl rfl rfl rfl rfl (aA (s := 1) (f := ai) (fun _ => rfl)) rfl rfl rfl ae ?_
 refine .dW ai (eX ++ ([(bg.getD (((n.cells.getD ((aN.getD 0 0).toNat) default).out).toNat) []).getD cX 0] : List Int)) az ey rfl rfl rfl rfl (bK gu) (bq gu) (cD gu) gu gu ae ae ?_
 refine .an ?_
 refine .nil ⟨eX ++ ([(bg.getD (((n.cells.getD ((aN.getD 0 0).toNat) default).out).toNat) []).getD cX 0] : List Int), (MA.step hf uo om FA M9).1 yd, Le.mk (.c4 (.cons (bV rfl om) (.c2 (.c .nil)))) (.c2 (.c (.c .nil)))⟩
 rw [bs, if_pos ⟨rfl, om⟩] at yd
 refine .skip ⟨eX, (MA.step hf uo om FA M9).2 yd, Le.mk (.c4 (.cons (bV rfl om) (.c2 (.c .nil)))) (.c2 (.c (.c .nil)))⟩
 refine .region (.vl (Y.qb rfl rfl om) ?_)
 refine .mv ?_
 refine .nil (⟨cX + 1, cu.set (((bg.getD (((n.cells.getD ((aN.getD 0 0).toNat) default).out).toNat) []).getD cX 0).toNat) ((cu.getD (((bg.getD (((n.cells.getD ((aN.getD 0 0).toNat) default).out).toNat) []).getD cX 0).toNat) 0) - 1), il, ⟨gu, gu, Pw⟩, om, Le.mk (.c4 (.cons (bV rfl gu) (.c2 (.cons (aj rfl bf) .nil)))) (.c2 (.c (.c .nil)))⟩)
 refine .exit (⟨fF ++ ([aN.getD 0 0] : List Int), cu, eX, ⟨om, ⟨done ++ [(aN.getD 0 0)], by rw [mK, List.append_assoc], KJ.fin hf wE (br om) (by rw [show (bg.getD (((n.cells.getD ((aN.getD 0 0).toNat) default).out).toNat) []).length = cX by omega]; exact MA) FA⟩⟩, by rw [List.length_append]; simp only [List.length_cons, List.length_nil]; omega, Le.mk (.c (.cons (bV rfl om) (.c2 (.cons (bV rfl om) .nil)))) (.c2 (.c (.c .nil)))⟩)
 obtain ⟨done, mK, wE⟩ := hK
 have SS : aN = [] := List.eq_nil_of_length_eq_zero om
 subst SS
 refine .exit (.seq (.sr ?_))
 refine .mv ?_
 refine .vl (Y.qx (n := fF.length) az rfl rfl) ?_
 refine .fa bL ?_
 refine .ld eT ?_
 refine .vl (Y.qx (n := n.cells.length) dr rfl cS) (.vl (Y.zc rfl rfl) (.nil ?_))
 refine .a8 rfl (fun CX => ?_) (fun CX => ?_)
 refine .sr ?_
 refine .an ?_
 refine .an ?_
 refine .nil (.sh (Sh.z2 (d := 2) 1 rfl) (.ret ?_))
 exact ⟨_, _, rfl, rfl, ([] : List Int), 12, .inr (.inr (.inl ⟨hf, QS, wE.FH (by rw [← mK]; omega), rfl, rfl⟩)), rfl, rfl⟩
 refine .skip (.sr ?_)
 refine .mv ?_
 refine .an ?_
 refine .sh (Sh.kX (d := 2) (o := 104) rfl rfl (b5 om) ae) ?_
 refine .an ?_
 refine .nil (.ret ?_)
 exact ⟨_, _, rfl, rfl, fF, 0, .inr (.inr (.inr ⟨hf, QS, (wE.ok hf (by rw [← mK]; omega)).1, by rw [mK]; exact (wE.ok hf (by rw [← mK]; omega)).2, rfl⟩)), rfl, rfl⟩
open Go Go.AW Go.Proofs
theorem jq {n : ab} (hM : VT n) : au Try.prog 46 [.agg (ab.row n)] [] [] (fun r o => ∃ l at_ : List Int, Ord n l ∧ vk n at_ ∧ r = .tup [.ei 1 (at_.map ai), vi 0] ∧ o = []) := by
 refine au.of Try.func46 rfl rfl rfl (n := 67) ae (aI rfl) ?_
 have hs := hM.small; have hf := hM.formed; have Ct := hM.bR; have Gf := hM.b8; have sa := hM.ic; have tD := hM.iS; have HH := hM.bt; have FV := hf.cb; have IG := hf.dR; have Ha := hM.pY; have MB := hM.fit; have MC := hM.acyclic
 refine .sr (.box 101 rfl rfl rfl rfl rfl ae ?_)
 refine .an ?_
 refine .an ?_
 refine .nil (.seq (.sh (Sh.cW 101 rfl rfl) ?_))
 refine .region (.vl (Y.zb dD rfl rfl (aI rfl) rfl rfl) (.kh Hk (oQ (n := n) hs om) rfl (.ah rfl rfl .nil) ae ?_))
 rintro _ ⟨iT, SU, Im, rfl, _⟩
 refine ⟨rfl, ?_⟩
 refine .jK rfl ae (.e6 rfl rfl ae (.vl (Y.qn rfl rfl rfl) ?_))
 refine .dy rfl ae (.sh (Sh.dg (d := 4) (iT.map ai) rfl jJ (cQ.map aE)) ?_)
 refine .an ?_
 refine .nil (.seq (.seq ?_))
 obtain ⟨hO, QU⟩ := Im.ok hf MB MC; have wX := hO.len
 refine .region ?_
 refine .mv ?_
 refine .vl (Y.zk rfl rfl) (.nil ?_)
 refine .a8 rfl (fun oq => ?_) (fun oq => ?_)
 exact absurd QU oq
 refine .skip (.sr ?_)
 refine .fa bu ?_
 refine .ld aW ?_
 refine .vl (Y.qx (n := n.aa.length) az rfl cS) (.makeSlice (n := n.aa.length) az ey rfl rfl rfl rfl om om ae ?_)
 refine .dy rfl ae (.sh (Sh.ep (d := 6) (n := n.aa.length) 106 ((List.replicate n.aa.length 0).map ai) rfl jJ (b5 (by simp)) ae) (.nil ?_))
 refine .seq (.sr ?_)
 refine .mv ?_
 refine .vl (Y.qx (n := iT.length) az rfl cS) ?_
 refine .mv ?_
 refine .nil (.block ?_)
 refine .e0 (fun (bN : Nat) (g8 : List Int) => ⟨[(1, .fp (ab.row n) 0), (6, .ba 106 1 0 n.aa.length), (25, .fz 1 (iT.map ai)), (26, vi iT.length), (27, vi bN)], [(106, .rows 1 (g8.map ai))]⟩) (fun bN g8 => (g8.length = n.aa.length) ∧ ((bN : Int) ≤ (iT.length : Int)) ∧ (kQ n iT bN g8)) (fun bN g8 => ((iT.length : Int) - (bN : Int)).toNat) 0 (List.replicate n.aa.length 0) (⟨oS, oS, kQ.init⟩) (Le.mk (.c4 (.cons (aj rfl bf) .nil)) (.c .nil)) (fun bN g8 Lz => ?_)
 obtain ⟨yN, QP, hA⟩ := Lz
 refine .sr (.vl (Y.zc rfl rfl) (.nil ?_))
 refine .seq ?_
 refine .a8 rfl (fun tm => ?_) (fun tm => ?_)
 refine .skip ?_
 refine .fb (fun (lE : List Int) => ⟨[(1, .fp (ab.row n) 0), (6, .ba 106 1 0 n.aa.length), (25, .fz 1 (iT.map ai)), (26, vi iT.length), (27, vi bN)], [(106, .rows 1 (lE.map ai))]⟩) (fun lE => (lE.length = n.aa.length) ∧ (kQ n iT (bN + 1) lE)) ?_ (fun lE L9 => ?_)
 refine .block (.sr ?_)
 refine .vl (Y.qs (m := bN) az rfl rfl bf (aq (d := 0) om)) ?_
 refine .ld aV ?_
 refine .an ?_
 refine .nil (.seq ?_)
 have h8 := hO.og (iT.getD bN 0) (br om)
 refine .region ?_
 refine .fa bL ?_
 refine .ld eT ?_
 refine .mv ?_
 refine .vl (Y.qs (m := (iT.getD bN 0).toNat) dr rfl rfl om (aq (d := default) om)) ?_
 refine .vl (Y.zb dS rfl rfl (aI rfl) rfl rfl) (.alloc 109 dM rfl rfl ae (.ak eE rfl rfl rfl rfl rfl rfl (aI rfl) rfl ?_))
 refine .nil (.seq (.seq ?_))
 have h9 := sa (n.cells.getD (iT.getD bN 0).toNat default) (getD_in om); have SV := hf.cells (iT.getD bN 0).toNat om; have Uk := x8 hf (j := (iT.getD bN 0).toNat) om
 refine .region ?_
 refine .fa cN ?_
 refine .ld aV ?_
 refine .vl (Y.zc rfl rfl) (.nil ?_)
 refine .a8 rfl (fun SW => ?_) (fun SW => ?_)
 refine .exit (⟨g8, ⟨om, by first | exact hA.FU hf hO om bm CO | exact hA.skip hO om (yG hf om bm)⟩, Le.mk (.c4 (.c .nil)) (.c .nil)⟩)
 refine .skip (.sr ?_)
 refine .an ?_
 refine .nil ?_
 refine .fb (fun (nT : Int) => ⟨[(1, .fp (ab.row n) 0), (6, .ba 106 1 0 n.aa.length), (9, .ptr 109 0 0 0), (10, vi nT), (25, .fz 1 (iT.map ai)), (26, vi iT.length), (27, vi bN)], [(106, .rows 1 (g8.map ai)), (109, .cells [vi ((n.cells.getD ((iT.getD bN 0).toNat) default).kind), vi ((n.cells.getD ((iT.getD bN 0).toNat) default).op), vi ((n.cells.getD ((iT.getD bN 0).toNat) default).out), .fz 1 (((n.cells.getD ((iT.getD bN 0).toNat) default).args).map ai), .v (.int .u64 (((n.cells.getD ((iT.getD bN 0).toNat) default).num : Nat) : Int)), vi ((n.cells.getD ((iT.getD bN 0).toNat) default).mem)])]⟩) (fun nT => nT = (if bJ (n.cells.getD (iT.getD bN 0).toNat default).kind then gG g8 (n.cells.getD (iT.getD bN 0).toNat default).args else 0)) ?_ (fun nT CO => ?_)
 refine .sr ?_
 refine .fa bP ?_
 refine .ld aV ?_
 refine .aH zH (jY (w := ((n.cells.getD ((iT.getD bN 0).toNat) default).kind))) rfl (.ah rfl rfl .nil) ae rfl (.nil ?_)
 refine .a8 rfl (fun tt => ?_) (fun tt => ?_)
 refine .sr ?_
 refine .fa bF ?_
 refine .ld aW ?_
 refine .vl (Y.qx (n := ((n.cells.getD ((iT.getD bN 0).toNat) default).args).length) az rfl cS) ?_
 refine .mv ?_
 refine .nil (.block ?_)
 refine .e0 (fun (n9 : Int) (gY : Nat) => ⟨[(1, .fp (ab.row n) 0), (6, .ba 106 1 0 n.aa.length), (9, .ptr 109 0 0 0), (10, vi n9), (25, .fz 1 (iT.map ai)), (26, vi iT.length), (27, vi bN), (43, .fz 1 (((n.cells.getD ((iT.getD bN 0).toNat) default).args).map ai)), (44, vi ((((n.cells.getD ((iT.getD bN 0).toNat) default).args).length : Nat) : Int)), (45, vi gY)], [(106, .rows 1 (g8.map ai)), (109, .cells [vi ((n.cells.getD ((iT.getD bN 0).toNat) default).kind), vi ((n.cells.getD ((iT.getD bN 0).toNat) default).op), vi ((n.cells.getD ((iT.getD bN 0).toNat) default).out), .fz 1 (((n.cells.getD ((iT.getD bN 0).toNat) default).args).map ai), .v (.int .u64 (((n.cells.getD ((iT.getD bN 0).toNat) default).num : Nat) : Int)), vi ((n.cells.getD ((iT.getD bN 0).toNat) default).mem)])]⟩) (fun n9 gY => ((gY : Int) ≤ ((((n.cells.getD ((iT.getD bN 0).toNat) default).args).length : Nat) : Int)) ∧ (n9 = gG g8 ((n.cells.getD (iT.getD bN 0).toNat default).args.take gY))) (fun n9 gY => (((((n.cells.getD ((iT.getD bN 0).toNat) default).args).length : Nat) : Int) - (gY : Int)).toNat) 0 0 (⟨om, rfl⟩) (Le.mk (.c2 (.c (.cons (aj rfl bf) (.c4 (.c (.cons (aj rfl bf) .nil)))))) (.c (.c .nil))) (fun n9 gY Px => ?_)
 obtain ⟨SX, ht⟩ := Px
 refine .sr (.vl (Y.zc rfl rfl) (.nil ?_))
 refine .seq ?_
 refine .a8 rfl (fun xM => ?_) (fun xM => ?_)
 refine .skip (.seq (.block ?_))
 refine .sr (.vl (Y.qs (m := gY) az rfl rfl bf (aq (d := 0) om)) ?_)
 refine .ld aV ?_
 refine .an ?_
 refine .nil ?_
 have SY := SV.1 ((n.cells.getD (iT.getD bN 0).toNat default).args.getD gY 0) (br om); unfold In at SY
 refine .region ?_
 refine .mv ?_
 refine .mv ?_
 refine .mv ?_
 refine .vl (Y.qt (m := (((n.cells.getD ((iT.getD bN 0).toNat) default).args).getD gY 0).toNat) az rfl rfl om om) (.vl (Y.za aV rfl (aB (d := 0) om) rfl rfl) (.vl (Y.ze rfl rfl rfl) ?_))
 refine .an ?_
 refine .nil (.region ?_)
 refine .vl (Y.qb rfl rfl bw) ?_
 refine .mv ?_
 refine .nil (⟨if (g8.getD ((((n.cells.getD ((iT.getD bN 0).toNat) default).args).getD gY 0).toNat) 0) > n9 then (g8.getD ((((n.cells.getD ((iT.getD bN 0).toNat) default).args).getD gY 0).toNat) 0) else n9, gY + 1, ⟨om, vX ht om⟩, om, Le.mk (.c2 (.c (.cons (aj rfl bf) (.c4 (.c (.cons (aj rfl bf) .nil)))))) (.c (.c .nil))⟩)
 refine .exit ⟨n9, by first | (rw [if_pos bm, ht, show gY = (n.cells.getD (iT.getD bN 0).toNat default).args.length by omega, List.take_length]) | rw [if_neg bm], Le.mk (.c2 (.c (.cons (aj rfl bf) (.c2 (.c .nil))))) (.c (.c .nil))⟩
 refine .skip ⟨0, by first | (rw [if_pos bm, ht, show gY = (n.cells.getD (iT.getD bN 0).toNat default).args.length by omega, List.take_length]) | rw [if_neg bm], Le.mk (.c2 (.c (.cons (aj rfl bf) (.c2 (.c .nil))))) (.c (.c .nil))⟩
 have Ul := hA.Ol hM hO om CO; have SZ := hM.eJ (i := (iT.getD bN 0).toNat) om
 refine .eU [109] [106, 109] rfl (.blind 0 rfl ao (aw.move rfl rfl) ae (.blind 1 rfl ao (aw.fieldAddr cN rfl rfl) ae ?_))
 refine .load 2 rfl ao aV rfl rfl rfl rfl rfl ae (.blind 3 rfl ao (aw.move rfl rfl) ae (.e8 4 rfl ao dD rfl rfl rfl (aI rfl) rfl rfl ae ?_))
 refine .e8 5 rfl ao dS rfl rfl rfl (aI rfl) rfl rfl ae (.AP rfl rfl (cq.cells rfl rfl rfl cq.nil) (.one 6 rfl ao ?_))
 refine .aH zI (jc (n := n) (c := (n.cells.getD ((iT.getD bN 0).toNat) default)) hf.p3 (hf.cells _ om) (sa _ (getD_in om)) om) rfl (.ah rfl rfl (.ah rfl rfl .nil)) ae rfl ?_
 refine .nil ⟨rfl, ?_⟩
 refine .one 7 rfl ao (.vl (Y.qb rfl rfl bw) ?_)
 refine .nil ⟨rfl, ?_⟩
 refine .one 8 rfl ao (.vl (Y.qt (m := ((n.cells.getD ((iT.getD bN 0).toNat) default).out).toNat) az rfl rfl om om) ?_)
 refine .nil ⟨rfl, ?_⟩
 refine .one 9 rfl ao (.dC ((g8.set (((n.cells.getD ((iT.getD bN 0).toNat) default).out).toNat) (nT + (eJ n (n.cells.getD ((iT.getD bN 0).toNat) default)))).map ai) eQ rfl rfl rfl rfl rfl rfl rfl (aB (d := 0) om) (aI rfl) (ck rfl) ?_)
 refine .nil ⟨rfl, ?_⟩
 refine .done ao (⟨g8.set (((n.cells.getD ((iT.getD bN 0).toNat) default).out).toNat) (nT + (eJ n (n.cells.getD ((iT.getD bN 0).toNat) default))), ⟨oS, by first | exact hA.FU hf hO om bm CO | exact hA.skip hO om (yG hf om bm)⟩, Le.mk (.c4 (.c .nil)) (.c .nil)⟩)
 obtain ⟨Jc, Py⟩ := L9
 refine .region (.vl (Y.qb rfl rfl bw) ?_)
 refine .mv ?_
 refine .nil (⟨bN + 1, lE, ⟨om, om, Py⟩, om, Le.mk (.c4 (.cons (aj rfl bf) .nil)) (.c .nil)⟩)
 refine .exit (.sr ?_)
 refine .mv ?_
 refine .an ?_
 refine .sh (Sh.kX (d := 2) (o := 106) rfl rfl (b5 om) ae) ?_
 refine .an ?_
 refine .nil (.ret ?_)
 exact ⟨_, _, rfl, rfl, iT, g8, hO, hA.done hO om, rfl, rfl⟩
end Go.Proofs.Ytligpghohcfpnaa
