/- Walks through the specification of delays. -/
import Derived.Test.YtlimckldnjmabaaSynx0
import Derived.Test.YtlimckldnjmabaaSynx3
import Derived.Test.YtlimckldnjmabaaSynx1
set_option linter.unusedSimpArgs false
set_option linter.unusedVariables false
set_option linter.unusedSectionVars false
set_option maxRecDepth 4000
set_option maxHeartbeats 8000000
namespace Go.Proofs.Ytlimckldnjmabaa
open Go Go.AW Go.Proofs
theorem kQ {x : Int} (h0 : 0 ≤ x) (h1 : x ≤ 256) : al Try.prog 84 [vi x] [] [] (fun r o => r = (vi ((bH x.toNat : Nat) : Int)) ∧ o = []) := by
 refine al.of Try.func84 rfl rfl rfl (n := 17) ah (b7 rfl) (.sr ?_)
 refine .an ?_
 refine .nil (.sr ?_)
 refine .an ?_
 refine .nil (.seq (.sr ?_))
 refine .an ?_
 refine .nil (.block ?_)
 refine .k0 (fun (uD : Nat) (wx : Nat) => ⟨[(0, vi x), (3, vi uD), (4, vi wx)], []⟩) (fun uD wx => (pC x uD wx)) (fun uD wx => 9 - uD) 0 1 (pC.init) (Le.mk (.c (.cons (ak rfl bg) (.cons (ak rfl bg) .nil))) .nil) (fun uD wx pU => ?_)
 have hL := pU
 refine .seq (.sr ?_)
 refine .mv ?_
 refine .mv ?_
 refine .vl (Y.zb rfl rfl) ?_
 refine .mv ?_
 refine .ax (d := 8) rfl (fun c8 => ?_) (fun c8 => ?_)
 refine .gw 8 (Y.zf rfl rfl) (.gw 8 (Y.zb rfl rfl) ?_)
 refine .pk ?_
 refine .nil ?_
 refine .ay rfl (fun Ck => ?_) (fun Ck => ?_)
 refine .skip (.seq (.block ?_))
 have h5 := hL.le h1
 refine .region ?_
 refine .mv ?_
 refine .vl (Y.qb rfl rfl aC) ?_
 refine .an ?_
 refine .nil (.region ?_)
 refine .mv ?_
 refine .vl (Y.zh rfl rfl om) ?_
 refine .an ?_
 refine .nil ⟨uD + 1, 2 * wx, hL.step je, om, Le.mk (.c (.cons (ak rfl bg) (.cons (ak rfl bg) .nil))) .nil⟩
 refine .exit (.sr ?_)
 refine .mv ?_
 refine .an ?_
 refine .nil (.ret ?_)
 exact .ri rfl (congrArg Nat.cast (hL.done h0 (by have h9 := hL.le h1; omega)))
 refine .gz 8 (.gz 8 ?_)
 refine .pk ?_
 refine .nil (.bY rfl (.exit ?_))
 refine .sr ?_
 refine .mv ?_
 refine .an ?_
 refine .nil (.ret ?_)
 exact .ri rfl (congrArg Nat.cast (hL.done h0 (by have h9 := hL.le h1; omega)))
theorem cD {a b c : Int} : al Try.prog 85 [vi a, vi b, vi c] [] [] (fun r o => r = .agg [vi 0, vi a, vi b, vi 0, vi 0, vi c] ∧ o = []) := by
 refine al.of Try.func85 rfl rfl rfl (n := 11) ah (b7 rfl) (.sr (.alloc 106 eX rfl rfl ah ?_))
 refine .nil (.sr ?_)
 refine .mv ?_
 refine .mv ?_
 refine .mv ?_
 refine .vl (Y.qg iX eX rfl rfl rfl) (.aj bo rfl rfl rfl rfl rfl rfl (b7 rfl) rfl (.nil ?_))
 refine .ret ⟨_, _, rfl, rfl, rfl, rfl⟩
theorem iH {op x : Int} (hp : Plain op) (h0 : 1 ≤ x) (h1 : x ≤ 64) : al Try.prog 43 [vi op, vi x] [] [] (fun r o => ∃ c : Int, r = .agg [vi 0, vi x, vi (az op x.toNat), vi 0, vi 0, vi c] ∧ o = []) := by
 refine al.of Try.func43 rfl rfl rfl (n := 161) ah (b7 rfl) ?_
 have HJ := hp; unfold Plain tQ Seq Unary at HJ; have rW := rB (n := x.toNat) om; have Bq := rB (n := (x + 1).toNat) om; have hle : (x + 1).toNat = x.toNat + 1 := om; have Nv := oy h0 h1 rW; have PU := oy h0 h1 Bq
 refine .sr (.alloc 104 eX rfl rfl ah (.nil ?_))
 refine .sr ?_
 refine .mv ?_
 refine .bd Gk (kQ (x := x) (om) (om)) rfl (.ao rfl rfl .nil) ah rfl ?_
 refine .mv ?_
 refine .vl (Y.qb rfl rfl aC) (.bd Gk (kQ (x := (x + 1)) (om) (om)) rfl (.ao rfl rfl .nil) ah rfl ?_)
 refine .an ?_
 refine .an ?_
 refine .nil (.seq (.sr ?_))
 refine .mv ?_
 refine .nil (.block (.sr ?_))
 refine .vl (Y.qk rfl rfl) ?_
 refine .an ?_
 refine .nil ?_
 refine .ay rfl (fun wC => ?_) (fun wC => ?_)
 refine .sr ?_
 refine .mv ?_
 refine .mv ?_
 refine .vl (Y.zh rfl rfl om) (.vl (Y.qb rfl rfl aC) ?_)
 refine .mv ?_
 refine .vl (Y.zh rfl rfl om) ?_
 refine .mv ?_
 refine .vl (Y.zh rfl rfl om) ?_
 refine .mv ?_
 refine .vl (Y.zh rfl rfl om) (.vl (Y.qb rfl rfl aC) ?_)
 refine .bd lq (cD (a := x) (b := (40 + (40 * ((bH x.toNat : Nat) : Int)))) (c := ((3 * x) + ((3 * x) * ((bH x.toNat : Nat) : Int))))) rfl (.ao rfl rfl (.ao rfl rfl (.ao rfl rfl .nil))) ah rfl (.aj bo rfl rfl rfl rfl rfl rfl (b7 rfl) rfl (.nil ?_))
 refine .ret ?_
 first | (exfalso; omega) | exact ⟨_, _, rfl, rfl, (3 * x) + ((3 * x) * ((bH x.toNat : Nat) : Int)), by rw [show az op x.toNat = 40 + (40 * ((bH x.toNat : Nat) : Int)) by (try rw [hle]); unfold az; (repeat' split) <;> omega]; rfl, rfl⟩
 refine .sr (.vl (Y.qk rfl rfl) ?_)
 refine .an ?_
 refine .nil ?_
 refine .ay rfl (fun vV => ?_) (fun vV => ?_)
 refine .sr ?_
 refine .mv ?_
 refine .mv ?_
 refine .vl (Y.zh rfl rfl om) (.vl (Y.qb rfl rfl aC) ?_)
 refine .mv ?_
 refine .vl (Y.zh rfl rfl om) ?_
 refine .mv ?_
 refine .vl (Y.zh rfl rfl om) ?_
 refine .mv ?_
 refine .vl (Y.zh rfl rfl om) (.vl (Y.qb rfl rfl aC) ?_)
 refine .bd lq (cD (a := x) (b := (50 + (40 * ((bH x.toNat : Nat) : Int)))) (c := ((4 * x) + ((3 * x) * ((bH x.toNat : Nat) : Int))))) rfl (.ao rfl rfl (.ao rfl rfl (.ao rfl rfl .nil))) ah rfl (.aj bo rfl rfl rfl rfl rfl rfl (b7 rfl) rfl (.nil ?_))
 refine .ret ?_
 first | (exfalso; omega) | exact ⟨_, _, rfl, rfl, (4 * x) + ((3 * x) * ((bH x.toNat : Nat) : Int)), by rw [show az op x.toNat = 50 + (40 * ((bH x.toNat : Nat) : Int)) by (try rw [hle]); unfold az; (repeat' split) <;> omega]; rfl, rfl⟩
 refine .seq (.sr (.vl (Y.qk rfl rfl) ?_))
 refine .an ?_
 refine .nil ?_
 refine .aU rfl (fun AP => ?_) (fun AP => ?_)
 refine .skip (.aE rfl (.sr ?_))
 refine .mv ?_
 refine .mv ?_
 refine .bd lq (cD (a := x) (b := 20) (c := x)) rfl (.ao rfl rfl (.ao rfl rfl (.ao rfl rfl .nil))) ah rfl (.aj bo rfl rfl rfl rfl rfl rfl (b7 rfl) rfl (.nil ?_))
 refine .ret ?_
 first | (exfalso; omega) | exact ⟨_, _, rfl, rfl, x, by rw [show az op x.toNat = 20 by (try rw [hle]); unfold az; (repeat' split) <;> omega]; rfl, rfl⟩
 refine .sr (.vl (Y.qk rfl rfl) ?_)
 refine .an ?_
 refine .nil ?_
 refine .aU rfl (fun AP => ?_) (fun AP => ?_)
 refine .skip (.aE rfl (.sr ?_))
 refine .mv ?_
 refine .mv ?_
 refine .bd lq (cD (a := x) (b := 20) (c := x)) rfl (.ao rfl rfl (.ao rfl rfl (.ao rfl rfl .nil))) ah rfl (.aj bo rfl rfl rfl rfl rfl rfl (b7 rfl) rfl (.nil ?_))
 refine .ret ?_
 first | (exfalso; omega) | exact ⟨_, _, rfl, rfl, x, by rw [show az op x.toNat = 20 by (try rw [hle]); unfold az; (repeat' split) <;> omega]; rfl, rfl⟩
 refine .region (.vl (Y.qk rfl rfl) ?_)
 refine .an ?_
 refine .nil ?_
 refine .aU rfl (fun AP => ?_) (fun AP => ?_)
 refine .sr ?_
 refine .mv ?_
 refine .mv ?_
 refine .bd lq (cD (a := x) (b := 20) (c := x)) rfl (.ao rfl rfl (.ao rfl rfl (.ao rfl rfl .nil))) ah rfl (.aj bo rfl rfl rfl rfl rfl rfl (b7 rfl) rfl (.nil ?_))
 refine .ret ?_
 first | (exfalso; omega) | exact ⟨_, _, rfl, rfl, x, by rw [show az op x.toNat = 20 by (try rw [hle]); unfold az; (repeat' split) <;> omega]; rfl, rfl⟩
 refine .seq (.sr (.vl (Y.qk rfl rfl) ?_))
 refine .an ?_
 refine .nil ?_
 refine .aU rfl (fun ug => ?_) (fun ug => ?_)
 refine .skip (.aE rfl (.sr ?_))
 refine .mv ?_
 refine .mv ?_
 refine .vl (Y.zh rfl rfl om) (.vl (Y.qb rfl rfl aC) ?_)
 refine .mv ?_
 refine .vl (Y.zh rfl rfl om) ?_
 refine .mv ?_
 refine .vl (Y.zh rfl rfl om) ?_
 refine .mv ?_
 refine .vl (Y.zh rfl rfl om) (.vl (Y.qb rfl rfl aC) ?_)
 refine .bd lq (cD (a := x) (b := (30 + (40 * ((bH x.toNat : Nat) : Int)))) (c := ((2 * x) + ((3 * x) * ((bH x.toNat : Nat) : Int))))) rfl (.ao rfl rfl (.ao rfl rfl (.ao rfl rfl .nil))) ah rfl (.aj bo rfl rfl rfl rfl rfl rfl (b7 rfl) rfl (.nil ?_))
 refine .ret ?_
 first | (exfalso; omega) | exact ⟨_, _, rfl, rfl, (2 * x) + ((3 * x) * ((bH x.toNat : Nat) : Int)), by rw [show az op x.toNat = 30 + (40 * ((bH x.toNat : Nat) : Int)) by (try rw [hle]); unfold az; (repeat' split) <;> omega]; rfl, rfl⟩
 refine .region (.vl (Y.qk rfl rfl) ?_)
 refine .an ?_
 refine .nil ?_
 refine .aU rfl (fun ug => ?_) (fun ug => ?_)
 refine .sr ?_
 refine .mv ?_
 refine .mv ?_
 refine .vl (Y.zh rfl rfl om) (.vl (Y.qb rfl rfl aC) ?_)
 refine .mv ?_
 refine .vl (Y.zh rfl rfl om) ?_
 refine .mv ?_
 refine .vl (Y.zh rfl rfl om) ?_
 refine .mv ?_
 refine .vl (Y.zh rfl rfl om) (.vl (Y.qb rfl rfl aC) ?_)
 refine .bd lq (cD (a := x) (b := (30 + (40 * ((bH x.toNat : Nat) : Int)))) (c := ((2 * x) + ((3 * x) * ((bH x.toNat : Nat) : Int))))) rfl (.ao rfl rfl (.ao rfl rfl (.ao rfl rfl .nil))) ah rfl (.aj bo rfl rfl rfl rfl rfl rfl (b7 rfl) rfl (.nil ?_))
 refine .ret ?_
 first | (exfalso; omega) | exact ⟨_, _, rfl, rfl, (2 * x) + ((3 * x) * ((bH x.toNat : Nat) : Int)), by rw [show az op x.toNat = 30 + (40 * ((bH x.toNat : Nat) : Int)) by (try rw [hle]); unfold az; (repeat' split) <;> omega]; rfl, rfl⟩
 refine .sr (.vl (Y.qk rfl rfl) ?_)
 refine .an ?_
 refine .nil ?_
 refine .ay rfl (fun pI => ?_) (fun pI => ?_)
 refine .sr ?_
 refine .mv ?_
 refine .mv ?_
 refine .vl (Y.zh rfl rfl om) (.vl (Y.qb rfl rfl aC) ?_)
 refine .mv ?_
 refine .vl (Y.zh rfl rfl om) ?_
 refine .mv ?_
 refine .vl (Y.zh rfl rfl om) ?_
 refine .mv ?_
 refine .vl (Y.zh rfl rfl om) (.vl (Y.qb rfl rfl aC) ?_)
 refine .bd lq (cD (a := x) (b := (50 + (40 * ((bH x.toNat : Nat) : Int)))) (c := ((4 * x) + ((3 * x) * ((bH x.toNat : Nat) : Int))))) rfl (.ao rfl rfl (.ao rfl rfl (.ao rfl rfl .nil))) ah rfl (.aj bo rfl rfl rfl rfl rfl rfl (b7 rfl) rfl (.nil ?_))
 refine .ret ?_
 first | (exfalso; omega) | exact ⟨_, _, rfl, rfl, (4 * x) + ((3 * x) * ((bH x.toNat : Nat) : Int)), by rw [show az op x.toNat = 50 + (40 * ((bH x.toNat : Nat) : Int)) by (try rw [hle]); unfold az; (repeat' split) <;> omega]; rfl, rfl⟩
 refine .seq (.sr (.vl (Y.qk rfl rfl) ?_))
 refine .an ?_
 refine .nil ?_
 refine .aU rfl (fun AO => ?_) (fun AO => ?_)
 refine .skip (.aE rfl (.sr ?_))
 refine .mv ?_
 refine .mv ?_
 refine .vl (Y.zh rfl rfl om) (.vl (Y.qb rfl rfl aC) ?_)
 refine .mv ?_
 refine .vl (Y.zh rfl rfl om) ?_
 refine .bd lq (cD (a := x) (b := (30 + (20 * ((bH x.toNat : Nat) : Int)))) (c := (2 * x))) rfl (.ao rfl rfl (.ao rfl rfl (.ao rfl rfl .nil))) ah rfl (.aj bo rfl rfl rfl rfl rfl rfl (b7 rfl) rfl (.nil ?_))
 refine .ret ?_
 first | (exfalso; omega) | exact ⟨_, _, rfl, rfl, 2 * x, by rw [show az op x.toNat = 30 + (20 * ((bH x.toNat : Nat) : Int)) by (try rw [hle]); unfold az; (repeat' split) <;> omega]; rfl, rfl⟩
 refine .region (.vl (Y.qk rfl rfl) ?_)
 refine .an ?_
 refine .nil ?_
 refine .aU rfl (fun AO => ?_) (fun AO => ?_)
 refine .sr ?_
 refine .mv ?_
 refine .mv ?_
 refine .vl (Y.zh rfl rfl om) (.vl (Y.qb rfl rfl aC) ?_)
 refine .mv ?_
 refine .vl (Y.zh rfl rfl om) ?_
 refine .bd lq (cD (a := x) (b := (30 + (20 * ((bH x.toNat : Nat) : Int)))) (c := (2 * x))) rfl (.ao rfl rfl (.ao rfl rfl (.ao rfl rfl .nil))) ah rfl (.aj bo rfl rfl rfl rfl rfl rfl (b7 rfl) rfl (.nil ?_))
 refine .ret ?_
 first | (exfalso; omega) | exact ⟨_, _, rfl, rfl, 2 * x, by rw [show az op x.toNat = 30 + (20 * ((bH x.toNat : Nat) : Int)) by (try rw [hle]); unfold az; (repeat' split) <;> omega]; rfl, rfl⟩
 refine .seq (.sr (.vl (Y.qk rfl rfl) ?_))
 refine .an ?_
 refine .nil ?_
 refine .aU rfl (fun LP => ?_) (fun LP => ?_)
 refine .skip (.aE rfl (.sr ?_))
 refine .mv ?_
 refine .mv ?_
 refine .vl (Y.zh rfl rfl om) (.vl (Y.qb rfl rfl aC) ?_)
 refine .mv ?_
 refine .vl (Y.zh rfl rfl om) ?_
 refine .mv ?_
 refine .vl (Y.zh rfl rfl om) ?_
 refine .mv ?_
 refine .vl (Y.zh rfl rfl om) (.vl (Y.qb rfl rfl aC) ?_)
 refine .bd lq (cD (a := x) (b := (40 + (40 * ((bH (x + 1).toNat : Nat) : Int)))) (c := ((4 * x) + ((3 * x) * ((bH (x + 1).toNat : Nat) : Int))))) rfl (.ao rfl rfl (.ao rfl rfl (.ao rfl rfl .nil))) ah rfl (.aj bo rfl rfl rfl rfl rfl rfl (b7 rfl) rfl (.nil ?_))
 refine .ret ?_
 first | (exfalso; omega) | exact ⟨_, _, rfl, rfl, (4 * x) + ((3 * x) * ((bH (x + 1).toNat : Nat) : Int)), by rw [show az op x.toNat = 40 + (40 * ((bH (x + 1).toNat : Nat) : Int)) by (try rw [hle]); unfold az; (repeat' split) <;> omega]; rfl, rfl⟩
 refine .region (.vl (Y.qk rfl rfl) ?_)
 refine .an ?_
 refine .nil ?_
 refine .aU rfl (fun LP => ?_) (fun LP => ?_)
 refine .sr ?_
 refine .mv ?_
 refine .mv ?_
 refine .vl (Y.zh rfl rfl om) (.vl (Y.qb rfl rfl aC) ?_)
 refine .mv ?_
 refine .vl (Y.zh rfl rfl om) ?_
 refine .mv ?_
 refine .vl (Y.zh rfl rfl om) ?_
 refine .mv ?_
 refine .vl (Y.zh rfl rfl om) (.vl (Y.qb rfl rfl aC) ?_)
 refine .bd lq (cD (a := x) (b := (40 + (40 * ((bH (x + 1).toNat : Nat) : Int)))) (c := ((4 * x) + ((3 * x) * ((bH (x + 1).toNat : Nat) : Int))))) rfl (.ao rfl rfl (.ao rfl rfl (.ao rfl rfl .nil))) ah rfl (.aj bo rfl rfl rfl rfl rfl rfl (b7 rfl) rfl (.nil ?_))
 refine .ret ?_
 first | (exfalso; omega) | exact ⟨_, _, rfl, rfl, (4 * x) + ((3 * x) * ((bH (x + 1).toNat : Nat) : Int)), by rw [show az op x.toNat = 40 + (40 * ((bH (x + 1).toNat : Nat) : Int)) by (try rw [hle]); unfold az; (repeat' split) <;> omega]; rfl, rfl⟩
 refine .seq (.sr (.vl (Y.qk rfl rfl) ?_))
 refine .an ?_
 refine .nil ?_
 refine .aU rfl (fun yG => ?_) (fun yG => ?_)
 refine .skip (.aE rfl (.sr ?_))
 refine .mv ?_
 refine .mv ?_
 refine .vl (Y.zh rfl rfl om) (.vl (Y.qb rfl rfl aC) ?_)
 refine .mv ?_
 refine .vl (Y.zh rfl rfl om) ?_
 refine .mv ?_
 refine .vl (Y.zh rfl rfl om) ?_
 refine .mv ?_
 refine .vl (Y.zh rfl rfl om) (.vl (Y.qb rfl rfl aC) (.vl (Y.qb rfl rfl aC) ?_))
 refine .bd lq (cD (a := x) (b := (50 + (40 * ((bH (x + 1).toNat : Nat) : Int)))) (c := (((4 * x) + ((3 * x) * ((bH (x + 1).toNat : Nat) : Int))) + 2))) rfl (.ao rfl rfl (.ao rfl rfl (.ao rfl rfl .nil))) ah rfl (.aj bo rfl rfl rfl rfl rfl rfl (b7 rfl) rfl (.nil ?_))
 refine .ret ?_
 first | (exfalso; omega) | exact ⟨_, _, rfl, rfl, ((4 * x) + ((3 * x) * ((bH (x + 1).toNat : Nat) : Int))) + 2, by rw [show az op x.toNat = 50 + (40 * ((bH (x + 1).toNat : Nat) : Int)) by (try rw [hle]); unfold az; (repeat' split) <;> omega]; rfl, rfl⟩
 refine .region (.vl (Y.qk rfl rfl) ?_)
 refine .an ?_
 refine .nil ?_
 refine .aU rfl (fun yG => ?_) (fun yG => ?_)
 refine .sr ?_
 refine .mv ?_
 refine .mv ?_
 refine .vl (Y.zh rfl rfl om) (.vl (Y.qb rfl rfl aC) ?_)
 refine .mv ?_
 refine .vl (Y.zh rfl rfl om) ?_
 refine .mv ?_
 refine .vl (Y.zh rfl rfl om) ?_
 refine .mv ?_
 refine .vl (Y.zh rfl rfl om) (.vl (Y.qb rfl rfl aC) (.vl (Y.qb rfl rfl aC) ?_))
 refine .bd lq (cD (a := x) (b := (50 + (40 * ((bH (x + 1).toNat : Nat) : Int)))) (c := (((4 * x) + ((3 * x) * ((bH (x + 1).toNat : Nat) : Int))) + 2))) rfl (.ao rfl rfl (.ao rfl rfl (.ao rfl rfl .nil))) ah rfl (.aj bo rfl rfl rfl rfl rfl rfl (b7 rfl) rfl (.nil ?_))
 refine .ret ?_
 first | (exfalso; omega) | exact ⟨_, _, rfl, rfl, ((4 * x) + ((3 * x) * ((bH (x + 1).toNat : Nat) : Int))) + 2, by rw [show az op x.toNat = 50 + (40 * ((bH (x + 1).toNat : Nat) : Int)) by (try rw [hle]); unfold az; (repeat' split) <;> omega]; rfl, rfl⟩
 refine .sr (.vl (Y.qk rfl rfl) ?_)
 refine .an ?_
 refine .nil ?_
 refine .ay rfl (fun LQ => ?_) (fun LQ => ?_)
 refine .sr ?_
 refine .mv ?_
 refine .mv ?_
 refine .vl (Y.zh rfl rfl om) (.vl (Y.qb rfl rfl aC) ?_)
 refine .bd lq (cD (a := x) (b := 50) (c := ((3 * x) + 1))) rfl (.ao rfl rfl (.ao rfl rfl (.ao rfl rfl .nil))) ah rfl (.aj bo rfl rfl rfl rfl rfl rfl (b7 rfl) rfl (.nil ?_))
 refine .ret ?_
 first | (exfalso; omega) | exact ⟨_, _, rfl, rfl, (3 * x) + 1, by rw [show az op x.toNat = 50 by (try rw [hle]); unfold az; (repeat' split) <;> omega]; rfl, rfl⟩
 refine .sr (.vl (Y.qk rfl rfl) ?_)
 refine .an ?_
 refine .nil ?_
 refine .ay rfl (fun uk => ?_) (fun uk => ?_)
 refine .sr ?_
 refine .mv ?_
 refine .mv ?_
 refine .vl (Y.qb rfl rfl aC) (.vl (Y.zn rfl rfl om) (.vl (Y.qb rfl rfl aC) ?_))
 refine .mv ?_
 refine .vl (Y.zh rfl rfl om) ?_
 refine .mv ?_
 refine .vl (Y.zh rfl rfl om) ?_
 refine .vl (Y.qg iX eX rfl rfl rfl) (.aj bo rfl rfl rfl rfl rfl rfl (b7 rfl) rfl (.nil ?_))
 refine .ret ?_
 first | (exfalso; omega) | exact ⟨_, _, rfl, rfl, (6 * x) * x, by rw [show az op x.toNat = 0 by (try rw [hle]); unfold az; (repeat' split) <;> omega]; rfl, rfl⟩
 refine .seq (.sr (.vl (Y.qk rfl rfl) ?_))
 refine .an ?_
 refine .nil ?_
 refine .aU rfl (fun lY => ?_) (fun lY => ?_)
 refine .skip (.aE rfl (.sr ?_))
 refine .mv ?_
 refine .vl (Y.qb rfl rfl aC) (.vl (Y.zx rfl rfl aC) ?_)
 refine .mv ?_
 refine .mv ?_
 refine .vl (Y.qb rfl rfl aC) (.vl (Y.zn rfl rfl om) (.vl (Y.qb rfl rfl aC) ?_))
 refine .mv ?_
 refine .vl (Y.qb rfl rfl aC) (.vl (Y.zn rfl rfl om) (.vl (Y.qb rfl rfl aC) ?_))
 refine .mv ?_
 refine .vl (Y.zh rfl rfl om) ?_
 refine .mv ?_
 refine .vl (Y.zh rfl rfl om) ?_
 refine .vl (Y.qg iX eX rfl rfl rfl) (.aj bo rfl rfl rfl rfl rfl rfl (b7 rfl) rfl (.nil ?_))
 refine .ret ?_
 first | (exfalso; omega) | exact ⟨_, _, rfl, rfl, (8 * x) * x, by rw [show az op x.toNat = 0 by (try rw [hle]); unfold az; (repeat' split) <;> omega]; rfl, rfl⟩
 refine .sr (.vl (Y.qk rfl rfl) ?_)
 refine .an ?_
 refine .nil ?_
 refine .aU rfl (fun lY => ?_) (fun lY => ?_)
 refine .skip (.aE rfl (.sr ?_))
 refine .mv ?_
 refine .vl (Y.qb rfl rfl aC) (.vl (Y.zx rfl rfl aC) ?_)
 refine .mv ?_
 refine .mv ?_
 refine .vl (Y.qb rfl rfl aC) (.vl (Y.zn rfl rfl om) (.vl (Y.qb rfl rfl aC) ?_))
 refine .mv ?_
 refine .vl (Y.qb rfl rfl aC) (.vl (Y.zn rfl rfl om) (.vl (Y.qb rfl rfl aC) ?_))
 refine .mv ?_
 refine .vl (Y.zh rfl rfl om) ?_
 refine .mv ?_
 refine .vl (Y.zh rfl rfl om) ?_
 refine .vl (Y.qg iX eX rfl rfl rfl) (.aj bo rfl rfl rfl rfl rfl rfl (b7 rfl) rfl (.nil ?_))
 refine .ret ?_
 first | (exfalso; omega) | exact ⟨_, _, rfl, rfl, (8 * x) * x, by rw [show az op x.toNat = 0 by (try rw [hle]); unfold az; (repeat' split) <;> omega]; rfl, rfl⟩
 refine .sr (.vl (Y.qk rfl rfl) ?_)
 refine .an ?_
 refine .nil ?_
 refine .aU rfl (fun lY => ?_) (fun lY => ?_)
 refine .skip (.aE rfl (.sr ?_))
 refine .mv ?_
 refine .vl (Y.qb rfl rfl aC) (.vl (Y.zx rfl rfl aC) ?_)
 refine .mv ?_
 refine .mv ?_
 refine .vl (Y.qb rfl rfl aC) (.vl (Y.zn rfl rfl om) (.vl (Y.qb rfl rfl aC) ?_))
 refine .mv ?_
 refine .vl (Y.qb rfl rfl aC) (.vl (Y.zn rfl rfl om) (.vl (Y.qb rfl rfl aC) ?_))
 refine .mv ?_
 refine .vl (Y.zh rfl rfl om) ?_
 refine .mv ?_
 refine .vl (Y.zh rfl rfl om) ?_
 refine .vl (Y.qg iX eX rfl rfl rfl) (.aj bo rfl rfl rfl rfl rfl rfl (b7 rfl) rfl (.nil ?_))
 refine .ret ?_
 first | (exfalso; omega) | exact ⟨_, _, rfl, rfl, (8 * x) * x, by rw [show az op x.toNat = 0 by (try rw [hle]); unfold az; (repeat' split) <;> omega]; rfl, rfl⟩
 refine .region (.vl (Y.qk rfl rfl) ?_)
 refine .an ?_
 refine .nil ?_
 refine .aU rfl (fun lY => ?_) (fun lY => ?_)
 refine .sr ?_
 refine .mv ?_
 refine .vl (Y.qb rfl rfl aC) (.vl (Y.zx rfl rfl aC) ?_)
 refine .mv ?_
 refine .mv ?_
 refine .vl (Y.qb rfl rfl aC) (.vl (Y.zn rfl rfl om) (.vl (Y.qb rfl rfl aC) ?_))
 refine .mv ?_
 refine .vl (Y.qb rfl rfl aC) (.vl (Y.zn rfl rfl om) (.vl (Y.qb rfl rfl aC) ?_))
 refine .mv ?_
 refine .vl (Y.zh rfl rfl om) ?_
 refine .mv ?_
 refine .vl (Y.zh rfl rfl om) ?_
 refine .vl (Y.qg iX eX rfl rfl rfl) (.aj bo rfl rfl rfl rfl rfl rfl (b7 rfl) rfl (.nil ?_))
 refine .ret ?_
 first | (exfalso; omega) | exact ⟨_, _, rfl, rfl, (8 * x) * x, by rw [show az op x.toNat = 0 by (try rw [hle]); unfold az; (repeat' split) <;> omega]; rfl, rfl⟩
 refine .skip (.sr ?_)
 refine .mv ?_
 refine .bd lq (cD (a := x) (b := 0) (c := 0)) rfl (.ao rfl rfl (.ao rfl rfl (.ao rfl rfl .nil))) ah rfl (.aj bo rfl rfl rfl rfl rfl rfl (b7 rfl) rfl (.nil ?_))
 refine .ret ?_
 first | (exfalso; omega) | exact ⟨_, _, rfl, rfl, 0, by rw [show az op x.toNat = 0 by (try rw [hle]); unfold az; (repeat' split) <;> omega]; rfl, rfl⟩
open Go Go.AW Go.Proofs
set_option maxRecDepth 4000 in
set_option maxHeartbeats 1000000 in
theorem nD {k : Nat} {u : U2} (hk : k < 256) (hu : u.a < 256 ∧ u.b < 256) : al Try.prog 8 [.v (.int .u8 (k : Int)), .agg (U2.row u)] [] [] (fun r o => r = .v (.bool true) ∧ o = []) := by
 refine al.of Try.func8 rfl rfl rfl (n := 75) ah (Nat.le_of_ble_eq_true rfl) (ae.sr (aa.box 103 rfl rfl rfl rfl rfl ah ?_))
 refine .an ?_
 refine aa.nil (ae.seq (ae.seq ?_))
 refine ae.sh (Sh.m0 103 rfl rfl) (ae.region (aa.bd J2 (rJ) rfl .nil ah rfl ?_))
 refine .vl (Y.zk rfl) (aa.nil (ae.bY rfl ?_))
 refine ae.skip (ae.sr ?_)
 refine .mv ?_
 refine .vl (Y.za JD rfl rfl (Nat.le_of_ble_eq_true rfl) rfl rfl) (aa.jV J3 (uC (k := k) (u := u) hk hu) rfl (.ao rfl rfl (.ao rfl rfl .nil)) ah ?_)
 rintro _ ⟨lv, zz, z2, pX, rfl, _⟩
 refine ⟨rfl, ?_⟩
 refine aa.nM rfl ah (.vl (Y.qm rfl rfl rfl) (aa.jx rfl rfl ah ?_))
 refine .vl (Y.qm rfl rfl rfl) ?_
 refine .an ?_
 refine aa.bh rfl ah (aa.sh (Sh.cq (d := 6) (zz.map aq) rfl jW (de.map bV)) ?_)
 refine .an ?_
 refine aa.nil (ae.sr ?_)
 refine .mv ?_
 refine .mv ?_
 refine .mv ?_
 refine aa.jV Gx (sV (op := lv) (ws := zz) (width := z2) (by have := pX.len; omega)) rfl (.ao rfl rfl (.ao rfl rfl (.ao rfl rfl .nil))) ah ?_
 rintro _ ⟨j7, fK, R6, LR, rfl, _⟩
 refine ⟨rfl, ?_⟩
 refine aa.nM rfl ah (aa.jx rfl rfl ah (aa.jx rfl rfl ah ?_))
 refine .vl (Y.qm rfl rfl rfl) (aa.bh rfl ah (aa.sh (Sh.cq (d := 8) (j7.map Gate.row) rfl jW (de.map Gate.cM)) ?_))
 refine aa.bh rfl ah (aa.sh (Sh.cq (d := 9) (fK.map aq) rfl jW (de.map bV)) ?_)
 refine .an ?_
 refine aa.nil (ae.seq (ae.seq ?_))
 obtain ⟨GN, NH, LS, ox, R7, HT⟩ := LR.dC pX; have uK := tW j7; have MX := pX.len; have Qf := LS.2; have Qg := pX.2.1 (zz.getD 0 0) (getD_in om); have vT := pX.2.2.1; unfold cG at Qg vT
 refine ae.region ?_
 refine .mv ?_
 refine .vl (Y.zi rfl rfl) ?_
 refine .mv ?_
 refine aa.ax (d := 33) rfl (fun tj => ?_) (fun tj => ?_)
 exact absurd GN tj
 refine .gw 33 (Y.zf rfl rfl) (aa.aO (d := 33) rfl ah rfl ?_)
 refine aa.bd J4 (rK (l := j7) (om)) rfl (.ao rfl rfl .nil) ah rfl ?_
 refine .gw 33 (Y.zk rfl) ?_
 refine .pk ?_
 refine .mv ?_
 refine aa.split (d := 38) rfl (fun yX => ?_) (fun yX => ?_)
 exfalso; simp at yX; exact yX NH.d
 replace yX : vy j7 := by simpa using yX
 refine .gw 38 (Y.zf rfl rfl) (.gw 38 (Y.zf rfl rfl) (.gw 38 (Y.zf rfl rfl) ?_))
 refine .gw 38 (Y.qw (n := j7.length) oZ rfl (congrArg some (List.length_map ..))) (aa.aO (d := 38) rfl ah rfl ?_)
 refine aa.bd J5 (sX (a := fK) (w := z2) (n := (j7.length : Int)) (om)) rfl (.ao rfl rfl (.ao rfl rfl (.ao rfl rfl .nil))) ah rfl ?_
 refine .gw 38 (Y.zk rfl) ?_
 refine .pk ?_
 refine aa.nil ?_
 refine ae.cond rfl (fun HU => ?_) (fun HU => ?_)
 exfalso; simp at HU; exact HU LS
 replace HU : o0 fK z2 (j7.length : Int) := by simpa using HU
 refine ae.skip (ae.sr ?_)
 refine .mv ?_
 refine .mv ?_
 refine aa.bd Gy (qN (l := j7) (om)) rfl (.ao rfl rfl .nil) ah rfl ?_
 refine aa.makeSlice (n := fA j7) a8 fv rfl rfl rfl rfl om om ah ?_
 refine aa.sh (Sh.cq (d := 49) ((List.replicate (fA j7) 0).map aq) rfl jW (de.map bV)) (aa.bd J6 (sY (l := j7) (n := fA j7) NH rfl om) rfl (.ao rfl rfl (.ao rfl rfl .nil)) ah rfl (aa.bh rfl ah ?_))
 refine aa.sh (Sh.cq (d := 11) ((dK j7 (List.replicate (fA j7) 0) j7.length).map aq) rfl jW (de.map bV)) (aa.nil (ae.sr ?_))
 refine .mv ?_
 refine .an ?_
 refine aa.nil ?_
 refine ae.jw (fun (b6 : Int) => ⟨[(5, .v (.int .i64 lv)), (9, .fz 1 (fK.map aq)), (11, .fz 1 ((dK j7 (List.replicate (fA j7) 0) j7.length).map aq)), (12, .v (.int .i64 b6))], []⟩) (fun (b6 : Int) => b6 = if fY lv then zz.getD 0 0 else z2) ?_ (fun b6 rA => ?_)
 refine ae.sr ?_
 refine .mv ?_
 refine aa.bd Gj (jb (w := lv)) rfl (.ao rfl rfl .nil) ah rfl (aa.nil ?_)
 refine ae.ay rfl (fun GW => ?_) (fun GW => ?_)
 refine ae.region ?_
 refine .mv ?_
 refine .vl (Y.qr (m := 0) a8 rfl rfl bg (aw (d := 0) om)) ?_
 refine .ld aZ ?_
 refine .an ?_
 refine aa.nil ?_
 exact ⟨zz.getD 0 0, by rw [if_pos je], Le.mk (.c (.c (.c (.cons (ak rfl bg) (.nil))))) (.nil)⟩
 refine ae.skip ?_
 exact ⟨z2, by rw [if_neg je], Le.mk (.c (.c (.c (.cons (ak rfl bg) (.nil))))) (.nil)⟩
 refine ae.seq (ae.seq ?_)
 have R8 : 1 ≤ b6 ∧ b6 ≤ 64 := (by rw [rA]; split <;> omega); have R9 := qO (l := j7) (ins := List.replicate (fA j7) 0) (Nat.le_refl _)
 refine ae.region ?_
 refine .mv ?_
 refine .vl (Y.qw (n := fK.length) a8 rfl (congrArg some (List.length_map ..))) ?_
 refine .mv ?_
 refine aa.nil (ae.block ?_)
 refine ae.iS (fun (dm : Nat) => ⟨[(5, .v (.int .i64 lv)), (9, .fz 1 (fK.map aq)), (11, .fz 1 ((dK j7 (List.replicate (fA j7) 0) j7.length).map aq)), (12, .v (.int .i64 b6)), (58, .v (.int .i64 (fK.length : Int))), (59, .v (.int .i64 (dm : Int)))], []⟩) (fun (dm : Nat) => ((dm : Int) ≤ (fK.length : Int))) (fun (dm : Nat) => ((fK.length : Int) - (dm : Int)).toNat) 0 om (Le.mk (.c (.c (.c (.c (.c (.cons (ak rfl bg) (.nil))))))) (.nil)) (fun dm LU => ?_)
 have Qh := LU
 refine ae.sr (.vl (Y.zb rfl rfl) (aa.nil ?_))
 refine ae.seq ?_
 refine ae.ay rfl (fun Ly => ?_) (fun Ly => ?_)
 refine ae.skip ?_
 refine ae.nK (⟨[(5, .v (.int .i64 lv)), (9, .fz 1 (fK.map aq)), (11, .fz 1 ((dK j7 (List.replicate (fA j7) 0) j7.length).map aq)), (12, .v (.int .i64 b6)), (58, .v (.int .i64 (fK.length : Int))), (59, .v (.int .i64 (dm : Int)))], []⟩) ((∃ (mM : Int), (¬ ((az lv b6.toNat) < ((dK j7 (List.replicate (fA j7) 0) j7.length).getD ((fK.getD dm 0).toNat) 0)))) ∨ (∃ (mM : Int), (¬ ((az lv b6.toNat) < ((dK j7 (List.replicate (fA j7) 0) j7.length).getD ((fK.getD dm 0).toNat) 0)))) ∨ (∃ (mM : Int), (¬ ((az lv b6.toNat) < ((dK j7 (List.replicate (fA j7) 0) j7.length).getD ((fK.getD dm 0).toNat) 0)))) ∨ (∃ (mM : Int), (¬ ((az lv b6.toNat) < ((dK j7 (List.replicate (fA j7) 0) j7.length).getD ((fK.getD dm 0).toNat) 0)))) ∨ (∃ (mM : Int), (¬ ((az lv b6.toNat) < ((dK j7 (List.replicate (fA j7) 0) j7.length).getD ((fK.getD dm 0).toNat) 0))))) ?_ (fun Qi => ?_)
 refine ae.block (ae.sr ?_)
 refine .mv ?_
 refine .an ?_
 refine aa.nil (ae.seq ?_)
 have Qj := LS.1 dm om
 refine ae.cC rfl (aR.blind 0 rfl aX (aJ.move rfl rfl) ah (aR.blind 1 rfl aX (aJ.move rfl rfl) ah ?_))
 refine aR.blind 2 rfl aX (aJ.move rfl rfl) ah (aR.blind 7 rfl aX (aJ.move rfl rfl) ah (aR.blind 8 rfl aX (aJ.move rfl rfl) ah ?_))
 refine aR.two 3 9 rfl rfl aX ?_ ?_
 refine .vl (Y.qr (m := dm) a8 rfl rfl bg (aw (d := 0) om)) ?_
 refine aa.nil ⟨rfl, ?_⟩
 refine aR.two 4 9 rfl rfl aX ?_ ?_
 refine .ld aZ ?_
 refine aa.nil ⟨rfl, ?_⟩
 refine aR.two 5 9 rfl rfl aX ?_ ?_
 refine .vl (Y.qr (m := (fK.getD dm 0).toNat) a8 rfl rfl om (aw (d := 0) om)) ?_
 refine aa.nil ⟨rfl, ?_⟩
 refine aR.two 6 9 rfl rfl aX ?_ ?_
 refine .ld aZ ?_
 refine aa.nil ⟨rfl, ?_⟩
 refine aR.one 9 rfl aX (aa.jV xH (iH (op := lv) (x := b6) pX.1 om om) rfl (.ao rfl rfl (.ao rfl rfl .nil)) ah ?_)
 rintro _ ⟨mM, rfl, _⟩
 refine ⟨rfl, ?_⟩
 refine aa.nil ⟨rfl, ?_⟩
 refine aR.bj (n := 0) [10, 11] [] 0 rfl aX (.cn 10 rfl (Y.qn bB aZ rfl rfl rfl) (.cn 11 rfl (Y.qq rfl rfl) ?_))
 refine AQ.nil (aR.done aX ?_)
 refine ae.ay rfl (fun v3 => ?_) (fun v3 => ?_)
 exfalso; have h1 := HT dm om; unfold rN at h1; rw [← rA] at h1; omega
 refine ae.skip ?_
 exact ⟨.inl ⟨mM, v3⟩, Le.mk (.c (.c (.c (.c (.c (.c (.nil))))))) (.nil)⟩
 refine aa.jV xH (iH (op := lv) (x := b6) pX.1 om om) rfl (.ao rfl rfl (.ao rfl rfl .nil)) ah ?_
 rintro _ ⟨mM, rfl, _⟩
 refine ⟨rfl, ?_⟩
 refine aa.nil ⟨rfl, ?_⟩
 refine aR.bj (n := 0) [6, 10, 11] [] 0 rfl aX (.cn 6 rfl (Y.qz aZ rfl rfl rfl rfl) (.cn 10 rfl (Y.qn bB aZ rfl rfl rfl) ?_))
 refine .cn 11 rfl (Y.qq rfl rfl) (AQ.nil (aR.done aX ?_))
 refine ae.ay rfl (fun v3 => ?_) (fun v3 => ?_)
 exfalso; have h1 := HT dm om; unfold rN at h1; rw [← rA] at h1; omega
 refine ae.skip ?_
 exact ⟨.inr (.inl ⟨mM, v3⟩), Le.mk (.c (.c (.c (.c (.c (.c (.nil))))))) (.nil)⟩
 refine aa.jV xH (iH (op := lv) (x := b6) pX.1 om om) rfl (.ao rfl rfl (.ao rfl rfl .nil)) ah ?_
 rintro _ ⟨mM, rfl, _⟩
 refine ⟨rfl, ?_⟩
 refine aa.nil ⟨rfl, ?_⟩
 refine aR.bj (n := 0) [5, 6, 10, 11] [] 0 rfl aX ?_
 refine .cn 5 rfl (Y.qr (m := (fK.getD dm 0).toNat) a8 rfl rfl om (aw (d := 0) om)) ?_
 refine .cn 6 rfl (Y.qz aZ rfl rfl rfl rfl) (.cn 10 rfl (Y.qn bB aZ rfl rfl rfl) (.cn 11 rfl (Y.qq rfl rfl) ?_))
 refine AQ.nil (aR.done aX ?_)
 refine ae.ay rfl (fun v3 => ?_) (fun v3 => ?_)
 exfalso; have h1 := HT dm om; unfold rN at h1; rw [← rA] at h1; omega
 refine ae.skip ?_
 exact ⟨.inr (.inr (.inl ⟨mM, v3⟩)), Le.mk (.c (.c (.c (.c (.c (.c (.nil))))))) (.nil)⟩
 refine aa.jV xH (iH (op := lv) (x := b6) pX.1 om om) rfl (.ao rfl rfl (.ao rfl rfl .nil)) ah ?_
 rintro _ ⟨mM, rfl, _⟩
 refine ⟨rfl, ?_⟩
 refine aa.nil ⟨rfl, ?_⟩
 refine aR.bj (n := 0) [4, 5, 6, 10, 11] [] 0 rfl aX (.cn 4 rfl (Y.qz aZ rfl rfl rfl rfl) ?_)
 refine .cn 5 rfl (Y.qr (m := (fK.getD dm 0).toNat) a8 rfl rfl om (aw (d := 0) om)) ?_
 refine .cn 6 rfl (Y.qz aZ rfl rfl rfl rfl) (.cn 10 rfl (Y.qn bB aZ rfl rfl rfl) (.cn 11 rfl (Y.qq rfl rfl) ?_))
 refine AQ.nil (aR.done aX ?_)
 refine ae.ay rfl (fun v3 => ?_) (fun v3 => ?_)
 exfalso; have h1 := HT dm om; unfold rN at h1; rw [← rA] at h1; omega
 refine ae.skip ?_
 exact ⟨.inr (.inr (.inr (.inl ⟨mM, v3⟩))), Le.mk (.c (.c (.c (.c (.c (.c (.nil))))))) (.nil)⟩
 refine aa.jV xH (iH (op := lv) (x := b6) pX.1 om om) rfl (.ao rfl rfl (.ao rfl rfl .nil)) ah ?_
 rintro _ ⟨mM, rfl, _⟩
 refine ⟨rfl, ?_⟩
 refine aa.nil ⟨rfl, ?_⟩
 refine aR.bj (n := 0) [3, 4, 5, 6, 10, 11] [] 0 rfl aX ?_
 refine .cn 3 rfl (Y.qr (m := dm) a8 rfl rfl bg (aw (d := 0) om)) ?_
 refine .cn 4 rfl (Y.qz aZ rfl rfl rfl rfl) ?_
 refine .cn 5 rfl (Y.qr (m := (fK.getD dm 0).toNat) a8 rfl rfl om (aw (d := 0) om)) ?_
 refine .cn 6 rfl (Y.qz aZ rfl rfl rfl rfl) (.cn 10 rfl (Y.qn bB aZ rfl rfl rfl) (.cn 11 rfl (Y.qq rfl rfl) ?_))
 refine AQ.nil (aR.done aX ?_)
 refine ae.ay rfl (fun v3 => ?_) (fun v3 => ?_)
 exfalso; have h1 := HT dm om; unfold rN at h1; rw [← rA] at h1; omega
 refine ae.skip ?_
 exact ⟨.inr (.inr (.inr (.inr (⟨mM, v3⟩)))), Le.mk (.c (.c (.c (.c (.c (.c (.nil))))))) (.nil)⟩
 refine ae.region ?_
 refine .vl (Y.qb rfl rfl aC) ?_
 refine .mv ?_
 refine aa.nil ?_
 exact ⟨dm + 1, om, om, Le.mk (.c (.c (.c (.c (.c (.cons (ak rfl bg) (.nil))))))) (.nil)⟩
 refine ae.exit (ae.sr ?_)
 refine .an ?_
 refine aa.nil (ae.ret ?_)
 exact .rb rfl (rfl)
end Go.Proofs.Ytlimckldnjmabaa
