/- Walk through shaped. -/
import Derived.Test.YtlimckldnjmabaaSynx1
import Derived.Test.YtlimckldnjmabaaSynx0
import Derived.Test.YtlimckldnjmabaaAWx2
set_option linter.unusedSimpArgs false
set_option linter.unusedVariables false
set_option linter.unusedSectionVars false
set_option maxRecDepth 4000
set_option maxHeartbeats 8000000
namespace Go.Proofs.Ytlimckldnjmabaa
open Go Go.AW Go.Proofs
theorem uv {n : ae} {c : Cell} (hs : n.Small) (hc : c.args.length ≤ 17592186043904) : ak Try.prog 160 [.agg (ae.row n), .agg (Cell.row c)] [] [] (fun r o => r = .v (.bool (decide (Shaped n c))) ∧ o = []) := by
 refine ak.of Try.func160 rfl rfl rfl (n := 132) ag (bN rfl) ?_
 have Kw := hs.ins; have Kx := hs.bu; have MC := hs.streams
 refine .sr (.box 102 rfl rfl rfl rfl rfl ag (.box 103 rfl rfl rfl rfl rfl ag ?_))
 refine .an ?_
 refine .nil (.sr ?_)
 refine .an ?_
 refine .an ?_
 refine .an ?_
 refine .an ?_
 refine .nil (.seq (.sr ?_))
 refine .fa jS ?_
 refine .ld bg ?_
 refine .nil (.block (.sr ?_))
 refine .vl (Y.ql rfl rfl) ?_
 refine .an ?_
 refine .nil ?_
 refine .ay rfl (fun GW => ?_) (fun GW => ?_)
 refine .region ?_
 refine .an ?_
 refine .nil ?_
 refine .pR (⟨[(2, .ptr 102 0 0 0), (3, .ptr 103 0 0 0), (8, vi (-1))], [(102, .cells (ae.row n)), (103, .cells (Cell.row c))]⟩) (((¬ ((c.args.length : Int) ≠ 0)) ∧ (¬ (c.op ≠ 0)) ∧ ((c.num : Int) ≠ 0)) ∨ ((¬ ((c.args.length : Int) ≠ 0)) ∧ (¬ (c.op ≠ 0)) ∧ (¬ ((c.num : Int) ≠ 0)))) ?_ (fun Gc => ?_)
 refine .sr ?_
 refine .fa eH ?_
 refine .ld dr ?_
 refine .vl (Y.qw (n := c.args.length) a7 rfl iJ) ?_
 refine .mv ?_
 refine .vl (Y.zl rfl rfl) ?_
 refine .mv ?_
 refine .ax (d := 88) rfl (fun ln => ?_) (fun ln => ?_)
 refine .gz 88 (.gz 88 (.gz 88 ?_))
 refine .gz 88 ?_
 refine .pk ?_
 refine .mv ?_
 refine .gz 94 (.gz 94 (.gz 94 ?_))
 refine .gz 94 (.gz 98 (.gz 98 ?_))
 refine .gz 94 ?_
 refine .pk ?_
 refine .nil (.aI rfl (.sr ?_))
 refine .an ?_
 refine .nil (.ret ?_)
 exact .rb rfl (df fA)
 refine .gw 88 (Y.qo eG rfl rfl) (.gw 88 (Y.qz bg rfl rfl rfl rfl) (.gw 88 (Y.zf rfl rfl) ?_))
 refine .gw 88 (Y.zl rfl rfl) ?_
 refine .pk ?_
 refine .mv ?_
 refine .ax (d := 94) rfl (fun mx => ?_) (fun mx => ?_)
 refine .gz 94 (.gz 94 (.gz 94 ?_))
 refine .gz 94 (.gz 98 (.gz 98 ?_))
 refine .gz 94 ?_
 refine .pk ?_
 refine .nil (.aI rfl (.sr ?_))
 refine .an ?_
 refine .nil (.ret ?_)
 exact .rb rfl (df fA)
 refine .gw 94 (Y.qo ep rfl rfl) (.gw 94 (Y.qz fo rfl rfl rfl rfl) (.gw 94 (Y.zl rfl rfl) ?_))
 refine .gw 94 (Y.zf rfl rfl) ?_
 refine .ax (d := 98) rfl (fun lN => ?_) (fun lN => ?_)
 refine .gw 98 (Y.zf rfl rfl) (.gw 98 (Y.zo rfl) (.gw 94 (Y.zp rfl rfl rfl) ?_))
 refine .pk ?_
 refine .nil (.cj rfl (.skip ?_))
 exact ⟨.inl ⟨ln, mx, lN⟩, Le.mk (.c2 (.c .nil)) (.c (.c .nil))⟩
 refine .gz 98 (.gz 98 (.gw 94 (Y.zp rfl rfl rfl) ?_))
 refine .pk ?_
 refine .nil (.cj rfl (.skip ?_))
 exact ⟨.inr (⟨ln, mx, lN⟩), Le.mk (.c2 (.c .nil)) (.c (.c .nil))⟩
 refine .seq (.sr ?_)
 refine .mv ?_
 refine .vl (Y.zb rfl rfl) (.nil (.aI rfl ?_))
 refine .sr ?_
 refine .fa cY ?_
 refine .ld bg ?_
 refine .vl (Y.ql rfl rfl) ?_
 refine .an ?_
 refine .nil (.ret ?_)
 exact .rb rfl (dd fA)
 refine .sr (.vl (Y.ql rfl rfl) ?_)
 refine .an ?_
 refine .nil ?_
 refine .ay rfl (fun y6 => ?_) (fun y6 => ?_)
 refine .seq (.cv rfl (.blind 0 rfl ba (aL.fieldAddr eG rfl rfl) ag ?_))
 refine .blind 3 rfl ba (aL.fieldAddr eG rfl rfl) ag ?_
 refine .two 1 4 rfl rfl ba ?_ ?_
 refine .ld bg ?_
 refine .nil ⟨rfl, ?_⟩
 refine .two 2 4 rfl rfl ba ?_ ?_
 refine .aR AD (jT (op := c.op)) rfl (.ao rfl rfl .nil) ag rfl ?_
 refine .nil ⟨rfl, ?_⟩
 refine .bp (n := 0) [4, 5, 6] [] 0 rfl ba (.cn 4 rfl (Y.qz bg rfl rfl rfl rfl) (.cn 5 rfl (Y.qf rfl rfl) ?_))
 refine .cn 6 rfl (Y.qf rfl rfl) (.nil (.done ba ?_))
 refine .sr ?_
 refine .mv ?_
 refine .vl (Y.ql rfl rfl) (.nil ?_)
 refine .ay rfl (fun vN => ?_) (fun vN => ?_)
 refine .sr ?_
 refine .an ?_
 refine .nil (.ret ?_)
 exact .rb rfl (df fA)
 refine .skip (.seq (.sr ?_))
 refine .fa eH ?_
 refine .ld dr ?_
 refine .vl (Y.qw (n := c.args.length) a7 rfl iJ) ?_
 refine .mv ?_
 refine .vl (Y.zl rfl rfl) ?_
 refine .mv ?_
 refine .ax (d := 88) rfl (fun ln => ?_) (fun ln => ?_)
 refine .gz 88 (.gz 88 (.gz 88 ?_))
 refine .gz 88 ?_
 refine .pk ?_
 refine .mv ?_
 refine .gz 94 (.gz 94 (.gz 94 ?_))
 refine .gz 94 (.gz 98 (.gz 98 ?_))
 refine .gz 94 ?_
 refine .pk ?_
 refine .nil (.aI rfl (.sr ?_))
 refine .an ?_
 refine .nil (.ret ?_)
 exact .rb rfl (df fA)
 refine .gw 88 (Y.qo eG rfl rfl) (.gw 88 (Y.qz bg rfl rfl rfl rfl) (.gw 88 (Y.zf rfl rfl) ?_))
 refine .gw 88 (Y.zl rfl rfl) ?_
 refine .pk ?_
 refine .mv ?_
 refine .ax (d := 94) rfl (fun mx => ?_) (fun mx => ?_)
 refine .gz 94 (.gz 94 (.gz 94 ?_))
 refine .gz 94 (.gz 98 (.gz 98 ?_))
 refine .gz 94 ?_
 refine .pk ?_
 refine .nil (.aI rfl (.sr ?_))
 refine .an ?_
 refine .nil (.ret ?_)
 exact .rb rfl (df fA)
 refine .gw 94 (Y.qo ep rfl rfl) (.gw 94 (Y.qz fo rfl rfl rfl rfl) (.gw 94 (Y.zl rfl rfl) ?_))
 refine .gw 94 (Y.zf rfl rfl) ?_
 refine .ax (d := 98) rfl (fun lN => ?_) (fun lN => ?_)
 refine .gw 98 (Y.zf rfl rfl) (.gw 98 (Y.zo rfl) (.gw 94 (Y.zp rfl rfl rfl) ?_))
 refine .pk ?_
 refine .nil (.aI rfl (.sr ?_))
 refine .an ?_
 refine .nil (.ret ?_)
 exact .rb rfl (df fA)
 refine .gz 98 (.gz 98 (.gw 94 (Y.zp rfl rfl rfl) ?_))
 refine .pk ?_
 refine .nil (.cj rfl (.skip ?_))
 refine .seq (.sr ?_)
 refine .mv ?_
 refine .vl (Y.zb rfl rfl) (.nil (.aI rfl ?_))
 refine .sr ?_
 refine .fa cY ?_
 refine .ld bg ?_
 refine .vl (Y.ql rfl rfl) ?_
 refine .an ?_
 refine .nil (.ret ?_)
 exact .rb rfl (dd fA)
 refine .ld bg ?_
 refine .nil ⟨rfl, ?_⟩
 refine .one 2 rfl ba (.aR AD (jT (op := c.op)) rfl (.ao rfl rfl .nil) ag rfl ?_)
 refine .nil ⟨rfl, ?_⟩
 refine .bp (n := 0) [5, 6] [] 0 rfl ba (.cn 5 rfl (Y.qf rfl rfl) (.cn 6 rfl (Y.qf rfl rfl) ?_))
 refine .nil (.done ba (.sr ?_))
 refine .mv ?_
 refine .vl (Y.ql rfl rfl) (.nil ?_)
 refine .ay rfl (fun vN => ?_) (fun vN => ?_)
 refine .sr ?_
 refine .an ?_
 refine .nil (.ret ?_)
 exact .rb rfl (df fA)
 refine .skip (.seq (.sr ?_))
 refine .fa eH ?_
 refine .ld dr ?_
 refine .vl (Y.qw (n := c.args.length) a7 rfl iJ) ?_
 refine .mv ?_
 refine .vl (Y.zl rfl rfl) ?_
 refine .mv ?_
 refine .ax (d := 88) rfl (fun ln => ?_) (fun ln => ?_)
 refine .gz 88 (.gz 88 (.gz 88 ?_))
 refine .gz 88 ?_
 refine .pk ?_
 refine .mv ?_
 refine .gz 94 (.gz 94 (.gz 94 ?_))
 refine .gz 94 (.gz 98 (.gz 98 ?_))
 refine .gz 94 ?_
 refine .pk ?_
 refine .nil (.aI rfl (.sr ?_))
 refine .an ?_
 refine .nil (.ret ?_)
 exact .rb rfl (df fA)
 refine .gw 88 (Y.qo eG rfl rfl) (.gw 88 (Y.qz bg rfl rfl rfl rfl) (.gw 88 (Y.zf rfl rfl) ?_))
 refine .gw 88 (Y.zl rfl rfl) ?_
 refine .pk ?_
 refine .mv ?_
 refine .ax (d := 94) rfl (fun mx => ?_) (fun mx => ?_)
 refine .gz 94 (.gz 94 (.gz 94 ?_))
 refine .gz 94 (.gz 98 (.gz 98 ?_))
 refine .gz 94 ?_
 refine .pk ?_
 refine .nil (.aI rfl (.sr ?_))
 refine .an ?_
 refine .nil (.ret ?_)
 exact .rb rfl (df fA)
 refine .gw 94 (Y.qo ep rfl rfl) (.gw 94 (Y.qz fo rfl rfl rfl rfl) (.gw 94 (Y.zl rfl rfl) ?_))
 refine .gw 94 (Y.zf rfl rfl) ?_
 refine .ax (d := 98) rfl (fun lN => ?_) (fun lN => ?_)
 refine .gw 98 (Y.zf rfl rfl) (.gw 98 (Y.zo rfl) (.gw 94 (Y.zp rfl rfl rfl) ?_))
 refine .pk ?_
 refine .nil (.aI rfl (.sr ?_))
 refine .an ?_
 refine .nil (.ret ?_)
 exact .rb rfl (df fA)
 refine .gz 98 (.gz 98 (.gw 94 (Y.zp rfl rfl rfl) ?_))
 refine .pk ?_
 refine .nil (.cj rfl (.skip ?_))
 refine .seq (.sr ?_)
 refine .mv ?_
 refine .vl (Y.zb rfl rfl) (.nil (.aI rfl ?_))
 refine .sr ?_
 refine .fa cY ?_
 refine .ld bg ?_
 refine .vl (Y.ql rfl rfl) ?_
 refine .an ?_
 refine .nil (.ret ?_)
 exact .rb rfl (dd fA)
 refine .ld bg ?_
 refine .nil ⟨rfl, ?_⟩
 refine .bp (n := 3) [1] [2, 5, 6] 2 rfl ba (.cn 1 rfl (Y.qz bg rfl rfl rfl rfl) (.nil ?_))
 refine .one 2 rfl ba (.aR AD (jT (op := c.op)) rfl (.ao rfl rfl .nil) ag rfl ?_)
 refine .nil ⟨rfl, ?_⟩
 refine .bp (n := 0) [5, 6] [] 0 rfl ba (.cn 5 rfl (Y.qf rfl rfl) (.cn 6 rfl (Y.qf rfl rfl) ?_))
 refine .nil (.done ba (.sr ?_))
 refine .mv ?_
 refine .vl (Y.ql rfl rfl) (.nil ?_)
 refine .ay rfl (fun vN => ?_) (fun vN => ?_)
 refine .sr ?_
 refine .an ?_
 refine .nil (.ret ?_)
 exact .rb rfl (df fA)
 refine .skip (.seq (.sr ?_))
 refine .fa eH ?_
 refine .ld dr ?_
 refine .vl (Y.qw (n := c.args.length) a7 rfl iJ) ?_
 refine .mv ?_
 refine .vl (Y.zl rfl rfl) ?_
 refine .mv ?_
 refine .ax (d := 88) rfl (fun ln => ?_) (fun ln => ?_)
 refine .gz 88 (.gz 88 (.gz 88 ?_))
 refine .gz 88 ?_
 refine .pk ?_
 refine .mv ?_
 refine .gz 94 (.gz 94 (.gz 94 ?_))
 refine .gz 94 (.gz 98 (.gz 98 ?_))
 refine .gz 94 ?_
 refine .pk ?_
 refine .nil (.aI rfl (.sr ?_))
 refine .an ?_
 refine .nil (.ret ?_)
 exact .rb rfl (df fA)
 refine .gw 88 (Y.qo eG rfl rfl) (.gw 88 (Y.qz bg rfl rfl rfl rfl) (.gw 88 (Y.zf rfl rfl) ?_))
 refine .gw 88 (Y.zl rfl rfl) ?_
 refine .pk ?_
 refine .mv ?_
 refine .ax (d := 94) rfl (fun mx => ?_) (fun mx => ?_)
 refine .gz 94 (.gz 94 (.gz 94 ?_))
 refine .gz 94 (.gz 98 (.gz 98 ?_))
 refine .gz 94 ?_
 refine .pk ?_
 refine .nil (.aI rfl (.sr ?_))
 refine .an ?_
 refine .nil (.ret ?_)
 exact .rb rfl (df fA)
 refine .gw 94 (Y.qo ep rfl rfl) (.gw 94 (Y.qz fo rfl rfl rfl rfl) (.gw 94 (Y.zl rfl rfl) ?_))
 refine .gw 94 (Y.zf rfl rfl) ?_
 refine .ax (d := 98) rfl (fun lN => ?_) (fun lN => ?_)
 refine .gw 98 (Y.zf rfl rfl) (.gw 98 (Y.zo rfl) (.gw 94 (Y.zp rfl rfl rfl) ?_))
 refine .pk ?_
 refine .nil (.aI rfl (.sr ?_))
 refine .an ?_
 refine .nil (.ret ?_)
 exact .rb rfl (df fA)
 refine .gz 98 (.gz 98 (.gw 94 (Y.zp rfl rfl rfl) ?_))
 refine .pk ?_
 refine .nil (.cj rfl (.skip ?_))
 refine .seq (.sr ?_)
 refine .mv ?_
 refine .vl (Y.zb rfl rfl) (.nil (.aI rfl ?_))
 refine .sr ?_
 refine .fa cY ?_
 refine .ld bg ?_
 refine .vl (Y.ql rfl rfl) ?_
 refine .an ?_
 refine .nil (.ret ?_)
 exact .rb rfl (dd fA)
 refine .sr (.vl (Y.ql rfl rfl) ?_)
 refine .an ?_
 refine .nil ?_
 refine .ay rfl (fun mj => ?_) (fun mj => ?_)
 refine .sr ?_
 refine .fa eH ?_
 refine .ld dr ?_
 refine .vl (Y.qw (n := c.args.length) a7 rfl iJ) ?_
 refine .an ?_
 refine .nil (.sr ?_)
 refine .mv ?_
 refine .vl (Y.zb rfl rfl) ?_
 refine .mv ?_
 refine .ax (d := 29) rfl (fun MD => ?_) (fun MD => ?_)
 refine .gz 29 (.gz 29 (.gz 29 ?_))
 refine .pk ?_
 refine .nil (.aI rfl (.sr ?_))
 refine .an ?_
 refine .nil (.ret ?_)
 exact .rb rfl (df fA)
 refine .gw 29 (Y.zf rfl rfl) (.gw 29 (Y.zu rfl rfl om) (.gw 29 (Y.ql rfl rfl) ?_))
 refine .pk ?_
 refine .nil ?_
 refine .ay rfl (fun vT => ?_) (fun vT => ?_)
 refine .sr ?_
 refine .an ?_
 refine .nil (.ret ?_)
 exact .rb rfl (df fA)
 refine .skip (.seq (.sr ?_))
 refine .fa eH ?_
 refine .ld dr ?_
 refine .vl (Y.qw (n := c.args.length) a7 rfl iJ) ?_
 refine .mv ?_
 refine .vl (Y.zl rfl rfl) ?_
 refine .mv ?_
 refine .ax (d := 88) rfl (fun ln => ?_) (fun ln => ?_)
 refine .gz 88 (.gz 88 (.gz 88 ?_))
 refine .gz 88 ?_
 refine .pk ?_
 refine .mv ?_
 refine .gz 94 (.gz 94 (.gz 94 ?_))
 refine .gz 94 (.gz 98 (.gz 98 ?_))
 refine .gz 94 ?_
 refine .pk ?_
 refine .nil (.aI rfl (.sr ?_))
 refine .an ?_
 refine .nil (.ret ?_)
 exact .rb rfl (df fA)
 refine .gw 88 (Y.qo eG rfl rfl) (.gw 88 (Y.qz bg rfl rfl rfl rfl) (.gw 88 (Y.zf rfl rfl) ?_))
 refine .gw 88 (Y.zl rfl rfl) ?_
 refine .pk ?_
 refine .mv ?_
 refine .ax (d := 94) rfl (fun mx => ?_) (fun mx => ?_)
 refine .gz 94 (.gz 94 (.gz 94 ?_))
 refine .gz 94 (.gz 98 (.gz 98 ?_))
 refine .gz 94 ?_
 refine .pk ?_
 refine .nil (.aI rfl (.sr ?_))
 refine .an ?_
 refine .nil (.ret ?_)
 exact .rb rfl (df fA)
 refine .gw 94 (Y.qo ep rfl rfl) (.gw 94 (Y.qz fo rfl rfl rfl rfl) (.gw 94 (Y.zl rfl rfl) ?_))
 refine .gw 94 (Y.zf rfl rfl) ?_
 refine .ax (d := 98) rfl (fun lN => ?_) (fun lN => ?_)
 refine .gw 98 (Y.zf rfl rfl) (.gw 98 (Y.zo rfl) (.gw 94 (Y.zp rfl rfl rfl) ?_))
 refine .pk ?_
 refine .nil (.aI rfl (.sr ?_))
 refine .an ?_
 refine .nil (.ret ?_)
 exact .rb rfl (df fA)
 refine .gz 98 (.gz 98 (.gw 94 (Y.zp rfl rfl rfl) ?_))
 refine .pk ?_
 refine .nil (.cj rfl (.skip ?_))
 refine .seq (.sr ?_)
 refine .mv ?_
 refine .vl (Y.zb rfl rfl) (.nil (.aI rfl ?_))
 refine .sr ?_
 refine .fa cY ?_
 refine .ld bg ?_
 refine .vl (Y.ql rfl rfl) ?_
 refine .an ?_
 refine .nil (.ret ?_)
 exact .rb rfl (dd fA)
 refine .sr (.vl (Y.ql rfl rfl) ?_)
 refine .an ?_
 refine .nil ?_
 refine .ay rfl (fun GX => ?_) (fun GX => ?_)
 refine .region ?_
 refine .an ?_
 refine .an ?_
 refine .nil ?_
 refine .pR (⟨[(2, .ptr 102 0 0 0), (3, .ptr 103 0 0 0), (8, vi (-1))], [(102, .cells (ae.row n)), (103, .cells (Cell.row c))]⟩) (((¬ ((c.args.length : Int) ≠ 2)) ∧ (¬ (c.op ≠ 0)) ∧ ((c.num : Int) ≠ 0)) ∨ ((¬ ((c.args.length : Int) ≠ 2)) ∧ (¬ (c.op ≠ 0)) ∧ (¬ ((c.num : Int) ≠ 0)))) ?_ (fun Gc => ?_)
 refine .sr ?_
 refine .fa eH ?_
 refine .ld dr ?_
 refine .vl (Y.qw (n := c.args.length) a7 rfl iJ) ?_
 refine .mv ?_
 refine .vl (Y.zl rfl rfl) ?_
 refine .mv ?_
 refine .ax (d := 88) rfl (fun ln => ?_) (fun ln => ?_)
 refine .gz 88 (.gz 88 (.gz 88 ?_))
 refine .gz 88 ?_
 refine .pk ?_
 refine .mv ?_
 refine .gz 94 (.gz 94 (.gz 94 ?_))
 refine .gz 94 (.gz 98 (.gz 98 ?_))
 refine .gz 94 ?_
 refine .pk ?_
 refine .nil (.aI rfl (.sr ?_))
 refine .an ?_
 refine .nil (.ret ?_)
 exact .rb rfl (df fA)
 refine .gw 88 (Y.qo eG rfl rfl) (.gw 88 (Y.qz bg rfl rfl rfl rfl) (.gw 88 (Y.zf rfl rfl) ?_))
 refine .gw 88 (Y.zl rfl rfl) ?_
 refine .pk ?_
 refine .mv ?_
 refine .ax (d := 94) rfl (fun mx => ?_) (fun mx => ?_)
 refine .gz 94 (.gz 94 (.gz 94 ?_))
 refine .gz 94 (.gz 98 (.gz 98 ?_))
 refine .gz 94 ?_
 refine .pk ?_
 refine .nil (.aI rfl (.sr ?_))
 refine .an ?_
 refine .nil (.ret ?_)
 exact .rb rfl (df fA)
 refine .gw 94 (Y.qo ep rfl rfl) (.gw 94 (Y.qz fo rfl rfl rfl rfl) (.gw 94 (Y.zl rfl rfl) ?_))
 refine .gw 94 (Y.zf rfl rfl) ?_
 refine .ax (d := 98) rfl (fun lN => ?_) (fun lN => ?_)
 refine .gw 98 (Y.zf rfl rfl) (.gw 98 (Y.zo rfl) (.gw 94 (Y.zp rfl rfl rfl) ?_))
 refine .pk ?_
 refine .nil (.cj rfl (.skip ?_))
 exact ⟨.inl ⟨ln, mx, lN⟩, Le.mk (.c2 (.c .nil)) (.c (.c .nil))⟩
 refine .gz 98 (.gz 98 (.gw 94 (Y.zp rfl rfl rfl) ?_))
 refine .pk ?_
 refine .nil (.cj rfl (.skip ?_))
 exact ⟨.inr (⟨ln, mx, lN⟩), Le.mk (.c2 (.c .nil)) (.c (.c .nil))⟩
 refine .seq (.sr ?_)
 refine .mv ?_
 refine .vl (Y.zb rfl rfl) (.nil (.aI rfl ?_))
 refine .sr ?_
 refine .fa cY ?_
 refine .ld bg ?_
 refine .vl (Y.ql rfl rfl) ?_
 refine .an ?_
 refine .nil (.ret ?_)
 exact .rb rfl (dd fA)
 refine .sr (.vl (Y.ql rfl rfl) ?_)
 refine .an ?_
 refine .nil ?_
 refine .ay rfl (fun Gd => ?_) (fun Gd => ?_)
 refine .seq (.gC rfl ba (.val (Y.qo eG rfl rfl) ag ?_))
 refine .val (Y.qz bg rfl rfl rfl rfl) ag (.val (Y.qf rfl rfl) ag (.val (Y.qf rfl rfl) ag ?_))
 refine .val (Y.qf rfl rfl) ag (.nil (.sr ?_))
 refine .fa eG ?_
 refine .ld bg ?_
 refine .vl (Y.zb rfl rfl) ?_
 refine .mv ?_
 refine .ax (d := 43) rfl (fun ME => ?_) (fun ME => ?_)
 refine .gz 43 (.gz 43 (.gz 43 ?_))
 refine .pk ?_
 refine .mv ?_
 refine .gz 48 (.gz 48 (.gz 48 ?_))
 refine .pk ?_
 refine .mv ?_
 refine .gz 53 (.gz 53 (.gz 53 ?_))
 refine .pk ?_
 refine .nil (.aI rfl (.sr ?_))
 refine .an ?_
 refine .nil (.ret ?_)
 exact .rb rfl (df fA)
 refine .gw 43 (Y.qo eG rfl rfl) (.gw 43 (Y.qz bg rfl rfl rfl rfl) (.gw 43 (Y.qq rfl rfl) ?_))
 refine .pk ?_
 refine .mv ?_
 refine .ax (d := 48) rfl (fun uw => ?_) (fun uw => ?_)
 refine .gz 48 (.gz 48 (.gz 48 ?_))
 refine .pk ?_
 refine .mv ?_
 refine .gz 53 (.gz 53 (.gz 53 ?_))
 refine .pk ?_
 refine .nil (.aI rfl (.sr ?_))
 refine .an ?_
 refine .nil (.ret ?_)
 exact .rb rfl (df fA)
 refine .gw 48 (Y.qo ep rfl rfl) (.gw 48 (Y.qz fo rfl rfl rfl rfl) (.gw 48 (Y.zb rfl rfl) ?_))
 refine .pk ?_
 refine .mv ?_
 refine .ax (d := 53) rfl (fun MF => ?_) (fun MF => ?_)
 refine .gz 53 (.gz 53 (.gz 53 ?_))
 refine .pk ?_
 refine .nil (.aI rfl (.sr ?_))
 refine .an ?_
 refine .nil (.ret ?_)
 exact .rb rfl (df fA)
 refine .gw 53 (Y.qo ep rfl rfl) (.gw 53 (Y.qz fo rfl rfl rfl rfl) (.gw 53 (Y.qq rfl rfl) ?_))
 refine .pk ?_
 refine .nil ?_
 refine .ay rfl (fun xw => ?_) (fun xw => ?_)
 refine .sr ?_
 refine .an ?_
 refine .nil (.ret ?_)
 exact .rb rfl (df fA)
 refine .skip ?_
 refine .pR (⟨[(2, .ptr 102 0 0 0), (3, .ptr 103 0 0 0), (8, vi (-1))], [(102, .cells (ae.row n)), (103, .cells (Cell.row c))]⟩) (((¬ ((c.args.length : Int) ≠ 2)) ∧ (¬ (c.op ≠ c.op)) ∧ ((c.num : Int) ≠ 0)) ∨ ((¬ ((c.args.length : Int) ≠ 2)) ∧ (¬ (c.op ≠ c.op)) ∧ (¬ ((c.num : Int) ≠ 0)))) ?_ (fun Gc => ?_)
 refine .sr ?_
 refine .fa eH ?_
 refine .ld dr ?_
 refine .vl (Y.qw (n := c.args.length) a7 rfl iJ) ?_
 refine .mv ?_
 refine .vl (Y.zl rfl rfl) ?_
 refine .mv ?_
 refine .ax (d := 88) rfl (fun ln => ?_) (fun ln => ?_)
 refine .gz 88 (.gz 88 (.gz 88 ?_))
 refine .gz 88 ?_
 refine .pk ?_
 refine .mv ?_
 refine .gz 94 (.gz 94 (.gz 94 ?_))
 refine .gz 94 (.gz 98 (.gz 98 ?_))
 refine .gz 94 ?_
 refine .pk ?_
 refine .nil (.aI rfl (.sr ?_))
 refine .an ?_
 refine .nil (.ret ?_)
 exact .rb rfl (df fA)
 refine .gw 88 (Y.qo eG rfl rfl) (.gw 88 (Y.qz bg rfl rfl rfl rfl) (.gw 88 (Y.zf rfl rfl) ?_))
 refine .gw 88 (Y.zl rfl rfl) ?_
 refine .pk ?_
 refine .mv ?_
 refine .ax (d := 94) rfl (fun mx => ?_) (fun mx => ?_)
 refine .gz 94 (.gz 94 (.gz 94 ?_))
 refine .gz 94 (.gz 98 (.gz 98 ?_))
 refine .gz 94 ?_
 refine .pk ?_
 refine .nil (.aI rfl (.sr ?_))
 refine .an ?_
 refine .nil (.ret ?_)
 exact .rb rfl (df fA)
 refine .gw 94 (Y.qo ep rfl rfl) (.gw 94 (Y.qz fo rfl rfl rfl rfl) (.gw 94 (Y.zl rfl rfl) ?_))
 refine .gw 94 (Y.zf rfl rfl) ?_
 refine .ax (d := 98) rfl (fun lN => ?_) (fun lN => ?_)
 refine .gw 98 (Y.zf rfl rfl) (.gw 98 (Y.zo rfl) (.gw 94 (Y.zp rfl rfl rfl) ?_))
 refine .pk ?_
 refine .nil (.cj rfl (.skip ?_))
 exact ⟨.inl ⟨ln, mx, lN⟩, Le.mk (.c2 (.c .nil)) (.c (.c .nil))⟩
 refine .gz 98 (.gz 98 (.gw 94 (Y.zp rfl rfl rfl) ?_))
 refine .pk ?_
 refine .nil (.cj rfl (.skip ?_))
 exact ⟨.inr (⟨ln, mx, lN⟩), Le.mk (.c2 (.c .nil)) (.c (.c .nil))⟩
 refine .seq (.sr ?_)
 refine .mv ?_
 refine .vl (Y.zb rfl rfl) (.nil (.aI rfl ?_))
 refine .sr ?_
 refine .fa cY ?_
 refine .ld bg ?_
 refine .vl (Y.ql rfl rfl) ?_
 refine .an ?_
 refine .nil (.ret ?_)
 exact .rb rfl (dd fA)
 refine .sr (.vl (Y.ql rfl rfl) ?_)
 refine .an ?_
 refine .nil ?_
 refine .ay rfl (fun Ky => ?_) (fun Ky => ?_)
 refine .gC rfl ba (.val (Y.qo oE rfl rfl) ag (.val (Y.qz xV rfl rfl rfl rfl) ag ?_))
 refine .val (Y.qw (n := n.bu.length) vM rfl iJ) ag (.val (Y.qf rfl rfl) ag (.val (Y.qf rfl rfl) ag ?_))
 refine .nil (.seq (.sr ?_))
 refine .fa eH ?_
 refine .ld dr ?_
 refine .vl (Y.qw (n := c.args.length) a7 rfl iJ) ?_
 refine .mv ?_
 refine .vl (Y.zl rfl rfl) ?_
 refine .mv ?_
 refine .ax (d := 88) rfl (fun ln => ?_) (fun ln => ?_)
 refine .gz 88 (.gz 88 (.gz 88 ?_))
 refine .gz 88 ?_
 refine .pk ?_
 refine .mv ?_
 refine .gz 94 (.gz 94 (.gz 94 ?_))
 refine .gz 94 (.gz 98 (.gz 98 ?_))
 refine .gz 94 ?_
 refine .pk ?_
 refine .nil (.aI rfl (.sr ?_))
 refine .an ?_
 refine .nil (.ret ?_)
 exact .rb rfl (df fA)
 refine .gw 88 (Y.qo eG rfl rfl) (.gw 88 (Y.qz bg rfl rfl rfl rfl) (.gw 88 (Y.zf rfl rfl) ?_))
 refine .gw 88 (Y.zl rfl rfl) ?_
 refine .pk ?_
 refine .mv ?_
 refine .ax (d := 94) rfl (fun mx => ?_) (fun mx => ?_)
 refine .gz 94 (.gz 94 (.gz 94 ?_))
 refine .gz 94 (.gz 98 (.gz 98 ?_))
 refine .gz 94 ?_
 refine .pk ?_
 refine .nil (.aI rfl (.sr ?_))
 refine .an ?_
 refine .nil (.ret ?_)
 exact .rb rfl (df fA)
 refine .gw 94 (Y.qo ep rfl rfl) (.gw 94 (Y.qz fo rfl rfl rfl rfl) (.gw 94 (Y.zl rfl rfl) ?_))
 refine .gw 94 (Y.zf rfl rfl) ?_
 refine .ax (d := 98) rfl (fun lN => ?_) (fun lN => ?_)
 refine .gw 98 (Y.zf rfl rfl) (.gw 98 (Y.zo rfl) (.gw 94 (Y.zp rfl rfl rfl) ?_))
 refine .pk ?_
 refine .nil (.aI rfl (.sr ?_))
 refine .an ?_
 refine .nil (.ret ?_)
 exact .rb rfl (df fA)
 refine .gz 98 (.gz 98 (.gw 94 (Y.zp rfl rfl rfl) ?_))
 refine .pk ?_
 refine .nil (.cj rfl (.skip ?_))
 refine .seq (.sr ?_)
 refine .mv ?_
 refine .vl (Y.zb rfl rfl) (.nil ?_)
 refine .ay rfl (fun lO => ?_) (fun lO => ?_)
 refine .sr ?_
 refine .fa cY ?_
 refine .ld bg ?_
 refine .vl (Y.ql rfl rfl) ?_
 refine .an ?_
 refine .nil (.ret ?_)
 exact .rb rfl (dd fA)
 refine .skip (.sr ?_)
 refine .fa cY ?_
 refine .ld bg ?_
 refine .vl (Y.qp rfl rfl) ?_
 refine .mv ?_
 refine .ax (d := 111) rfl (fun sS => ?_) (fun sS => ?_)
 refine .gw 111 (Y.qo cY rfl rfl) (.gw 111 (Y.qz bg rfl rfl rfl rfl) (.gw 111 (Y.zf rfl rfl) ?_))
 refine .gw 111 (Y.zb rfl rfl) ?_
 refine .pk ?_
 refine .mv ?_
 refine .ax (d := 117) rfl (fun my => ?_) (fun my => ?_)
 refine .gw 117 (Y.qo jS rfl rfl) (.gw 117 (Y.qz bg rfl rfl rfl rfl) (.gw 117 (Y.zl rfl rfl) ?_))
 refine .gw 117 (Y.zf rfl rfl) ?_
 refine .ax (d := 121) rfl (fun vV => ?_) (fun vV => ?_)
 refine .gz 121 (.gz 121 (.gz 121 ?_))
 refine .gz 121 (.gz 121 (.gz 121 ?_))
 refine .gz 121 (.gz 121 (.gw 117 (Y.zp rfl rfl rfl) ?_))
 refine .pk ?_
 refine .an ?_
 refine .nil (.ret ?_)
 exact .rb rfl (dt fA)
 refine .gw 121 (Y.qo iM rfl rfl) (.gw 121 (Y.qz ph rfl rfl rfl rfl) (.gw 121 (Y.qo cY rfl rfl) ?_))
 refine .gw 121 (Y.qz bg rfl rfl rfl rfl) (.gw 121 (Y.qr (m := (c.mem).toNat) nU rfl rfl om (aq (d := default) om)) ?_)
 refine .gw 121 (Y.qo jK rfl rfl) (.gw 121 (Y.qz r9 rfl rfl rfl rfl) (.gw 121 (Y.zo rfl) ?_))
 refine .gw 117 (Y.zp rfl rfl rfl) ?_
 refine .pk ?_
 refine .an ?_
 refine .nil (.ret ?_)
 exact .rb rfl (db fA)
 refine .gz 117 (.gz 117 (.gz 117 ?_))
 refine .gz 117 (.gz 121 (.gz 121 ?_))
 refine .gz 121 (.gz 121 (.gz 121 ?_))
 refine .gz 121 (.gz 121 (.gz 121 ?_))
 refine .gz 117 ?_
 refine .pk ?_
 refine .an ?_
 refine .nil (.ret ?_)
 exact .rb rfl (df fA)
 refine .gz 111 (.gz 111 (.gz 111 ?_))
 refine .gz 111 ?_
 refine .pk ?_
 refine .mv ?_
 refine .gz 117 (.gz 117 (.gz 117 ?_))
 refine .gz 117 (.gz 121 (.gz 121 ?_))
 refine .gz 121 (.gz 121 (.gz 121 ?_))
 refine .gz 121 (.gz 121 (.gz 121 ?_))
 refine .gz 117 ?_
 refine .pk ?_
 refine .an ?_
 refine .nil (.ret ?_)
 exact .rb rfl (df fA)
 refine .sr (.vl (Y.ql rfl rfl) ?_)
 refine .an ?_
 refine .nil ?_
 refine .ay rfl (fun ru => ?_) (fun ru => ?_)
 refine .gC rfl ba (.val (Y.qo oE rfl rfl) ag (.val (Y.qz xV rfl rfl rfl rfl) ag ?_))
 refine .val (Y.qw (n := n.bu.length) vM rfl iJ) ag (.val (Y.qf rfl rfl) ag (.val (Y.qf rfl rfl) ag ?_))
 refine .nil (.seq (.sr ?_))
 refine .fa eH ?_
 refine .ld dr ?_
 refine .vl (Y.qw (n := c.args.length) a7 rfl iJ) ?_
 refine .mv ?_
 refine .vl (Y.zl rfl rfl) ?_
 refine .mv ?_
 refine .ax (d := 88) rfl (fun ln => ?_) (fun ln => ?_)
 refine .gz 88 (.gz 88 (.gz 88 ?_))
 refine .gz 88 ?_
 refine .pk ?_
 refine .mv ?_
 refine .gz 94 (.gz 94 (.gz 94 ?_))
 refine .gz 94 (.gz 98 (.gz 98 ?_))
 refine .gz 94 ?_
 refine .pk ?_
 refine .nil (.aI rfl (.sr ?_))
 refine .an ?_
 refine .nil (.ret ?_)
 exact .rb rfl (df fA)
 refine .gw 88 (Y.qo eG rfl rfl) (.gw 88 (Y.qz bg rfl rfl rfl rfl) (.gw 88 (Y.zf rfl rfl) ?_))
 refine .gw 88 (Y.zl rfl rfl) ?_
 refine .pk ?_
 refine .mv ?_
 refine .ax (d := 94) rfl (fun mx => ?_) (fun mx => ?_)
 refine .gz 94 (.gz 94 (.gz 94 ?_))
 refine .gz 94 (.gz 98 (.gz 98 ?_))
 refine .gz 94 ?_
 refine .pk ?_
 refine .nil (.aI rfl (.sr ?_))
 refine .an ?_
 refine .nil (.ret ?_)
 exact .rb rfl (df fA)
 refine .gw 94 (Y.qo ep rfl rfl) (.gw 94 (Y.qz fo rfl rfl rfl rfl) (.gw 94 (Y.zl rfl rfl) ?_))
 refine .gw 94 (Y.zf rfl rfl) ?_
 refine .ax (d := 98) rfl (fun lN => ?_) (fun lN => ?_)
 refine .gw 98 (Y.zf rfl rfl) (.gw 98 (Y.zo rfl) (.gw 94 (Y.zp rfl rfl rfl) ?_))
 refine .pk ?_
 refine .nil (.aI rfl (.sr ?_))
 refine .an ?_
 refine .nil (.ret ?_)
 exact .rb rfl (df fA)
 refine .gz 98 (.gz 98 (.gw 94 (Y.zp rfl rfl rfl) ?_))
 refine .pk ?_
 refine .nil (.cj rfl (.skip ?_))
 refine .seq (.sr ?_)
 refine .mv ?_
 refine .vl (Y.zb rfl rfl) (.nil ?_)
 refine .ay rfl (fun lO => ?_) (fun lO => ?_)
 refine .sr ?_
 refine .fa cY ?_
 refine .ld bg ?_
 refine .vl (Y.ql rfl rfl) ?_
 refine .an ?_
 refine .nil (.ret ?_)
 exact .rb rfl (dd fA)
 refine .skip (.sr ?_)
 refine .fa cY ?_
 refine .ld bg ?_
 refine .vl (Y.qp rfl rfl) ?_
 refine .mv ?_
 refine .ax (d := 111) rfl (fun sS => ?_) (fun sS => ?_)
 refine .gw 111 (Y.qo cY rfl rfl) (.gw 111 (Y.qz bg rfl rfl rfl rfl) (.gw 111 (Y.zf rfl rfl) ?_))
 refine .gw 111 (Y.zb rfl rfl) ?_
 refine .pk ?_
 refine .mv ?_
 refine .ax (d := 117) rfl (fun my => ?_) (fun my => ?_)
 refine .gw 117 (Y.qo jS rfl rfl) (.gw 117 (Y.qz bg rfl rfl rfl rfl) (.gw 117 (Y.zl rfl rfl) ?_))
 refine .gw 117 (Y.zf rfl rfl) ?_
 refine .ax (d := 121) rfl (fun vV => ?_) (fun vV => ?_)
 refine .gz 121 (.gz 121 (.gz 121 ?_))
 refine .gz 121 (.gz 121 (.gz 121 ?_))
 refine .gz 121 (.gz 121 (.gw 117 (Y.zp rfl rfl rfl) ?_))
 refine .pk ?_
 refine .an ?_
 refine .nil (.ret ?_)
 exact .rb rfl (dt fA)
 refine .gw 121 (Y.qo iM rfl rfl) (.gw 121 (Y.qz ph rfl rfl rfl rfl) (.gw 121 (Y.qo cY rfl rfl) ?_))
 refine .gw 121 (Y.qz bg rfl rfl rfl rfl) (.gw 121 (Y.qr (m := (c.mem).toNat) nU rfl rfl om (aq (d := default) om)) ?_)
 refine .gw 121 (Y.qo jK rfl rfl) (.gw 121 (Y.qz r9 rfl rfl rfl rfl) (.gw 121 (Y.zo rfl) ?_))
 refine .gw 117 (Y.zp rfl rfl rfl) ?_
 refine .pk ?_
 refine .an ?_
 refine .nil (.ret ?_)
 exact .rb rfl (db fA)
 refine .gz 117 (.gz 117 (.gz 117 ?_))
 refine .gz 117 (.gz 121 (.gz 121 ?_))
 refine .gz 121 (.gz 121 (.gz 121 ?_))
 refine .gz 121 (.gz 121 (.gz 121 ?_))
 refine .gz 117 ?_
 refine .pk ?_
 refine .an ?_
 refine .nil (.ret ?_)
 exact .rb rfl (df fA)
 refine .gz 111 (.gz 111 (.gz 111 ?_))
 refine .gz 111 ?_
 refine .pk ?_
 refine .mv ?_
 refine .gz 117 (.gz 117 (.gz 117 ?_))
 refine .gz 117 (.gz 121 (.gz 121 ?_))
 refine .gz 121 (.gz 121 (.gz 121 ?_))
 refine .gz 121 (.gz 121 (.gz 121 ?_))
 refine .gz 117 ?_
 refine .pk ?_
 refine .an ?_
 refine .nil (.ret ?_)
 exact .rb rfl (df fA)
 refine .sr (.vl (Y.ql rfl rfl) ?_)
 refine .an ?_
 refine .nil ?_
 refine .ay rfl (fun xt => ?_) (fun xt => ?_)
 refine .sr ?_
 refine .an ?_
 refine .nil (.sr ?_)
 refine .fa ep ?_
 refine .ld fo ?_
 refine .fa qN ?_
 refine .ld dr ?_
 refine .vl (Y.qw (n := n.ins.length) a7 rfl iJ) (.vl (Y.qk y5 sK rfl (by first | rfl | exact IntWalk.u64_in _ om)) ?_)
 refine .vl (Y.qp rfl rfl) (.nil ?_)
 refine .ay rfl (fun J0 => ?_) (fun J0 => ?_)
 refine .sr ?_
 refine .an ?_
 refine .nil (.ret ?_)
 exact .rb rfl (df fA)
 refine .skip ?_
 refine .pR (⟨[(2, .ptr 102 0 0 0), (3, .ptr 103 0 0 0), (8, vi (-1))], [(102, .cells (ae.row n)), (103, .cells (Cell.row c))]⟩) (((¬ ((c.args.length : Int) ≠ 0)) ∧ (¬ (c.op ≠ 0)) ∧ ((c.num : Int) ≠ 0)) ∨ ((¬ ((c.args.length : Int) ≠ 0)) ∧ (¬ (c.op ≠ 0)) ∧ (¬ ((c.num : Int) ≠ 0)))) ?_ (fun Gc => ?_)
 refine .sr ?_
 refine .fa eH ?_
 refine .ld dr ?_
 refine .vl (Y.qw (n := c.args.length) a7 rfl iJ) ?_
 refine .mv ?_
 refine .vl (Y.zl rfl rfl) ?_
 refine .mv ?_
 refine .ax (d := 88) rfl (fun ln => ?_) (fun ln => ?_)
 refine .gz 88 (.gz 88 (.gz 88 ?_))
 refine .gz 88 ?_
 refine .pk ?_
 refine .mv ?_
 refine .gz 94 (.gz 94 (.gz 94 ?_))
 refine .gz 94 (.gz 98 (.gz 98 ?_))
 refine .gz 94 ?_
 refine .pk ?_
 refine .nil (.aI rfl (.sr ?_))
 refine .an ?_
 refine .nil (.ret ?_)
 exact .rb rfl (df fA)
 refine .gw 88 (Y.qo eG rfl rfl) (.gw 88 (Y.qz bg rfl rfl rfl rfl) (.gw 88 (Y.zf rfl rfl) ?_))
 refine .gw 88 (Y.zl rfl rfl) ?_
 refine .pk ?_
 refine .mv ?_
 refine .ax (d := 94) rfl (fun mx => ?_) (fun mx => ?_)
 refine .gz 94 (.gz 94 (.gz 94 ?_))
 refine .gz 94 (.gz 98 (.gz 98 ?_))
 refine .gz 94 ?_
 refine .pk ?_
 refine .nil (.aI rfl (.sr ?_))
 refine .an ?_
 refine .nil (.ret ?_)
 exact .rb rfl (df fA)
 refine .gw 94 (Y.qo ep rfl rfl) (.gw 94 (Y.qz fo rfl rfl rfl rfl) (.gw 94 (Y.zl rfl rfl) ?_))
 refine .gw 94 (Y.zf rfl rfl) ?_
 refine .ax (d := 98) rfl (fun lN => ?_) (fun lN => ?_)
 refine .gw 98 (Y.zf rfl rfl) (.gw 98 (Y.zo rfl) (.gw 94 (Y.zp rfl rfl rfl) ?_))
 refine .pk ?_
 refine .nil (.cj rfl (.skip ?_))
 exact ⟨.inl ⟨ln, mx, lN⟩, Le.mk (.c2 (.c .nil)) (.c (.c .nil))⟩
 refine .gz 98 (.gz 98 (.gw 94 (Y.zp rfl rfl rfl) ?_))
 refine .pk ?_
 refine .nil (.cj rfl (.skip ?_))
 exact ⟨.inr (⟨ln, mx, lN⟩), Le.mk (.c2 (.c .nil)) (.c (.c .nil))⟩
 refine .seq (.sr ?_)
 refine .mv ?_
 refine .vl (Y.zb rfl rfl) (.nil (.aI rfl ?_))
 refine .sr ?_
 refine .fa cY ?_
 refine .ld bg ?_
 refine .vl (Y.ql rfl rfl) ?_
 refine .an ?_
 refine .nil (.ret ?_)
 exact .rb rfl (dd fA)
 refine .seq (.sr (.vl (Y.ql rfl rfl) ?_))
 refine .an ?_
 refine .nil ?_
 refine .bh rfl (fun J1 => ?_) (fun J1 => ?_)
 refine .skip (.aI rfl (.region ?_))
 refine .fa iM ?_
 refine .ld ph ?_
 refine .vl (Y.qw (n := n.streams.length) nU rfl iJ) ?_
 refine .an ?_
 refine .nil (.seq (.sr ?_))
 refine .fa eH ?_
 refine .ld dr ?_
 refine .vl (Y.qw (n := c.args.length) a7 rfl iJ) ?_
 refine .mv ?_
 refine .vl (Y.zl rfl rfl) ?_
 refine .mv ?_
 refine .ax (d := 88) rfl (fun ln => ?_) (fun ln => ?_)
 refine .gz 88 (.gz 88 (.gz 88 ?_))
 refine .gz 88 ?_
 refine .pk ?_
 refine .mv ?_
 refine .gz 94 (.gz 94 (.gz 94 ?_))
 refine .gz 94 (.gz 98 (.gz 98 ?_))
 refine .gz 94 ?_
 refine .pk ?_
 refine .nil (.aI rfl (.sr ?_))
 refine .an ?_
 refine .nil (.ret ?_)
 exact .rb rfl (df fA)
 refine .gw 88 (Y.qo eG rfl rfl) (.gw 88 (Y.qz bg rfl rfl rfl rfl) (.gw 88 (Y.zf rfl rfl) ?_))
 refine .gw 88 (Y.zl rfl rfl) ?_
 refine .pk ?_
 refine .mv ?_
 refine .ax (d := 94) rfl (fun mx => ?_) (fun mx => ?_)
 refine .gz 94 (.gz 94 (.gz 94 ?_))
 refine .gz 94 (.gz 98 (.gz 98 ?_))
 refine .gz 94 ?_
 refine .pk ?_
 refine .nil (.aI rfl (.sr ?_))
 refine .an ?_
 refine .nil (.ret ?_)
 exact .rb rfl (df fA)
 refine .gw 94 (Y.qo ep rfl rfl) (.gw 94 (Y.qz fo rfl rfl rfl rfl) (.gw 94 (Y.zl rfl rfl) ?_))
 refine .gw 94 (Y.zf rfl rfl) ?_
 refine .ax (d := 98) rfl (fun lN => ?_) (fun lN => ?_)
 refine .gw 98 (Y.zf rfl rfl) (.gw 98 (Y.zo rfl) (.gw 94 (Y.zp rfl rfl rfl) ?_))
 refine .pk ?_
 refine .nil (.aI rfl (.sr ?_))
 refine .an ?_
 refine .nil (.ret ?_)
 exact .rb rfl (df fA)
 refine .gz 98 (.gz 98 (.gw 94 (Y.zp rfl rfl rfl) ?_))
 refine .pk ?_
 refine .nil (.cj rfl (.skip ?_))
 refine .seq (.sr ?_)
 refine .mv ?_
 refine .vl (Y.zb rfl rfl) (.nil ?_)
 refine .ay rfl (fun lO => ?_) (fun lO => ?_)
 refine .sr ?_
 refine .fa cY ?_
 refine .ld bg ?_
 refine .vl (Y.ql rfl rfl) ?_
 refine .an ?_
 refine .nil (.ret ?_)
 exact .rb rfl (dd fA)
 refine .skip (.sr ?_)
 refine .fa cY ?_
 refine .ld bg ?_
 refine .vl (Y.qp rfl rfl) ?_
 refine .mv ?_
 refine .ax (d := 111) rfl (fun sS => ?_) (fun sS => ?_)
 refine .gw 111 (Y.qo cY rfl rfl) (.gw 111 (Y.qz bg rfl rfl rfl rfl) (.gw 111 (Y.zf rfl rfl) ?_))
 refine .gw 111 (Y.zb rfl rfl) ?_
 refine .pk ?_
 refine .mv ?_
 refine .ax (d := 117) rfl (fun my => ?_) (fun my => ?_)
 refine .gw 117 (Y.qo jS rfl rfl) (.gw 117 (Y.qz bg rfl rfl rfl rfl) (.gw 117 (Y.zl rfl rfl) ?_))
 refine .gw 117 (Y.zf rfl rfl) ?_
 refine .ax (d := 121) rfl (fun vV => ?_) (fun vV => ?_)
 refine .gz 121 (.gz 121 (.gz 121 ?_))
 refine .gz 121 (.gz 121 (.gz 121 ?_))
 refine .gz 121 (.gz 121 (.gw 117 (Y.zp rfl rfl rfl) ?_))
 refine .pk ?_
 refine .an ?_
 refine .nil (.ret ?_)
 exact .rb rfl (dt fA)
 refine .gw 121 (Y.qo iM rfl rfl) (.gw 121 (Y.qz ph rfl rfl rfl rfl) (.gw 121 (Y.qo cY rfl rfl) ?_))
 refine .gw 121 (Y.qz bg rfl rfl rfl rfl) (.gw 121 (Y.qr (m := (c.mem).toNat) nU rfl rfl om (aq (d := default) om)) ?_)
 refine .gw 121 (Y.qo jK rfl rfl) (.gw 121 (Y.qz r9 rfl rfl rfl rfl) (.gw 121 (Y.zo rfl) ?_))
 refine .gw 117 (Y.zp rfl rfl rfl) ?_
 refine .pk ?_
 refine .an ?_
 refine .nil (.ret ?_)
 exact .rb rfl (db fA)
 refine .gz 117 (.gz 117 (.gz 117 ?_))
 refine .gz 117 (.gz 121 (.gz 121 ?_))
 refine .gz 121 (.gz 121 (.gz 121 ?_))
 refine .gz 121 (.gz 121 (.gz 121 ?_))
 refine .gz 117 ?_
 refine .pk ?_
 refine .an ?_
 refine .nil (.ret ?_)
 exact .rb rfl (df fA)
 refine .gz 111 (.gz 111 (.gz 111 ?_))
 refine .gz 111 ?_
 refine .pk ?_
 refine .mv ?_
 refine .gz 117 (.gz 117 (.gz 117 ?_))
 refine .gz 117 (.gz 121 (.gz 121 ?_))
 refine .gz 121 (.gz 121 (.gz 121 ?_))
 refine .gz 121 (.gz 121 (.gz 121 ?_))
 refine .gz 117 ?_
 refine .pk ?_
 refine .an ?_
 refine .nil (.ret ?_)
 exact .rb rfl (df fA)
 refine .region (.vl (Y.ql rfl rfl) ?_)
 refine .an ?_
 refine .nil ?_
 refine .bh rfl (fun J1 => ?_) (fun J1 => ?_)
 refine .region ?_
 refine .fa iM ?_
 refine .ld ph ?_
 refine .vl (Y.qw (n := n.streams.length) nU rfl iJ) ?_
 refine .an ?_
 refine .nil (.seq (.sr ?_))
 refine .fa eH ?_
 refine .ld dr ?_
 refine .vl (Y.qw (n := c.args.length) a7 rfl iJ) ?_
 refine .mv ?_
 refine .vl (Y.zl rfl rfl) ?_
 refine .mv ?_
 refine .ax (d := 88) rfl (fun ln => ?_) (fun ln => ?_)
 refine .gz 88 (.gz 88 (.gz 88 ?_))
 refine .gz 88 ?_
 refine .pk ?_
 refine .mv ?_
 refine .gz 94 (.gz 94 (.gz 94 ?_))
 refine .gz 94 (.gz 98 (.gz 98 ?_))
 refine .gz 94 ?_
 refine .pk ?_
 refine .nil (.aI rfl (.sr ?_))
 refine .an ?_
 refine .nil (.ret ?_)
 exact .rb rfl (df fA)
 refine .gw 88 (Y.qo eG rfl rfl) (.gw 88 (Y.qz bg rfl rfl rfl rfl) (.gw 88 (Y.zf rfl rfl) ?_))
 refine .gw 88 (Y.zl rfl rfl) ?_
 refine .pk ?_
 refine .mv ?_
 refine .ax (d := 94) rfl (fun mx => ?_) (fun mx => ?_)
 refine .gz 94 (.gz 94 (.gz 94 ?_))
 refine .gz 94 (.gz 98 (.gz 98 ?_))
 refine .gz 94 ?_
 refine .pk ?_
 refine .nil (.aI rfl (.sr ?_))
 refine .an ?_
 refine .nil (.ret ?_)
 exact .rb rfl (df fA)
 refine .gw 94 (Y.qo ep rfl rfl) (.gw 94 (Y.qz fo rfl rfl rfl rfl) (.gw 94 (Y.zl rfl rfl) ?_))
 refine .gw 94 (Y.zf rfl rfl) ?_
 refine .ax (d := 98) rfl (fun lN => ?_) (fun lN => ?_)
 refine .gw 98 (Y.zf rfl rfl) (.gw 98 (Y.zo rfl) (.gw 94 (Y.zp rfl rfl rfl) ?_))
 refine .pk ?_
 refine .nil (.aI rfl (.sr ?_))
 refine .an ?_
 refine .nil (.ret ?_)
 exact .rb rfl (df fA)
 refine .gz 98 (.gz 98 (.gw 94 (Y.zp rfl rfl rfl) ?_))
 refine .pk ?_
 refine .nil (.cj rfl (.skip ?_))
 refine .seq (.sr ?_)
 refine .mv ?_
 refine .vl (Y.zb rfl rfl) (.nil ?_)
 refine .ay rfl (fun lO => ?_) (fun lO => ?_)
 refine .sr ?_
 refine .fa cY ?_
 refine .ld bg ?_
 refine .vl (Y.ql rfl rfl) ?_
 refine .an ?_
 refine .nil (.ret ?_)
 exact .rb rfl (dd fA)
 refine .skip (.sr ?_)
 refine .fa cY ?_
 refine .ld bg ?_
 refine .vl (Y.qp rfl rfl) ?_
 refine .mv ?_
 refine .ax (d := 111) rfl (fun sS => ?_) (fun sS => ?_)
 refine .gw 111 (Y.qo cY rfl rfl) (.gw 111 (Y.qz bg rfl rfl rfl rfl) (.gw 111 (Y.zf rfl rfl) ?_))
 refine .gw 111 (Y.zb rfl rfl) ?_
 refine .pk ?_
 refine .mv ?_
 refine .ax (d := 117) rfl (fun my => ?_) (fun my => ?_)
 refine .gw 117 (Y.qo jS rfl rfl) (.gw 117 (Y.qz bg rfl rfl rfl rfl) (.gw 117 (Y.zl rfl rfl) ?_))
 refine .gw 117 (Y.zf rfl rfl) ?_
 refine .ax (d := 121) rfl (fun vV => ?_) (fun vV => ?_)
 refine .gz 121 (.gz 121 (.gz 121 ?_))
 refine .gz 121 (.gz 121 (.gz 121 ?_))
 refine .gz 121 (.gz 121 (.gw 117 (Y.zp rfl rfl rfl) ?_))
 refine .pk ?_
 refine .an ?_
 refine .nil (.ret ?_)
 exact .rb rfl (dt fA)
 refine .gw 121 (Y.qo iM rfl rfl) (.gw 121 (Y.qz ph rfl rfl rfl rfl) (.gw 121 (Y.qo cY rfl rfl) ?_))
 refine .gw 121 (Y.qz bg rfl rfl rfl rfl) (.gw 121 (Y.qr (m := (c.mem).toNat) nU rfl rfl om (aq (d := default) om)) ?_)
 refine .gw 121 (Y.qo jK rfl rfl) (.gw 121 (Y.qz r9 rfl rfl rfl rfl) (.gw 121 (Y.zo rfl) ?_))
 refine .gw 117 (Y.zp rfl rfl rfl) ?_
 refine .pk ?_
 refine .an ?_
 refine .nil (.ret ?_)
 exact .rb rfl (db fA)
 refine .gz 117 (.gz 117 (.gz 117 ?_))
 refine .gz 117 (.gz 121 (.gz 121 ?_))
 refine .gz 121 (.gz 121 (.gz 121 ?_))
 refine .gz 121 (.gz 121 (.gz 121 ?_))
 refine .gz 117 ?_
 refine .pk ?_
 refine .an ?_
 refine .nil (.ret ?_)
 exact .rb rfl (df fA)
 refine .gz 111 (.gz 111 (.gz 111 ?_))
 refine .gz 111 ?_
 refine .pk ?_
 refine .mv ?_
 refine .gz 117 (.gz 117 (.gz 117 ?_))
 refine .gz 117 (.gz 121 (.gz 121 ?_))
 refine .gz 121 (.gz 121 (.gz 121 ?_))
 refine .gz 121 (.gz 121 (.gz 121 ?_))
 refine .gz 117 ?_
 refine .pk ?_
 refine .an ?_
 refine .nil (.ret ?_)
 exact .rb rfl (df fA)
 refine .sr ?_
 refine .an ?_
 refine .nil (.ret ?_)
 exact .rb rfl (df (by (simp only [Shaped, GW, y6, mj, GX, Gd, Ky, ru, xt, J1, J1, Int.reduceEq, Bool.not_eq_true, false_and, true_and, and_true, and_false, or_false, false_or, ne_eq]) <;> (first | omega | grind)))
open Go Go.AW Go.Proofs
theorem nX {l : List Int} {p : Int → Bool} {g : Nat} {row : List X} (hl : l.length ≤ 17592186043904) (ov : aG Try.prog g = true) (hg : ∀ z ∈ l, ak Try.prog g [vi z, .fp row 0] [] [] (fun r o => r = .v (.bool (p z)) ∧ o = [])) : ak Try.prog 185 [.fz 1 (l.map al), .gN (.func g) [] [.fp row 0]] [] [] (fun r o => r = (vi (s0 p l)) ∧ o = []) := by
 refine ak.of Try.func185 rfl rfl rfl (n := 19) ag (bN rfl) (.sr ?_)
 refine .an ?_
 refine .nil (.seq (.sr ?_))
 refine .mv ?_
 refine .vl (Y.qw (n := l.length) a7 rfl iJ) ?_
 refine .mv ?_
 refine .nil (.block ?_)
 refine .jD (fun (gF : Nat) => ⟨[(0, .fz 1 (l.map al)), (1, .gN (.func g) [] [.fp row 0]), (7, vi l.length), (8, vi gF)], []⟩) (fun gF => ((gF : Int) ≤ (l.length : Int)) ∧ (∀ j, j < gF → p (l.getD j 0) = false)) (fun gF => ((l.length : Int) - (gF : Int)).toNat) 0 (⟨om, fun j hj => by omega⟩) (Le.mk (.c2 (.c (.cons (ai rfl aZ) .nil))) .nil) (fun gF xC => ?_)
 obtain ⟨yv, h0⟩ := xC
 refine .sr (.vl (Y.zb rfl rfl) (.nil ?_))
 refine .seq ?_
 refine .ay rfl (fun c9 => ?_) (fun c9 => ?_)
 refine .skip (.seq (.block ?_))
 refine .sr ?_
 refine .mv ?_
 refine .an ?_
 refine .nil (.sr ?_)
 refine .mv ?_
 refine .mv ?_
 refine .mv ?_
 refine .vl (Y.qr (m := gF) a7 rfl rfl aZ (aq (d := 0) om)) ?_
 refine .ld bg ?_
 refine .kJ rfl ov (hg _ (fD om)) rfl (.ao rfl rfl (.ao rfl rfl .nil)) ag rfl (.nil ?_)
 refine .cond rfl (fun sQ => ?_) (fun sQ => ?_)
 refine .sr ?_
 refine .mv ?_
 refine .an ?_
 refine .nil (.ret ?_)
 exact .ri rfl (mU h0 om sQ)
 refine .skip (.region ?_)
 refine .vl (Y.qb rfl rfl aB) ?_
 refine .mv ?_
 refine .nil (⟨gF + 1, ⟨om, lD h0 sQ⟩, om, Le.mk (.c2 (.c (.cons (ai rfl aZ) .nil))) .nil⟩)
 refine .exit (.sr ?_)
 refine .an ?_
 refine .nil (.ret ?_)
 exact .ri rfl (o3 (fun j hj => h0 j om))
theorem iA {l : List Int} {p : Int → Bool} {g : Nat} {row : List X} (hl : l.length ≤ 17592186043904) (ov : aG Try.prog g = true) (hg : ∀ z ∈ l, ak Try.prog g [vi z, .fp row 0] [] [] (fun r o => r = .v (.bool (p z)) ∧ o = [])) : ak Try.prog 157 [.fz 1 (l.map al), .gN (.func g) [] [.fp row 0]] [] [] (fun r o => r = .v (.bool (l.any p)) ∧ o = []) := by
 refine ak.of Try.func157 rfl rfl rfl (n := 9) ag (bN rfl) (.sr ?_)
 refine .an ?_
 refine .nil (.sr ?_)
 refine .mv ?_
 refine .mv ?_
 refine .aR IF (nX (l := l) hl ov hg) rfl (.ao rfl rfl (.ao rfl rfl .nil)) ag rfl (.vl (Y.qp rfl rfl) ?_)
 refine .an ?_
 refine .nil (.ret ?_)
 exact .rb rfl (q5)
theorem mZ {l : List Cell} {p : Cell → Bool} {g : Nat} {row : List X} (hl : l.length ≤ 17592186043904) (ov : aG Try.prog g = true) (hg : ∀ z ∈ l, ak Try.prog g [.agg (Cell.row z), .fp row 0] [] [] (fun r o => r = .v (.bool (p z)) ∧ o = [])) : ak Try.prog 188 [.fz 6 (l.map Cell.row), .gN (.func g) [] [.fp row 0]] [] [] (fun r o => r = (vi (s0 p l)) ∧ o = []) := by
 refine ak.of Try.func188 rfl rfl rfl (n := 19) ag (bN rfl) (.sr ?_)
 refine .an ?_
 refine .nil (.seq (.sr ?_))
 refine .mv ?_
 refine .vl (Y.qw (n := l.length) kq rfl iJ) ?_
 refine .mv ?_
 refine .nil (.block ?_)
 refine .jD (fun (gF : Nat) => ⟨[(0, .fz 6 (l.map Cell.row)), (1, .gN (.func g) [] [.fp row 0]), (7, vi l.length), (8, vi gF)], []⟩) (fun gF => ((gF : Int) ≤ (l.length : Int)) ∧ (∀ j, j < gF → p (l.getD j default) = false)) (fun gF => ((l.length : Int) - (gF : Int)).toNat) 0 (⟨om, fun j hj => by omega⟩) (Le.mk (.c2 (.c (.cons (ai rfl aZ) .nil))) .nil) (fun gF xC => ?_)
 obtain ⟨yv, h0⟩ := xC
 refine .sr (.vl (Y.zb rfl rfl) (.nil ?_))
 refine .seq ?_
 refine .ay rfl (fun c9 => ?_) (fun c9 => ?_)
 refine .skip (.seq (.block ?_))
 refine .sr ?_
 refine .mv ?_
 refine .an ?_
 refine .nil (.sr ?_)
 refine .mv ?_
 refine .mv ?_
 refine .mv ?_
 refine .vl (Y.qr (m := gF) kq rfl rfl aZ (aq (d := default) om)) ?_
 refine .vl (Y.za sN rfl rfl (bN rfl) rfl rfl) (.kJ rfl ov (hg _ (fD om)) rfl (.ao rfl rfl (.ao rfl rfl .nil)) ag rfl (.nil ?_))
 refine .cond rfl (fun sQ => ?_) (fun sQ => ?_)
 refine .sr ?_
 refine .mv ?_
 refine .an ?_
 refine .nil (.ret ?_)
 exact .ri rfl (mU h0 om sQ)
 refine .skip (.region ?_)
 refine .vl (Y.qb rfl rfl aB) ?_
 refine .mv ?_
 refine .nil (⟨gF + 1, ⟨om, lD h0 sQ⟩, om, Le.mk (.c2 (.c (.cons (ai rfl aZ) .nil))) .nil⟩)
 refine .exit (.sr ?_)
 refine .an ?_
 refine .nil (.ret ?_)
 exact .ri rfl (o3 (fun j hj => h0 j om))
theorem lp {l : List Cell} {p : Cell → Bool} {g : Nat} {row : List X} (hl : l.length ≤ 17592186043904) (ov : aG Try.prog g = true) (hg : ∀ z ∈ l, ak Try.prog g [.agg (Cell.row z), .fp row 0] [] [] (fun r o => r = .v (.bool (p z)) ∧ o = [])) : ak Try.prog 162 [.fz 6 (l.map Cell.row), .gN (.func g) [] [.fp row 0]] [] [] (fun r o => r = .v (.bool (l.any p)) ∧ o = []) := by
 refine ak.of Try.func162 rfl rfl rfl (n := 9) ag (bN rfl) (.sr ?_)
 refine .an ?_
 refine .nil (.sr ?_)
 refine .mv ?_
 refine .mv ?_
 refine .aR IH (mZ (l := l) hl ov hg) rfl (.ao rfl rfl (.ao rfl rfl .nil)) ag rfl (.vl (Y.qp rfl rfl) ?_)
 refine .an ?_
 refine .nil (.ret ?_)
 exact .rb rfl (q5)
theorem qZ {l : List Bool} {b : Bool} (hl : l.length ≤ 140737488351232) : ak Try.prog 187 [.fz 1 (l.map eb), .v (.bool b)] [] [] (fun r o => r = (vi (s0 (fun x => b == x) l)) ∧ o = []) := by
 refine ak.of Try.func187 rfl rfl rfl (n := 19) ag (bN rfl) (.sr ?_)
 refine .an ?_
 refine .nil (.seq (.sr ?_))
 refine .mv ?_
 refine .vl (Y.qw (n := l.length) ja rfl iJ) ?_
 refine .mv ?_
 refine .nil (.block ?_)
 refine .jD (fun (gF : Nat) => ⟨[(0, .fz 1 (l.map eb)), (1, .v (.bool b)), (7, vi l.length), (8, vi gF)], []⟩) (fun gF => ((gF : Int) ≤ (l.length : Int)) ∧ (∀ j, j < gF → (fun x => b == x) (l.getD j false) = false)) (fun gF => ((l.length : Int) - (gF : Int)).toNat) 0 (⟨om, fun j hj => by omega⟩) (Le.mk (.c2 (.c (.cons (ai rfl aZ) .nil))) .nil) (fun gF xC => ?_)
 obtain ⟨yv, h0⟩ := xC
 refine .sr (.vl (Y.zb rfl rfl) (.nil ?_))
 refine .seq ?_
 refine .ay rfl (fun c9 => ?_) (fun c9 => ?_)
 refine .skip (.seq (.block ?_))
 refine .sr ?_
 refine .mv ?_
 refine .an ?_
 refine .nil (.sr ?_)
 refine .mv ?_
 refine .mv ?_
 refine .mv ?_
 refine .vl (Y.qr (m := gF) ja rfl rfl aZ (aq (d := false) om)) ?_
 refine .ld r9 ?_
 refine .vl (Y.qm LQ rfl rfl) (.nil ?_)
 refine .cond rfl (fun sQ => ?_) (fun sQ => ?_)
 refine .sr ?_
 refine .mv ?_
 refine .an ?_
 refine .nil (.ret ?_)
 exact .ri rfl (mU (d := false) h0 om sQ)
 refine .skip (.region ?_)
 refine .vl (Y.qb rfl rfl aB) ?_
 refine .mv ?_
 refine .nil (⟨gF + 1, ⟨om, lD h0 sQ⟩, om, Le.mk (.c2 (.c (.cons (ai rfl aZ) .nil))) .nil⟩)
 refine .exit (.sr ?_)
 refine .an ?_
 refine .nil (.ret ?_)
 exact .ri rfl (o3 (d := false) (fun j hj => h0 j om))
theorem nY {l : List Bool} {b : Bool} (hl : l.length ≤ 140737488351232) : ak Try.prog 161 [.fz 1 (l.map eb), .v (.bool b)] [] [] (fun r o => r = .v (.bool (l.any (fun x => b == x))) ∧ o = []) := by
 refine ak.of Try.func161 rfl rfl rfl (n := 9) ag (bN rfl) (.sr ?_)
 refine .an ?_
 refine .nil (.sr ?_)
 refine .mv ?_
 refine .mv ?_
 refine .aR IG (qZ (l := l) (b := b) (om)) rfl (.ao rfl rfl (.ao rfl rfl .nil)) ag rfl (.vl (Y.qp rfl rfl) ?_)
 refine .an ?_
 refine .nil (.ret ?_)
 exact .rb rfl (q5)
open Go Go.AW Go.Proofs
theorem yf {n : Nat} (hn : n ≤ 35184372088832) : ak Try.prog 184 [vn, vi n] [] [] (fun r o => r = .cX 1 (([] : List Int).map al) ∧ o = []) := by
 refine ak.of Try.func184 rfl rfl rfl (n := 27) ag (bN rfl) (.sr ?_)
 refine .an ?_
 refine .nil (.seq (.sr ?_))
 refine .mv ?_
 refine .vl (Y.zb rfl rfl) (.nil ?_)
 refine .ay rfl (fun c6 => ?_) (fun c6 => ?_)
 exfalso; omega
 refine .skip (.seq (.sr ?_))
 refine .mv ?_
 refine .mv ?_
 refine .vl (Y.qi a7 rfl) ?_
 refine .mv ?_
 refine .vl (Y.qw (n := 0) a7 rfl rfl) (.vl (Y.wd rfl rfl aB) (.vl (Y.wd rfl rfl aB) ?_))
 refine .an ?_
 refine .nil (.sr ?_)
 refine .mv ?_
 refine .vl (Y.qq rfl rfl) (.nil ?_)
 refine .ay rfl (fun sQ => ?_) (fun sQ => ?_)
 refine .region ?_
 refine .mv ?_
 refine .mv ?_
 refine .vl (Y.qi a7 rfl) (.vl (Y.wa a7 rfl (.none _) (.some rfl)) ?_)
 refine .mv ?_
 refine .vr (n := (((n : Int) - (0 - 0)).toNat)) a7 er rfl rfl y5 rfl (by first | rfl | (rw [show ((n : Int) - (0 - 0) : Int) = ((((n : Int) - (0 - 0)).toNat : Nat) : Int) by omega]; rfl)) om ag om om ag ?_
 refine .mv ?_
 refine .vl (Y.qw (n := 0) a7 rfl rfl) (.sh (Sh.gU (d := 22) (n := (List.replicate (((n : Int) - (0 - 0)).toNat) 0).length) 122 ((List.replicate (((n : Int) - (0 - 0)).toNat) 0).map al) rfl iW (bn rfl) ag) ?_)
 refine .vl (Y.wb (l := 0) (h := 0) a7 rfl (.none _) (.some rfl) om om) ?_
 refine .an ?_
 refine .nil (.sr ?_)
 refine .mv ?_
 refine .an ?_
 refine .sh (Sh.DO (d := 4) (o := 122) (([] : List Int).map al) rfl rfl (by simp) (by simp) ag) (.sh (Sh.cK (d := 4) (o := 122) rfl rfl (bn aB) ag) ?_)
 refine .nil (.ret ?_)
 exact ⟨_, _, rfl, rfl, (yw (fun (z0 : List Int) => X.cX 1 (z0.map al)) (rfl : ([] : List Int) = ([] : List Int)) : X.cX 1 (([] : List Int).map al) = X.cX 1 (([] : List Int).map al)), rfl⟩
 refine .skip (.sr ?_)
 refine .mv ?_
 refine .an ?_
 refine .nil (.sh (Sh.r4 (d := 4) 1 rfl) (.ret ?_))
 exact ⟨_, _, rfl, rfl, (yw (fun (z0 : List Int) => X.cX 1 (z0.map al)) (rfl : ([] : List Int) = ([] : List Int)) : X.cX 1 (([] : List Int).map al) = X.cX 1 (([] : List Int).map al)), rfl⟩
theorem ux {ls : List (List Int)} (h1 : ls.length ≤ 1000) (hn : ls.flatten.length ≤ 17592186044416) : ak Try.prog 153 [.fz 1 (ls.map iX)] [] [] (fun r o => r = .cX 1 (ls.flatten.map al) ∧ o = []) := by
 refine ak.of Try.func153 rfl rfl rfl (n := 36) ag (bN rfl) (.sr ?_)
 refine .an ?_
 refine .nil (.sr ?_)
 refine .an ?_
 refine .nil (.seq (.sr ?_))
 refine .mv ?_
 refine .vl (Y.qw (n := ls.length) jy rfl iJ) ?_
 refine .mv ?_
 refine .nil (.block ?_)
 refine .ir (fun (kS : Nat) (dH : Nat) => ⟨[(0, .fz 1 (ls.map iX)), (3, vi kS), (9, .fz 1 (ls.map iX)), (10, vi ls.length), (11, vi dH)], []⟩) (fun kS dH => ((dH : Int) ≤ (ls.length : Int)) ∧ (kS = (ls.take dH).flatten.length)) (fun kS dH => ((ls.length : Int) - (dH : Int)).toNat) 0 0 (⟨om, rfl⟩) (Le.mk (.c (.cons (ai rfl aZ) (.c2 (.cons (ai rfl aZ) .nil)))) .nil) (fun kS dH nW => ?_)
 obtain ⟨AL, hs⟩ := nW
 refine .sr (.vl (Y.zb rfl rfl) (.nil ?_))
 refine .seq ?_
 refine .ay rfl (fun uS => ?_) (fun uS => ?_)
 refine .skip (.seq (.block ?_))
 refine .sr ?_
 have hf := congrArg List.length (rR (ls := ls) (i := dH) om)
 rw [List.length_append] at hf
 have R4 := nE ls (dH + 1)
 have Po := nE ls dH
 refine .vl (Y.qr (m := dH) jy rfl rfl aZ (aq (d := []) om)) ?_
 refine .ld dr ?_
 refine .an ?_
 refine .nil (.sr ?_)
 refine .mv ?_
 refine .mv ?_
 refine .vl (Y.qw (n := (ls.getD dH []).length) a7 rfl iJ) (.vl (Y.qb rfl rfl aB) ?_)
 refine .an ?_
 refine .nil (.sr ?_)
 refine .mv ?_
 refine .vl (Y.zb rfl rfl) (.nil ?_)
 refine .ay rfl (fun MG => ?_) (fun MG => ?_)
 exfalso; omega
 refine .skip (.region ?_)
 refine .vl (Y.qb rfl rfl aB) ?_
 refine .mv ?_
 refine .nil (⟨kS + ((ls.getD dH []).length), dH + 1, ⟨om, om⟩, om, Le.mk (.c (.cons (ai rfl aZ) (.c2 (.cons (ai rfl aZ) .nil)))) .nil⟩)
 refine .exit (.sr ?_)
 have Po := nE ls dH
 refine .mv ?_
 refine .aR IE (yf (n := kS) (om)) rfl (.ao rfl rfl (.ao rfl rfl .nil)) ag rfl ?_
 refine .bd rfl ag (.sh (Sh.gU (d := 6) (n := ([] : List Int).length) 106 (([] : List Int).map al) rfl iW (bn rfl) ag) (.nil ?_))
 refine .seq (.sr ?_)
 refine .mv ?_
 refine .vl (Y.qw (n := ls.length) jy rfl iJ) ?_
 refine .mv ?_
 refine .nil (.block ?_)
 refine .ir (fun (gi : Nat) (cM : List Int) => ⟨[(6, .aY 106 1 0 cM.length), (25, .fz 1 (ls.map iX)), (26, vi ls.length), (27, vi gi)], [(106, .rows 1 (cM.map al))]⟩) (fun gi cM => ((gi : Int) ≤ (ls.length : Int)) ∧ (cM = (ls.take gi).flatten)) (fun gi cM => ((ls.length : Int) - (gi : Int)).toNat) 0 ([] : List Int) (⟨om, rfl⟩) (Le.mk (.cons (a8 rfl om) (.c2 (.cons (ai rfl aZ) .nil))) (.c .nil)) (fun gi cM Ge => ?_)
 obtain ⟨R5, ht⟩ := Ge
 refine .sr (.vl (Y.zb rfl rfl) (.nil ?_))
 refine .seq ?_
 refine .ay rfl (fun MH => ?_) (fun MH => ?_)
 refine .skip (.seq (.block ?_))
 refine .sr ?_
 have hf := rR (ls := ls) (i := gi) om
 have R6 := congrArg List.length hf
 rw [List.length_append] at R6
 have R4 := nE ls (gi + 1)
 have Po := nE ls gi
 have Tl := congrArg List.length ht
 refine .vl (Y.qr (m := gi) jy rfl rfl aZ (aq (d := []) om)) ?_
 refine .ld dr ?_
 refine .an ?_
 refine .nil (.region ?_)
 refine .mv ?_
 refine .mv ?_
 refine .pQ ((cM ++ (ls.getD gi [])).map al) (cM ++ (ls.getD gi [])).length a7 er rfl rfl rfl rfl (b8 aB) (bm aB) (cb aB) aB aB ag ag ?_
 refine .an ?_
 refine .nil (.region ?_)
 refine .vl (Y.qb rfl rfl aB) ?_
 refine .mv ?_
 refine .nil (⟨gi + 1, cM ++ (ls.getD gi []), ⟨om, by rw [ht]; exact hf.symm⟩, om, Le.mk (.cons (a8 rfl om) (.c2 (.cons (ai rfl aZ) .nil))) (.c .nil)⟩)
 refine .exit (.sr ?_)
 refine .mv ?_
 refine .an ?_
 refine .sh (Sh.cK (d := 2) (o := 106) rfl rfl (bn om) ag) ?_
 refine .nil (.ret ?_)
 exact ⟨_, _, rfl, rfl, (yw (fun (z0 : List Int) => X.cX 1 (z0.map al)) (by rw [ht, List.take_of_length_le om] : cM = ls.flatten) : X.cX 1 (cM.map al) = X.cX 1 (ls.flatten.map al)), rfl⟩
open Go Go.AW Go.Proofs
theorem eM {i : Int} {n : ae} : ak Try.prog 156 [vi i, .fp (ae.row n) 0] [] [] (fun r o => r = .v (.bool (decide (In i n.aj.length))) ∧ o = []) := by
 refine ak.of Try.func156 rfl rfl rfl (n := 13) ag (bN rfl) (.sr ?_)
 refine .an ?_
 refine .nil (.sr ?_)
 refine .mv ?_
 refine .vl (Y.qp rfl rfl) ?_
 refine .mv ?_
 refine .ax (d := 6) rfl (fun c6 => ?_) (fun c6 => ?_)
 refine .gw 6 (Y.zf rfl rfl) (.gw 6 (Y.qo gh rfl rfl) (.gw 6 (Y.qz dr rfl rfl rfl rfl) ?_))
 refine .gw 6 (Y.qw (n := n.aj.length) a7 rfl iJ) (.gw 6 (Y.zb rfl rfl) ?_)
 refine .pk ?_
 refine .an ?_
 refine .nil (.ret ?_)
 exact .rb rfl (dd (by (simp only [In]) <;> (first | omega | grind)))
 refine .gz 6 (.gz 6 (.gz 6 ?_))
 refine .gz 6 (.gz 6 ?_)
 refine .pk ?_
 refine .an ?_
 refine .nil (.ret ?_)
 exact .rb rfl (df (by (simp only [In]) <;> (first | omega | grind)))
theorem sV {i : Int} {n : ae} : ak Try.prog 158 [vi i, .fp ([.gN (.func 156) [] [.fp (ae.row n) 0]]) 0] [] [] (fun r o => r = .v (.bool (!decide (In i n.aj.length))) ∧ o = []) := by
 refine ak.of Try.func158 rfl rfl rfl (n := 8) ag (bN rfl) (.sr ?_)
 refine .an ?_
 refine .nil (.sr ?_)
 refine .ld vL ?_
 refine .mv ?_
 refine .kJ rfl qQ (eM (i := i)) rfl (.ao rfl rfl (.ao rfl rfl .nil)) ag rfl (.vl (Y.zo rfl) ?_)
 refine .an ?_
 refine .nil (.ret ?_)
 exact .rb rfl (rfl)
theorem sW {i : Int} {n : ae} : ak Try.prog 159 [vi i, .fp ([.gN (.func 156) [] [.fp (ae.row n) 0]]) 0] [] [] (fun r o => r = .v (.bool (!decide (In i n.aj.length))) ∧ o = []) := by
 refine ak.of Try.func159 rfl rfl rfl (n := 8) ag (bN rfl) (.sr ?_)
 refine .an ?_
 refine .nil (.sr ?_)
 refine .ld vL ?_
 refine .mv ?_
 refine .kJ rfl qQ (eM (i := i)) rfl (.ao rfl rfl (.ao rfl rfl .nil)) ag rfl (.vl (Y.zo rfl) ?_)
 refine .an ?_
 refine .nil (.ret ?_)
 exact .rb rfl (rfl)
theorem uy {n : ae} (hs : n.Small) (Kz : n.aj.length + n.ins.length ≤ 17592186044416) : ak Try.prog 108 [.agg (ae.row n)] [] [] (fun r o => r = .v (.bool (decide (b5 n))) ∧ o = []) := by
 refine ak.of Try.func108 rfl rfl rfl (n := 234) ag (bN rfl) ?_
 have Pp := hs.name; have R7 := hs.aj; have R8 := hs.cells; have Kw := hs.ins; have Kx := hs.bu; have MC := hs.streams; have R9 := hs.cf; have Tm := hs.data; have Tn := hs.eQ
 have J2 : ([n.aj, n.ins] : List (List Int)).flatten = n.aj ++ n.ins := by simp
 have sn : (([n.aj, n.ins] : List (List Int)).flatten).length = n.aj.length + n.ins.length := by simp
 refine .sr (.box 101 rfl rfl rfl rfl rfl ag ?_)
 refine .an ?_
 refine .nil (.seq (.sr ?_))
 refine .fa FM ?_
 refine .ld LO ?_
 refine .aR AA (mW (s := n.name) (by first | assumption | omega)) rfl (.ao rfl rfl .nil) ag rfl (.vl (Y.zo rfl) ?_)
 refine .mv ?_
 refine .mO (d := 17) rfl (fun GS => ?_) (fun GS => ?_)
 refine .gz 17 (.gz 17 (.gz 17 ?_))
 refine .gz 17 ?_
 refine .pk ?_
 refine .mv ?_
 refine .gz 23 (.gz 23 (.gz 23 ?_))
 refine .gz 23 ?_
 refine .pk ?_
 refine .mv ?_
 refine .gz 29 (.gz 29 (.gz 29 ?_))
 refine .gz 29 ?_
 refine .pk ?_
 refine .mv ?_
 refine .gz 35 (.gz 35 (.gz 35 ?_))
 refine .gz 35 ?_
 refine .pk ?_
 refine .mv ?_
 refine .gz 41 (.gz 41 (.gz 41 ?_))
 refine .gz 41 (.gz 41 (.gz 41 ?_))
 refine .gz 41 ?_
 refine .pk ?_
 refine .mv ?_
 refine .gz 50 (.gz 50 (.gz 50 ?_))
 refine .gz 50 (.gz 50 (.gz 50 ?_))
 refine .gz 50 ?_
 refine .pk ?_
 refine .nil (.aI rfl (.sr ?_))
 refine .an ?_
 refine .nil (.ret ?_)
 exact .rb rfl (df (fun h => by have h1 := h.name; have h2 := h.eD; have h3 := h.dY; have h4 := h.jF; have h5 := h.cU; have h6 := h.ei; have h7 := h.jv; first | omega | contradiction))
 refine .gw 17 (Y.qo gY rfl rfl) (.gw 17 (Y.qz pg rfl rfl rfl rfl) (.gw 17 (Y.qw (n := n.cells.length) kq rfl iJ) ?_))
 refine .gw 17 (Y.qq rfl rfl) ?_
 refine .pk ?_
 refine .mv ?_
 refine .ax (d := 23) rfl (fun Ew => ?_) (fun Ew => ?_)
 refine .gz 23 (.gz 23 (.gz 23 ?_))
 refine .gz 23 ?_
 refine .pk ?_
 refine .mv ?_
 refine .gz 29 (.gz 29 (.gz 29 ?_))
 refine .gz 29 ?_
 refine .pk ?_
 refine .mv ?_
 refine .gz 35 (.gz 35 (.gz 35 ?_))
 refine .gz 35 ?_
 refine .pk ?_
 refine .mv ?_
 refine .gz 41 (.gz 41 (.gz 41 ?_))
 refine .gz 41 (.gz 41 (.gz 41 ?_))
 refine .gz 41 ?_
 refine .pk ?_
 refine .mv ?_
 refine .gz 50 (.gz 50 (.gz 50 ?_))
 refine .gz 50 (.gz 50 (.gz 50 ?_))
 refine .gz 50 ?_
 refine .pk ?_
 refine .nil (.aI rfl (.sr ?_))
 refine .an ?_
 refine .nil (.ret ?_)
 exact .rb rfl (df (fun h => by have h1 := h.name; have h2 := h.eD; have h3 := h.dY; have h4 := h.jF; have h5 := h.cU; have h6 := h.ei; have h7 := h.jv; first | omega | contradiction))
 refine .gw 23 (Y.qo gh rfl rfl) (.gw 23 (Y.qz dr rfl rfl rfl rfl) (.gw 23 (Y.qw (n := n.aj.length) a7 rfl iJ) ?_))
 refine .gw 23 (Y.qq rfl rfl) ?_
 refine .pk ?_
 refine .mv ?_
 refine .ax (d := 29) rfl (fun MD => ?_) (fun MD => ?_)
 refine .gz 29 (.gz 29 (.gz 29 ?_))
 refine .gz 29 ?_
 refine .pk ?_
 refine .mv ?_
 refine .gz 35 (.gz 35 (.gz 35 ?_))
 refine .gz 35 ?_
 refine .pk ?_
 refine .mv ?_
 refine .gz 41 (.gz 41 (.gz 41 ?_))
 refine .gz 41 (.gz 41 (.gz 41 ?_))
 refine .gz 41 ?_
 refine .pk ?_
 refine .mv ?_
 refine .gz 50 (.gz 50 (.gz 50 ?_))
 refine .gz 50 (.gz 50 (.gz 50 ?_))
 refine .gz 50 ?_
 refine .pk ?_
 refine .nil (.aI rfl (.sr ?_))
 refine .an ?_
 refine .nil (.ret ?_)
 exact .rb rfl (df (fun h => by have h1 := h.name; have h2 := h.eD; have h3 := h.dY; have h4 := h.jF; have h5 := h.cU; have h6 := h.ei; have h7 := h.jv; first | omega | contradiction))
 refine .gw 29 (Y.qo oE rfl rfl) (.gw 29 (Y.qz xV rfl rfl rfl rfl) (.gw 29 (Y.qw (n := n.bu.length) vM rfl iJ) ?_))
 refine .gw 29 (Y.qq rfl rfl) ?_
 refine .pk ?_
 refine .mv ?_
 refine .ax (d := 35) rfl (fun qT => ?_) (fun qT => ?_)
 refine .gz 35 (.gz 35 (.gz 35 ?_))
 refine .gz 35 ?_
 refine .pk ?_
 refine .mv ?_
 refine .gz 41 (.gz 41 (.gz 41 ?_))
 refine .gz 41 (.gz 41 (.gz 41 ?_))
 refine .gz 41 ?_
 refine .pk ?_
 refine .mv ?_
 refine .gz 50 (.gz 50 (.gz 50 ?_))
 refine .gz 50 (.gz 50 (.gz 50 ?_))
 refine .gz 50 ?_
 refine .pk ?_
 refine .nil (.aI rfl (.sr ?_))
 refine .an ?_
 refine .nil (.ret ?_)
 exact .rb rfl (df (fun h => by have h1 := h.name; have h2 := h.eD; have h3 := h.dY; have h4 := h.jF; have h5 := h.cU; have h6 := h.ei; have h7 := h.jv; first | omega | contradiction))
 refine .gw 35 (Y.qo iM rfl rfl) (.gw 35 (Y.qz ph rfl rfl rfl rfl) (.gw 35 (Y.qw (n := n.streams.length) nU rfl iJ) ?_))
 refine .gw 35 (Y.qq rfl rfl) ?_
 refine .pk ?_
 refine .mv ?_
 refine .ax (d := 41) rfl (fun Dl => ?_) (fun Dl => ?_)
 refine .gz 41 (.gz 41 (.gz 41 ?_))
 refine .gz 41 (.gz 41 (.gz 41 ?_))
 refine .gz 41 ?_
 refine .pk ?_
 refine .mv ?_
 refine .gz 50 (.gz 50 (.gz 50 ?_))
 refine .gz 50 (.gz 50 (.gz 50 ?_))
 refine .gz 50 ?_
 refine .pk ?_
 refine .nil (.aI rfl (.sr ?_))
 refine .an ?_
 refine .nil (.ret ?_)
 exact .rb rfl (df (fun h => by have h1 := h.name; have h2 := h.eD; have h3 := h.dY; have h4 := h.jF; have h5 := h.cU; have h6 := h.ei; have h7 := h.jv; first | omega | contradiction))
 refine .gw 41 (Y.qo vI rfl rfl) (.gw 41 (Y.qz dr rfl rfl rfl rfl) (.gw 41 (Y.qw (n := n.cf.length) a7 rfl iJ) ?_))
 refine .gw 41 (Y.qo iM rfl rfl) (.gw 41 (Y.qz ph rfl rfl rfl rfl) (.gw 41 (Y.qw (n := n.streams.length) nU rfl iJ) ?_))
 refine .gw 41 (Y.zl rfl rfl) ?_
 refine .pk ?_
 refine .mv ?_
 refine .ax (d := 50) rfl (fun RA => ?_) (fun RA => ?_)
 refine .gz 50 (.gz 50 (.gz 50 ?_))
 refine .gz 50 (.gz 50 (.gz 50 ?_))
 refine .gz 50 ?_
 refine .pk ?_
 refine .nil (.aI rfl (.sr ?_))
 refine .an ?_
 refine .nil (.ret ?_)
 exact .rb rfl (df (fun h => by have h1 := h.name; have h2 := h.eD; have h3 := h.dY; have h4 := h.jF; have h5 := h.cU; have h6 := h.ei; have h7 := h.jv; first | omega | contradiction))
 refine .gw 50 (Y.qo qO rfl rfl) (.gw 50 (Y.qz dr rfl rfl rfl rfl) (.gw 50 (Y.qw (n := n.data.length) a7 rfl iJ) ?_))
 refine .gw 50 (Y.qo iM rfl rfl) (.gw 50 (Y.qz ph rfl rfl rfl rfl) (.gw 50 (Y.qw (n := n.streams.length) nU rfl iJ) ?_))
 refine .gw 50 (Y.zl rfl rfl) ?_
 refine .pk ?_
 refine .nil ?_
 refine .ay rfl (fun Ky => ?_) (fun Ky => ?_)
 refine .sr ?_
 refine .an ?_
 refine .nil (.ret ?_)
 exact .rb rfl (df (fun h => by have h1 := h.name; have h2 := h.eD; have h3 := h.dY; have h4 := h.jF; have h5 := h.cU; have h6 := h.ei; have h7 := h.jv; first | omega | contradiction))
 refine .skip (.seq (.sr ?_))
 refine .fa gh ?_
 refine .ld dr ?_
 refine .fa qN ?_
 refine .ld dr ?_
 refine .buildSlice (([n.aj, n.ins] : List (List Int)).map iX) jy Di rfl rfl rfl rfl rfl (az (s := 1) (f := iX) (fun _ => rfl)) rfl rfl rfl ag ?_
 refine .sh (Sh.bB (d := 63) (([n.aj, n.ins] : List (List Int)).map iX) rfl iW (cp.map pY)) (.aR I5 (ux (ls := ([n.aj, n.ins] : List (List Int))) (by simp) (by simp; omega)) rfl (.ao rfl rfl .nil) ag rfl (.vl (Y.qw (n := (([n.aj, n.ins] : List (List Int)).flatten).length) a7 rfl iJ) ?_))
 refine .mv ?_
 refine .nil (.block (.sh (Sh.bB (d := 64) ((([n.aj, n.ins] : List (List Int)).flatten).map al) rfl iW (cp.map bf)) ?_))
 refine .jD (fun (lP : Nat) => ⟨[(1, .ptr 101 0 0 0), (64, .fz 1 ((([n.aj, n.ins] : List (List Int)).flatten).map al)), (65, vi (((([n.aj, n.ins] : List (List Int)).flatten).length : Nat) : Int)), (66, vi lP)], [(101, .cells (ae.row n))]⟩) (fun lP => ((lP : Int) ≤ (((([n.aj, n.ins] : List (List Int)).flatten).length : Nat) : Int)) ∧ (∀ j, j < lP → cw (([n.aj, n.ins] : List (List Int)).flatten.getD j 0))) (fun lP => ((((([n.aj, n.ins] : List (List Int)).flatten).length : Nat) : Int) - (lP : Int)).toNat) 0 (⟨om, fun j hj => by omega⟩) (Le.mk (.c2 (.c (.cons (ai rfl aZ) .nil))) (.c .nil)) (fun lP um => ?_)
 obtain ⟨y7, hw⟩ := um
 refine .sr (.vl (Y.zb rfl rfl) (.nil ?_))
 refine .seq ?_
 refine .ay rfl (fun MI => ?_) (fun MI => ?_)
 refine .skip (.seq (.block ?_))
 refine .sr (.vl (Y.qr (m := lP) a7 rfl rfl aZ (aq (d := 0) om)) ?_)
 refine .ld bg ?_
 refine .an ?_
 refine .nil (.sr ?_)
 refine .mv ?_
 refine .aR AB (oG (w := ((([n.aj, n.ins] : List (List Int)).flatten).getD lP 0))) rfl (.ao rfl rfl .nil) ag rfl (.vl (Y.zo rfl) (.nil ?_))
 refine .jC rfl (fun MJ => ?_) (fun MJ => ?_)
 refine .sr ?_
 refine .an ?_
 refine .nil (.ret ?_)
 exact .rb rfl (df (fun h => by have h1 := h.wide lP (by rw [List.length_append]; omega); rw [← J2] at h1; contradiction))
 refine .skip (.region ?_)
 refine .vl (Y.qb rfl rfl om) ?_
 refine .mv ?_
 refine .nil (⟨lP + 1, ⟨om, e8 hw k0⟩, om, Le.mk (.c2 (.c (.cons (ai rfl aZ) .nil))) (.c .nil)⟩)
 refine .exit (.seq (.sr ?_))
 refine .fa oE ?_
 refine .ld xV ?_
 refine .vl (Y.qw (n := n.bu.length) vM rfl iJ) ?_
 refine .mv ?_
 refine .nil (.block ?_)
 refine .jD (fun (eX : Nat) => ⟨[(1, .ptr 101 0 0 0), (75, .fz 5 (n.bu.map rr.row)), (76, vi n.bu.length), (77, vi eX)], [(101, .cells (ae.row n))]⟩) (fun eX => ((eX : Int) ≤ (n.bu.length : Int)) ∧ (∀ j, j < eX → m8 (n.bu.getD j default))) (fun eX => ((n.bu.length : Int) - (eX : Int)).toNat) 0 (⟨om, fun j hj => by omega⟩) (Le.mk (.c2 (.c (.cons (ai rfl aZ) .nil))) (.c .nil)) (fun eX AS => ?_)
 obtain ⟨J3, hm⟩ := AS
 refine .sr (.vl (Y.zb rfl rfl) (.nil ?_))
 refine .seq ?_
 refine .ay rfl (fun Dm => ?_) (fun Dm => ?_)
 refine .skip (.seq (.block ?_))
 refine .sr (.vl (Y.qr (m := eX) vM rfl rfl aZ (aq (d := default) om)) ?_)
 refine .vl (Y.za IP rfl rfl (bN rfl) rfl rfl) (.alloc 106 IS rfl rfl ag (.aw IQ rfl rfl rfl rfl rfl rfl (bN rfl) rfl ?_))
 refine .nil (.sr ?_)
 have To := hs.q3 _ (fD (l := n.bu) (i := eX) (d := default) om)
 refine .fa Db ?_
 refine .ld LO ?_
 refine .aR AA (mW (s := ((n.bu.getD eX default).name)) (by first | assumption | omega)) rfl (.ao rfl rfl .nil) ag rfl (.vl (Y.zo rfl) ?_)
 refine .mv ?_
 refine .mO (d := 85) rfl (fun RB => ?_) (fun RB => ?_)
 refine .gz 85 (.gz 85 (.gz 85 ?_))
 refine .gz 85 ?_
 refine .pk ?_
 refine .mv ?_
 refine .gz 91 (.gz 91 (.gz 91 ?_))
 refine .pk ?_
 refine .mv ?_
 refine .gz 96 (.gz 96 (.gz 96 ?_))
 refine .pk ?_
 refine .mv ?_
 refine .gz 101 (.gz 101 (.gz 101 ?_))
 refine .pk ?_
 refine .mv ?_
 refine .gz 106 (.gz 106 (.gz 106 ?_))
 refine .pk ?_
 refine .nil (.aI rfl (.sr ?_))
 refine .an ?_
 refine .nil (.ret ?_)
 exact .rb rfl (df (fun h => by have h1 := h.bu eX om; unfold m8 at h1; obtain ⟨a1, a2, a3, a4, a5, a6⟩ := h1; first | contradiction | omega))
 refine .gw 85 (Y.qo sI rfl rfl) (.gw 85 (Y.qz bg rfl rfl rfl rfl) (.aQ (d := 85) rfl ag rfl ?_))
 refine .aR AB (oG (w := ((n.bu.getD eX default).width))) rfl (.ao rfl rfl .nil) ag rfl (.gw 85 (Y.zo rfl) ?_)
 refine .pk ?_
 refine .mv ?_
 refine .mO (d := 91) rfl (fun RC => ?_) (fun RC => ?_)
 refine .gz 91 (.gz 91 (.gz 91 ?_))
 refine .pk ?_
 refine .mv ?_
 refine .gz 96 (.gz 96 (.gz 96 ?_))
 refine .pk ?_
 refine .mv ?_
 refine .gz 101 (.gz 101 (.gz 101 ?_))
 refine .pk ?_
 refine .mv ?_
 refine .gz 106 (.gz 106 (.gz 106 ?_))
 refine .pk ?_
 refine .nil (.aI rfl (.sr ?_))
 refine .an ?_
 refine .nil (.ret ?_)
 exact .rb rfl (df (fun h => by have h1 := h.bu eX om; unfold m8 at h1; obtain ⟨a1, a2, a3, a4, a5, a6⟩ := h1; first | contradiction | omega))
 refine .gw 91 (Y.qo xn rfl rfl) (.gw 91 (Y.qz bg rfl rfl rfl rfl) (.gw 91 (Y.zb rfl rfl) ?_))
 refine .pk ?_
 refine .mv ?_
 refine .ax (d := 96) rfl (fun MK => ?_) (fun MK => ?_)
 refine .gz 96 (.gz 96 (.gz 96 ?_))
 refine .pk ?_
 refine .mv ?_
 refine .gz 101 (.gz 101 (.gz 101 ?_))
 refine .pk ?_
 refine .mv ?_
 refine .gz 106 (.gz 106 (.gz 106 ?_))
 refine .pk ?_
 refine .nil (.aI rfl (.sr ?_))
 refine .an ?_
 refine .nil (.ret ?_)
 exact .rb rfl (df (fun h => by have h1 := h.bu eX om; unfold m8 at h1; obtain ⟨a1, a2, a3, a4, a5, a6⟩ := h1; first | contradiction | omega))
 refine .gw 96 (Y.qo xn rfl rfl) (.gw 96 (Y.qz bg rfl rfl rfl rfl) (.gw 96 (Y.qq rfl rfl) ?_))
 refine .pk ?_
 refine .mv ?_
 refine .ax (d := 101) rfl (fun ML => ?_) (fun ML => ?_)
 refine .gz 101 (.gz 101 (.gz 101 ?_))
 refine .pk ?_
 refine .mv ?_
 refine .gz 106 (.gz 106 (.gz 106 ?_))
 refine .pk ?_
 refine .nil (.aI rfl (.sr ?_))
 refine .an ?_
 refine .nil (.ret ?_)
 exact .rb rfl (df (fun h => by have h1 := h.bu eX om; unfold m8 at h1; obtain ⟨a1, a2, a3, a4, a5, a6⟩ := h1; first | contradiction | omega))
 refine .gw 101 (Y.qo Dc rfl rfl) (.gw 101 (Y.qz bg rfl rfl rfl rfl) (.gw 101 (Y.zl rfl rfl) ?_))
 refine .pk ?_
 refine .mv ?_
 refine .ax (d := 106) rfl (fun MM => ?_) (fun MM => ?_)
 refine .gz 106 (.gz 106 (.gz 106 ?_))
 refine .pk ?_
 refine .nil (.aI rfl (.sr ?_))
 refine .an ?_
 refine .nil (.ret ?_)
 exact .rb rfl (df (fun h => by have h1 := h.bu eX om; unfold m8 at h1; obtain ⟨a1, a2, a3, a4, a5, a6⟩ := h1; first | contradiction | omega))
 refine .gw 106 (Y.qo Dd rfl rfl) (.gw 106 (Y.qz bg rfl rfl rfl rfl) (.gw 106 (Y.zl rfl rfl) ?_))
 refine .pk ?_
 refine .nil ?_
 refine .ay rfl (fun AT => ?_) (fun AT => ?_)
 refine .sr ?_
 refine .an ?_
 refine .nil (.ret ?_)
 exact .rb rfl (df (fun h => by have h1 := h.bu eX om; unfold m8 at h1; obtain ⟨a1, a2, a3, a4, a5, a6⟩ := h1; first | contradiction | omega))
 refine .skip (.region ?_)
 refine .vl (Y.qb rfl rfl om) ?_
 refine .mv ?_
 refine .nil ?_
 exact ⟨eX + 1, ⟨om, e8 hm (by unfold m8; refine ⟨?_, ?_, ?_, ?_, ?_, ?_⟩ <;> first | assumption | omega)⟩, om, Le.mk (.c2 (.c (.cons (ai rfl aZ) .nil))) (.c .nil)⟩
 refine .exit (.sr (.sh (Sh.lY 101 rfl rfl) ?_))
 refine .vl (Y.zc rfl rfl rfl rfl) (.alloc 107 LR rfl rfl ag (.aw LP rfl rfl rfl rfl rfl rfl (bN rfl) rfl ?_))
 refine .nil (.seq (.seq ?_))
 refine .sh (Sh.lY 107 rfl rfl) (.region ?_)
 refine .fa iM ?_
 refine .ld ph ?_
 refine .vl (Y.qw (n := n.streams.length) nU rfl iJ) ?_
 refine .mv ?_
 refine .nil (.block ?_)
 refine .jD (fun (aX : Nat) => ⟨[(1, .fp (ae.row n) 0), (7, .fp ([.gN (.func 156) [] [.fp (ae.row n) 0]]) 0), (114, .fz 3 (n.streams.map iY.row)), (115, vi n.streams.length), (116, vi aX)], []⟩) (fun aX => ((aX : Int) ≤ (n.streams.length : Int)) ∧ (∀ j, j < aX → jE n j)) (fun aX => ((n.streams.length : Int) - (aX : Int)).toNat) 0 (⟨om, fun j hj => by omega⟩) (Le.mk (.c4 (.cons (ai rfl aZ) .nil)) .nil) (fun aX MN => ?_)
 obtain ⟨RD, yF⟩ := MN
 refine .sr (.vl (Y.zb rfl rfl) (.nil ?_))
 refine .seq ?_
 refine .ay rfl (fun my => ?_) (fun my => ?_)
 refine .skip ?_
 refine .yY (fun (ra : Bool) (re : Bool) (rf : Bool) (rh : Bool) => ⟨[(1, .fp (ae.row n) 0), (7, .fp ([.gN (.func 156) [] [.fp (ae.row n) 0]]) 0), (114, .fz 3 (n.streams.map iY.row)), (115, vi n.streams.length), (116, vi aX), (126, .ptr 109 0 0 1), (127, vi ((n.streams.getD aX default).width)), (128, .v (.bool (decide (cw ((n.streams.getD aX default).width))))), (129, .v (.bool (!decide (cw ((n.streams.getD aX default).width))))), (132, .gN (.func 156) [] [.fp (ae.row n) 0]), (133, .fp (ae.row n) 6), (134, .fz 1 (n.cf.map al)), (135, vi aX), (136, .fp (al (n.cf.getD aX 0)) 0), (137, vi (n.cf.getD aX 0)), (138, .v (.bool (decide (In (n.cf.getD aX 0) n.aj.length)))), (139, .v (.bool (!decide (In (n.cf.getD aX 0) n.aj.length)))), (142, .ptr 109 0 0 2), (143, .v (.bool ((n.streams.getD aX default).out))), (144, .v (.bool ra)), (153, .v (.bool re)), (156, .ptr 109 0 0 2), (157, .v (.bool ((n.streams.getD aX default).out))), (158, .v (.bool (!((n.streams.getD aX default).out)))), (159, .v (.bool rf)), (166, .v (.bool rh))], [(109, .cells [.v (.string ((n.streams.getD aX default).name)), vi ((n.streams.getD aX default).width), .v (.bool ((n.streams.getD aX default).out))])]⟩) (fun ra re rf rh => jE n aX) ?_ (fun ra re rf rh MO => ?_)
 refine .block (.sr ?_)
 have Tp := hs.q4 _ (fD (l := n.streams) (i := aX) (d := default) om)
 refine .mv ?_
 refine .vl (Y.qr (m := aX) nU rfl rfl aZ (aq (d := default) om)) ?_
 refine .vl (Y.za Ec rfl rfl (bN rfl) rfl rfl) (.alloc 109 Ee rfl rfl ag ?_)
 refine .an ?_
 refine .aw Ed rfl rfl rfl rfl rfl rfl (bN rfl) rfl (.nil (.seq ?_))
 refine .cv rfl (.bp (n := 45) [0, 1] [2, 3, 4, 5, 6, 7, 8, 9, 10, 11, 12, 13, 14, 15, 16, 17, 18, 19, 20, 21, 22, 23, 24, 25, 26, 27, 28, 29, 30, 31, 32, 33, 34, 35, 36, 37, 38, 39, 40, 41, 42, 43, 44, 45, 46] 2 rfl ba (.cn 0 rfl (Y.qo De rfl rfl) ?_))
 refine .cn 1 rfl (Y.qz LO rfl rfl rfl rfl) (.nil (.one 2 rfl ba ?_))
 refine .aR AA (mW (s := ((n.streams.getD aX default).name)) (by first | assumption | omega)) rfl (.ao rfl rfl .nil) ag rfl ?_
 refine .nil ⟨rfl, ?_⟩
 refine .bp (n := 40) [3, 4, 5, 6] [7, 8, 9, 10, 11, 12, 13, 14, 15, 16, 17, 18, 19, 20, 21, 22, 23, 24, 25, 26, 27, 28, 29, 30, 31, 32, 33, 34, 35, 36, 37, 38, 39, 40, 41, 42, 43, 44, 45, 46] 7 rfl ba (.cn 3 rfl (Y.zo rfl) (.cn 4 rfl (Y.zf rfl rfl) ?_))
 refine .split (d := 125) rfl (fun AU => ?_) (fun AU => ?_)
 replace AU : ¬ (oW ((n.streams.getD aX default).name)) := by simpa using AU
 refine .sk 5 rfl rfl rfl rfl (.sk 6 rfl rfl rfl rfl (.nil ?_))
 refine .bR 7 rfl ba rfl ag ag rfl rfl (.bR 8 rfl ba rfl ag ag rfl rfl (.bp (n := 30) [9, 10, 11, 12, 13, 14, 15, 16] [17, 18, 19, 20, 21, 22, 23, 24, 25, 26, 27, 28, 29, 30, 31, 32, 33, 34, 35, 36, 37, 38, 39, 40, 41, 42, 43, 44, 45, 46] 17 rfl ba ?_))
 refine .cn 9 rfl (Y.zp rfl rfl rfl) (.cn 10 rfl (Y.zf rfl rfl) (.sk 11 rfl rfl rfl rfl ?_))
 refine .sk 12 rfl rfl rfl rfl (.sk 13 rfl rfl rfl rfl (.sk 14 rfl rfl rfl rfl ?_))
 refine .sk 15 rfl rfl rfl rfl (.sk 16 rfl rfl rfl rfl (.nil ?_))
 refine .bR 17 rfl ba rfl ag ag rfl rfl (.bR 18 rfl ba rfl ag ag rfl rfl (.bp (n := 17) [19, 20, 21, 22, 23, 24, 25, 26, 27, 28, 29] [30, 31, 32, 33, 34, 35, 36, 37, 38, 39, 40, 41, 42, 43, 44, 45, 46] 30 rfl ba ?_))
 refine .cn 19 rfl (Y.zp rfl rfl rfl) (.cn 20 rfl (Y.zf rfl rfl) (.sk 21 rfl rfl rfl rfl ?_))
 refine .sk 22 rfl rfl rfl rfl (.sk 23 rfl rfl rfl rfl (.sk 24 rfl rfl rfl rfl ?_))
 refine .sk 25 rfl rfl rfl rfl (.sk 26 rfl rfl rfl rfl (.sk 27 rfl rfl rfl rfl ?_))
 refine .sk 28 rfl rfl rfl rfl (.sk 29 rfl rfl rfl rfl (.nil ?_))
 refine .bR 30 rfl ba rfl ag ag rfl rfl (.bR 31 rfl ba rfl ag ag rfl rfl (.bR 32 rfl ba rfl ag ag rfl rfl ?_))
 refine .bp (n := 0) [33, 34, 35, 36, 37, 38, 39, 40, 41, 42, 43, 44, 45, 46] [] 0 rfl ba (.cn 33 rfl (Y.zp rfl rfl rfl) (.cn 34 rfl (Y.zf rfl rfl) ?_))
 refine .sk 35 rfl rfl rfl rfl (.sk 36 rfl rfl rfl rfl (.sk 37 rfl rfl rfl rfl ?_))
 refine .sk 38 rfl rfl rfl rfl (.sk 39 rfl rfl rfl rfl (.sk 40 rfl rfl rfl rfl ?_))
 refine .sk 41 rfl rfl rfl rfl (.sk 42 rfl rfl rfl rfl (.sk 43 rfl rfl rfl rfl ?_))
 refine .sk 44 rfl rfl rfl rfl (.sk 45 rfl rfl rfl rfl (.cn 46 rfl (Y.zp rfl rfl rfl) ?_))
 refine .nil (.done ba (.aI rfl ?_))
 refine .sr ?_
 refine .an ?_
 refine .nil (.ret ?_)
 exact .rb rfl (df (fun h => by have h1 := h.strs aX om; unfold jE at h1; obtain ⟨a1, a2, a3, a4, a5⟩ := h1; first | contradiction | grind))
 replace AU : oW ((n.streams.getD aX default).name) := by simpa using AU
 refine .rn 5 rfl rfl rfl (Y.qo sJ rfl rfl) (.rn 6 rfl rfl rfl (Y.qz bg rfl rfl rfl rfl) (.nil ?_))
 refine .one 7 rfl ba (.aQ (d := 125) rfl ag rfl (.aR AB (oG (w := ((n.streams.getD aX default).width))) rfl (.ao rfl rfl .nil) ag rfl ?_))
 refine .nil ⟨rfl, ?_⟩
 refine .bp (n := 30) [8, 9, 10, 11, 12, 13, 14, 15, 16] [17, 18, 19, 20, 21, 22, 23, 24, 25, 26, 27, 28, 29, 30, 31, 32, 33, 34, 35, 36, 37, 38, 39, 40, 41, 42, 43, 44, 45, 46] 17 rfl ba (.rn 8 rfl rfl rfl (Y.zo rfl) (.cn 9 rfl (Y.zp rfl rfl rfl) ?_))
 refine .cn 10 rfl (Y.zf rfl rfl) ?_
 refine .split (d := 131) rfl (fun sX => ?_) (fun sX => ?_)
 replace sX : ¬ (cw ((n.streams.getD aX default).width)) := by simpa using sX
 refine .sk 11 rfl rfl rfl rfl (.sk 12 rfl rfl rfl rfl (.sk 13 rfl rfl rfl rfl ?_))
 refine .sk 14 rfl rfl rfl rfl (.sk 15 rfl rfl rfl rfl (.sk 16 rfl rfl rfl rfl ?_))
 refine .nil (.bR 17 rfl ba rfl ag ag rfl rfl (.bR 18 rfl ba rfl ag ag rfl rfl ?_))
 refine .bp (n := 17) [19, 20, 21, 22, 23, 24, 25, 26, 27, 28, 29] [30, 31, 32, 33, 34, 35, 36, 37, 38, 39, 40, 41, 42, 43, 44, 45, 46] 30 rfl ba (.cn 19 rfl (Y.zp rfl rfl rfl) (.cn 20 rfl (Y.zf rfl rfl) ?_))
 refine .sk 21 rfl rfl rfl rfl (.sk 22 rfl rfl rfl rfl (.sk 23 rfl rfl rfl rfl ?_))
 refine .sk 24 rfl rfl rfl rfl (.sk 25 rfl rfl rfl rfl (.sk 26 rfl rfl rfl rfl ?_))
 refine .sk 27 rfl rfl rfl rfl (.sk 28 rfl rfl rfl rfl (.sk 29 rfl rfl rfl rfl ?_))
 refine .nil (.bR 30 rfl ba rfl ag ag rfl rfl (.bR 31 rfl ba rfl ag ag rfl rfl ?_))
 refine .bR 32 rfl ba rfl ag ag rfl rfl (.bp (n := 0) [33, 34, 35, 36, 37, 38, 39, 40, 41, 42, 43, 44, 45, 46] [] 0 rfl ba (.cn 33 rfl (Y.zp rfl rfl rfl) ?_))
 refine .cn 34 rfl (Y.zf rfl rfl) (.sk 35 rfl rfl rfl rfl (.sk 36 rfl rfl rfl rfl ?_))
 refine .sk 37 rfl rfl rfl rfl (.sk 38 rfl rfl rfl rfl (.sk 39 rfl rfl rfl rfl ?_))
 refine .sk 40 rfl rfl rfl rfl (.sk 41 rfl rfl rfl rfl (.sk 42 rfl rfl rfl rfl ?_))
 refine .sk 43 rfl rfl rfl rfl (.sk 44 rfl rfl rfl rfl (.sk 45 rfl rfl rfl rfl ?_))
 refine .cn 46 rfl (Y.zp rfl rfl rfl) (.nil (.done ba ?_))
 refine .aI rfl (.sr ?_)
 refine .an ?_
 refine .nil (.ret ?_)
 exact .rb rfl (df (fun h => by have h1 := h.strs aX om; unfold jE at h1; obtain ⟨a1, a2, a3, a4, a5⟩ := h1; first | contradiction | grind))
 replace sX : cw ((n.streams.getD aX default).width) := by simpa using sX
 refine .rn 11 rfl rfl rfl (Y.qz vL rfl rfl rfl rfl) (.rn 12 rfl rfl rfl (Y.qo vI rfl rfl) (.rn 13 rfl rfl rfl (Y.qz dr rfl rfl rfl rfl) ?_))
 refine .rn 14 rfl rfl rfl (Y.zf rfl rfl) (.rn 15 rfl rfl rfl (Y.qr (m := aX) a7 rfl rfl aZ (aq (d := 0) om)) ?_)
 refine .rn 16 rfl rfl rfl (Y.qz bg rfl rfl rfl rfl) (.nil (.one 17 rfl ba ?_))
 refine .aQ (d := 131) rfl ag rfl (.kJ rfl qQ (eM (i := (n.cf.getD aX 0))) rfl (.ao rfl rfl (.ao rfl rfl .nil)) ag rfl ?_)
 refine .nil ⟨rfl, ?_⟩
 refine .bp (n := 17) [18, 19, 20, 21, 22, 23, 24, 25, 26, 27, 28, 29] [30, 31, 32, 33, 34, 35, 36, 37, 38, 39, 40, 41, 42, 43, 44, 45, 46] 30 rfl ba (.rn 18 rfl rfl rfl (Y.zo rfl) (.cn 19 rfl (Y.zp rfl rfl rfl) ?_))
 refine .cn 20 rfl (Y.zf rfl rfl) ?_
 refine .split (d := 141) rfl (fun AV => ?_) (fun AV => ?_)
 replace AV : ¬ (In (n.cf.getD aX 0) n.aj.length) := by simpa using AV
 refine .sk 21 rfl rfl rfl rfl (.sk 22 rfl rfl rfl rfl (.sk 23 rfl rfl rfl rfl ?_))
 refine .sk 24 rfl rfl rfl rfl (.sk 25 rfl rfl rfl rfl (.sk 26 rfl rfl rfl rfl ?_))
 refine .sk 27 rfl rfl rfl rfl (.sk 28 rfl rfl rfl rfl (.sk 29 rfl rfl rfl rfl ?_))
 refine .nil (.bR 30 rfl ba rfl ag ag rfl rfl (.bR 31 rfl ba rfl ag ag rfl rfl ?_))
 refine .bR 32 rfl ba rfl ag ag rfl rfl (.bp (n := 0) [33, 34, 35, 36, 37, 38, 39, 40, 41, 42, 43, 44, 45, 46] [] 0 rfl ba (.cn 33 rfl (Y.zp rfl rfl rfl) ?_))
 refine .cn 34 rfl (Y.zf rfl rfl) (.sk 35 rfl rfl rfl rfl (.sk 36 rfl rfl rfl rfl ?_))
 refine .sk 37 rfl rfl rfl rfl (.sk 38 rfl rfl rfl rfl (.sk 39 rfl rfl rfl rfl ?_))
 refine .sk 40 rfl rfl rfl rfl (.sk 41 rfl rfl rfl rfl (.sk 42 rfl rfl rfl rfl ?_))
 refine .sk 43 rfl rfl rfl rfl (.sk 44 rfl rfl rfl rfl (.sk 45 rfl rfl rfl rfl ?_))
 refine .cn 46 rfl (Y.zp rfl rfl rfl) (.nil (.done ba ?_))
 refine .aI rfl (.sr ?_)
 refine .an ?_
 refine .nil (.ret ?_)
 exact .rb rfl (df (fun h => by have h1 := h.strs aX om; unfold jE at h1; obtain ⟨a1, a2, a3, a4, a5⟩ := h1; first | contradiction | grind))
 replace AV : In (n.cf.getD aX 0) n.aj.length := by simpa using AV
 refine .rn 21 rfl rfl rfl (Y.qo jK rfl rfl) (.rn 22 rfl rfl rfl (Y.qz r9 rfl rfl rfl rfl) (.rn 23 rfl rfl rfl (Y.zf rfl rfl) ?_))
 refine .split (d := 144) rfl (fun Dn => ?_) (fun Dn => ?_)
 refine .rn 24 rfl rfl rfl (Y.qz vL rfl rfl rfl rfl) (.rn 25 rfl rfl rfl (Y.qo qO rfl rfl) (.rn 26 rfl rfl rfl (Y.qz dr rfl rfl rfl rfl) ?_))
 refine .rn 27 rfl rfl rfl (Y.zf rfl rfl) (.rn 28 rfl rfl rfl (Y.qr (m := aX) a7 rfl rfl aZ (aq (d := 0) om)) ?_)
 refine .rn 29 rfl rfl rfl (Y.qz bg rfl rfl rfl rfl) (.nil (.one 30 rfl ba ?_))
 refine .aQ (d := 144) rfl ag rfl (.kJ rfl qQ (eM (i := (n.data.getD aX 0))) rfl (.ao rfl rfl (.ao rfl rfl .nil)) ag rfl ?_)
 refine .nil ⟨rfl, ?_⟩
 refine .bp (n := 0) [31, 32, 33, 34, 35, 36, 37, 38, 39, 40, 41, 42, 43, 44, 45, 46] [] 0 rfl ba (.rn 31 rfl rfl rfl (Y.zo rfl) (.rn 32 rfl rfl rfl (Y.zp rfl rfl rfl) ?_))
 refine .cn 33 rfl (Y.zp rfl rfl rfl) (.cn 34 rfl (Y.zf rfl rfl) ?_)
 refine .split (d := 155) rfl (fun AX => ?_) (fun AX => ?_)
 replace AX : ¬ (In (n.data.getD aX 0) n.aj.length) := by simpa using AX
 refine .sk 35 rfl rfl rfl rfl (.sk 36 rfl rfl rfl rfl (.sk 37 rfl rfl rfl rfl ?_))
 refine .sk 38 rfl rfl rfl rfl (.sk 39 rfl rfl rfl rfl (.sk 40 rfl rfl rfl rfl ?_))
 refine .sk 41 rfl rfl rfl rfl (.sk 42 rfl rfl rfl rfl (.sk 43 rfl rfl rfl rfl ?_))
 refine .sk 44 rfl rfl rfl rfl (.sk 45 rfl rfl rfl rfl (.cn 46 rfl (Y.zp rfl rfl rfl) ?_))
 refine .nil (.done ba (.aI rfl ?_))
 refine .sr ?_
 refine .an ?_
 refine .nil (.ret ?_)
 exact .rb rfl (df (fun h => by have h1 := h.strs aX om; unfold jE at h1; obtain ⟨a1, a2, a3, a4, a5⟩ := h1; first | contradiction | grind))
 replace AX : In (n.data.getD aX 0) n.aj.length := by simpa using AX
 refine .rn 35 rfl rfl rfl (Y.qo jK rfl rfl) (.rn 36 rfl rfl rfl (Y.qz r9 rfl rfl rfl rfl) (.rn 37 rfl rfl rfl (Y.zo rfl) ?_))
 refine .rn 38 rfl rfl rfl (Y.zf rfl rfl) ?_
 refine .split (d := 159) rfl (fun ia => ?_) (fun ia => ?_)
 replace ia : ((n.streams.getD aX default).out) = false := by simpa using ia
 refine .rn 39 rfl rfl rfl (Y.qo qO rfl rfl) (.rn 40 rfl rfl rfl (Y.qz dr rfl rfl rfl rfl) (.rn 41 rfl rfl rfl (Y.zf rfl rfl) ?_))
 refine .rn 42 rfl rfl rfl (Y.qr (m := aX) a7 rfl rfl aZ (aq (d := 0) om)) ?_
 refine .rn 43 rfl rfl rfl (Y.qz bg rfl rfl rfl rfl) (.rn 44 rfl rfl rfl (Y.zl rfl rfl) (.rn 45 rfl rfl rfl (Y.zp rfl rfl rfl) ?_))
 refine .cn 46 rfl (Y.zp rfl rfl rfl) (.nil (.done ba ?_))
 refine .ay rfl (fun AY => ?_) (fun AY => ?_)
 refine .sr ?_
 refine .an ?_
 refine .nil (.ret ?_)
 exact .rb rfl (df (fun h => by have h1 := h.strs aX om; unfold jE at h1; obtain ⟨a1, a2, a3, a4, a5⟩ := h1; first | contradiction | grind))
 refine .skip ⟨true, (!decide (In (n.data.getD aX 0) n.aj.length)), true, decide ((n.data.getD aX 0) ≠ (-1)), by unfold jE; grind, Le.mk (.c8 (.c8 (.c2 (.c (.cons (au rfl dz) (.cons (au rfl dz) (.c2 (.c (.cons (au rfl dz) (.cons (au rfl dz) .nil)))))))))) (.c .nil)⟩
 replace ia : ((n.streams.getD aX default).out) = true := by simpa using ia
 refine .sk 39 rfl rfl rfl rfl (.sk 40 rfl rfl rfl rfl (.sk 41 rfl rfl rfl rfl ?_))
 refine .sk 42 rfl rfl rfl rfl (.sk 43 rfl rfl rfl rfl (.sk 44 rfl rfl rfl rfl ?_))
 refine .rn 45 rfl rfl rfl (Y.zp rfl rfl rfl) (.cn 46 rfl (Y.zp rfl rfl rfl) (.nil ?_))
 refine .done ba (.cj rfl (.skip ?_))
 exact ⟨true, (!decide (In (n.data.getD aX 0) n.aj.length)), false, false, by unfold jE; grind, Le.mk (.c8 (.c8 (.c2 (.c (.cons (au rfl dz) (.cons (au rfl dz) (.c2 (.c (.cons (au rfl dz) (.cons (au rfl dz) .nil)))))))))) (.c .nil)⟩
 refine .sk 24 rfl rfl rfl rfl (.sk 25 rfl rfl rfl rfl (.sk 26 rfl rfl rfl rfl ?_))
 refine .sk 27 rfl rfl rfl rfl (.sk 28 rfl rfl rfl rfl (.sk 29 rfl rfl rfl rfl ?_))
 refine .nil (.bR 30 rfl ba rfl ag ag rfl rfl (.bR 31 rfl ba rfl ag ag rfl rfl ?_))
 refine .bp (n := 0) [32, 33, 34, 35, 36, 37, 38, 39, 40, 41, 42, 43, 44, 45, 46] [] 0 rfl ba (.rn 32 rfl rfl rfl (Y.zp rfl rfl rfl) (.cn 33 rfl (Y.zp rfl rfl rfl) ?_))
 refine .cn 34 rfl (Y.zf rfl rfl) (.rn 35 rfl rfl rfl (Y.qo jK rfl rfl) (.rn 36 rfl rfl rfl (Y.qz r9 rfl rfl rfl rfl) ?_))
 refine .rn 37 rfl rfl rfl (Y.zo rfl) (.rn 38 rfl rfl rfl (Y.zf rfl rfl) ?_)
 refine .split (d := 159) rfl (fun ia => ?_) (fun ia => ?_)
 replace ia : ((n.streams.getD aX default).out) = false := by simpa using ia
 refine .rn 39 rfl rfl rfl (Y.qo qO rfl rfl) (.rn 40 rfl rfl rfl (Y.qz dr rfl rfl rfl rfl) (.rn 41 rfl rfl rfl (Y.zf rfl rfl) ?_))
 refine .rn 42 rfl rfl rfl (Y.qr (m := aX) a7 rfl rfl aZ (aq (d := 0) om)) ?_
 refine .rn 43 rfl rfl rfl (Y.qz bg rfl rfl rfl rfl) (.rn 44 rfl rfl rfl (Y.zl rfl rfl) (.rn 45 rfl rfl rfl (Y.zp rfl rfl rfl) ?_))
 refine .cn 46 rfl (Y.zp rfl rfl rfl) (.nil (.done ba ?_))
 refine .ay rfl (fun AY => ?_) (fun AY => ?_)
 refine .sr ?_
 refine .an ?_
 refine .nil (.ret ?_)
 exact .rb rfl (df (fun h => by have h1 := h.strs aX om; unfold jE at h1; obtain ⟨a1, a2, a3, a4, a5⟩ := h1; first | contradiction | grind))
 refine .skip ⟨false, false, true, decide ((n.data.getD aX 0) ≠ (-1)), by unfold jE; grind, Le.mk (.c8 (.c8 (.c2 (.c (.cons (au rfl dz) (.cons (au rfl dz) (.c2 (.c (.cons (au rfl dz) (.cons (au rfl dz) .nil)))))))))) (.c .nil)⟩
 replace ia : ((n.streams.getD aX default).out) = true := by simpa using ia
 refine .sk 39 rfl rfl rfl rfl (.sk 40 rfl rfl rfl rfl (.sk 41 rfl rfl rfl rfl ?_))
 refine .sk 42 rfl rfl rfl rfl (.sk 43 rfl rfl rfl rfl (.sk 44 rfl rfl rfl rfl ?_))
 refine .rn 45 rfl rfl rfl (Y.zp rfl rfl rfl) (.cn 46 rfl (Y.zp rfl rfl rfl) (.nil ?_))
 refine .done ba (.cj rfl (.skip ?_))
 exact ⟨false, false, false, false, by unfold jE; grind, Le.mk (.c8 (.c8 (.c2 (.c (.cons (au rfl dz) (.cons (au rfl dz) (.c2 (.c (.cons (au rfl dz) (.cons (au rfl dz) .nil)))))))))) (.c .nil)⟩
 refine .region (.vl (Y.qb rfl rfl om) ?_)
 refine .mv ?_
 refine .nil (⟨aX + 1, ⟨om, e8 yF MO⟩, om, Le.mk (.c4 (.cons (ai rfl aZ) .nil)) .nil⟩)
 refine .exit (.seq (.sr ?_))
 refine .ld vL ?_
 refine .fa vJ ?_
 refine .ld bg ?_
 refine .kJ rfl qQ (eM (i := n.freeze)) rfl (.ao rfl rfl (.ao rfl rfl .nil)) ag rfl (.vl (Y.zo rfl) ?_)
 refine .mv ?_
 refine .mO (d := 174) rfl (fun MP => ?_) (fun MP => ?_)
 refine .gz 174 (.gz 174 (.gz 174 ?_))
 refine .gz 174 (.gz 174 ?_)
 refine .pk ?_
 refine .mv ?_
 refine .gz 181 (.gz 181 (.gz 181 ?_))
 refine .gz 181 ?_
 refine .pk ?_
 refine .nil (.aI rfl (.sr ?_))
 refine .an ?_
 refine .nil (.ret ?_)
 exact .rb rfl (df (fun h => by have h1 := h.freeze; have h2 := h.done; contradiction))
 refine .gw 174 (Y.qz vL rfl rfl rfl rfl) (.gw 174 (Y.qo vK rfl rfl) (.gw 174 (Y.qz bg rfl rfl rfl rfl) ?_))
 refine .aQ (d := 174) rfl ag rfl (.kJ rfl qQ (eM (i := n.done)) rfl (.ao rfl rfl (.ao rfl rfl .nil)) ag rfl (.gw 174 (Y.zo rfl) ?_))
 refine .pk ?_
 refine .mv ?_
 refine .mO (d := 181) rfl (fun MQ => ?_) (fun MQ => ?_)
 refine .gz 181 (.gz 181 (.gz 181 ?_))
 refine .gz 181 ?_
 refine .pk ?_
 refine .nil (.aI rfl (.sr ?_))
 refine .an ?_
 refine .nil (.ret ?_)
 exact .rb rfl (df (fun h => by have h1 := h.freeze; have h2 := h.done; contradiction))
 refine .gw 181 (Y.qo Df rfl rfl) (.gw 181 (Y.qz dr rfl rfl rfl rfl) (.gw 181 (Y.zc rfl rfl rfl rfl) ?_))
 refine .aQ (d := 181) rfl ag rfl ?_
 refine .aR Eb (iA (l := n.eQ) (p := fun z => !decide (In z n.aj.length)) (om) I6 (fun z _ => sV)) rfl (.ao rfl rfl (.ao rfl rfl .nil)) ag rfl ?_
 refine .pk ?_
 refine .nil ?_
 refine .cond rfl (fun Gf => ?_) (fun Gf => ?_)
 refine .sr ?_
 refine .an ?_
 refine .nil (.ret ?_)
 exact .rb rfl (df (fun h => absurd h.eQ (lZ.1 k0)))
 refine .skip (.sr ?_)
 refine .fa gh ?_
 refine .ld dr ?_
 refine .vl (Y.qw (n := n.aj.length) a7 rfl iJ) (.makeSlice (n := n.aj.length) ja FU rfl rfl rfl rfl om om ag ?_)
 refine .bd rfl ag (.sh (Sh.gU (d := 10) (n := n.aj.length) 110 ((List.replicate n.aj.length false).map eb) rfl iW (bn (by simp)) ag) (.nil ?_))
 refine .seq (.sr ?_)
 refine .fa gY ?_
 refine .ld pg ?_
 refine .vl (Y.qw (n := n.cells.length) kq rfl iJ) ?_
 refine .mv ?_
 refine .nil (.block ?_)
 refine .ir (fun (bH : Nat) (dm : List Bool) => ⟨[(1, .fp (ae.row n) 0), (7, .fp ([.gN (.func 156) [] [.fp (ae.row n) 0]]) 0), (10, .aY 110 1 0 n.aj.length), (192, .fz 6 (n.cells.map Cell.row)), (193, vi n.cells.length), (194, vi bH)], [(110, .rows 1 (dm.map eb))]⟩) (fun bH dm => (dm.length = n.aj.length) ∧ ((bH : Int) ≤ (n.cells.length : Int)) ∧ (ti n bH dm) ∧ (∀ j, j < bH → ju n (n.cells.getD j default))) (fun bH dm => ((n.cells.length : Int) - (bH : Int)).toNat) 0 (List.replicate n.aj.length false) (⟨gL, gL, ti.init n, fun j hj => by omega⟩) (Le.mk (.c4 (.c (.cons (ai rfl aZ) .nil))) (.c .nil)) (fun bH dm MR => ?_)
 obtain ⟨Ex, RE, hd, hc⟩ := MR
 refine .sr (.vl (Y.zb rfl rfl) (.nil ?_))
 refine .seq ?_
 refine .ay rfl (fun MS => ?_) (fun MS => ?_)
 refine .skip ?_
 refine .gO (fun (fH : List Bool) => ⟨[(1, .fp (ae.row n) 0), (7, .fp ([.gN (.func 156) [] [.fp (ae.row n) 0]]) 0), (10, .aY 110 1 0 n.aj.length), (192, .fz 6 (n.cells.map Cell.row)), (193, vi n.cells.length), (194, vi bH), (203, .agg [.v (.string n.name), .fz 1 (n.aj.map al), .fz 6 (n.cells.map Cell.row), .fz 1 (n.ins.map al), .fz 5 (n.bu.map rr.row), .fz 3 (n.streams.map iY.row), .fz 1 (n.cf.map al), .fz 1 (n.data.map al), vi n.freeze, vi n.done, .fz 1 (n.eQ.map al)]), (204, .agg [vi ((n.cells.getD bH default).kind), vi ((n.cells.getD bH default).op), vi ((n.cells.getD bH default).out), .fz 1 (((n.cells.getD bH default).args).map al), .v (.int .u64 (((n.cells.getD bH default).num : Nat) : Int)), vi ((n.cells.getD bH default).mem)]), (205, .v (.bool (decide (Shaped n (n.cells.getD bH default))))), (206, .v (.bool (!decide (Shaped n (n.cells.getD bH default)))))], [(110, .rows 1 (fH.map eb))]⟩) (fun fH => (fH.length = n.aj.length) ∧ (ju n (n.cells.getD bH default) ∧ ti n (bH + 1) fH)) ?_ (fun fH J4 => ?_)
 refine .block (.sr ?_)
 refine .vl (Y.qr (m := bH) kq rfl rfl aZ (aq (d := default) om)) ?_
 refine .vl (Y.za sN rfl rfl (bN rfl) rfl rfl) (.alloc 112 oF rfl rfl ag (.aw Dh rfl rfl rfl rfl rfl rfl (bN rfl) rfl ?_))
 refine .nil (.seq (.sr ?_))
 have RG := hs.args (n.cells.getD bH default) (fD om)
 refine .fa eH ?_
 refine .ld dr ?_
 refine .vl (Y.zc rfl rfl rfl rfl) ?_
 refine .aR Eb (iA (l := ((n.cells.getD bH default).args)) (p := fun z => !decide (In z n.aj.length)) (om) I7 (fun z _ => sW)) rfl (.ao rfl rfl (.ao rfl rfl .nil)) ag rfl ?_
 refine .mv ?_
 refine .split (d := 202) rfl (fun MT => ?_) (fun MT => ?_)
 refine .gz 202 (.gz 202 (.gz 202 ?_))
 refine .gz 202 ?_
 refine .pk ?_
 refine .nil (.aI rfl (.sr ?_))
 refine .an ?_
 refine .nil (.ret ?_)
 exact .rb rfl (df (fun h => by have h1 := h.cells bH om; obtain ⟨a1, a2, a3, a4⟩ := h1; first | contradiction | exact absurd a1 (lZ.1 k0) | (have := a3 k0; contradiction) | (have := a4 k0; contradiction)))
 refine .gw 202 (Y.za xW rfl rfl (bN rfl) rfl rfl) (.gw 202 (Y.za sN rfl rfl (bN rfl) rfl rfl) (.aQ (d := 202) rfl ag rfl ?_))
 refine .aR I8 (uv (n := n) (c := (n.cells.getD bH default)) hs (by first | assumption | omega)) rfl (.ao rfl rfl (.ao rfl rfl .nil)) ag rfl (.gw 202 (Y.zo rfl) ?_)
 refine .pk ?_
 refine .nil ?_
 refine .jC rfl (fun MU => ?_) (fun MU => ?_)
 refine .sr ?_
 refine .an ?_
 refine .nil (.ret ?_)
 exact .rb rfl (df (fun h => by have h1 := h.cells bH om; obtain ⟨a1, a2, a3, a4⟩ := h1; first | contradiction | exact absurd a1 (lZ.1 k0) | (have := a3 k0; contradiction) | (have := a4 k0; contradiction)))
 refine .skip (.seq (.sr ?_))
 refine .fa jS ?_
 refine .ld bg ?_
 refine .vl (Y.ql rfl rfl) (.nil ?_)
 refine .ay rfl (fun MV => ?_) (fun MV => ?_)
 refine .seq (.sr ?_)
 refine .fa lJ ?_
 refine .ld bg ?_
 refine .vl (Y.zl rfl rfl) (.nil ?_)
 refine .ay rfl (fun MW => ?_) (fun MW => ?_)
 refine .sr ?_
 refine .an ?_
 refine .nil (.ret ?_)
 exact .rb rfl (df (fun h => by have h1 := h.cells bH om; obtain ⟨a1, a2, a3, a4⟩ := h1; first | contradiction | exact absurd a1 (lZ.1 k0) | (have := a3 k0; contradiction) | (have := a4 k0; contradiction)))
 refine .skip (.exit ?_)
 exact ⟨dm, ⟨om, ⟨⟨jR k0, k0, fun _ => by omega, fun h => absurd k0 h⟩, hd.skip om k0⟩⟩, Le.mk (.c8 (.c (.c .nil))) (.c .nil)⟩
 refine .skip (.seq (.sr ?_))
 refine .ld vL ?_
 refine .fa lJ ?_
 refine .ld bg ?_
 refine .kJ rfl qQ (eM (i := ((n.cells.getD bH default).out))) rfl (.ao rfl rfl (.ao rfl rfl .nil)) ag rfl (.vl (Y.zo rfl) ?_)
 refine .mv ?_
 refine .mO (d := 219) rfl (fun MX => ?_) (fun MX => ?_)
 refine .gz 219 (.gz 219 (.gz 219 ?_))
 refine .gz 219 (.gz 219 ?_)
 refine .pk ?_
 refine .nil (.aI rfl (.sr ?_))
 refine .an ?_
 refine .nil (.ret ?_)
 exact .rb rfl (df (fun h => by have h1 := h.cells bH om; obtain ⟨a1, a2, a3, a4⟩ := h1; first | contradiction | exact absurd a1 (lZ.1 k0) | (have := a3 k0; contradiction) | (have := a4 k0; contradiction)))
 refine .gw 219 (Y.zf rfl rfl) (.gw 219 (Y.qo lJ rfl rfl) (.gw 219 (Y.qz bg rfl rfl rfl rfl) ?_))
 refine .gw 219 (Y.qs (m := ((n.cells.getD bH default).out).toNat) ja rfl rfl gL gL) (.gw 219 (Y.qz r9 rfl (aV (d := false) gL) rfl rfl) ?_)
 refine .pk ?_
 refine .nil ?_
 refine .cond rfl (fun MY => ?_) (fun MY => ?_)
 refine .sr ?_
 refine .an ?_
 refine .nil (.ret ?_)
 exact .rb rfl (df (fun h => ti.dup hd om k0 k0 k0 h))
 refine .skip (.region ?_)
 refine .mv ?_
 refine .fa lJ ?_
 refine .ld bg ?_
 refine .vl (Y.qs (m := ((n.cells.getD bH default).out).toNat) ja rfl rfl gL gL) (.lA ((dm.set (((n.cells.getD bH default).out).toNat) true).map eb) Pe rfl rfl rfl rfl rfl rfl rfl (aV (d := false) gL) (bN rfl) (iu rfl) (.nil (⟨dm.set (((n.cells.getD bH default).out).toNat) true, ⟨gL, ⟨⟨jR k0, k0, fun h => absurd h k0, fun _ => by assumption⟩, hd.step om k0 k0 Ex k0⟩⟩, Le.mk (.c8 (.c (.c .nil))) (.c .nil)⟩)))
 obtain ⟨GY, Dp⟩ := J4
 refine .region (.vl (Y.qb rfl rfl om) ?_)
 refine .mv ?_
 refine .nil (⟨bH + 1, fH, ⟨om, om, Dp.2, e8 hc Dp.1⟩, om, Le.mk (.c4 (.c (.cons (ai rfl aZ) .nil))) (.c .nil)⟩)
 refine .exit (.sr ?_)
 refine .mv ?_
 refine .kG [110] I9 (nY (l := dm) (b := false) (om)) rfl (.en rfl rfl (iU om) (iV om) (.ao rfl rfl .nil)) (n9 rfl (gB kK)) ag rfl trivial (.vl (Y.zo rfl) ?_)
 refine .an ?_
 refine .nil (.ret ?_)
 exact .rb rfl (db ((ti.all (d := dm) (by rw [show n.cells.length = bH by omega]; exact hd) Ex).trans ⟨fun h => ⟨k0, om, om, om, om, om, om, fun j hj => by have := hw j (by rw [List.length_append] at hj; omega); rw [J2] at this; exact this, fun j hj => hm j om, fun j hj => yF j om, k0, k0, jR k0, fun j hj => hc j om, h⟩, fun h => h.kL⟩))
open Go Go.AW Go.Proofs
theorem yg {n : ae} {c : Cell} (hs : n.Small) (hc : c.args.length ≤ 17592186043904) (hn : c.num < 18446744073709551616) (Dq : Shaped n c) (hw : wQ n c) : ak Try.prog 164 [.agg (ae.row n), .agg (Cell.row c)] [] [] (fun r o => r = .v (.bool (decide (Fits n c))) ∧ o = []) := by
 refine ak.of Try.func164 rfl rfl rfl (n := 239) ag (bN rfl) ?_
 have Kw := hs.ins; have Kx := hs.bu; have MC := hs.streams; have ho := hw.out; have Pp := hs.aj
 refine .sr (.box 102 rfl rfl rfl rfl rfl ag (.box 103 rfl rfl rfl rfl rfl ag ?_))
 refine .an ?_
 refine .nil (.sr ?_)
 refine .an ?_
 refine .nil ?_
 refine .gO (fun (gG : Int) => ⟨[(2, .ptr 102 0 0 0), (3, .ptr 103 0 0 0), (5, vi gG)], [(102, .cells (ae.row n)), (103, .cells (Cell.row c))]⟩) (fun gG => gG = n.ow c) ?_ (fun gG yh => ?_)
 refine .sr ?_
 refine .fa lJ ?_
 refine .ld bg ?_
 refine .vl (Y.qp rfl rfl) (.nil ?_)
 refine .ay rfl (fun y6 => ?_) (fun y6 => ?_)
 refine .region ?_
 refine .fa gh ?_
 refine .ld dr ?_
 refine .fa lJ ?_
 refine .ld bg ?_
 refine .vl (Y.qr (m := (c.out).toNat) a7 rfl rfl om (aq (d := 0) om)) ?_
 refine .ld bg ?_
 refine .an ?_
 refine .nil ⟨n.aj.getD ((c.out).toNat) 0, by unfold ae.ow ae.wd; rw [if_pos y6], Le.mk (.c2 (.cons (ai rfl aZ) .nil)) (.c (.c .nil))⟩
 refine .skip ⟨0, by unfold ae.ow; rw [if_neg y6], Le.mk (.c2 (.cons (ai rfl aZ) .nil)) (.c (.c .nil))⟩
 refine .sr ?_
 refine .fa eH ?_
 refine .ld dr ?_
 refine .vl (Y.qw (n := c.args.length) a7 rfl iJ) (.makeSlice (n := c.args.length) a7 er rfl rfl rfl rfl om om ag ?_)
 refine .bd rfl ag (.sh (Sh.gU (d := 6) (n := c.args.length) 106 ((List.replicate c.args.length 0).map al) rfl iW (bn (by simp)) ag) (.nil ?_))
 refine .seq (.sr ?_)
 refine .fa eH ?_
 refine .ld dr ?_
 refine .vl (Y.qw (n := c.args.length) a7 rfl iJ) ?_
 refine .mv ?_
 refine .nil (.block ?_)
 refine .ir (fun (iP : Nat) (jV : List Int) => ⟨[(2, .ptr 102 0 0 0), (3, .ptr 103 0 0 0), (5, vi gG), (6, .aY 106 1 0 c.args.length), (25, .fz 1 (c.args.map al)), (26, vi c.args.length), (27, vi iP)], [(102, .cells (ae.row n)), (103, .cells (Cell.row c)), (106, .rows 1 (jV.map al))]⟩) (fun iP jV => (jV.length = c.args.length) ∧ ((iP : Int) ≤ (c.args.length : Int)) ∧ (∀ j, j < iP → jV.getD j 0 = n.av c j)) (fun iP jV => ((c.args.length : Int) - (iP : Int)).toNat) 0 (List.replicate c.args.length 0) (⟨ni, ni, fun j hj => by omega⟩) (Le.mk (.c4 (.c2 (.cons (ai rfl aZ) .nil))) (.c2 (.c .nil))) (fun iP jV Jo => ?_)
 obtain ⟨AZ, Rn, ha⟩ := Jo
 refine .sr (.vl (Y.zb rfl rfl) (.nil ?_))
 refine .seq ?_
 refine .ay rfl (fun MH => ?_) (fun MH => ?_)
 refine .skip (.seq (.block ?_))
 refine .sr ?_
 refine .mv ?_
 refine .vl (Y.qr (m := iP) a7 rfl rfl aZ (aq (d := 0) om)) ?_
 refine .ld bg ?_
 refine .an ?_
 refine .an ?_
 refine .nil (.region ?_)
 have GZ := hw.arg (k := iP) om
 refine .mv ?_
 refine .mv ?_
 refine .fa gh ?_
 refine .ld dr ?_
 refine .mv ?_
 refine .vl (Y.qr (m := (c.args.getD iP 0).toNat) a7 rfl rfl om (aq (d := 0) om)) ?_
 refine .ld bg ?_
 refine .vl (Y.qs (m := iP) a7 rfl rfl aZ om) (.lA ((jV.set iP (n.aj.getD ((c.args.getD iP 0).toNat) 0)).map al) dh rfl rfl rfl rfl rfl rfl rfl (aV (d := 0) om) (bN rfl) (iu rfl) ?_)
 refine .nil (.region ?_)
 refine .vl (Y.qb rfl rfl aB) ?_
 refine .mv ?_
 refine .nil (⟨iP + 1, jV.set iP (n.aj.getD ((c.args.getD iP 0).toNat) 0), ⟨ni, ni, xK ha rfl om⟩, om, Le.mk (.c4 (.c2 (.cons (ai rfl aZ) .nil))) (.c2 (.c .nil))⟩)
 refine .exit (.seq (.seq ?_))
 have Tq : 0 < c.args.length → jV.getD 0 0 = n.av c 0 := fun h => ha 0 om
 have Pq : 1 < c.args.length → jV.getD 1 0 = n.av c 1 := fun h => ha 1 om
 have Tr : 2 < c.args.length → jV.getD 2 0 = n.av c 2 := fun h => ha 2 om
 refine .region ?_
 refine .fa jS ?_
 refine .ld bg ?_
 refine .nil (.block (.sr ?_))
 refine .vl (Y.ql rfl rfl) ?_
 refine .an ?_
 refine .nil ?_
 refine .ay rfl (fun ME => ?_) (fun ME => ?_)
 refine .seq (.cv rfl (.blind 0 rfl ba (aL.move rfl rfl) ag ?_))
 refine .blind 1 rfl ba (aL.fieldAddr ep rfl rfl) ag (.blind 4 rfl ba (aL.fieldAddr ep rfl rfl) ag ?_)
 refine .two 2 5 rfl rfl ba ?_ ?_
 refine .ld fo ?_
 refine .nil ⟨rfl, ?_⟩
 refine .two 3 5 rfl rfl ba ?_ ?_
 refine .aR qP (gZ (w := gG) (x := c.num) (om)) rfl (.ao rfl rfl (.ao rfl rfl .nil)) ag rfl ?_
 refine .nil ⟨rfl, ?_⟩
 refine .bp (n := 0) [5, 6, 7] [] 0 rfl ba (.cn 5 rfl (Y.qz fo rfl rfl rfl rfl) (.cn 6 rfl (Y.ql rfl rfl) ?_))
 refine .cn 7 rfl (Y.qf rfl rfl) (.nil (.done ba ?_))
 refine .ret (.rb rfl (dd uM))
 refine .ld fo ?_
 refine .nil ⟨rfl, ?_⟩
 refine .one 3 rfl ba (.aR qP (gZ (w := gG) (x := c.num) (om)) rfl (.ao rfl rfl (.ao rfl rfl .nil)) ag rfl ?_)
 refine .nil ⟨rfl, ?_⟩
 refine .bp (n := 0) [6, 7] [] 0 rfl ba (.cn 6 rfl (Y.ql rfl rfl) (.cn 7 rfl (Y.qf rfl rfl) ?_))
 refine .nil (.done ba (.ret ?_))
 exact .rb rfl (dd uM)
 refine .ld fo ?_
 refine .nil ⟨rfl, ?_⟩
 refine .bp (n := 3) [2] [3, 6, 7] 3 rfl ba (.cn 2 rfl (Y.qz fo rfl rfl rfl rfl) (.nil ?_))
 refine .one 3 rfl ba (.aR qP (gZ (w := gG) (x := c.num) (om)) rfl (.ao rfl rfl (.ao rfl rfl .nil)) ag rfl ?_)
 refine .nil ⟨rfl, ?_⟩
 refine .bp (n := 0) [6, 7] [] 0 rfl ba (.cn 6 rfl (Y.ql rfl rfl) (.cn 7 rfl (Y.qf rfl rfl) ?_))
 refine .nil (.done ba (.ret ?_))
 exact .rb rfl (dd uM)
 refine .sr (.vl (Y.ql rfl rfl) ?_)
 refine .an ?_
 refine .nil ?_
 refine .ay rfl (fun xx => ?_) (fun xx => ?_)
 have hk := Dq.k2 xx
 refine .seq (.sr ?_)
 refine .fa eG ?_
 refine .ld bg ?_
 refine .nil (.block (.sr ?_))
 refine .vl (Y.ql rfl rfl) ?_
 refine .an ?_
 refine .nil ?_
 refine .ay rfl (fun MZ => ?_) (fun MZ => ?_)
 refine .sr ?_
 refine .mv ?_
 refine .vl (Y.qs (m := 0) a7 rfl rfl aZ aB) (.vl (Y.qz bg rfl (aV (d := 0) om) rfl rfl) (.vl (Y.ql rfl rfl) ?_))
 refine .mv ?_
 refine .ax (d := 62) rfl (fun RH => ?_) (fun RH => ?_)
 refine .gw 62 (Y.zf rfl rfl) (.gw 62 (Y.qs (m := 1) a7 rfl rfl aZ om) (.gw 62 (Y.qz bg rfl (aV (d := 0) om) rfl rfl) ?_))
 refine .gw 62 (Y.zf rfl rfl) (.gw 62 (Y.ql rfl rfl) ?_)
 refine .pk ?_
 refine .mv ?_
 refine .ax (d := 69) rfl (fun RI => ?_) (fun RI => ?_)
 refine .gw 69 (Y.zf rfl rfl) (.gw 69 (Y.qs (m := 2) a7 rfl rfl aZ om) (.gw 69 (Y.qz bg rfl (aV (d := 0) om) rfl rfl) ?_))
 refine .gw 69 (Y.zf rfl rfl) (.gw 69 (Y.ql rfl rfl) ?_)
 refine .pk ?_
 refine .an ?_
 refine .nil (.ret ?_)
 exact .rb rfl (dd (by (simp only [Fits, cx, gK, ← yh, xx, Int.reduceEq, Bool.not_eq_true, false_and, true_and, and_true, and_false, or_false, false_or, ne_eq]) <;> omega))
 refine .gz 69 (.gz 69 (.gz 69 ?_))
 refine .gz 69 (.gz 69 ?_)
 refine .pk ?_
 refine .an ?_
 refine .nil (.ret ?_)
 exact .rb rfl (df (by (simp only [Fits, cx, gK, ← yh, xx, Int.reduceEq, Bool.not_eq_true, false_and, true_and, and_true, and_false, or_false, false_or, ne_eq]) <;> omega))
 refine .gz 62 (.gz 62 (.gz 62 ?_))
 refine .gz 62 (.gz 62 ?_)
 refine .pk ?_
 refine .mv ?_
 refine .gz 69 (.gz 69 (.gz 69 ?_))
 refine .gz 69 (.gz 69 ?_)
 refine .pk ?_
 refine .an ?_
 refine .nil (.ret ?_)
 exact .rb rfl (df (by (simp only [Fits, cx, gK, ← yh, xx, Int.reduceEq, Bool.not_eq_true, false_and, true_and, and_true, and_false, or_false, false_or, ne_eq]) <;> omega))
 refine .seq (.sr (.vl (Y.ql rfl rfl) ?_))
 refine .an ?_
 refine .nil ?_
 refine .bh rfl (fun J0 => ?_) (fun J0 => ?_)
 refine .skip (.aI rfl (.sr ?_))
 refine .mv ?_
 refine .vl (Y.qs (m := 0) a7 rfl rfl aZ aB) (.vl (Y.qz bg rfl (aV (d := 0) om) rfl rfl) ?_)
 refine .mv ?_
 refine .vl (Y.qy rfl rfl) ?_
 refine .an ?_
 refine .nil (.ret ?_)
 exact .rb rfl (dd (by (simp only [Fits, cx, gK, ← yh, xx, Int.reduceEq, Bool.not_eq_true, false_and, true_and, and_true, and_false, or_false, false_or, ne_eq]) <;> omega))
 refine .region (.vl (Y.ql rfl rfl) ?_)
 refine .an ?_
 refine .nil ?_
 refine .bh rfl (fun J0 => ?_) (fun J0 => ?_)
 refine .sr ?_
 refine .mv ?_
 refine .vl (Y.qs (m := 0) a7 rfl rfl aZ aB) (.vl (Y.qz bg rfl (aV (d := 0) om) rfl rfl) ?_)
 refine .mv ?_
 refine .vl (Y.qy rfl rfl) ?_
 refine .an ?_
 refine .nil (.ret ?_)
 exact .rb rfl (dd (by (simp only [Fits, cx, gK, ← yh, xx, Int.reduceEq, Bool.not_eq_true, false_and, true_and, and_true, and_false, or_false, false_or, ne_eq]) <;> omega))
 refine .sr (.vl (Y.ql rfl rfl) ?_)
 refine .an ?_
 refine .nil ?_
 refine .ay rfl (fun RJ => ?_) (fun RJ => ?_)
 refine .sr ?_
 refine .mv ?_
 refine .vl (Y.qs (m := 0) a7 rfl rfl aZ aB) (.vl (Y.qz bg rfl (aV (d := 0) om) rfl rfl) ?_)
 refine .mv ?_
 refine .vl (Y.qp rfl rfl) ?_
 refine .an ?_
 refine .nil (.ret ?_)
 exact .rb rfl (dd (by (simp only [Fits, cx, gK, ← yh, xx, Int.reduceEq, Bool.not_eq_true, false_and, true_and, and_true, and_false, or_false, false_or, ne_eq]) <;> omega))
 refine .skip (.seq (.sr ?_))
 refine .fa eG ?_
 refine .ld bg ?_
 refine .aR II (qU (w := c.op)) rfl (.ao rfl rfl .nil) ag rfl (.nil ?_)
 refine .ay rfl (fun Ba => ?_) (fun Ba => ?_)
 unfold gK at Ba
 refine .seq (.gC rfl ba (.val (Y.zf rfl rfl) ag ?_))
 refine .val (Y.ql rfl rfl) ag (.val (Y.zf rfl rfl) ag ?_)
 refine .ax (d := 96) rfl (fun MK => ?_) (fun MK => ?_)
 refine .aQ (d := 96) rfl ag rfl (.val (Y.zf rfl rfl) ag (.aQ (d := 96) rfl ag rfl ?_))
 refine .val (Y.qs (m := 0) a7 rfl rfl aZ om) ag (.aQ (d := 96) rfl ag rfl (.val (Y.qz bg rfl (aV (d := 0) om) rfl rfl) ag ?_))
 refine .aQ (d := 96) rfl ag rfl (.val (Y.zf rfl rfl) ag (.aQ (d := 96) rfl ag rfl ?_))
 refine .val (Y.qs (m := 1) a7 rfl rfl aZ om) ag (.aQ (d := 96) rfl ag rfl (.val (Y.qz bg rfl (aV (d := 0) om) rfl rfl) ag ?_))
 refine .aQ (d := 96) rfl ag rfl (.val (Y.ql rfl rfl) ag (.val (Y.zp rfl rfl rfl) ag ?_))
 refine .val (Y.qf rfl rfl) ag (.nil (.ret ?_))
 exact .rb rfl (dd (by (simp only [Fits, cx, gK, ← yh, xx, Int.reduceEq, Bool.not_eq_true, false_and, true_and, and_true, and_false, or_false, false_or, ne_eq]) <;> omega))
 refine .aH (d := 96) rfl ag ag rfl rfl (.aH (d := 96) rfl ag ag rfl rfl (.aH (d := 96) rfl ag ag rfl rfl ?_))
 refine .aH (d := 96) rfl ag ag rfl rfl (.aH (d := 96) rfl ag ag rfl rfl (.aH (d := 96) rfl ag ag rfl rfl ?_))
 refine .aH (d := 96) rfl ag ag rfl rfl (.val (Y.zp rfl rfl rfl) ag (.val (Y.qf rfl rfl) ag ?_))
 refine .nil (.ret ?_)
 exact .rb rfl (df (by (simp only [Fits, cx, gK, ← yh, xx, Int.reduceEq, Bool.not_eq_true, false_and, true_and, and_true, and_false, or_false, false_or, ne_eq]) <;> omega))
 unfold gK at Ba
 refine .skip (.sr ?_)
 refine .mv ?_
 refine .vl (Y.qs (m := 0) a7 rfl rfl aZ aB) (.vl (Y.qz bg rfl (aV (d := 0) om) rfl rfl) ?_)
 refine .mv ?_
 refine .vl (Y.ql rfl rfl) ?_
 refine .mv ?_
 refine .ax (d := 110) rfl (fun AT => ?_) (fun AT => ?_)
 refine .gw 110 (Y.zf rfl rfl) (.gw 110 (Y.qs (m := 1) a7 rfl rfl aZ om) (.gw 110 (Y.qz bg rfl (aV (d := 0) om) rfl rfl) ?_))
 refine .gw 110 (Y.zf rfl rfl) (.gw 110 (Y.ql rfl rfl) ?_)
 refine .pk ?_
 refine .an ?_
 refine .nil (.ret ?_)
 exact .rb rfl (dd (by (simp only [Fits, cx, gK, ← yh, xx, Int.reduceEq, Bool.not_eq_true, false_and, true_and, and_true, and_false, or_false, false_or, ne_eq]) <;> omega))
 refine .gz 110 (.gz 110 (.gz 110 ?_))
 refine .gz 110 (.gz 110 ?_)
 refine .pk ?_
 refine .an ?_
 refine .nil (.ret ?_)
 exact .rb rfl (df (by (simp only [Fits, cx, gK, ← yh, xx, Int.reduceEq, Bool.not_eq_true, false_and, true_and, and_true, and_false, or_false, false_or, ne_eq]) <;> omega))
 refine .sr (.vl (Y.ql rfl rfl) ?_)
 refine .an ?_
 refine .nil ?_
 refine .ay rfl (fun my => ?_) (fun my => ?_)
 have hk := Dq.k3 my
 refine .seq (.sr ?_)
 refine .mv ?_
 refine .vl (Y.qw (n := c.args.length) a7 rfl rfl) ?_
 refine .mv ?_
 refine .nil (.block ?_)
 refine .jD (fun (bC : Nat) => ⟨[(5, vi gG), (119, .aY 106 1 0 c.args.length), (120, vi c.args.length), (121, vi bC)], [(106, .rows 1 (jV.map al))]⟩) (fun bC => ((bC : Int) ≤ (c.args.length : Int)) ∧ (∀ k, k < bC → jt n c k)) (fun bC => ((c.args.length : Int) - (bC : Int)).toNat) 0 (⟨om, fun k hk => by omega⟩) (Le.mk (.c2 (.c (.cons (ai rfl aZ) .nil))) (.c .nil)) (fun bC Gg => ?_)
 obtain ⟨Na, hm⟩ := Gg
 refine .sr (.vl (Y.zb rfl rfl) (.nil ?_))
 refine .seq ?_
 refine .ay rfl (fun Gh => ?_) (fun Gh => ?_)
 refine .skip ?_
 refine .m5 (fun (j0 : Bool) (j1 : Bool) => ⟨[(5, vi gG), (119, .aY 106 1 0 c.args.length), (120, vi c.args.length), (121, vi bC), (134, vi bC), (135, vi ((bC : Int) % 2)), (136, .v (.bool (decide (((bC : Int) % 2) = 1)))), (137, .v (.bool j0)), (141, .v (.bool j1))], [(106, .rows 1 (jV.map al))]⟩) (fun j0 j1 => ((((bC : Int) % 2) = 0) ∧ (¬ ((jV.getD bC 0) ≠ 1)) ∧ (((bC : Int) % 2) = 1) ∧ (¬ ((jV.getD bC 0) ≠ gG)) ∧ (j0 = true) ∧ (j1 = (decide ((jV.getD bC 0) ≠ gG)))) ∨ ((((bC : Int) % 2) = 0) ∧ (¬ ((jV.getD bC 0) ≠ 1)) ∧ (¬ (((bC : Int) % 2) = 1)) ∧ (j0 = false) ∧ (j1 = false)) ∨ ((¬ (((bC : Int) % 2) = 0)) ∧ (((bC : Int) % 2) = 1) ∧ (¬ ((jV.getD bC 0) ≠ gG)) ∧ (j0 = true) ∧ (j1 = (decide ((jV.getD bC 0) ≠ gG)))) ∨ ((¬ (((bC : Int) % 2) = 0)) ∧ (¬ (((bC : Int) % 2) = 1)) ∧ (j0 = false) ∧ (j1 = false))) ?_ (fun j0 j1 RK => ?_)
 refine .block (.sr ?_)
 refine .mv ?_
 refine .vl (Y.qs (m := bC) a7 rfl rfl aZ om) (.vl (Y.qz bg rfl (aV (d := 0) om) rfl rfl) ?_)
 refine .an ?_
 refine .an ?_
 refine .nil (.sr ?_)
 refine .mv ?_
 refine .vl (Y.zu rfl rfl aB) (.vl (Y.ql rfl rfl) ?_)
 refine .mv ?_
 refine .ax (d := 129) rfl (fun Bb => ?_) (fun Bb => ?_)
 refine .gw 129 (Y.zf rfl rfl) (.gw 129 (Y.zl rfl rfl) ?_)
 refine .pk ?_
 refine .mv ?_
 refine .ax (d := 133) rfl (fun Gi => ?_) (fun Gi => ?_)
 refine .gz 133 (.gz 133 (.gz 133 ?_))
 refine .gz 133 (.gz 137 (.gz 137 ?_))
 refine .gz 137 (.gz 133 ?_)
 refine .pk ?_
 refine .nil (.aI rfl (.sr ?_))
 refine .an ?_
 refine .nil (.ret ?_)
 exact .rb rfl (df (fun h => by simp only [Fits, my, Int.reduceEq, Bool.not_eq_true, false_and, true_and, and_true, and_false, or_false, false_or, ne_eq] at h; have h1 := h bC om; have h2 := ha bC om; unfold jt at h1; omega))
 refine .gw 133 (Y.zf rfl rfl) (.gw 133 (Y.zu rfl rfl om) ?_)
 refine .gw 133 (Y.ql rfl rfl) (.gw 133 (Y.zf rfl rfl) ?_)
 refine .ax (d := 137) rfl (fun vW => ?_) (fun vW => ?_)
 refine .gw 137 (Y.zf rfl rfl) (.gw 137 (Y.zf rfl rfl) (.gw 137 (Y.zl rfl rfl) ?_))
 refine .gw 133 (Y.zp rfl rfl rfl) ?_
 refine .pk ?_
 refine .nil ?_
 refine .ay rfl (fun vP => ?_) (fun vP => ?_)
 refine .sr ?_
 refine .an ?_
 refine .nil (.ret ?_)
 exact .rb rfl (df (fun h => by simp only [Fits, my, Int.reduceEq, Bool.not_eq_true, false_and, true_and, and_true, and_false, or_false, false_or, ne_eq] at h; have h1 := h bC om; have h2 := ha bC om; unfold jt at h1; omega))
 refine .skip (⟨true, decide ((jV.getD bC 0) ≠ gG), .inl ⟨Bb, Gi, vW, vP, rfl, rfl⟩, Le.mk (.c4 (.c2 (.c (.cons (au rfl dz) (.cons (au rfl dz) .nil))))) (.c .nil)⟩)
 refine .gz 137 (.gz 137 (.gz 137 ?_))
 refine .gw 133 (Y.zp rfl rfl rfl) ?_
 refine .pk ?_
 refine .nil (.cj rfl (.skip ?_))
 exact ⟨false, false, .inr (.inl ⟨Bb, Gi, vW, rfl, rfl⟩), Le.mk (.c4 (.c2 (.c (.cons (au rfl dz) (.cons (au rfl dz) .nil))))) (.c .nil)⟩
 refine .gz 129 (.gz 129 ?_)
 refine .pk ?_
 refine .mv ?_
 refine .gw 133 (Y.zf rfl rfl) (.gw 133 (Y.zu rfl rfl om) ?_)
 refine .gw 133 (Y.ql rfl rfl) (.gw 133 (Y.zf rfl rfl) ?_)
 refine .ax (d := 137) rfl (fun vW => ?_) (fun vW => ?_)
 refine .gw 137 (Y.zf rfl rfl) (.gw 137 (Y.zf rfl rfl) (.gw 137 (Y.zl rfl rfl) ?_))
 refine .gw 133 (Y.zp rfl rfl rfl) ?_
 refine .pk ?_
 refine .nil ?_
 refine .ay rfl (fun vP => ?_) (fun vP => ?_)
 refine .sr ?_
 refine .an ?_
 refine .nil (.ret ?_)
 exact .rb rfl (df (fun h => by simp only [Fits, my, Int.reduceEq, Bool.not_eq_true, false_and, true_and, and_true, and_false, or_false, false_or, ne_eq] at h; have h1 := h bC om; have h2 := ha bC om; unfold jt at h1; omega))
 refine .skip (⟨true, decide ((jV.getD bC 0) ≠ gG), .inr (.inr (.inl ⟨Bb, vW, vP, rfl, rfl⟩)), Le.mk (.c4 (.c2 (.c (.cons (au rfl dz) (.cons (au rfl dz) .nil))))) (.c .nil)⟩)
 refine .gz 137 (.gz 137 (.gz 137 ?_))
 refine .gw 133 (Y.zp rfl rfl rfl) ?_
 refine .pk ?_
 refine .nil (.cj rfl (.skip ?_))
 exact ⟨false, false, .inr (.inr (.inr (⟨Bb, vW, rfl, rfl⟩))), Le.mk (.c4 (.c2 (.c (.cons (au rfl dz) (.cons (au rfl dz) .nil))))) (.c .nil)⟩
 refine .region (.vl (Y.qb rfl rfl aB) ?_)
 refine .mv ?_
 refine .nil (⟨bC + 1, ⟨om, zB hm (by have h2 := ha bC om; unfold jt; omega)⟩, om, Le.mk (.c2 (.c (.cons (ai rfl aZ) .nil))) (.c .nil)⟩)
 refine .exit (.sr ?_)
 refine .an ?_
 refine .nil (.ret ?_)
 exact .rb rfl (dt (by simp only [Fits, my, Int.reduceEq, Bool.not_eq_true, false_and, true_and, and_true, and_false, or_false, false_or, ne_eq]; exact fun k hk => hm k om))
 refine .sr (.vl (Y.ql rfl rfl) ?_)
 refine .an ?_
 refine .nil ?_
 refine .ay rfl (fun Dn => ?_) (fun Dn => ?_)
 have hk := Dq.k4 Dn
 refine .seq (.cv rfl (.blind 0 rfl ba (aL.move rfl rfl) ag ?_))
 refine .one 1 rfl ba (.vl (Y.qs (m := 0) a7 rfl rfl aZ aB) ?_)
 refine .nil ⟨rfl, ?_⟩
 refine .one 2 rfl ba (.vl (Y.qz bg rfl (aV (d := 0) om) rfl rfl) ?_)
 refine .nil ⟨rfl, ?_⟩
 refine .one 3 rfl ba (.vl (Y.ql rfl rfl) ?_)
 refine .nil ⟨rfl, ?_⟩
 refine .blind 4 rfl ba (aL.move rfl rfl) ag ?_
 refine .ax (d := 150) rfl (fun Nb => ?_) (fun Nb => ?_)
 refine .jq 5 rfl ba rfl ag rfl (aL.move rfl rfl) ag (.jq 8 rfl ba rfl ag rfl (aL.move rfl rfl) ag (.one 6 rfl ba ?_))
 refine .gw 150 (Y.qs (m := 1) a7 rfl rfl aZ om) ?_
 refine .nil ⟨rfl, ?_⟩
 refine .one 7 rfl ba (.gw 150 (Y.qz bg rfl (aV (d := 0) om) rfl rfl) ?_)
 refine .nil ⟨rfl, ?_⟩
 refine .one 9 rfl ba (.gw 150 (Y.ql rfl rfl) ?_)
 refine .nil ⟨rfl, ?_⟩
 refine .one 10 rfl ba ?_
 refine .pk ?_
 refine .nil ⟨rfl, ?_⟩
 refine .blind 11 rfl ba (aL.move rfl rfl) ag ?_
 refine .ax (d := 157) rfl (fun Nc => ?_) (fun Nc => ?_)
 refine .jq 12 rfl ba rfl ag rfl (aL.move rfl rfl) ag (.jq 13 rfl ba rfl ag rfl (aL.fieldAddr ep rfl rfl) ag (.jq 16 rfl ba rfl ag rfl (aL.fieldAddr ep rfl rfl) ag ?_))
 refine .two 14 17 rfl rfl ba ?_ ?_
 refine .gw 157 (Y.qz fo rfl rfl rfl rfl) ?_
 refine .nil ⟨rfl, ?_⟩
 refine .two 15 17 rfl rfl ba ?_ ?_
 refine .aQ (d := 157) rfl ag rfl (.aR qP (gZ (w := gG) (x := c.num) (om)) rfl (.ao rfl rfl (.ao rfl rfl .nil)) ag rfl ?_)
 refine .nil ⟨rfl, ?_⟩
 refine .bp (n := 0) [17, 18, 19, 20] [] 0 rfl ba (.rn 17 rfl rfl rfl (Y.qz fo rfl rfl rfl rfl) (.rn 18 rfl rfl rfl (Y.ql rfl rfl) ?_))
 refine .cn 19 rfl (Y.zp rfl rfl rfl) (.cn 20 rfl (Y.qf rfl rfl) (.nil ?_))
 refine .done ba (.ret ?_)
 exact .rb rfl (dd uM)
 refine .gw 157 (Y.qz fo rfl rfl rfl rfl) ?_
 refine .nil ⟨rfl, ?_⟩
 refine .one 15 rfl ba (.aQ (d := 157) rfl ag rfl ?_)
 refine .aR qP (gZ (w := gG) (x := c.num) (om)) rfl (.ao rfl rfl (.ao rfl rfl .nil)) ag rfl ?_
 refine .nil ⟨rfl, ?_⟩
 refine .bp (n := 0) [18, 19, 20] [] 0 rfl ba (.rn 18 rfl rfl rfl (Y.ql rfl rfl) (.cn 19 rfl (Y.zp rfl rfl rfl) ?_))
 refine .cn 20 rfl (Y.qf rfl rfl) (.nil (.done ba ?_))
 refine .ret (.rb rfl (dd uM))
 refine .gw 157 (Y.qz fo rfl rfl rfl rfl) ?_
 refine .nil ⟨rfl, ?_⟩
 refine .bp (n := 4) [14] [15, 18, 19, 20] 15 rfl ba (.rn 14 rfl rfl rfl (Y.qz fo rfl rfl rfl rfl) (.nil ?_))
 refine .one 15 rfl ba (.aQ (d := 157) rfl ag rfl ?_)
 refine .aR qP (gZ (w := gG) (x := c.num) (om)) rfl (.ao rfl rfl (.ao rfl rfl .nil)) ag rfl ?_
 refine .nil ⟨rfl, ?_⟩
 refine .bp (n := 0) [18, 19, 20] [] 0 rfl ba (.rn 18 rfl rfl rfl (Y.ql rfl rfl) (.cn 19 rfl (Y.zp rfl rfl rfl) ?_))
 refine .cn 20 rfl (Y.qf rfl rfl) (.nil (.done ba ?_))
 refine .ret (.rb rfl (dd uM))
 refine .bR 12 rfl ba rfl ag ag rfl rfl (.bR 13 rfl ba rfl ag ag rfl rfl (.bR 14 rfl ba rfl ag ag rfl rfl ?_))
 refine .bR 15 rfl ba rfl ag ag rfl rfl (.bR 16 rfl ba rfl ag ag rfl rfl (.bR 17 rfl ba rfl ag ag rfl rfl ?_))
 refine .bR 18 rfl ba rfl ag ag rfl rfl (.bp (n := 0) [19, 20] [] 0 rfl ba (.cn 19 rfl (Y.zp rfl rfl rfl) ?_))
 refine .cn 20 rfl (Y.qf rfl rfl) (.nil (.done ba ?_))
 refine .ret (.rb rfl (df uM))
 refine .bR 5 rfl ba rfl ag ag rfl rfl (.bR 6 rfl ba rfl ag ag rfl rfl (.bR 7 rfl ba rfl ag ag rfl rfl ?_))
 refine .bR 8 rfl ba rfl ag ag rfl rfl (.bR 9 rfl ba rfl ag ag rfl rfl (.one 10 rfl ba ?_))
 refine .pk ?_
 refine .nil ⟨rfl, ?_⟩
 refine .blind 11 rfl ba (aL.move rfl rfl) ag (.bR 12 rfl ba rfl ag ag rfl rfl (.bR 13 rfl ba rfl ag ag rfl rfl ?_))
 refine .bR 14 rfl ba rfl ag ag rfl rfl (.bR 15 rfl ba rfl ag ag rfl rfl (.bR 16 rfl ba rfl ag ag rfl rfl ?_))
 refine .bR 17 rfl ba rfl ag ag rfl rfl (.bR 18 rfl ba rfl ag ag rfl rfl (.bp (n := 0) [19, 20] [] 0 rfl ba ?_))
 refine .cn 19 rfl (Y.zp rfl rfl rfl) (.cn 20 rfl (Y.qf rfl rfl) (.nil ?_))
 refine .done ba (.ret ?_)
 exact .rb rfl (df uM)
 refine .sr (.vl (Y.ql rfl rfl) ?_)
 refine .an ?_
 refine .nil ?_
 refine .ay rfl (fun J5 => ?_) (fun J5 => ?_)
 have hk := Dq.k5 J5
 refine .sr ?_
 refine .mv ?_
 refine .vl (Y.qs (m := 0) a7 rfl rfl aZ aB) (.vl (Y.qz bg rfl (aV (d := 0) om) rfl rfl) ?_)
 refine .mv ?_
 refine .vl (Y.ql rfl rfl) ?_
 refine .mv ?_
 refine .ax (d := 173) rfl (fun Nd => ?_) (fun Nd => ?_)
 refine .gw 173 (Y.zf rfl rfl) (.gw 173 (Y.qs (m := 1) a7 rfl rfl aZ om) (.gw 173 (Y.qz bg rfl (aV (d := 0) om) rfl rfl) ?_))
 refine .gw 173 (Y.zf rfl rfl) (.gw 173 (Y.ql rfl rfl) ?_)
 refine .pk ?_
 refine .an ?_
 refine .nil (.ret ?_)
 exact .rb rfl (dd uM)
 refine .gz 173 (.gz 173 (.gz 173 ?_))
 refine .gz 173 (.gz 173 ?_)
 refine .pk ?_
 refine .an ?_
 refine .nil (.ret ?_)
 exact .rb rfl (df uM)
 refine .sr (.vl (Y.ql rfl rfl) ?_)
 refine .an ?_
 refine .nil ?_
 refine .ay rfl (fun Dj => ?_) (fun Dj => ?_)
 have hk := Dq.k6 Dj
 refine .sr ?_
 refine .mv ?_
 refine .vl (Y.qs (m := 0) a7 rfl rfl aZ aB) (.vl (Y.qz bg rfl (aV (d := 0) om) rfl rfl) (.vl (Y.ql rfl rfl) ?_))
 refine .mv ?_
 refine .ax (d := 186) rfl (fun Gf => ?_) (fun Gf => ?_)
 refine .gw 186 (Y.qo oE rfl rfl) (.gw 186 (Y.qz xV rfl rfl rfl rfl) (.gw 186 (Y.qo cY rfl rfl) ?_))
 refine .gw 186 (Y.qz bg rfl rfl rfl rfl) (.gw 186 (Y.qr (m := (c.mem).toNat) vM rfl rfl om (aq (d := default) om)) ?_)
 refine .gw 186 (Y.qo sI rfl rfl) (.gw 186 (Y.qz bg rfl rfl rfl rfl) (.gw 186 (Y.zf rfl rfl) ?_))
 refine .gw 186 (Y.ql rfl rfl) ?_
 refine .pk ?_
 refine .an ?_
 refine .nil (.ret ?_)
 exact .rb rfl (dd uM)
 refine .gz 186 (.gz 186 (.gz 186 ?_))
 refine .gz 186 (.gz 186 (.gz 186 ?_))
 refine .gz 186 (.gz 186 (.gz 186 ?_))
 refine .pk ?_
 refine .an ?_
 refine .nil (.ret ?_)
 exact .rb rfl (df uM)
 refine .sr (.vl (Y.ql rfl rfl) ?_)
 refine .an ?_
 refine .nil ?_
 refine .ay rfl (fun J6 => ?_) (fun J6 => ?_)
 have hk := Dq.k7 J6
 refine .seq (.gC rfl ba (.val (Y.zf rfl rfl) ag ?_))
 refine .val (Y.qs (m := 0) a7 rfl rfl aZ om) ag (.val (Y.qz bg rfl (aV (d := 0) om) rfl rfl) ag ?_)
 refine .val (Y.ql rfl rfl) ag (.val (Y.zf rfl rfl) ag ?_)
 refine .ax (d := 203) rfl (fun Nf => ?_) (fun Nf => ?_)
 refine .aQ (d := 203) rfl ag rfl (.val (Y.qo oE rfl rfl) ag (.aQ (d := 203) rfl ag rfl ?_))
 refine .val (Y.qz xV rfl rfl rfl rfl) ag (.aQ (d := 203) rfl ag rfl (.val (Y.qo cY rfl rfl) ag ?_))
 refine .aQ (d := 203) rfl ag rfl (.val (Y.qz bg rfl rfl rfl rfl) ag (.aQ (d := 203) rfl ag rfl ?_))
 refine .val (Y.qr (m := (c.mem).toNat) vM rfl rfl om (aq (d := default) om)) ag ?_
 refine .aQ (d := 203) rfl ag rfl (.val (Y.qo sI rfl rfl) ag (.aQ (d := 203) rfl ag rfl ?_))
 refine .val (Y.qz bg rfl rfl rfl rfl) ag (.aQ (d := 203) rfl ag rfl (.val (Y.zf rfl rfl) ag ?_))
 refine .aQ (d := 203) rfl ag rfl (.val (Y.qs (m := 2) a7 rfl rfl aZ om) ag (.aQ (d := 203) rfl ag rfl (.val (Y.qz bg rfl (aV (d := 0) om) rfl rfl) ag ?_)))
 refine .aQ (d := 203) rfl ag rfl (.val (Y.ql rfl rfl) ag (.val (Y.zp rfl rfl rfl) ag ?_))
 refine .val (Y.qf rfl rfl) ag (.nil (.ret ?_))
 exact .rb rfl (dd uM)
 refine .aH (d := 203) rfl ag ag rfl rfl (.aH (d := 203) rfl ag ag rfl rfl (.aH (d := 203) rfl ag ag rfl rfl ?_))
 refine .aH (d := 203) rfl ag ag rfl rfl (.aH (d := 203) rfl ag ag rfl rfl (.aH (d := 203) rfl ag ag rfl rfl ?_))
 refine .aH (d := 203) rfl ag ag rfl rfl (.aH (d := 203) rfl ag ag rfl rfl (.aH (d := 203) rfl ag ag rfl rfl ?_))
 refine .aH (d := 203) rfl ag ag rfl rfl (.aH (d := 203) rfl ag ag rfl rfl (.val (Y.zp rfl rfl rfl) ag ?_))
 refine .val (Y.qf rfl rfl) ag (.nil (.ret ?_))
 exact .rb rfl (df uM)
 refine .sr (.vl (Y.ql rfl rfl) ?_)
 refine .an ?_
 refine .nil ?_
 refine .ay rfl (fun J7 => ?_) (fun J7 => ?_)
 have hk := Dq.k8 J7
 refine .sr ?_
 refine .fa qN ?_
 refine .ld dr ?_
 refine .fa ep ?_
 refine .ld fo ?_
 refine .vl (Y.qr (m := c.num) a7 rfl rfl aZ (aq (d := 0) om)) ?_
 refine .ld bg ?_
 refine .mv ?_
 refine .vl (Y.ql rfl rfl) ?_
 refine .an ?_
 refine .nil (.ret ?_)
 exact .rb rfl (dd uM)
 refine .sr (.vl (Y.ql rfl rfl) ?_)
 refine .an ?_
 refine .nil ?_
 refine .ay rfl (fun Ng => ?_) (fun Ng => ?_)
 refine .sr ?_
 refine .mv ?_
 refine .vl (Y.ql rfl rfl) ?_
 refine .an ?_
 refine .nil (.ret ?_)
 exact .rb rfl (dd uM)
 have Kl : c.kind = 10 := by have := Dq.kind; omega
 have hk := Dq.Kl Kl
 refine .skip (.sr ?_)
 refine .fa iM ?_
 refine .ld ph ?_
 refine .fa cY ?_
 refine .ld bg ?_
 refine .vl (Y.qr (m := (c.mem).toNat) nU rfl rfl om (aq (d := default) om)) ?_
 refine .fa sJ ?_
 refine .ld bg ?_
 refine .mv ?_
 refine .vl (Y.ql rfl rfl) ?_
 refine .an ?_
 refine .nil (.ret ?_)
 exact .rb rfl (dd (by (simp only [Fits, cx, gK, ← yh, Kl, Int.reduceEq, Bool.not_eq_true, false_and, true_and, and_true, and_false, or_false, false_or, ne_eq]) <;> omega))
open Go Go.AW Go.Proofs
theorem sY {n : ae} {c : Cell} (hs : n.Small) (hf : b5 n) (hc : c ∈ n.cells) : ak Try.prog 163 [.agg (Cell.row c), .fp (ae.row n) 0] [] [] (fun r o => r = .v (.bool (!decide (Fits n c))) ∧ o = []) := by
 refine ak.of Try.func163 rfl rfl rfl (n := 8) ag (bN rfl) (.sr (.box 102 rfl rfl rfl rfl rfl ag ?_))
 refine .an ?_
 refine .nil (.sr (.vl (Y.za xW rfl rfl (bN rfl) rfl rfl) ?_))
 refine .vl (Y.za sN rfl rfl (bN rfl) rfl rfl) (.aR IC (yg (n := n) (c := c) hs (hs.args _ hc) (hs.EP _ hc) (hf.cell hc).2.1 (hf.cell hc).HY) rfl (.ao rfl rfl (.ao rfl rfl .nil)) ag rfl (.vl (Y.zo rfl) ?_))
 refine .an ?_
 refine .nil (.ret ?_)
 exact .rb rfl (rfl)
theorem uz {n : ae} (hs : n.Small) (hf : b5 n) : ak Try.prog 109 [.agg (ae.row n)] [] [] (fun r o => r = .v (.bool (decide (Fit n))) ∧ o = []) := by
 refine ak.of Try.func109 rfl rfl rfl (n := 63) ag (bN rfl) ?_
 have Pp := hf.ei; have R7 := hf.jv; have R8 := hf.cU; have Kw := hf.freeze; have Kx := hf.done; unfold In at Kw Kx; have MC := hf.dY; have R9 := hf.eD
 refine .sr (.box 101 rfl rfl rfl rfl rfl ag ?_)
 refine .an ?_
 refine .nil (.seq (.sr ?_))
 refine .fa gh ?_
 refine .ld dr ?_
 refine .fa vJ ?_
 refine .ld bg ?_
 refine .vl (Y.qr (m := (n.freeze).toNat) a7 rfl rfl om (aq (d := 0) om)) ?_
 refine .ld bg ?_
 refine .vl (Y.zl rfl rfl) ?_
 refine .mv ?_
 refine .ax (d := 12) rfl (fun uS => ?_) (fun uS => ?_)
 refine .gz 12 (.gz 12 (.gz 12 ?_))
 refine .gz 12 (.gz 12 (.gz 12 ?_))
 refine .gz 12 ?_
 refine .pk ?_
 refine .nil (.aI rfl (.sr ?_))
 refine .an ?_
 refine .nil (.ret ?_)
 exact .rb rfl (df (fun h => by have h1 := h.freeze; have h2 := h.done; unfold ae.wd at h1 h2; first | contradiction | omega))
 refine .gw 12 (Y.qo gh rfl rfl) (.gw 12 (Y.qz dr rfl rfl rfl rfl) (.gw 12 (Y.qo vK rfl rfl) ?_))
 refine .gw 12 (Y.qz bg rfl rfl rfl rfl) (.gw 12 (Y.qr (m := (n.done).toNat) a7 rfl rfl om (aq (d := 0) om)) ?_)
 refine .gw 12 (Y.qz bg rfl rfl rfl rfl) (.gw 12 (Y.zl rfl rfl) ?_)
 refine .pk ?_
 refine .nil ?_
 refine .ay rfl (fun MG => ?_) (fun MG => ?_)
 refine .sr ?_
 refine .an ?_
 refine .nil (.ret ?_)
 exact .rb rfl (df (fun h => by have h1 := h.freeze; have h2 := h.done; unfold ae.wd at h1 h2; first | contradiction | omega))
 refine .skip (.seq (.sr ?_))
 refine .fa iM ?_
 refine .ld ph ?_
 refine .vl (Y.qw (n := n.streams.length) nU rfl iJ) ?_
 refine .mv ?_
 refine .nil (.block ?_)
 refine .jD (fun (fb : Nat) => ⟨[(1, .ptr 101 0 0 0), (22, .fz 3 (n.streams.map iY.row)), (23, vi n.streams.length), (24, vi fb)], [(101, .cells (ae.row n))]⟩) (fun fb => ((fb : Int) ≤ (n.streams.length : Int)) ∧ (∀ j, j < fb → lE n j)) (fun fb => ((n.streams.length : Int) - (fb : Int)).toNat) 0 (⟨om, fun j hj => by omega⟩) (Le.mk (.c2 (.c (.cons (ai rfl aZ) .nil))) (.c .nil)) (fun fb um => ?_)
 obtain ⟨y7, yF⟩ := um
 refine .sr (.vl (Y.zb rfl rfl) (.nil ?_))
 refine .seq ?_
 refine .ay rfl (fun Jn => ?_) (fun Jn => ?_)
 refine .skip ?_
 refine .m5 (fun (vX : Bool) (vY : Bool) => ⟨[(1, .ptr 101 0 0 0), (22, .fz 3 (n.streams.map iY.row)), (23, vi n.streams.length), (24, vi fb), (40, .ptr 104 0 0 2), (41, .v (.bool ((n.streams.getD fb default).out))), (42, .v (.bool vX)), (55, .v (.bool vY))], [(101, .cells (ae.row n)), (104, .cells [.v (.string ((n.streams.getD fb default).name)), vi ((n.streams.getD fb default).width), .v (.bool ((n.streams.getD fb default).out))])]⟩) (fun vX vY => lE n fb) ?_ (fun vX vY Ep => ?_)
 refine .block (.sr ?_)
 refine .mv ?_
 refine .vl (Y.qr (m := fb) nU rfl rfl aZ (aq (d := default) om)) ?_
 refine .vl (Y.za Ec rfl rfl (bN rfl) rfl rfl) (.alloc 104 Ee rfl rfl ag ?_)
 refine .an ?_
 refine .aw Ed rfl rfl rfl rfl rfl rfl (bN rfl) rfl (.nil (.seq ?_))
 refine .gC rfl ba ?_
 obtain ⟨_, _, Pq, J8, _⟩ := hf.strs fb om
 unfold In at Pq J8
 refine .val (Y.qo gh rfl rfl) ag (.val (Y.qz dr rfl rfl rfl rfl) ag (.val (Y.qo vI rfl rfl) ag ?_))
 refine .val (Y.qz dr rfl rfl rfl rfl) ag (.val (Y.zf rfl rfl) ag ?_)
 refine .val (Y.qr (m := fb) a7 rfl rfl aZ (aq (d := 0) om)) ag (.val (Y.qz bg rfl rfl rfl rfl) ag (.val (Y.qr (m := (n.cf.getD fb 0).toNat) a7 rfl rfl om (aq (d := 0) om)) ag ?_))
 refine .val (Y.qz bg rfl rfl rfl rfl) ag (.val (Y.zl rfl rfl) ag (.val (Y.zf rfl rfl) ag ?_))
 refine .ax (d := 39) rfl (fun oH => ?_) (fun oH => ?_)
 refine .aH (d := 39) rfl ag ag rfl rfl (.aH (d := 39) rfl ag ag rfl rfl (.aH (d := 39) rfl ag ag rfl rfl ?_))
 refine .aH (d := 42) rfl ag ag rfl rfl (.aH (d := 42) rfl ag ag rfl rfl (.aH (d := 42) rfl ag ag rfl rfl ?_))
 refine .aH (d := 42) rfl ag ag rfl rfl (.aH (d := 42) rfl ag ag rfl rfl (.aH (d := 42) rfl ag ag rfl rfl ?_))
 refine .aH (d := 42) rfl ag ag rfl rfl (.aH (d := 42) rfl ag ag rfl rfl (.aH (d := 42) rfl ag ag rfl rfl ?_))
 refine .aH (d := 42) rfl ag ag rfl rfl (.aH (d := 42) rfl ag ag rfl rfl (.aH (d := 42) rfl ag ag rfl rfl ?_))
 refine .aH (d := 39) rfl ag ag rfl rfl (.val (Y.zp rfl rfl rfl) ag (.nil ?_))
 refine .aI rfl (.sr ?_)
 refine .an ?_
 refine .nil (.ret ?_)
 exact .rb rfl (df (fun h => by have h1 := h.strs fb om; unfold lE ae.wd at h1; grind))
 refine .aQ (d := 39) rfl ag rfl (.val (Y.qo jK rfl rfl) ag (.aQ (d := 39) rfl ag rfl ?_))
 refine .val (Y.qz r9 rfl rfl rfl rfl) ag (.aQ (d := 39) rfl ag rfl (.val (Y.zf rfl rfl) ag ?_))
 refine .split (d := 42) rfl (fun J9 => ?_) (fun J9 => ?_)
 have Ts := J8 k0
 refine .aQ (d := 42) rfl ag rfl (.val (Y.qo gh rfl rfl) ag (.aQ (d := 42) rfl ag rfl ?_))
 refine .val (Y.qz dr rfl rfl rfl rfl) ag (.aQ (d := 42) rfl ag rfl (.val (Y.qo qO rfl rfl) ag ?_))
 refine .aQ (d := 42) rfl ag rfl (.val (Y.qz dr rfl rfl rfl rfl) ag (.aQ (d := 42) rfl ag rfl ?_))
 refine .val (Y.zf rfl rfl) ag (.aQ (d := 42) rfl ag rfl ?_)
 refine .val (Y.qr (m := fb) a7 rfl rfl aZ (aq (d := 0) om)) ag ?_
 refine .aQ (d := 42) rfl ag rfl (.val (Y.qz bg rfl rfl rfl rfl) ag (.aQ (d := 42) rfl ag rfl ?_))
 refine .val (Y.qr (m := (n.data.getD fb 0).toNat) a7 rfl rfl om (aq (d := 0) om)) ag ?_
 refine .aQ (d := 42) rfl ag rfl (.val (Y.qz bg rfl rfl rfl rfl) ag (.aQ (d := 42) rfl ag rfl ?_))
 refine .val (Y.qo sJ rfl rfl) ag (.aQ (d := 42) rfl ag rfl (.val (Y.qz bg rfl rfl rfl rfl) ag ?_))
 refine .aQ (d := 42) rfl ag rfl (.val (Y.zl rfl rfl) ag (.aQ (d := 39) rfl ag rfl ?_))
 refine .val (Y.zp rfl rfl rfl) ag (.val (Y.zp rfl rfl rfl) ag (.nil ?_))
 refine .ay rfl (fun MZ => ?_) (fun MZ => ?_)
 refine .sr ?_
 refine .an ?_
 refine .nil (.ret ?_)
 exact .rb rfl (df (fun h => by have h1 := h.strs fb om; unfold lE ae.wd at h1; grind))
 refine .skip ⟨true, decide ((n.aj.getD ((n.data.getD fb 0).toNat) 0) ≠ ((n.streams.getD fb default).width)), by unfold lE ae.wd; grind, Le.mk (.c4 (.c2 (.cons (au rfl dz) (.cons (au rfl dz) .nil)))) (.c (.c .nil))⟩
 refine .aH (d := 42) rfl ag ag rfl rfl (.aH (d := 42) rfl ag ag rfl rfl (.aH (d := 42) rfl ag ag rfl rfl ?_))
 refine .aH (d := 42) rfl ag ag rfl rfl (.aH (d := 42) rfl ag ag rfl rfl (.aH (d := 42) rfl ag ag rfl rfl ?_))
 refine .aH (d := 42) rfl ag ag rfl rfl (.aH (d := 42) rfl ag ag rfl rfl (.aH (d := 42) rfl ag ag rfl rfl ?_))
 refine .aH (d := 42) rfl ag ag rfl rfl (.aH (d := 42) rfl ag ag rfl rfl (.aH (d := 42) rfl ag ag rfl rfl ?_))
 refine .aQ (d := 39) rfl ag rfl (.val (Y.zp rfl rfl rfl) ag (.val (Y.zp rfl rfl rfl) ag ?_))
 refine .nil (.cj rfl (.skip ?_))
 exact ⟨false, false, by unfold lE ae.wd; grind, Le.mk (.c4 (.c2 (.cons (au rfl dz) (.cons (au rfl dz) .nil)))) (.c (.c .nil))⟩
 refine .region (.vl (Y.qb rfl rfl aB) ?_)
 refine .mv ?_
 refine .nil (⟨fb + 1, ⟨om, e8 yF Ep⟩, om, Le.mk (.c2 (.c (.cons (ai rfl aZ) .nil))) (.c .nil)⟩)
 refine .exit (.sr ?_)
 refine .fa gY ?_
 refine .ld pg ?_
 refine .sh (Sh.lY 101 rfl rfl) (.vl (Y.zc rfl rfl rfl rfl) ?_)
 refine .aR IA (lp (l := n.cells) (p := fun z => !decide (Fits n z)) (om) IB (fun z hz => sY hs hf hz)) rfl (.ao rfl rfl (.ao rfl rfl .nil)) ag rfl ?_
 refine .vl (Y.zo rfl) ?_
 refine .an ?_
 refine .nil (.ret ?_)
 exact .rb rfl (db (tM (by unfold ae.wd; omega) (by unfold ae.wd; omega) (fun j hj => yF j om)))
open Go Go.AW Go.Proofs
theorem vZ {n : ae} (hs : n.Small) (Kz : n.aj.length + n.ins.length ≤ 17592186044416) : ak Try.prog 52 [.agg (ae.row n)] [] [] (fun r o => ∃ (l : List Int) (e : Int), lG n l e ∧ r = .tup [.cX 1 (l.map al), vi e] ∧ o = []) := by
 refine ak.of Try.func52 rfl rfl rfl (n := 169) ag (bN rfl) (.sr (.box 101 rfl rfl rfl rfl rfl ag ?_))
 refine .an ?_
 refine .an ?_
 refine .nil (.seq (.sr ?_))
 refine .vl (Y.za xW rfl rfl (bN rfl) rfl rfl) (.aR I3 (uy (n := n) hs (om)) rfl (.ao rfl rfl .nil) ag rfl ?_)
 refine .vl (Y.zo rfl) (.nil ?_)
 refine .jC rfl (fun mj => ?_) (fun mj => ?_)
 refine .sr ?_
 refine .an ?_
 refine .an ?_
 refine .nil (.sh (Sh.r4 (d := 2) 1 rfl) (.ret ?_))
 exact ⟨_, _, rfl, rfl, ([] : List Int), 3, .inl ⟨k0, rfl, rfl⟩, rfl, rfl⟩
 have hf : b5 n := by assumption
 refine .skip (.seq (.sr ?_))
 refine .vl (Y.za xW rfl rfl (bN rfl) rfl rfl) (.aR I4 (uz (n := n) hs k0) rfl (.ao rfl rfl .nil) ag rfl (.vl (Y.zo rfl) ?_))
 refine .nil ?_
 refine .jC rfl (fun Jn => ?_) (fun Jn => ?_)
 refine .sr ?_
 refine .an ?_
 refine .an ?_
 refine .nil (.sh (Sh.r4 (d := 2) 1 rfl) (.ret ?_))
 exact ⟨_, _, rfl, rfl, ([] : List Int), 13, .inr (.inl ⟨k0, k0, rfl, rfl⟩), rfl, rfl⟩
 have Fy : Fit n := by assumption
 have KM := hf.eD; have OB := hf.dY
 refine .skip (.sr ?_)
 refine .an ?_
 refine .sh (Sh.nil (d := 4) 104 1 rfl ag) (.nil (.sr ?_))
 refine .fa gY ?_
 refine .ld pg ?_
 refine .vl (Y.qw (n := n.cells.length) kq rfl iJ) (.makeSlice (n := n.cells.length) a7 er rfl rfl rfl rfl om om ag ?_)
 refine .bd rfl ag (.sh (Sh.gU (d := 5) (n := n.cells.length) 105 ((List.replicate n.cells.length 0).map al) rfl iW (bn (by simp)) ag) (.nil ?_))
 refine .sr ?_
 refine .fa gh ?_
 refine .ld dr ?_
 refine .vl (Y.qw (n := n.aj.length) a7 rfl iJ) (.makeSlice (n := n.aj.length) jy Di rfl rfl rfl rfl om om ag ?_)
 refine .sh (Sh.Ck (d := 33) 1 rfl) (.bd rfl ag (.sh (Sh.gU (d := 6) (n := n.aj.length) 106 ((List.replicate n.aj.length []).map mT) rfl iW (bn (by simp)) ag) ?_))
 refine .nil (.sr ?_)
 refine .fa gh ?_
 refine .ld dr ?_
 refine .vl (Y.qw (n := n.aj.length) a7 rfl iJ) (.makeSlice (n := n.aj.length) ja FU rfl rfl rfl rfl om om ag ?_)
 refine .bd rfl ag (.sh (Sh.gU (d := 7) (n := n.aj.length) 107 ((List.replicate n.aj.length false).map eb) rfl iW (bn (by simp)) ag) (.nil ?_))
 refine .seq (.sr ?_)
 refine .fa gY ?_
 refine .ld pg ?_
 refine .vl (Y.qw (n := n.cells.length) kq rfl iJ) ?_
 refine .mv ?_
 refine .nil (.block ?_)
 refine .ir (fun (fq : Nat) (dC : List Bool) => ⟨[(1, .ptr 101 0 0 0), (4, .aY 104 1 0 0), (5, .aY 105 1 0 n.cells.length), (6, .aY 106 1 0 n.aj.length), (7, .aY 107 1 0 n.aj.length), (39, .fz 6 (n.cells.map Cell.row)), (40, vi n.cells.length), (41, vi fq)], [(101, .cells (ae.row n)), (104, .rows 1 (([] : List Int).map al)), (105, .rows 1 ((List.replicate n.cells.length 0).map al)), (106, .rows 1 ((List.replicate n.aj.length []).map mT)), (107, .rows 1 (dC.map eb))]⟩) (fun fq dC => (dC.length = n.aj.length) ∧ ((fq : Int) ≤ (n.cells.length : Int)) ∧ (ej n fq dC)) (fun fq dC => ((n.cells.length : Int) - (fq : Int)).toNat) 0 (List.replicate n.aj.length false) (⟨gL, gL, ej.init n⟩) (Le.mk (.c4 (.c2 (.c (.cons (ai rfl aZ) .nil)))) (.c4 (.c .nil))) (fun fq dC AS => ?_)
 obtain ⟨Ey, J3, Nh⟩ := AS
 refine .sr (.vl (Y.zb rfl rfl) (.nil ?_))
 refine .seq ?_
 refine .ay rfl (fun J9 => ?_) (fun J9 => ?_)
 refine .skip ?_
 refine .gO (fun (ji : List Bool) => ⟨[(1, .ptr 101 0 0 0), (4, .aY 104 1 0 0), (5, .aY 105 1 0 n.cells.length), (6, .aY 106 1 0 n.aj.length), (7, .aY 107 1 0 n.aj.length), (39, .fz 6 (n.cells.map Cell.row)), (40, vi n.cells.length), (41, vi fq)], [(101, .cells (ae.row n)), (104, .rows 1 (([] : List Int).map al)), (105, .rows 1 ((List.replicate n.cells.length 0).map al)), (106, .rows 1 ((List.replicate n.aj.length []).map mT)), (107, .rows 1 (ji.map eb))]⟩) (fun ji => (ji.length = n.aj.length) ∧ (ej n (fq + 1) ji)) ?_ (fun ji JA => ?_)
 refine .block (.sr ?_)
 refine .vl (Y.qr (m := fq) kq rfl rfl aZ (aq (d := default) om)) ?_
 refine .vl (Y.za sN rfl rfl (bN rfl) rfl rfl) (.alloc 109 oF rfl rfl ag (.aw Dh rfl rfl rfl rfl rfl rfl (bN rfl) rfl ?_))
 refine .nil (.sr ?_)
 refine .fa jS ?_
 refine .ld bg ?_
 refine .aR FP (oI (w := ((n.cells.getD fq default).kind))) rfl (.ao rfl rfl .nil) ag rfl (.nil ?_)
 refine .ay rfl (fun Et => ?_) (fun Et => ?_)
 have K0 := hf.jG (bo.iK (n := n) (i := (fq : Int)) ⟨⟨om, om⟩, Et⟩)
 rw [lF] at K0
 have Jw := K0; unfold In at Jw
 refine .region ?_
 refine .mv ?_
 refine .fa lJ ?_
 refine .ld bg ?_
 refine .vl (Y.qs (m := ((n.cells.getD fq default).out).toNat) ja rfl rfl om om) (.lA ((dC.set (((n.cells.getD fq default).out).toNat) true).map eb) Pe rfl rfl rfl rfl rfl rfl rfl (aV (d := false) om) (bN rfl) (iu rfl) (.nil (⟨dC.set (((n.cells.getD fq default).out).toNat) true, ⟨gL, Nh.step om Ey Et K0⟩, Le.mk (.c4 (.c2 (.c (.c .nil)))) (.c4 (.c .nil))⟩)))
 refine .skip (⟨dC, ⟨om, Nh.skip Et⟩, Le.mk (.c4 (.c2 (.c (.c .nil)))) (.c4 (.c .nil))⟩)
 obtain ⟨Ha, Ni⟩ := JA
 refine .region (.vl (Y.qb rfl rfl om) ?_)
 refine .mv ?_
 refine .nil (⟨fq + 1, ji, ⟨om, om, Ni⟩, om, Le.mk (.c4 (.c2 (.c (.cons (ai rfl aZ) .nil)))) (.c4 (.c .nil))⟩)
 refine .exit (.seq (.seq ?_))
 have JB : ej n n.cells.length dC := by rw [show n.cells.length = fq by omega]; exact Nh
 refine .region ?_
 refine .fa gY ?_
 refine .ld pg ?_
 refine .vl (Y.qw (n := n.cells.length) kq rfl iJ) ?_
 refine .mv ?_
 refine .nil (.block ?_)
 refine .ir (fun (fu : Nat) (dR : List Int) => ⟨[(1, .ptr 101 0 0 0), (4, .aY 104 1 0 dR.length), (5, .aY 105 1 0 n.cells.length), (6, .aY 106 1 0 n.aj.length), (7, .aY 107 1 0 n.aj.length), (54, .fz 6 (n.cells.map Cell.row)), (55, vi n.cells.length), (56, vi fu)], [(101, .cells (ae.row n)), (104, .rows 1 (dR.map al)), (105, .rows 1 ((List.replicate n.cells.length 0).map al)), (106, .rows 1 ((List.replicate n.aj.length []).map mT)), (107, .rows 1 (dC.map eb))]⟩) (fun fu dR => ((fu : Int) ≤ (n.cells.length : Int)) ∧ (dR = g5 n fu)) (fun fu dR => ((n.cells.length : Int) - (fu : Int)).toNat) 0 ([] : List Int) (⟨gL, rfl⟩) (Le.mk (.c (.cons (a8 rfl gL) (.c4 (.c (.cons (ai rfl aZ) .nil))))) (.c4 (.c .nil))) (fun fu dR Nj => ?_)
 obtain ⟨RL, K3⟩ := Nj
 refine .sr (.vl (Y.zb rfl rfl) (.nil ?_))
 refine .seq ?_
 refine .ay rfl (fun xw => ?_) (fun xw => ?_)
 refine .skip ?_
 refine .gO (fun (kv : List Int) => ⟨[(1, .ptr 101 0 0 0), (4, .aY 104 1 0 kv.length), (5, .aY 105 1 0 n.cells.length), (6, .aY 106 1 0 n.aj.length), (7, .aY 107 1 0 n.aj.length), (54, .fz 6 (n.cells.map Cell.row)), (55, vi n.cells.length), (56, vi fu)], [(101, .cells (ae.row n)), (104, .rows 1 (kv.map al)), (105, .rows 1 ((List.replicate n.cells.length 0).map al)), (106, .rows 1 ((List.replicate n.aj.length []).map mT)), (107, .rows 1 (dC.map eb))]⟩) (fun kv => kv = g5 n (fu + 1)) ?_ (fun kv Gj => ?_)
 refine .block (.sr ?_)
 refine .mv ?_
 refine .vl (Y.qr (m := fu) kq rfl rfl aZ (aq (d := default) om)) ?_
 refine .vl (Y.za sN rfl rfl (bN rfl) rfl rfl) (.alloc 111 oF rfl rfl ag ?_)
 refine .an ?_
 refine .aw Dh rfl rfl rfl rfl rfl rfl (bN rfl) rfl (.nil (.sr ?_))
 have RM := zD n fu; rw [← K3] at RM
 refine .fa jS ?_
 refine .ld bg ?_
 refine .aR FP (oI (w := ((n.cells.getD fu default).kind))) rfl (.ao rfl rfl .nil) ag rfl (.vl (Y.zo rfl) (.nil ?_))
 refine .jC rfl (fun Nk => ?_) (fun Nk => ?_)
 refine .region ?_
 refine .mv ?_
 refine .mv ?_
 refine .buildSlice (([(fu : Int)] : List Int).map al) a7 er rfl rfl rfl rfl rfl (az (s := 1) (f := al) (fun _ => rfl)) rfl rfl rfl ag ?_
 refine .xE al (dR ++ ([(fu : Int)] : List Int)) a7 er rfl rfl rfl rfl (b8 gL) (bm gL) (cb gL) gL gL ag ag ?_
 refine .an ?_
 refine .nil ⟨dR ++ ([(fu : Int)] : List Int), by rw [rT, if_neg Nk, K3], Le.mk (.c (.cons (a8 rfl om) (.c4 (.c (.c .nil))))) (.c4 (.c .nil))⟩
 refine .skip ⟨dR, by rw [rT, if_pos Nk, K3, List.append_nil], Le.mk (.c (.cons (a8 rfl om) (.c4 (.c (.c .nil))))) (.c4 (.c .nil))⟩
 refine .region (.vl (Y.qb rfl rfl om) ?_)
 refine .mv ?_
 refine .nil (⟨fu + 1, kv, ⟨om, Gj⟩, om, Le.mk (.c (.cons (a8 rfl om) (.c4 (.c (.cons (ai rfl aZ) .nil))))) (.c4 (.c .nil))⟩)
 refine .exit (.sr ?_)
 refine .an ?_
 refine .sh (Sh.nil (d := 12) 112 1 rfl ag) (.nil (.seq ?_))
 refine .sr ?_
 refine .fa gY ?_
 refine .ld pg ?_
 refine .vl (Y.qw (n := n.cells.length) kq rfl iJ) ?_
 refine .mv ?_
 refine .nil (.block ?_)
 refine .DM (fun (bq : Nat) (cg : List Int) (aW : List (List Int)) (ct : List Int) => ⟨[(1, .ptr 101 0 0 0), (4, .aY 104 1 0 dR.length), (5, .aY 105 1 0 n.cells.length), (6, .aY 106 1 0 n.aj.length), (7, .aY 107 1 0 n.aj.length), (12, .aY 112 1 0 ct.length), (71, .fz 6 (n.cells.map Cell.row)), (72, vi n.cells.length), (73, vi bq)], [(101, .cells (ae.row n)), (104, .rows 1 (dR.map al)), (105, .rows 1 (cg.map al)), (106, .rows 1 (aW.map mT)), (107, .rows 1 (dC.map eb)), (112, .rows 1 (ct.map al))]⟩) (fun bq cg aW ct => (cg.length = n.cells.length) ∧ (aW.length = n.aj.length) ∧ ((bq : Int) ≤ (n.cells.length : Int)) ∧ (BI n bq cg aW ct)) (fun bq cg aW ct => ((n.cells.length : Int) - (bq : Int)).toNat) 0 (List.replicate n.cells.length 0) (List.replicate n.aj.length []) ([] : List Int) (⟨gL, gL, gL, BI.init n⟩) (Le.mk (.c4 (.c (.cons (a8 rfl gL) (.c2 (.cons (ai rfl aZ) .nil))))) (.c4 (.c (.c .nil)))) (fun bq cg aW ct Nl => ?_)
 obtain ⟨sf, AZ, RN, Gk⟩ := Nl
 refine .sr (.vl (Y.zb rfl rfl) (.nil ?_))
 refine .seq ?_
 refine .ay rfl (fun RP => ?_) (fun RP => ?_)
 refine .skip ?_
 refine .DL (fun (et : List Int) (ib : List (List Int)) (gu : List Int) => ⟨[(1, .ptr 101 0 0 0), (4, .aY 104 1 0 dR.length), (5, .aY 105 1 0 n.cells.length), (6, .aY 106 1 0 n.aj.length), (7, .aY 107 1 0 n.aj.length), (12, .aY 112 1 0 gu.length), (71, .fz 6 (n.cells.map Cell.row)), (72, vi n.cells.length), (73, vi bq)], [(101, .cells (ae.row n)), (104, .rows 1 (dR.map al)), (105, .rows 1 (et.map al)), (106, .rows 1 (ib.map mT)), (107, .rows 1 (dC.map eb)), (112, .rows 1 (gu.map al))]⟩) (fun et ib gu => (et.length = n.cells.length) ∧ ((ib.length = n.aj.length) ∧ (BI n (bq + 1) et ib gu))) ?_ (fun et ib gu JC => ?_)
 refine .block (.sr ?_)
 refine .mv ?_
 refine .vl (Y.qr (m := bq) kq rfl rfl aZ (aq (d := default) om)) ?_
 refine .vl (Y.za sN rfl rfl (bN rfl) rfl rfl) (.alloc 114 oF rfl rfl ag ?_)
 refine .an ?_
 refine .aw Dh rfl rfl rfl rfl rfl rfl (bN rfl) rfl (.nil (.seq ?_))
 refine .sr ?_
 have RG := hs.args (n.cells.getD bq default) (fD om)
 have Ki := Gk.rl
 refine .fa jS ?_
 refine .ld bg ?_
 refine .aR FP (oI (w := ((n.cells.getD bq default).kind))) rfl (.ao rfl rfl .nil) ag rfl (.vl (Y.zo rfl) (.nil ?_))
 refine .jC rfl (fun Hb => ?_) (fun Hb => ?_)
 refine .exit (⟨cg, aW, ct, ⟨om, ⟨om, Gk.skip om Hb⟩⟩, Le.mk (.c4 (.c (.cons (a8 rfl om) (.c2 (.c .nil))))) (.c4 (.c (.c .nil)))⟩)
 refine .skip (.seq (.sr ?_))
 refine .fa eH ?_
 refine .ld dr ?_
 refine .vl (Y.qw (n := ((n.cells.getD bq default).args).length) a7 rfl iJ) ?_
 refine .mv ?_
 refine .nil (.block ?_)
 refine .eP (fun (dy : Nat) (bV : List Int) (cF : List (List Int)) => ⟨[(1, .ptr 101 0 0 0), (4, .aY 104 1 0 dR.length), (5, .aY 105 1 0 n.cells.length), (6, .aY 106 1 0 n.aj.length), (7, .aY 107 1 0 n.aj.length), (12, .aY 112 1 0 ct.length), (13, vi bq), (71, .fz 6 (n.cells.map Cell.row)), (72, vi n.cells.length), (73, vi bq), (83, .fz 1 (((n.cells.getD bq default).args).map al)), (84, vi ((((n.cells.getD bq default).args).length : Nat) : Int)), (85, vi dy)], [(101, .cells (ae.row n)), (104, .rows 1 (dR.map al)), (105, .rows 1 (bV.map al)), (106, .rows 1 (cF.map mT)), (107, .rows 1 (dC.map eb)), (112, .rows 1 (ct.map al))]⟩) (fun dy bV cF => (bV.length = n.cells.length) ∧ (cF.length = n.aj.length) ∧ ((dy : Int) ≤ ((((n.cells.getD bq default).args).length : Nat) : Int)) ∧ (BJ n bq dy cg aW bV cF)) (fun dy bV cF => (((((n.cells.getD bq default).args).length : Nat) : Int) - (dy : Int)).toNat) 0 cg aW (⟨om, om, om, BJ.init Gk om⟩) (Le.mk (.c8 (.c4 (.cons (ai rfl aZ) .nil))) (.c4 (.c (.c .nil)))) (fun dy bV cF Gg => ?_)
 obtain ⟨sf, AZ, Na, Hc⟩ := Gg
 refine .sr (.vl (Y.zb rfl rfl) (.nil ?_))
 refine .seq ?_
 refine .ay rfl (fun Nm => ?_) (fun Nm => ?_)
 refine .skip ?_
 refine .m5 (fun (eu : List Int) (ic : List (List Int)) => ⟨[(1, .ptr 101 0 0 0), (4, .aY 104 1 0 dR.length), (5, .aY 105 1 0 n.cells.length), (6, .aY 106 1 0 n.aj.length), (7, .aY 107 1 0 n.aj.length), (12, .aY 112 1 0 ct.length), (13, vi bq), (71, .fz 6 (n.cells.map Cell.row)), (72, vi n.cells.length), (73, vi bq), (83, .fz 1 (((n.cells.getD bq default).args).map al)), (84, vi ((((n.cells.getD bq default).args).length : Nat) : Int)), (85, vi dy)], [(101, .cells (ae.row n)), (104, .rows 1 (dR.map al)), (105, .rows 1 (eu.map al)), (106, .rows 1 (ic.map mT)), (107, .rows 1 (dC.map eb)), (112, .rows 1 (ct.map al))]⟩) (fun eu ic => (eu.length = n.cells.length) ∧ ((ic.length = n.aj.length) ∧ (BJ n bq (dy + 1) cg aW eu ic))) ?_ (fun eu ic JD => ?_)
 refine .block (.sr ?_)
 refine .vl (Y.qr (m := dy) a7 rfl rfl aZ (aq (d := 0) om)) ?_
 refine .ld bg ?_
 refine .an ?_
 refine .nil (.sr ?_)
 have Hd := hf.rS (i := (bq : Int)) ⟨om, om⟩ (cL (i := dy) (by rw [lF]; omega))
 rw [lF] at Hd
 have Nn := Hd; unfold In at Nn
 have GV := Hc.ET
 have uR := BJ.len Gk Hc Hd
 have Pr := zF hs (bq + 1); rw [q8 om] at Pr
 refine .mv ?_
 refine .mv ?_
 refine .vl (Y.qs (m := (((n.cells.getD bq default).args).getD dy 0).toNat) ja rfl rfl om om) (.vl (Y.qz r9 rfl (aV (d := false) om) rfl rfl) (.nil ?_))
 refine .cond rfl (fun K4 => ?_) (fun K4 => ?_)
 refine .sr ?_
 refine .mv ?_
 refine .mv ?_
 refine .vl (Y.qs (m := bq) a7 rfl rfl aZ om) (.vl (Y.qz bg rfl (aV (d := 0) gL) rfl rfl) (.vl (Y.qb rfl rfl om) (.vl (Y.qs (m := bq) a7 rfl rfl aZ om) (.lA ((bV.set bq ((bV.getD bq 0) + 1)).map al) dh rfl rfl rfl rfl rfl rfl rfl (aV (d := 0) om) (bN rfl) (iu rfl) ?_))))
 refine .nil (.region ?_)
 refine .mv ?_
 refine .mv ?_
 refine .mv ?_
 refine .mv ?_
 refine .vl (Y.qs (m := (((n.cells.getD bq default).args).getD dy 0).toNat) jy rfl rfl om om) (.HW ((cF.map mT).set (0 + ((((n.cells.getD bq default).args).getD dy 0).toNat)) [.no]) dr rfl rfl (aV (d := []) om) rfl rfl ag ?_)
 refine .mv ?_
 refine .buildSlice (([(bq : Int)] : List Int).map al) a7 er rfl rfl rfl rfl rfl (az (s := 1) (f := al) (fun _ => rfl)) rfl rfl rfl ag ?_
 refine .sh (Sh.gU (d := 104) (n := (cF.getD ((((n.cells.getD bq default).args).getD dy 0).toNat) []).length) 204 ((cF.getD ((((n.cells.getD bq default).args).getD dy 0).toNat) []).map al) rfl iW (bn rfl) ag) (.xE al ((cF.getD ((((n.cells.getD bq default).args).getD dy 0).toNat) []) ++ ([(bq : Int)] : List Int)) a7 er rfl rfl rfl rfl (b8 gL) (bm gL) (cb gL) gL gL ag ag (.vl (Y.qs (m := (((n.cells.getD bq default).args).getD dy 0).toNat) jy rfl rfl om om) (.sh (Sh.cK (d := 107) (o := 204) rfl rfl (bn om) ag) (.Ci ((cF.set ((((n.cells.getD bq default).args).getD dy 0).toNat) ((cF.getD ((((n.cells.getD bq default).args).getD dy 0).toNat) []) ++ ([(bq : Int)] : List Int))).map mT) Dg rfl rfl rfl (Cl om) ag (z7 rfl) (.nil (⟨bV.set bq ((bV.getD bq 0) + 1), cF.set ((((n.cells.getD bq default).args).getD dy 0).toNat) ((cF.getD ((((n.cells.getD bq default).args).getD dy 0).toNat) []) ++ ([(bq : Int)] : List Int)), ⟨gL, ⟨gL, Hc.step om sf AZ om Hd ((ej.all JB Hd).1 K4)⟩⟩, Le.mk (.c8 (.c4 (.c .nil))) (.c4 (.c (.c .nil)))⟩))))))
 refine .skip (⟨bV, cF, ⟨om, ⟨om, Hc.skip om (fun h => by rw [(ej.all JB Hd).2 h] at K4; cases K4)⟩⟩, Le.mk (.c8 (.c4 (.c .nil))) (.c4 (.c (.c .nil)))⟩)
 obtain ⟨He, Hf, No⟩ := JD
 refine .region (.vl (Y.qb rfl rfl om) ?_)
 refine .mv ?_
 refine .nil (⟨dy + 1, eu, ic, ⟨om, om, om, No⟩, om, Le.mk (.c8 (.c4 (.cons (ai rfl aZ) .nil))) (.c4 (.c (.c .nil)))⟩)
 refine .exit (.sr ?_)
 refine .mv ?_
 refine .mv ?_
 refine .vl (Y.qs (m := bq) a7 rfl rfl aZ om) (.vl (Y.qz bg rfl (aV (d := 0) gL) rfl rfl) ?_)
 refine .vl (Y.ql rfl rfl) (.nil ?_)
 refine .ay rfl (fun Gl => ?_) (fun Gl => ?_)
 refine .region ?_
 refine .mv ?_
 refine .mv ?_
 refine .buildSlice (([(bq : Int)] : List Int).map al) a7 er rfl rfl rfl rfl rfl (az (s := 1) (f := al) (fun _ => rfl)) rfl rfl rfl ag ?_
 refine .xE al (ct ++ ([(bq : Int)] : List Int)) a7 er rfl rfl rfl rfl (b8 gL) (bm gL) (cb gL) gL gL ag ag ?_
 refine .an ?_
 refine .nil (⟨bV, cF, ct ++ ([(bq : Int)] : List Int), ⟨om, ⟨om, (BJ.fin Gk om Hb (by rw [show (n.cells.getD bq default).args.length = dy by omega]; exact Hc)).1 Gl⟩⟩, Le.mk (.c4 (.c (.cons (a8 rfl om) (.c2 (.c .nil))))) (.c4 (.c (.c .nil)))⟩)
 refine .skip (⟨bV, cF, ct, ⟨om, ⟨om, (BJ.fin Gk om Hb (by rw [show (n.cells.getD bq default).args.length = dy by omega]; exact Hc)).2 Gl⟩⟩, Le.mk (.c4 (.c (.cons (a8 rfl om) (.c2 (.c .nil))))) (.c4 (.c (.c .nil)))⟩)
 obtain ⟨Hg, Hh, Np⟩ := JC
 refine .region (.vl (Y.qb rfl rfl om) ?_)
 refine .mv ?_
 refine .nil (⟨bq + 1, et, ib, gu, ⟨om, om, om, Np⟩, om, Le.mk (.c4 (.c (.cons (a8 rfl om) (.c2 (.cons (ai rfl aZ) .nil))))) (.c4 (.c (.c .nil)))⟩)
 refine .exit (.seq (.block ?_))
 have Gm : BI n n.cells.length cg aW ct := by rw [show n.cells.length = bq by omega]; exact Gk
 have Ps := Gm.us
 refine .sh (Sh.cK (d := 6) (o := 106) rfl rfl (bn om) ag) (.sh (Sh.vt (d := 6) (l := aW) (f := mT) (g := iX) z9 rfl) ?_)
 refine .eP (fun (eO : List Int) (ec : List Int) (aD : List Int) => ⟨[(1, .ptr 101 0 0 0), (4, .aY 104 1 0 eO.length), (5, .aY 105 1 0 n.cells.length), (6, .fz 1 (aW.map iX)), (12, .aY 112 1 0 aD.length)], [(101, .cells (ae.row n)), (104, .rows 1 (eO.map al)), (105, .rows 1 (ec.map al)), (112, .rows 1 (aD.map al))]⟩) (fun eO ec aD => (ec.length = n.cells.length) ∧ (∃ done, eO = g5 n n.cells.length ++ done ∧ KI n done aD ec)) (fun eO ec aD => n.cells.length - eO.length) dR cg ct (⟨om, ⟨[], by rw [K3, show fu = n.cells.length by omega, List.append_nil], Gm.ki⟩⟩) (Le.mk (.c (.cons (a8 rfl om) (.c2 (.cons (a8 rfl om) .nil)))) (.c2 (.c (.c .nil)))) (fun eO ec aD Gn => ?_)
 obtain ⟨sf, hK⟩ := Gn
 refine .seq (.sr ?_)
 refine .mv ?_
 refine .vl (Y.qw (n := aD.length) a7 rfl rfl) (.vl (Y.qq rfl rfl) (.nil ?_))
 refine .ay rfl (fun Gh => ?_) (fun Gh => ?_)
 obtain ⟨done, nz, rq⟩ := hK
 have mJ := rq.len
 rw [← nz] at mJ
 have nj := rq.cm (aD.getD 0 0) (List.mem_append.2 (.inr (cL om)))
 have QN := nj.1
 have Gb := hf.jG nj.iK
 have Nq := Gb; unfold In ae.cell at Nq
 have DP : ∀ x, bo n x → (aW.getD (((n.cells.getD ((aD.getD 0 0).toNat) default).out).toNat) []).count x = (n.cell x).args.count (n.cell (aD.getD 0 0)).out := fun x hx => Ps.QL _ x Gb ⟨_, nj, rfl⟩ hx
 have K5 : ∀ x ∈ (aW.getD (((n.cells.getD ((aD.getD 0 0).toNat) default).out).toNat) []), bo n x := fun x hx => Ps.mem _ x Gb hx
 have RQ := Gm.ul _ Gb; unfold ae.cell at RQ
 have Pr := zF hs n.cells.length
 refine .skip (.block (.sr ?_))
 refine .mv ?_
 refine .vl (Y.qs (m := 0) a7 rfl rfl aZ om) (.vl (Y.qz bg rfl (aV (d := 0) gL) rfl rfl) ?_)
 refine .an ?_
 refine .nil (.sr ?_)
 refine .mv ?_
 refine .vl (Y.wb (l := 1) (h := aD.length) a7 rfl (.some rfl) (.none _) om om) ?_
 refine .an ?_
 refine .sh (Sh.DO (d := 12) (o := 112) ((aD.drop 1).map al) rfl rfl gL (xG gL) ag) ?_
 refine .nil (.sr ?_)
 refine .mv ?_
 refine .mv ?_
 refine .buildSlice (([aD.getD 0 0] : List Int).map al) a7 er rfl rfl rfl rfl rfl (az (s := 1) (f := al) (fun _ => rfl)) rfl rfl rfl ag ?_
 refine .xE al (eO ++ ([aD.getD 0 0] : List Int)) a7 er rfl rfl rfl rfl (b8 gL) (bm gL) (cb gL) gL gL ag ag ?_
 refine .an ?_
 refine .nil (.sr ?_)
 refine .mv ?_
 refine .fa gY ?_
 refine .ld pg ?_
 refine .mv ?_
 refine .vl (Y.qr (m := (aD.getD 0 0).toNat) kq rfl rfl om (aq (d := default) om)) ?_
 refine .fa lJ ?_
 refine .ld bg ?_
 refine .vl (Y.qr (m := ((n.cells.getD ((aD.getD 0 0).toNat) default).out).toNat) jy rfl rfl om (aq (d := []) om)) ?_
 refine .ld dr ?_
 refine .vl (Y.qw (n := (aW.getD (((n.cells.getD ((aD.getD 0 0).toNat) default).out).toNat) []).length) a7 rfl iJ) ?_
 refine .mv ?_
 refine .nil (.block ?_)
 refine .eP (fun (ck : Nat) (bG : List Int) (ed : List Int) => ⟨[(1, .ptr 101 0 0 0), (4, .aY 104 1 0 ((eO ++ ([aD.getD 0 0] : List Int)).length)), (5, .aY 105 1 0 n.cells.length), (6, .fz 1 (aW.map iX)), (12, .aY 112 1 0 ed.length), (140, .fz 1 ((aW.getD (((n.cells.getD ((aD.getD 0 0).toNat) default).out).toNat) []).map al)), (141, vi (((aW.getD (((n.cells.getD ((aD.getD 0 0).toNat) default).out).toNat) []).length : Nat) : Int)), (142, vi ck)], [(101, .cells (ae.row n)), (104, .rows 1 ((eO ++ ([aD.getD 0 0] : List Int)).map al)), (105, .rows 1 (bG.map al)), (112, .rows 1 (ed.map al))]⟩) (fun ck bG ed => (bG.length = n.cells.length) ∧ ((ck : Int) ≤ (((aW.getD (((n.cells.getD ((aD.getD 0 0).toNat) default).out).toNat) []).length : Nat) : Int)) ∧ (KJ n done (aD.getD 0 0) (aW.getD (((n.cells.getD ((aD.getD 0 0).toNat) default).out).toNat) []) ck ed bG)) (fun ck bG ed => ((((aW.getD (((n.cells.getD ((aD.getD 0 0).toNat) default).out).toNat) []).length : Nat) : Int) - (ck : Int)).toNat) 0 ec (aD.drop 1) (⟨gL, gL, KJ.init rq om⟩) (Le.mk (.c4 (.cons (a8 rfl gL) (.c2 (.cons (ai rfl aZ) .nil)))) (.c2 (.c (.c .nil)))) (fun ck bG ed Nr => ?_)
 obtain ⟨sf, RS, K6⟩ := Nr
 refine .sr (.vl (Y.zb rfl rfl) (.nil ?_))
 refine .seq ?_
 refine .ay rfl (fun Ns => ?_) (fun Ns => ?_)
 refine .skip ?_
 refine .gO (fun (gv : List Int) => ⟨[(1, .ptr 101 0 0 0), (4, .aY 104 1 0 ((eO ++ ([aD.getD 0 0] : List Int)).length)), (5, .aY 105 1 0 n.cells.length), (6, .fz 1 (aW.map iX)), (12, .aY 112 1 0 gv.length), (140, .fz 1 ((aW.getD (((n.cells.getD ((aD.getD 0 0).toNat) default).out).toNat) []).map al)), (141, vi (((aW.getD (((n.cells.getD ((aD.getD 0 0).toNat) default).out).toNat) []).length : Nat) : Int)), (142, vi ck)], [(101, .cells (ae.row n)), (104, .rows 1 ((eO ++ ([aD.getD 0 0] : List Int)).map al)), (105, .rows 1 ((bG.set (((aW.getD (((n.cells.getD ((aD.getD 0 0).toNat) default).out).toNat) []).getD ck 0).toNat) ((bG.getD (((aW.getD (((n.cells.getD ((aD.getD 0 0).toNat) default).out).toNat) []).getD ck 0).toNat) 0) - 1)).map al)), (112, .rows 1 (gv.map al))]⟩) (fun gv => KJ n done (aD.getD 0 0) (aW.getD (((n.cells.getD ((aD.getD 0 0).toNat) default).out).toNat) []) (ck + 1) gv (bG.set ((aW.getD (((n.cells.getD ((aD.getD 0 0).toNat) default).out).toNat) []).getD ck 0).toNat (bG.getD ((aW.getD (((n.cells.getD ((aD.getD 0 0).toNat) default).out).toNat) []).getD ck 0).toNat 0 - 1))) ?_ (fun gv Nt => ?_)
 refine .block (.sr ?_)
 refine .vl (Y.qr (m := ck) a7 rfl rfl aZ (aq (d := 0) om)) ?_
 refine .ld bg ?_
 refine .an ?_
 refine .nil (.sr ?_)
 have Lt := K6.bound hf hs om DP K5
 have Tt := (K5 _ (cL (l := (aW.getD (((n.cells.getD ((aD.getD 0 0).toNat) default).out).toNat) [])) (i := ck) om)).1
 refine .mv ?_
 refine .mv ?_
 refine .vl (Y.qs (m := ((aW.getD (((n.cells.getD ((aD.getD 0 0).toNat) default).out).toNat) []).getD ck 0).toNat) a7 rfl rfl om om) (.vl (Y.qz bg rfl (aV (d := 0) gL) rfl rfl) (.vl (Y.wd rfl rfl om) (.vl (Y.qs (m := ((aW.getD (((n.cells.getD ((aD.getD 0 0).toNat) default).out).toNat) []).getD ck 0).toNat) a7 rfl rfl om om) (.lA ((bG.set (((aW.getD (((n.cells.getD ((aD.getD 0 0).toNat) default).out).toNat) []).getD ck 0).toNat) ((bG.getD (((aW.getD (((n.cells.getD ((aD.getD 0 0).toNat) default).out).toNat) []).getD ck 0).toNat) 0) - 1)).map al) dh rfl rfl rfl rfl rfl rfl rfl (aV (d := 0) om) (bN rfl) (iu rfl) ?_))))
 refine .nil (.sr ?_)
 refine .mv ?_
 refine .mv ?_
 refine .vl (Y.qs (m := ((aW.getD (((n.cells.getD ((aD.getD 0 0).toNat) default).out).toNat) []).getD ck 0).toNat) a7 rfl rfl om om) (.vl (Y.qz bg rfl (aV (d := 0) gL) rfl rfl) ?_)
 refine .vl (Y.ql rfl rfl) (.nil ?_)
 refine .ay rfl (fun Bc => ?_) (fun Bc => ?_)
 rw [bM, if_pos ⟨rfl, om⟩] at Bc
 refine .region ?_
 refine .mv ?_
 refine .mv ?_
 refine .buildSlice (([(aW.getD (((n.cells.getD ((aD.getD 0 0).toNat) default).out).toNat) []).getD ck 0] : List Int).map al) a7 er rfl rfl rfl rfl rfl (az (s := 1) (f := al) (fun _ => rfl)) rfl rfl rfl ag ?_
 refine .xE al (ed ++ ([(aW.getD (((n.cells.getD ((aD.getD 0 0).toNat) default).out).toNat) []).getD ck 0] : List Int)) a7 er rfl rfl rfl rfl (b8 gL) (bm gL) (cb gL) gL gL ag ag ?_
 refine .an ?_
 refine .nil ⟨ed ++ ([(aW.getD (((n.cells.getD ((aD.getD 0 0).toNat) default).out).toNat) []).getD ck 0] : List Int), (K6.step hf sf om DP K5).1 Bc, Le.mk (.c4 (.cons (a8 rfl om) (.c2 (.c .nil)))) (.c2 (.c (.c .nil)))⟩
 rw [bM, if_pos ⟨rfl, om⟩] at Bc
 refine .skip ⟨ed, (K6.step hf sf om DP K5).2 Bc, Le.mk (.c4 (.cons (a8 rfl om) (.c2 (.c .nil)))) (.c2 (.c (.c .nil)))⟩
 refine .region (.vl (Y.qb rfl rfl om) ?_)
 refine .mv ?_
 refine .nil (⟨ck + 1, bG.set (((aW.getD (((n.cells.getD ((aD.getD 0 0).toNat) default).out).toNat) []).getD ck 0).toNat) ((bG.getD (((aW.getD (((n.cells.getD ((aD.getD 0 0).toNat) default).out).toNat) []).getD ck 0).toNat) 0) - 1), gv, ⟨gL, gL, Nt⟩, om, Le.mk (.c4 (.cons (a8 rfl gL) (.c2 (.cons (ai rfl aZ) .nil)))) (.c2 (.c (.c .nil)))⟩)
 refine .exit (⟨eO ++ ([aD.getD 0 0] : List Int), bG, ed, ⟨om, ⟨done ++ [(aD.getD 0 0)], by rw [nz, List.append_assoc], KJ.fin hf rq (cL om) (by rw [show (aW.getD (((n.cells.getD ((aD.getD 0 0).toNat) default).out).toNat) []).length = ck by omega]; exact K6) DP⟩⟩, by rw [List.length_append]; simp only [List.length_cons, List.length_nil]; omega, Le.mk (.c (.cons (a8 rfl om) (.c2 (.cons (a8 rfl om) .nil)))) (.c2 (.c (.c .nil)))⟩)
 obtain ⟨done, nz, rq⟩ := hK
 have RT : aD = [] := List.eq_nil_of_length_eq_zero om
 subst RT
 refine .exit (.seq (.sr ?_))
 refine .mv ?_
 refine .vl (Y.qw (n := eO.length) a7 rfl rfl) ?_
 refine .fa gY ?_
 refine .ld pg ?_
 refine .vl (Y.qw (n := n.cells.length) kq rfl iJ) (.vl (Y.zb rfl rfl) (.nil ?_))
 refine .ay rfl (fun AY => ?_) (fun AY => ?_)
 refine .sr ?_
 refine .an ?_
 refine .an ?_
 refine .nil (.sh (Sh.r4 (d := 2) 1 rfl) (.ret ?_))
 exact ⟨_, _, rfl, rfl, ([] : List Int), 12, .inr (.inr (.inl ⟨hf, Fy, rq.Ie (by rw [← nz]; omega), rfl, rfl⟩)), rfl, rfl⟩
 refine .skip (.sr ?_)
 refine .mv ?_
 refine .an ?_
 refine .sh (Sh.cK (d := 2) (o := 104) rfl rfl (bn om) ag) ?_
 refine .an ?_
 refine .nil (.ret ?_)
 exact ⟨_, _, rfl, rfl, eO, 0, .inr (.inr (.inr ⟨hf, Fy, (rq.ok hf (by rw [← nz]; omega)).1, by rw [nz]; exact (rq.ok hf (by rw [← nz]; omega)).2, rfl⟩)), rfl, rfl⟩
open Go Go.AW Go.Proofs
theorem wh {n : ae} (hs : n.Small) (Kz : n.aj.length + n.ins.length ≤ 17592186044416) : ak Try.prog 77 [.agg (ae.row n)] [] [] (fun r o => r = (vi (nH n)) ∧ o = []) := by
 refine ak.of Try.func77 rfl rfl rfl (n := 11) ag (bN rfl) (.sr (.box 101 rfl rfl rfl rfl rfl ag ?_))
 refine .an ?_
 refine .nil (.sr (.vl (Y.za xW rfl rfl (bN rfl) rfl rfl) ?_))
 refine .n8 LL (vZ (n := n) hs (om)) rfl (.ao rfl rfl .nil) ag ?_
 rintro _ ⟨l7, e7, RU, rfl, _⟩
 refine ⟨rfl, ?_⟩
 refine .oV rfl ag (.kh rfl rfl ag (.vl (Y.qn rfl rfl rfl) ?_))
 refine .bd rfl ag (.sh (Sh.bB (d := 3) (l7.map al) rfl iW (cp.map bf)) ?_)
 refine .an ?_
 refine .nil (.sr ?_)
 refine .mv ?_
 refine .an ?_
 refine .nil (.ret ?_)
 exact .ri rfl (RU.err)
open Go Go.AW Go.Proofs
end Go.Proofs.Ytlimckldnjmabaa
namespace Go.Proofs.Ytlimckldnjmabaa
open Go Go.AW Go.Proofs
open Go Go.AW Go.Proofs
end Go.Proofs.Ytlimckldnjmabaa
namespace Go.Proofs.Ytlimckldnjmabaa
open Go Go.AW Go.Proofs
theorem jW {l : List Int} (hl : l.length ≤ 17592186043904) : ak Try.prog 123 [.fz 1 (l.map al)] [] [] (fun r o => r = .cX 1 (l.map al) ∧ o = []) := by
 refine ak.of Try.func123 rfl rfl rfl (n := 8) ag (bN rfl) (.sr ?_)
 refine .an ?_
 refine .nil (.seq (.sr ?_))
 refine .mv ?_
 refine .DR a7 rfl rfl ag (fun b4 y7 => ?_)
 refine .nil ?_
 refine .cond rfl (fun c4 => ?_) (fun c4 => ?_)
 refine .sr ?_
 refine .an ?_
 refine .nil (.sh (Sh.r4 (d := 2) 1 rfl) (.ret ?_))
 exact ⟨_, _, rfl, rfl, (yw (fun (z0 : List Int) => X.cX 1 (z0.map al)) (by have := y7 k0; simpa using this : ([] : List Int) = l) : X.cX 1 (([] : List Int).map al) = X.cX 1 (l.map al)), rfl⟩
 refine .skip (.sr ?_)
 refine .buildSlice (([] : List Int).map al) a7 er rfl rfl rfl rfl rfl (az (s := 1) (f := al) (fun _ => rfl)) rfl rfl rfl ag ?_
 refine .mv ?_
 refine .sh (Sh.gU (d := 5) (n := ([] : List Int).length) 105 (([] : List Int).map al) rfl iW (bn rfl) ag) (.pQ ((([] : List Int) ++ l).map al) (([] : List Int) ++ l).length a7 er rfl rfl rfl rfl (b8 aB) (bm aB) (cb aB) aB aB ag ag ?_)
 refine .an ?_
 refine .sh (Sh.cK (d := 2) (o := 105) rfl rfl (bn om) ag) ?_
 refine .nil (.ret ?_)
 exact ⟨_, _, rfl, rfl, (yw (fun (z0 : List Int) => X.cX 1 (z0.map al)) (rfl : (([] : List Int) ++ l) = l) : X.cX 1 ((([] : List Int) ++ l).map al) = X.cX 1 (l.map al)), rfl⟩
open Go Go.AW Go.Proofs
set_option maxRecDepth 4000 in
set_option maxHeartbeats 1000000 in
theorem ie {gl : List Gate} (pD : gl.length ≤ 100000000) {k a b : Int} : ak Try.prog 125 [.ptr 0 0 0 0, .v (.int .i64 k), .v (.int .i64 a), .v (.int .i64 b)] [.cells [.aY 1 3 0 gl.length], .rows 3 (gl.map Gate.row)] [0] (fun r o => r = (.v (.int .i64 (gl.length : Int))) ∧ o = [.cells [.aY 1 3 0 ((gl ++ [(⟨k, a, b⟩ : Gate)]).length)], .rows 3 ((gl ++ [(⟨k, a, b⟩ : Gate)]).map Gate.row)]) := by
 refine ak.of Try.func125 rfl rfl rfl (n := 28) ag (Nat.le_of_ble_eq_true rfl) (ab.sr ?_)
 refine .an ?_
 refine aa.nil (ab.sr ?_)
 refine .mv ?_
 refine .mv ?_
 refine .vl (Y.zn rfl rfl) ?_
 refine .fa pA ?_
 refine .ld FX ?_
 refine .mv ?_
 refine .mv ?_
 refine .mv ?_
 refine .vl (Y.qh Je uj rfl rfl rfl) ?_
 refine aa.buildSlice (([(⟨k, a, b⟩ : Gate)] : List Gate).map Gate.row) qS uj rfl rfl rfl rfl rfl (az (s := 3) (f := Gate.row) (fun _ => rfl)) rfl rfl rfl ag ?_
 refine aa.bx ((gl ++ ([(⟨k, a, b⟩ : Gate)] : List Gate)).map Gate.row) (gl ++ ([(⟨k, a, b⟩ : Gate)] : List Gate)).length qS uj rfl rfl rfl rfl (b8 aB) (bm aB) (cb aB) aB aB ag ag ?_
 refine .vl (Y.zn rfl rfl) ?_
 refine .fa pA ?_
 refine aa.aw Mj rfl rfl rfl rfl rfl rfl (Nat.le_of_ble_eq_true rfl) rfl (aa.nil (ab.sr ?_))
 refine .mv ?_
 refine .vl (Y.zn rfl rfl) ?_
 refine .fa pA ?_
 refine .ld FX ?_
 refine .vl (Y.qw (n := (gl ++ ([(⟨k, a, b⟩ : Gate)] : List Gate)).length) qS rfl rfl) ?_
 refine .vl (Y.wd rfl rfl aB) ?_
 refine .an ?_
 refine aa.nil (ab.ret ?_)
 exact ⟨_, _, rfl, rfl, yw (fun (z0 : Int) => X.v (.int .i64 z0)) (by simp : (((gl ++ [(⟨k, a, b⟩ : Gate)]).length : Nat) : Int) - 1 = (gl.length : Int)), rfl⟩
set_option maxRecDepth 4000 in
set_option maxHeartbeats 1000000 in
theorem gH {gl : List Gate} (pD : gl.length ≤ 100000000) {a : Int} : ak Try.prog 95 [.ptr 0 0 0 0, .v (.int .i64 a)] [.cells [.aY 1 3 0 gl.length], .rows 3 (gl.map Gate.row)] [0] (fun r o => r = (.v (.int .i64 (gl.length : Int))) ∧ o = [.cells [.aY 1 3 0 ((gl ++ [(⟨4, a, 0⟩ : Gate)]).length)], .rows 3 ((gl ++ [(⟨4, a, 0⟩ : Gate)]).map Gate.row)]) := by
 refine ak.of Try.func95 rfl rfl rfl (n := 8) ag (Nat.le_of_ble_eq_true rfl) (ab.sr ?_)
 refine .an ?_
 refine aa.nil (ab.sr ?_)
 refine .mv ?_
 refine .mv ?_
 refine aa.br [0, 1] [] qR (ie (gl := gl) (k := 4) (a := a) (b := 0) om) rfl (.named rfl rfl (.ao rfl rfl (.ao rfl rfl (.ao rfl rfl .nil)))) ⟨rfl, rfl, trivial⟩ rfl ag (fun _ h => by cases h) (fun _ h => by cases h) ag ag ?_
 rintro r aE ⟨rfl, rfl⟩ _
 refine ⟨⟨rfl, (by intro ob aS; simp only [List.mem_cons, List.not_mem_nil, or_false] at aS; rcases aS with rfl | rfl <;> rfl), .inl rfl⟩, ?_⟩
 refine .an ?_
 refine aa.nil (ab.ret ?_)
 exact ⟨_, _, rfl, rfl, rfl, rfl⟩
set_option maxRecDepth 4000 in
set_option maxHeartbeats 1000000 in
theorem fZ {gl : List Gate} (pD : gl.length ≤ 100000000) {a : Int} {b : Int} : ak Try.prog 96 [.ptr 0 0 0 0, .v (.int .i64 a), .v (.int .i64 b)] [.cells [.aY 1 3 0 gl.length], .rows 3 (gl.map Gate.row)] [0] (fun r o => r = (.v (.int .i64 (gl.length : Int))) ∧ o = [.cells [.aY 1 3 0 ((gl ++ [(⟨5, a, b⟩ : Gate)]).length)], .rows 3 ((gl ++ [(⟨5, a, b⟩ : Gate)]).map Gate.row)]) := by
 refine ak.of Try.func96 rfl rfl rfl (n := 11) ag (Nat.le_of_ble_eq_true rfl) (ab.sr ?_)
 refine .an ?_
 refine aa.nil (ab.sr ?_)
 refine .mv ?_
 refine .mv ?_
 refine .mv ?_
 refine aa.br [0, 1] [] qR (ie (gl := gl) (k := 5) (a := a) (b := b) om) rfl (.named rfl rfl (.ao rfl rfl (.ao rfl rfl (.ao rfl rfl .nil)))) ⟨rfl, rfl, trivial⟩ rfl ag (fun _ h => by cases h) (fun _ h => by cases h) ag ag ?_
 rintro r aE ⟨rfl, rfl⟩ _
 refine ⟨⟨rfl, (by intro ob aS; simp only [List.mem_cons, List.not_mem_nil, or_false] at aS; rcases aS with rfl | rfl <;> rfl), .inl rfl⟩, ?_⟩
 refine .an ?_
 refine aa.nil (ab.ret ?_)
 exact ⟨_, _, rfl, rfl, rfl, rfl⟩
set_option maxRecDepth 4000 in
set_option maxHeartbeats 1000000 in
theorem nZ {gl : List Gate} (pD : gl.length ≤ 100000000) {a : Int} {b : Int} : ak Try.prog 143 [.ptr 0 0 0 0, .v (.int .i64 a), .v (.int .i64 b)] [.cells [.aY 1 3 0 gl.length], .rows 3 (gl.map Gate.row)] [0] (fun r o => r = (.v (.int .i64 (gl.length : Int))) ∧ o = [.cells [.aY 1 3 0 ((gl ++ [(⟨6, a, b⟩ : Gate)]).length)], .rows 3 ((gl ++ [(⟨6, a, b⟩ : Gate)]).map Gate.row)]) := by
 refine ak.of Try.func143 rfl rfl rfl (n := 11) ag (Nat.le_of_ble_eq_true rfl) (ab.sr ?_)
 refine .an ?_
 refine aa.nil (ab.sr ?_)
 refine .mv ?_
 refine .mv ?_
 refine .mv ?_
 refine aa.br [0, 1] [] qR (ie (gl := gl) (k := 6) (a := a) (b := b) om) rfl (.named rfl rfl (.ao rfl rfl (.ao rfl rfl (.ao rfl rfl .nil)))) ⟨rfl, rfl, trivial⟩ rfl ag (fun _ h => by cases h) (fun _ h => by cases h) ag ag ?_
 rintro r aE ⟨rfl, rfl⟩ _
 refine ⟨⟨rfl, (by intro ob aS; simp only [List.mem_cons, List.not_mem_nil, or_false] at aS; rcases aS with rfl | rfl <;> rfl), .inl rfl⟩, ?_⟩
 refine .an ?_
 refine aa.nil (ab.ret ?_)
 exact ⟨_, _, rfl, rfl, rfl, rfl⟩
set_option maxRecDepth 4000 in
set_option maxHeartbeats 1000000 in
theorem kx {gl : List Gate} (pD : gl.length ≤ 100000000) {a : Int} {b : Int} : ak Try.prog 175 [.ptr 0 0 0 0, .v (.int .i64 a), .v (.int .i64 b)] [.cells [.aY 1 3 0 gl.length], .rows 3 (gl.map Gate.row)] [0] (fun r o => r = (.v (.int .i64 (gl.length : Int))) ∧ o = [.cells [.aY 1 3 0 ((gl ++ [(⟨7, a, b⟩ : Gate)]).length)], .rows 3 ((gl ++ [(⟨7, a, b⟩ : Gate)]).map Gate.row)]) := by
 refine ak.of Try.func175 rfl rfl rfl (n := 11) ag (Nat.le_of_ble_eq_true rfl) (ab.sr ?_)
 refine .an ?_
 refine aa.nil (ab.sr ?_)
 refine .mv ?_
 refine .mv ?_
 refine .mv ?_
 refine aa.br [0, 1] [] qR (ie (gl := gl) (k := 7) (a := a) (b := b) om) rfl (.named rfl rfl (.ao rfl rfl (.ao rfl rfl (.ao rfl rfl .nil)))) ⟨rfl, rfl, trivial⟩ rfl ag (fun _ h => by cases h) (fun _ h => by cases h) ag ag ?_
 rintro r aE ⟨rfl, rfl⟩ _
 refine ⟨⟨rfl, (by intro ob aS; simp only [List.mem_cons, List.not_mem_nil, or_false] at aS; rcases aS with rfl | rfl <;> rfl), .inl rfl⟩, ?_⟩
 refine .an ?_
 refine aa.nil (ab.ret ?_)
 exact ⟨_, _, rfl, rfl, rfl, rfl⟩
set_option maxRecDepth 4000 in
set_option maxHeartbeats 1000000 in
theorem eV {gl : List Gate} (pD : gl.length ≤ 100000000) : ak Try.prog 178 [.ptr 0 0 0 0] [.cells [.aY 1 3 0 gl.length], .rows 3 (gl.map Gate.row)] [0] (fun r o => r = (.v (.int .i64 (gl.length : Int))) ∧ o = [.cells [.aY 1 3 0 ((gl ++ [(⟨1, 0, 0⟩ : Gate)]).length)], .rows 3 ((gl ++ [(⟨1, 0, 0⟩ : Gate)]).map Gate.row)]) := by
 refine ak.of Try.func178 rfl rfl rfl (n := 5) ag (Nat.le_of_ble_eq_true rfl) (ab.sr ?_)
 refine .an ?_
 refine aa.nil (ab.sr ?_)
 refine .mv ?_
 refine aa.br [0, 1] [] qR (ie (gl := gl) (k := 1) (a := 0) (b := 0) om) rfl (.named rfl rfl (.ao rfl rfl (.ao rfl rfl (.ao rfl rfl .nil)))) ⟨rfl, rfl, trivial⟩ rfl ag (fun _ h => by cases h) (fun _ h => by cases h) ag ag ?_
 rintro r aE ⟨rfl, rfl⟩ _
 refine ⟨⟨rfl, (by intro ob aS; simp only [List.mem_cons, List.not_mem_nil, or_false] at aS; rcases aS with rfl | rfl <;> rfl), .inl rfl⟩, ?_⟩
 refine .an ?_
 refine aa.nil (ab.ret ?_)
 exact ⟨_, _, rfl, rfl, rfl, rfl⟩
open Go Go.AW Go.Proofs
set_option maxRecDepth 4000 in
set_option maxHeartbeats 1000000 in
theorem choose_spec {gl : List Gate} (pD : gl.length ≤ 90000000) {s v y n : Int} : ak Try.prog 97 [.ptr 0 0 0 0, .v (.int .i64 s), .v (.int .i64 v), .v (.int .i64 y), .v (.int .i64 n)] [.cells [.aY 1 3 0 gl.length], .rows 3 (gl.map Gate.row)] [0] (fun r o => r = (.v (.int .i64 ((gl.length : Int) + 2))) ∧ o = [.cells [.aY 1 3 0 ((v7 gl s v y n).length)], .rows 3 ((v7 gl s v y n).map Gate.row)]) := by
 refine ak.of Try.func97 rfl rfl rfl (n := 25) ag (Nat.le_of_ble_eq_true rfl) (ab.sr ?_)
 refine .an ?_
 refine aa.nil (ab.sr ?_)
 refine .mv ?_
 refine .mv ?_
 refine .mv ?_
 refine aa.br [0, 1] [] rA (fZ (gl := gl) (a := s) (b := y) om) rfl (.named rfl rfl (.ao rfl rfl (.ao rfl rfl .nil))) ⟨rfl, rfl, trivial⟩ rfl ag (fun _ h => by cases h) (fun _ h => by cases h) ag ag ?_
 rintro r aE ⟨rfl, rfl⟩ _
 refine ⟨⟨rfl, (by intro ob aS; simp only [List.mem_cons, List.not_mem_nil, or_false] at aS; rcases aS with rfl | rfl <;> rfl), .inl rfl⟩, ?_⟩
 refine .an ?_
 refine aa.nil (ab.sr ?_)
 refine .mv ?_
 refine .mv ?_
 refine .mv ?_
 refine aa.br [0, 1] [] rA (fZ (gl := gl ++ [(⟨5, s, y⟩ : Gate)]) (a := v) (b := n) aB) rfl (.named rfl rfl (.ao rfl rfl (.ao rfl rfl .nil))) ⟨rfl, rfl, trivial⟩ rfl ag (fun _ h => by cases h) (fun _ h => by cases h) ag ag ?_
 rintro r aE ⟨rfl, rfl⟩ _
 refine ⟨⟨rfl, (by intro ob aS; simp only [List.mem_cons, List.not_mem_nil, or_false] at aS; rcases aS with rfl | rfl <;> rfl), .inl rfl⟩, ?_⟩
 refine .an ?_
 refine aa.nil (ab.sr ?_)
 refine .mv ?_
 refine .mv ?_
 refine .mv ?_
 refine aa.br [0, 1] [] ui (nZ (gl := (gl ++ [(⟨5, s, y⟩ : Gate)]) ++ [(⟨5, v, n⟩ : Gate)]) (a := (gl.length : Int)) (b := (((gl ++ [(⟨5, s, y⟩ : Gate)]).length : Nat) : Int)) aB) rfl (.named rfl rfl (.ao rfl rfl (.ao rfl rfl .nil))) ⟨rfl, rfl, trivial⟩ rfl ag (fun _ h => by cases h) (fun _ h => by cases h) ag ag ?_
 rintro r aE ⟨rfl, rfl⟩ _
 refine ⟨⟨rfl, (by intro ob aS; simp only [List.mem_cons, List.not_mem_nil, or_false] at aS; rcases aS with rfl | rfl <;> rfl), .inl rfl⟩, ?_⟩
 refine .an ?_
 refine aa.nil (ab.ret ?_)
 exact ⟨_, _, rfl, rfl, yw (fun (z0 : Int) => X.v (.int .i64 z0)) (by simp [Int.add_assoc]), by rw [← C9]; rfl⟩
set_option maxRecDepth 4000 in
set_option maxHeartbeats 1000000 in
theorem oK {c : Int} {gl : List Gate} (hg : Good gl) (pD : gl.length ≤ 50000000) {k t u : Int} {a b : List Int} {f h e : Nat → List Bool → Bool} (hk : 5 ≤ k ∧ k ≤ 7) (ha : Ws c gl a f t) (hb : Ws c gl b h t) (hl : a.length = b.length) (tj : a.length ≤ 1000) (hu : t + 20 ≤ u) (he : ∀ i ins, e i ins = if k = 5 then (f i ins && h i ins) else if k = 6 then (f i ins || h i ins) else (f i ins ^^ h i ins)) : ak Try.prog 128 [.ptr 0 0 0 0, .v (.int .i64 k), .fz 1 (a.map al), .fz 1 (b.map al)] [.cells [.aY 1 3 0 gl.length], .rows 3 (gl.map Gate.row)] [0] (fun r o => ∃ (l : List Gate) (out : List Int), Ext gl l ∧ l.length ≤ gl.length + a.length ∧ out.length = a.length ∧ Ws c l out e u ∧ r = .cX 1 (out.map al) ∧ o = [.cells [.aY 1 3 0 l.length], .rows 3 (l.map Gate.row)]) := by
 refine ak.of Try.func128 rfl rfl rfl (n := 32) ag (Nat.le_of_ble_eq_true rfl) (ab.sr ?_)
 refine .an ?_
 refine aa.nil (ab.sr ?_)
 refine .an ?_
 refine aa.sh (Sh.nil (d := 9) 109 1 rfl ag) (aa.nil (ab.seq ?_))
 refine ab.sr ?_
 refine .mv ?_
 refine .vl (Y.qw (n := a.length) a7 rfl (congrArg some (List.length_map ..))) ?_
 refine .mv ?_
 refine aa.nil (ab.block ?_)
 refine ab.eP (fun (iB : Nat) (aK : List Gate) (kT : List Int) => ⟨[(0, .ptr 0 0 0 0), (1, .v (.int .i64 k)), (2, .fz 1 (a.map al)), (3, .fz 1 (b.map al)), (9, .aY 109 1 0 kT.length), (12, .v (.int .i64 (a.length : Int))), (13, .v (.int .i64 (iB : Int)))], [(0, .cells [.aY 1 3 0 aK.length]), (1, .rows 3 (aK.map Gate.row)), (109, .rows 1 (kT.map al))]⟩) (fun (iB : Nat) (aK : List Gate) (kT : List Int) => ((iB : Int) ≤ (a.length : Int)) ∧ (tW c gl aK kT e u iB)) (fun (iB : Nat) (aK : List Gate) (kT : List Int) => ((a.length : Int) - (iB : Int)).toNat) 0 gl ([] : List Int) (⟨ni, tW.init hg⟩) (Le.mk (.c (.c (.c (.c (.cons (a8 rfl aB) (.c (.cons (ai rfl aZ) (.nil)))))))) (.cons (aJ rfl jf) (.c (.c (.nil))))) (fun iB aK kT nW => ?_)
 obtain ⟨AL, hM⟩ := nW
 refine ab.sr (.vl (Y.zb rfl rfl) (aa.nil ?_))
 refine ab.seq ?_
 refine ab.ay rfl (fun xZ => ?_) (fun xZ => ?_)
 refine ab.skip (ab.seq (ab.block ?_))
 refine ab.sr ?_
 refine .mv ?_
 refine .an ?_
 refine aa.nil ?_
 have Nu := hM.len; have mu := hM.ol
 refine ab.cv rfl (aT.blind 0 rfl ba (aL.move rfl rfl) ag (aT.bp (n := 4) [1, 2, 3, 4, 5, 6, 7, 8, 9, 10] [11, 12, 13, 14] 11 rfl ba ?_))
 refine .cn 1 rfl (Y.zf rfl rfl) (.cn 2 rfl (Y.zf rfl rfl) (.cn 3 rfl (Y.zf rfl rfl) ?_))
 refine .cn 4 rfl (Y.zf rfl rfl) ?_
 refine .cn 5 rfl (Y.qr (m := iB) a7 rfl rfl aZ (aq (d := 0) om)) ?_
 refine .cn 6 rfl (Y.qz bg rfl rfl rfl rfl) (.cn 7 rfl (Y.zf rfl rfl) (.cn 8 rfl (Y.zf rfl rfl) ?_))
 refine .cn 9 rfl (Y.qr (m := iB) a7 rfl rfl aZ (aq (d := 0) om)) ?_
 refine .cn 10 rfl (Y.qz bg rfl rfl rfl rfl) (AQ.nil (aT.one 11 rfl ba ?_))
 refine aa.br [0, 1] [] qR (ie (gl := aK) (k := k) (a := a.getD iB 0) (b := b.getD iB 0) om) rfl (.named rfl rfl (.ao rfl rfl (.ao rfl rfl (.ao rfl rfl .nil)))) ⟨rfl, rfl, trivial⟩ rfl ag (fun _ h => by cases h) (fun _ h => by cases h) ag ag ?_
 rintro r aE ⟨rfl, rfl⟩ _
 refine ⟨⟨rfl, (by intro ob aS; simp only [List.mem_cons, List.not_mem_nil, or_false] at aS; rcases aS with rfl | rfl <;> rfl), .inl rfl⟩, ?_⟩
 refine aa.nil ⟨rfl, ?_⟩
 refine aT.one 12 rfl ba ?_
 refine aa.buildSlice (([(aK.length : Int)] : List Int).map al) a7 er rfl rfl rfl rfl rfl (az (s := 1) (f := al) (fun _ => rfl)) rfl rfl rfl ag ?_
 refine aa.nil ⟨rfl, ?_⟩
 refine aT.one 13 rfl ba ?_
 refine aa.bx ((kT ++ ([(aK.length : Int)] : List Int)).map al) (kT ++ ([(aK.length : Int)] : List Int)).length a7 er rfl rfl rfl rfl (b8 aB) (bm aB) (cb aB) aB aB ag ag ?_
 refine aa.nil ⟨rfl, ?_⟩
 refine aT.bp (n := 0) [14] [] 0 rfl ba (.cn 14 rfl (Y.qf rfl rfl) (AQ.nil ?_))
 refine aT.done ba (ab.region ?_)
 refine .vl (Y.qb rfl rfl aB) ?_
 refine .mv ?_
 refine aa.nil ?_
 exact ⟨iB + 1, aK ++ [(⟨k, a.getD iB 0, b.getD iB 0⟩ : Gate)], kT ++ ([(aK.length : Int)] : List Int), ⟨om, hM.two hk (ha.bit iB om) (hb.bit iB om) hu (he iB)⟩, om, Le.mk (.c (.c (.c (.c (.cons (a8 rfl om) (.c (.cons (ai rfl aZ) (.nil)))))))) (.cons (aJ rfl jf) (.c (.c (.nil))))⟩
 refine ab.exit (ab.sr ?_)
 refine .mv ?_
 refine .an ?_
 refine aa.sh (Sh.cK (d := 8) (o := 109) rfl rfl (bn om) ag) ?_
 refine aa.nil (ab.ret ?_)
 exact ⟨_, _, rfl, rfl, _, _, hM.ext, by have := hM.len; omega, by have := hM.ol; omega, hM.ws, rfl, rfl⟩
set_option maxRecDepth 4000 in
set_option maxHeartbeats 1000000 in
theorem yi {c : Int} {gl : List Gate} (hg : Good gl) (pD : gl.length ≤ 50000000) {t : Int} {a : List Int} {f : Nat → List Bool → Bool} (ha : Ws c gl a f t) (tj : a.length ≤ 1000) : ak Try.prog 177 [.ptr 0 0 0 0, .fz 1 (a.map al)] [.cells [.aY 1 3 0 gl.length], .rows 3 (gl.map Gate.row)] [0] (fun r o => ∃ (l : List Gate) (out : List Int), Ext gl l ∧ l.length ≤ gl.length + a.length ∧ out.length = a.length ∧ Ws c l out (fun k ins => !f k ins) (t + 10) ∧ r = .cX 1 (out.map al) ∧ o = [.cells [.aY 1 3 0 l.length], .rows 3 (l.map Gate.row)]) := by
 refine ak.of Try.func177 rfl rfl rfl (n := 22) ag (Nat.le_of_ble_eq_true rfl) (ab.sr ?_)
 refine .an ?_
 refine aa.nil (ab.sr ?_)
 refine .an ?_
 refine aa.sh (Sh.nil (d := 5) 105 1 rfl ag) (aa.nil (ab.seq ?_))
 refine ab.sr ?_
 refine .mv ?_
 refine .vl (Y.qw (n := a.length) a7 rfl (congrArg some (List.length_map ..))) ?_
 refine .mv ?_
 refine aa.nil (ab.block ?_)
 refine ab.eP (fun (lQ : Nat) (aK : List Gate) (aO : List Int) => ⟨[(0, .ptr 0 0 0 0), (5, .aY 105 1 0 aO.length), (8, .fz 1 (a.map al)), (9, .v (.int .i64 (a.length : Int))), (10, .v (.int .i64 (lQ : Int)))], [(0, .cells [.aY 1 3 0 aK.length]), (1, .rows 3 (aK.map Gate.row)), (105, .rows 1 (aO.map al))]⟩) (fun (lQ : Nat) (aK : List Gate) (aO : List Int) => ((lQ : Int) ≤ (a.length : Int)) ∧ (tW c gl aK aO (fun k ins => !f k ins) (t + 10) lQ)) (fun (lQ : Nat) (aK : List Gate) (aO : List Int) => ((a.length : Int) - (lQ : Int)).toNat) 0 gl ([] : List Int) (⟨ni, tW.init hg⟩) (Le.mk (.c (.cons (a8 rfl aB) (.c (.c (.cons (ai rfl aZ) (.nil)))))) (.cons (aJ rfl jf) (.c (.c (.nil))))) (fun lQ aK aO nW => ?_)
 obtain ⟨AL, hM⟩ := nW
 refine ab.sr (.vl (Y.zb rfl rfl) (aa.nil ?_))
 refine ab.seq ?_
 refine ab.ay rfl (fun GW => ?_) (fun GW => ?_)
 refine ab.skip (ab.seq (ab.block ?_))
 refine ab.sr ?_
 refine .vl (Y.qr (m := lQ) a7 rfl rfl aZ (aq (d := 0) om)) ?_
 refine .ld bg ?_
 refine .an ?_
 refine aa.nil ?_
 have Nu := hM.len; have mu := hM.ol
 refine ab.region ?_
 refine .mv ?_
 refine .mv ?_
 refine .mv ?_
 refine aa.br [0, 1] [] sO (gH (gl := aK) (a := a.getD lQ 0) om) rfl (.named rfl rfl (.ao rfl rfl .nil)) ⟨rfl, rfl, trivial⟩ rfl ag (fun _ h => by cases h) (fun _ h => by cases h) ag ag ?_
 rintro r aE ⟨rfl, rfl⟩ _
 refine ⟨⟨rfl, (by intro ob aS; simp only [List.mem_cons, List.not_mem_nil, or_false] at aS; rcases aS with rfl | rfl <;> rfl), .inl rfl⟩, ?_⟩
 refine aa.buildSlice (([(aK.length : Int)] : List Int).map al) a7 er rfl rfl rfl rfl rfl (az (s := 1) (f := al) (fun _ => rfl)) rfl rfl rfl ag ?_
 refine aa.bx ((aO ++ ([(aK.length : Int)] : List Int)).map al) (aO ++ ([(aK.length : Int)] : List Int)).length a7 er rfl rfl rfl rfl (b8 aB) (bm aB) (cb aB) aB aB ag ag ?_
 refine .an ?_
 refine aa.nil (ab.region ?_)
 refine .vl (Y.qb rfl rfl aB) ?_
 refine .mv ?_
 refine aa.nil ?_
 exact ⟨lQ + 1, aK ++ [(⟨4, a.getD lQ 0, 0⟩ : Gate)], aO ++ ([(aK.length : Int)] : List Int), ⟨om, hM.not ha om⟩, om, Le.mk (.c (.cons (a8 rfl om) (.c (.c (.cons (ai rfl aZ) (.nil)))))) (.cons (aJ rfl jf) (.c (.c (.nil))))⟩
 refine ab.exit (ab.sr ?_)
 refine .mv ?_
 refine .an ?_
 refine aa.sh (Sh.cK (d := 4) (o := 105) rfl rfl (bn om) ag) ?_
 refine aa.nil (ab.ret ?_)
 exact ⟨_, _, rfl, rfl, _, _, hM.ext, by have := hM.len; omega, by have := hM.ol; omega, hM.ws, rfl, rfl⟩
open Go Go.AW Go.Proofs
set_option maxRecDepth 4000 in
set_option maxHeartbeats 1000000 in
theorem u0 {c : Int} {gl : List Gate} (hg : Good gl) (pD : gl.length ≤ 50000000) {t : Int} {a : List Int} {f : Nat → List Bool → Bool} (ha : Ws c gl a f t) (tj : a.length ≤ 5000) (ht : 0 ≤ t) : ak Try.prog 142 [.ptr 0 0 0 0, .fz 1 (a.map al)] [.cells [.aY 1 3 0 gl.length], .rows 3 (gl.map Gate.row)] [0] (fun r o => ∃ (l : List Gate) (x : Int), Ext gl l ∧ l.length ≤ gl.length + a.length + 1 ∧ Wr c l x (fun ins => iL (fun k => f k ins) a.length) (t + 20 * (cD a.length : Int)) ∧ r = .v (.int .i64 x) ∧ o = [.cells [.aY 1 3 0 l.length], .rows 3 (l.map Gate.row)]) := by
 refine ak.of Try.func142 rfl rfl rfl (n := 53) ag (Nat.le_of_ble_eq_true rfl) (ab.sr ?_)
 refine .an ?_
 refine aa.nil (ab.seq (ab.sr ?_))
 refine .mv ?_
 refine .vl (Y.qw (n := a.length) a7 rfl (congrArg some (List.length_map ..))) (.vl (Y.ql rfl rfl) (aa.nil ?_))
 refine ab.ay rfl (fun c9 => ?_) (fun c9 => ?_)
 refine ab.sr ?_
 refine .mv ?_
 refine aa.br [0, 1] [] AI (eV (gl := gl) aB) rfl (.named rfl rfl .nil) ⟨rfl, rfl, trivial⟩ rfl ag (fun _ h => by cases h) (fun _ h => by cases h) ag ag ?_
 rintro r aE ⟨rfl, rfl⟩ _
 refine ⟨⟨rfl, (by intro ob aS; simp only [List.mem_cons, List.not_mem_nil, or_false] at aS; rcases aS with rfl | rfl <;> rfl), .inl rfl⟩, ?_⟩
 refine .an ?_
 refine aa.nil (ab.ret ?_)
 exact ⟨_, _, rfl, rfl, _, _, Ext.L1 hg ag, by simp, (Wr.zero om).as fun ins => by rw [show a.length = 0 by omega]; rfl, rfl, rfl⟩
 refine ab.skip (ab.seq (ab.block ?_))
 refine ab.ir (fun (g6 : List Int) (aK : List Gate) => ⟨[(0, .ptr 0 0 0 0), (1, .fz 1 (g6.map al))], [(0, .cells [.aY 1 3 0 aK.length]), (1, .rows 3 (aK.map Gate.row))]⟩) (fun (g6 : List Int) (aK : List Gate) => (o8 c gl f a.length t aK g6)) (fun (g6 : List Int) (aK : List Gate) => g6.length) a gl (o8.init hg ha om) (Le.mk (.c (.c (.nil))) (.cons (aJ rfl jf) (.c (.nil)))) (fun g6 aK nW => ?_)
 have hI := nW
 refine ab.seq (ab.sr ?_)
 refine .mv ?_
 refine .vl (Y.qw (n := g6.length) a7 rfl (congrArg some (List.length_map ..))) (.vl (Y.qq rfl rfl) (aa.nil ?_))
 refine ab.ay rfl (fun xZ => ?_) (fun xZ => ?_)
 refine ab.skip (ab.block (ab.seq ?_))
 have x4 := hI.lo; have mJ := hI.len; have Tu := hI.ext.len; have hex : ∃ f t, Ws c aK g6 f t := (by obtain ⟨f1, t1, h1, _⟩ := hI.ex; exact ⟨f1, t1, h1⟩)
 refine ab.region ?_
 refine .an ?_
 refine aa.sh (Sh.nil (d := 5) 105 1 rfl ag) (aa.nil (ab.seq ?_))
 refine ab.sr ?_
 refine .an ?_
 refine aa.nil (ab.block ?_)
 refine ab.eP (fun (oL : Nat) (iQ : List Gate) (fI : List Int) => ⟨[(0, .ptr 0 0 0 0), (1, .fz 1 (g6.map al)), (5, .aY 105 1 0 fI.length), (6, .v (.int .i64 (oL : Int)))], [(0, .cells [.aY 1 3 0 iQ.length]), (1, .rows 3 (iQ.map Gate.row)), (105, .rows 1 (fI.map al))]⟩) (fun (oL : Nat) (iQ : List Gate) (fI : List Int) => (qH c aK g6 iQ fI oL)) (fun (oL : Nat) (iQ : List Gate) (fI : List Int) => g6.length - oL) 0 aK ([] : List Int) (qH.init hI.ext.dM) (Le.mk (.c (.c (.cons (a8 rfl aB) (.cons (ai rfl aZ) (.nil))))) (.cons (aJ rfl jf) (.c (.c (.nil))))) (fun oL iQ fI Jo => ?_)
 have hJ := Jo
 refine ab.seq (ab.seq ?_)
 have Nv := hJ.hi
 refine ab.region ?_
 refine .mv ?_
 refine .vl (Y.qb rfl rfl aB) ?_
 refine .mv ?_
 refine .vl (Y.qw (n := g6.length) a7 rfl (congrArg some (List.length_map ..))) (.vl (Y.zb rfl rfl) (aa.nil ?_))
 refine ab.ay rfl (fun sP => ?_) (fun sP => ?_)
 refine ab.skip (ab.seq (ab.block ?_))
 have lV := hJ.len; have Nw := hJ.nl; have Nx := hJ.even
 refine ab.cv rfl (aT.blind 0 rfl ba (aL.move rfl rfl) ag (aT.bp (n := 4) [1, 2, 3, 4, 5, 6, 7, 8, 9, 10] [11, 12, 13, 14] 11 rfl ba ?_))
 refine .cn 1 rfl (Y.zf rfl rfl) (.cn 2 rfl (Y.zf rfl rfl) (.cn 3 rfl (Y.zf rfl rfl) ?_))
 refine .cn 4 rfl (Y.qr (m := oL) a7 rfl rfl aZ (aq (d := 0) om)) ?_
 refine .cn 5 rfl (Y.qz bg rfl rfl rfl rfl) (.cn 6 rfl (Y.zf rfl rfl) (.cn 7 rfl (Y.zf rfl rfl) ?_))
 refine .cn 8 rfl (Y.qb rfl rfl om) ?_
 refine .cn 9 rfl (Y.qr (m := oL + 1) a7 rfl rfl aZ (aq (d := 0) om)) ?_
 refine .cn 10 rfl (Y.qz bg rfl rfl rfl rfl) (AQ.nil (aT.one 11 rfl ba ?_))
 refine aa.br [0, 1] [] ui (nZ (gl := iQ) (a := g6.getD oL 0) (b := g6.getD (oL + 1) 0) om) rfl (.named rfl rfl (.ao rfl rfl (.ao rfl rfl .nil))) ⟨rfl, rfl, trivial⟩ rfl ag (fun _ h => by cases h) (fun _ h => by cases h) ag ag ?_
 rintro r aE ⟨rfl, rfl⟩ _
 refine ⟨⟨rfl, (by intro ob aS; simp only [List.mem_cons, List.not_mem_nil, or_false] at aS; rcases aS with rfl | rfl <;> rfl), .inl rfl⟩, ?_⟩
 refine aa.nil ⟨rfl, ?_⟩
 refine aT.one 12 rfl ba ?_
 refine aa.buildSlice (([(iQ.length : Int)] : List Int).map al) a7 er rfl rfl rfl rfl rfl (az (s := 1) (f := al) (fun _ => rfl)) rfl rfl rfl ag ?_
 refine aa.nil ⟨rfl, ?_⟩
 refine aT.one 13 rfl ba ?_
 refine aa.bx ((fI ++ ([(iQ.length : Int)] : List Int)).map al) (fI ++ ([(iQ.length : Int)] : List Int)).length a7 er rfl rfl rfl rfl (b8 aB) (bm aB) (cb aB) aB aB ag ag ?_
 refine aa.nil ⟨rfl, ?_⟩
 refine aT.bp (n := 0) [14] [] 0 rfl ba (.cn 14 rfl (Y.qf rfl rfl) (AQ.nil ?_))
 refine aT.done ba (ab.region ?_)
 refine .mv ?_
 refine .vl (Y.qb rfl rfl aB) ?_
 refine .an ?_
 refine aa.nil ?_
 exact ⟨oL + 2, iQ ++ [(⟨6, g6.getD oL 0, g6.getD (oL + 1) 0⟩ : Gate)], fI ++ ([(iQ.length : Int)] : List Int), hJ.step om hex, om, Le.mk (.c (.c (.cons (a8 rfl aB) (.cons (ai rfl aZ) (.nil))))) (.cons (aJ rfl jf) (.c (.c (.nil))))⟩
 refine ab.exit ?_
 refine ab.gO (fun (gx : List Int) => ⟨[(0, .ptr 0 0 0 0), (5, .aY 105 1 0 gx.length)], [(0, .cells [.aY 1 3 0 iQ.length]), (1, .rows 3 (iQ.map Gate.row)), (105, .rows 1 (gx.map al))]⟩) (fun (gx : List Int) => o8 c gl f a.length t iQ gx ∧ gx.length < g6.length) ?_ (fun gx JE => ?_)
 refine ab.seq ?_
 have lV := hJ.len; have Nw := hJ.nl; have Nx := hJ.even; have Nv := hJ.hi
 refine ab.region ?_
 refine .mv ?_
 refine .vl (Y.qw (n := g6.length) a7 rfl (congrArg some (List.length_map ..))) ?_
 refine .vl (Y.zu rfl rfl om) ?_
 refine .vl (Y.ql rfl rfl) (aa.nil ?_)
 refine ab.ay rfl (fun oH => ?_) (fun oH => ?_)
 refine ab.region ?_
 refine .mv ?_
 refine .mv ?_
 refine .mv ?_
 refine .vl (Y.qw (n := g6.length) a7 rfl (congrArg some (List.length_map ..))) ?_
 refine .vl (Y.wd rfl rfl aB) ?_
 refine .vl (Y.qr (m := ((g6.length : Int) - 1).toNat) a7 rfl rfl om (aq (d := 0) om)) ?_
 refine .ld bg ?_
 refine aa.buildSlice (([g6.getD (((g6.length : Int) - 1).toNat) 0] : List Int).map al) a7 er rfl rfl rfl rfl rfl (az (s := 1) (f := al) (fun _ => rfl)) rfl rfl rfl ag ?_
 refine aa.bx ((fI ++ ([g6.getD (((g6.length : Int) - 1).toNat) 0] : List Int)).map al) (fI ++ ([g6.getD (((g6.length : Int) - 1).toNat) 0] : List Int)).length a7 er rfl rfl rfl rfl (b8 aB) (bm aB) (cb aB) aB aB ag ag ?_
 refine .an ?_
 refine aa.nil ?_
 exact ⟨fI ++ ([g6.getD (((g6.length : Int) - 1).toNat) 0] : List Int), by have hx := hI.Is hJ om om om; rw [show g6.length - 1 = ((g6.length : Int) - 1).toNat by omega] at hx; exact ⟨hx, by rw [List.length_append, List.length_singleton]; omega⟩, Le.mk (.c (.cons (a8 rfl om) (.nil))) (.c (.c (.c (.nil))))⟩
 refine ab.skip ?_
 exact ⟨fI, ⟨hI.next hJ om om om, om⟩, Le.mk (.c (.cons (a8 rfl om) (.nil))) (.c (.c (.c (.nil))))⟩
 refine ab.sh (Sh.cK (d := 5) (o := 105) rfl rfl (bn om) ag) ?_
 refine ab.sh (Sh.bB (d := 5) (gx.map al) rfl iW (cp.map bf)) (ab.region ?_)
 refine .mv ?_
 refine .an ?_
 refine aa.nil ?_
 exact ⟨gx, iQ, JE.1, by have := JE.2; omega, Le.mk (.c (.c (.nil))) (.cons (aJ rfl jf) (.c (.nil)))⟩
 refine ab.exit (ab.seq ?_)
 have x4 := hI.lo
 refine ab.region ?_
 refine .mv ?_
 refine .vl (Y.qr (m := 0) a7 rfl rfl aZ (aq (d := 0) om)) ?_
 refine .ld bg ?_
 refine .an ?_
 refine aa.nil (ab.ret ?_)
 exact ⟨_, _, rfl, rfl, _, _, hI.ext, by have := hI.len; omega, hI.done om, rfl, rfl⟩
open Go Go.AW Go.Proofs
set_option maxHeartbeats 1000000 in
theorem lR {l : List aP} (hl : l.length ≤ 8796093022208) : ak Try.prog 198 [.fz 2 (l.map aP.row)] [] [] (fun r o => r = .cX 2 (l.map aP.row) ∧ o = []) := by
 refine ak.of Try.func198 rfl rfl rfl (n := 8) ag (Nat.le_of_ble_eq_true rfl) (ab.sr ?_)
 refine .an ?_
 refine aa.nil (ab.seq (ab.sr ?_))
 refine .mv ?_
 refine aa.DR cV rfl rfl ag (fun b4 y7 => ?_)
 refine aa.nil ?_
 refine ab.cond rfl (fun c4 => ?_) (fun c4 => ?_)
 refine ab.sr ?_
 refine .an ?_
 refine aa.nil (ab.sh (Sh.r4 (d := 2) 2 rfl) (ab.ret ?_))
 exact ⟨_, _, rfl, rfl, (yw (fun (z0 : List aP) => X.cX 2 (z0.map aP.row)) (by have := y7 k0; simpa using this : ([] : List aP) = l) : X.cX 2 (([] : List aP).map aP.row) = X.cX 2 (l.map aP.row)), rfl⟩
 refine ab.skip (ab.sr ?_)
 refine aa.buildSlice (([] : List aP).map aP.row) cV gr rfl rfl rfl rfl rfl (az (s := 2) (f := aP.row) (fun _ => rfl)) rfl rfl rfl ag ?_
 refine .mv ?_
 refine aa.sh (Sh.gU (d := 5) (n := ([] : List aP).length) 105 (([] : List aP).map aP.row) rfl iW (bn rfl) ag) ?_
 refine aa.pQ ((([] : List aP) ++ l).map aP.row) (([] : List aP) ++ l).length cV gr rfl rfl rfl rfl (b8 aB) (bm aB) (cb aB) aB aB ag ag ?_
 refine .an ?_
 refine aa.sh (Sh.cK (d := 2) (o := 105) rfl rfl (bn om) ag) ?_
 refine aa.nil (ab.ret ?_)
 exact ⟨_, _, rfl, rfl, (yw (fun (z0 : List aP) => X.cX 2 (z0.map aP.row)) (rfl : (([] : List aP) ++ l) = l) : X.cX 2 ((([] : List aP) ++ l).map aP.row) = X.cX 2 (l.map aP.row)), rfl⟩
set_option maxRecDepth 4000 in
set_option maxHeartbeats 1000000 in
theorem pc {c : Int} {gl : List Gate} (hg : Good gl) (pD : gl.length ≤ 40000000) {w : Nat} {t : Int} {a b : List Int} {A B : List Bool → BitVec w} (ha : Wd c gl a w A t) (hb : Wd c gl b w B t) (hw : 1 ≤ w ∧ w ≤ 64) (ht : 0 ≤ t) : ak Try.prog 130 [.ptr 0 0 0 0, .fz 1 (a.map al), .fz 1 (b.map al)] [.cells [.aY 1 3 0 gl.length], .rows 3 (gl.map Gate.row)] [0] (fun r o => ∃ (l : List Gate) (x : Int), Ext gl l ∧ l.length ≤ gl.length + 200 ∧ Wr c l x (fun ins => decide (A ins ≠ B ins)) (t + 20 + 20 * (cD w : Int)) ∧ r = .v (.int .i64 x) ∧ o = [.cells [.aY 1 3 0 l.length], .rows 3 (l.map Gate.row)]) := by
 refine ak.of Try.func130 rfl rfl rfl (n := 31) ag (Nat.le_of_ble_eq_true rfl) ?_
 have tj := ha.len; have uR := hb.len
 refine ab.sr ?_
 refine .an ?_
 refine aa.nil (ab.sr ?_)
 refine .an ?_
 refine aa.sh (Sh.nil (d := 7) 107 1 rfl ag) (aa.nil (ab.seq ?_))
 refine ab.sr ?_
 refine .mv ?_
 refine .vl (Y.qw (n := a.length) a7 rfl (congrArg some (List.length_map ..))) ?_
 refine .mv ?_
 refine aa.nil (ab.block ?_)
 refine ab.eP (fun (dH : Nat) (aK : List Gate) (iC : List Int) => ⟨[(0, .ptr 0 0 0 0), (1, .fz 1 (a.map al)), (2, .fz 1 (b.map al)), (7, .aY 107 1 0 iC.length), (10, .v (.int .i64 (a.length : Int))), (11, .v (.int .i64 (dH : Int)))], [(0, .cells [.aY 1 3 0 aK.length]), (1, .rows 3 (aK.map Gate.row)), (107, .rows 1 (iC.map al))]⟩) (fun (dH : Nat) (aK : List Gate) (iC : List Int) => ((dH : Int) ≤ (a.length : Int)) ∧ (tW c gl aK iC (fun k ins => (A ins).getLsbD k ^^ (B ins).getLsbD k) (t + 20) dH)) (fun (dH : Nat) (aK : List Gate) (iC : List Int) => ((a.length : Int) - (dH : Int)).toNat) 0 gl ([] : List Int) (⟨ni, tW.init hg⟩) (Le.mk (.c (.c (.c (.cons (a8 rfl aB) (.c (.cons (ai rfl aZ) (.nil))))))) (.cons (aJ rfl jf) (.c (.c (.nil))))) (fun dH aK iC nW => ?_)
 obtain ⟨AL, hM⟩ := nW
 refine ab.sr (.vl (Y.zb rfl rfl) (aa.nil ?_))
 refine ab.seq ?_
 refine ab.ay rfl (fun uS => ?_) (fun uS => ?_)
 refine ab.skip (ab.seq (ab.block ?_))
 refine ab.sr ?_
 refine .mv ?_
 refine .an ?_
 refine aa.nil ?_
 have Nu := hM.len; have mu := hM.ol
 refine ab.cv rfl (aT.blind 0 rfl ba (aL.move rfl rfl) ag (aT.bp (n := 4) [1, 2, 3, 4, 5, 6, 7, 8, 9] [10, 11, 12, 13] 10 rfl ba ?_))
 refine .cn 1 rfl (Y.zf rfl rfl) (.cn 2 rfl (Y.zf rfl rfl) (.cn 3 rfl (Y.zf rfl rfl) ?_))
 refine .cn 4 rfl (Y.qr (m := dH) a7 rfl rfl aZ (aq (d := 0) om)) ?_
 refine .cn 5 rfl (Y.qz bg rfl rfl rfl rfl) (.cn 6 rfl (Y.zf rfl rfl) (.cn 7 rfl (Y.zf rfl rfl) ?_))
 refine .cn 8 rfl (Y.qr (m := dH) a7 rfl rfl aZ (aq (d := 0) om)) ?_
 refine .cn 9 rfl (Y.qz bg rfl rfl rfl rfl) (AQ.nil (aT.one 10 rfl ba ?_))
 refine aa.br [0, 1] [] sa (kx (gl := aK) (a := a.getD dH 0) (b := b.getD dH 0) om) rfl (.named rfl rfl (.ao rfl rfl (.ao rfl rfl .nil))) ⟨rfl, rfl, trivial⟩ rfl ag (fun _ h => by cases h) (fun _ h => by cases h) ag ag ?_
 rintro r aE ⟨rfl, rfl⟩ _
 refine ⟨⟨rfl, (by intro ob aS; simp only [List.mem_cons, List.not_mem_nil, or_false] at aS; rcases aS with rfl | rfl <;> rfl), .inl rfl⟩, ?_⟩
 refine aa.nil ⟨rfl, ?_⟩
 refine aT.one 11 rfl ba ?_
 refine aa.buildSlice (([(aK.length : Int)] : List Int).map al) a7 er rfl rfl rfl rfl rfl (az (s := 1) (f := al) (fun _ => rfl)) rfl rfl rfl ag ?_
 refine aa.nil ⟨rfl, ?_⟩
 refine aT.one 12 rfl ba ?_
 refine aa.bx ((iC ++ ([(aK.length : Int)] : List Int)).map al) (iC ++ ([(aK.length : Int)] : List Int)).length a7 er rfl rfl rfl rfl (b8 aB) (bm aB) (cb aB) aB aB ag ag ?_
 refine aa.nil ⟨rfl, ?_⟩
 refine aT.bp (n := 0) [13] [] 0 rfl ba (.cn 13 rfl (Y.qf rfl rfl) (AQ.nil ?_))
 refine aT.done ba (ab.region ?_)
 refine .vl (Y.qb rfl rfl aB) ?_
 refine .mv ?_
 refine aa.nil ?_
 exact ⟨dH + 1, aK ++ [(⟨7, a.getD dH 0, b.getD dH 0⟩ : Gate)], iC ++ ([(aK.length : Int)] : List Int), ⟨om, hM.two (k := 7) (f := fun k ins => (A ins).getLsbD k) (h := fun k ins => (B ins).getLsbD k) ag (ha.bit dH om) (hb.bit dH om) (Int.le_refl _) (fun ins => rfl)⟩, om, Le.mk (.c (.c (.c (.cons (a8 rfl om) (.c (.cons (ai rfl aZ) (.nil))))))) (.cons (aJ rfl jf) (.c (.c (.nil))))⟩
 refine ab.exit (ab.seq ?_)
 refine ab.sh (Sh.cK (d := 7) (o := 107) rfl rfl (bn om) ag) ?_
 refine ab.sh (Sh.bB (d := 7) (iC.map al) rfl iW (cp.map bf)) ?_
 have Nu := hM.len; have mu := hM.ol; have Ny := hM.ext.dM
 refine ab.region ?_
 refine .mv ?_
 refine .mv ?_
 refine aa.br [0, 1] [] Ej (u0 (gl := aK) Ny aB (a := iC) hM.ws aB aB) rfl (.named rfl rfl (.ao rfl rfl .nil)) ⟨rfl, rfl, trivial⟩ rfl ag (fun _ h => by cases h) (fun _ h => by cases h) ag ag ?_
 rintro r aE ⟨wi, Tv, Nz, Pt, JF, rfl, rfl⟩ _
 refine ⟨⟨rfl, (by intro ob aS; simp only [List.mem_cons, List.not_mem_nil, or_false] at aS; rcases aS with rfl | rfl <;> rfl), .inl rfl⟩, ?_⟩
 refine .an ?_
 refine aa.nil (ab.ret ?_)
 exact ⟨_, _, rfl, rfl, _, _, hM.ext.trans Nz, om, (by rw [show iC.length = w by omega] at JF; exact JF.as fun ins => Fj), rfl, rfl⟩
end Go.Proofs.Ytlimckldnjmabaa
