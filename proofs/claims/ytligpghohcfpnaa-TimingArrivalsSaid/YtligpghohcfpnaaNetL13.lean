/- The row of TimingArrivals. -/
import Derived.Test.YtligpghohcfpnaaRows
import Derived.Test.YtligpghohcfpnaaNetx0
import Derived.Test.YtligpghohcfpnaaNetx4
import Derived.Test.YtligpghohcfpnaaAWx1
import Derived.Test.YtligpghohcfpnaaAWx2
import Derived.WalkKit
import Derived.ProofKit
import Derived.OpenShut
import Derived.ShutString
import Derived.ChangeOld
import Derived.Below
import Derived.SizedLaws
import Derived.Deep.CondSized
set_option linter.unusedSimpArgs false
set_option linter.unusedVariables false
set_option linter.unusedSectionVars false
namespace Go.Proofs.Ytligpghohcfpnaa.timingArrivals
open Go Go.AW Go.ChangeShapes Go.WideShapes Go.ChangeAt Go.RowKit
theorem own : ownKnob Try.prog.godebug = none := by kernel_rfl
theorem laidOut : laidOutB Try.prog = true := by kernel_rfl
set_option maxRecDepth 100000 in
theorem lifted (os : Os) (started : os.Started) (H : Type) (enc : TypeId × Value → H) :
    ReturnsInHanded {} Try.checked os 13 .any (Rows.timingArrivalsSpec.pre6 enc Try.prog Try.f13 Rows.timingArrivalsRow.domain false) (Rows.timingArrivalsSpec.post enc Try.prog Try.f13 false true false false) := by
  refine returnsInHanded_of_change_sized (C := Try.checked) own started ao Try.func13
    (ChangeSpec.witness6 (enc := enc) (C := Try.checked) false ⟨#[], #[.agg #[.slice none 0 0, .slice none 0 0, .slice none 0 0, .slice none 0 0, .slice none 0 0], .int .u8 0, .agg #[.int .i64 0, .int .i64 0, .int .i64 0, .slice none 0 0, .int .u64 0, .int .i64 0]], []⟩ 8 ao ao ao ao) ?_
  intro W base args ds gs before Mf hW TK Qd _
  have fu : (DataW.weightsEach Try.prog (Try.f13.params.toList ++ Rows.timingArrivalsSpec.plain.varTypes Try.prog) (ds ++ gs)).all (· ≤ reachBytes) = true := Qd
  have z4 : ∀ (j : Nat) t v, Try.f13.params[j]? = some t → args[j]? = some v → Value.okWide Try.prog W .any base t v := Mf
  have TL := hW
  obtain ⟨p, q, TM, hV, rfl, My, iV⟩ := hW
  have hA : DataW.TrodAll enc Try.prog W 0 (fun _ => true) true Try.f13.params.toList args.toList ds p := TM
  rw [Try.params13] at hA z4 fu
  obtain ⟨v0, UA, d0, UB, p0, q0, dO, rfl, rfl, h0, r0⟩ := trodAll_cons hA
  obtain ⟨v1, UC, d1, UD, p1, q1, rfl, rfl, rfl, h1, r1⟩ := trodAll_cons r0
  obtain ⟨v2, UE, d2, UF, p2, q2, rfl, rfl, rfl, h2, r2⟩ := trodAll_cons r1
  obtain ⟨rfl, rfl, rfl⟩ := trodAll_nil r2
  obtain rfl : args = #[v0, v1, v2] := by cases args; simp_all
  obtain ⟨rfl, rfl⟩ := trodVars_none hV
  obtain ⟨Mv, rfl, TN⟩ := okWide_struct Try.underlying36 (z4 0 36 v0 rfl rfl)
  have TO : ∀ x ∈ p0, x.block < W.heap.size := by obtain ⟨m, hm⟩ := h0; exact DataW.trod_lt m _ _ _ hm
  obtain ⟨a0, TQ, QV, Qr⟩ := (Kd (enc := enc) (W := W) (base := 0)).agg (Sz.of fu (j := 0) rfl rfl) h0
  obtain ⟨a1, rfl, rfl, rfl, w1⟩ := open_int Try.underlying5 (z4 1 5 v1 rfl rfl) h1
  obtain ⟨a1, rfl, TS⟩ := zG w1
  obtain ⟨TT, rfl, TU⟩ := okWide_struct Try.underlying39 (z4 2 39 v2 rfl rfl)
  have TV : ∀ x ∈ p2, x.block < W.heap.size := by obtain ⟨m, hm⟩ := h2; exact DataW.trod_lt m _ _ _ hm
  obtain ⟨a2, EF, J9, Mu⟩ := (GX (enc := enc) (W := W) (base := 0)).agg (Sz.of fu (j := 2) rfl rfl) h2
  refine (au.row (od (a := a1) TQ TS EF) (W := W) (cI := #[.agg Mv, .int .u8 (a1 : Int), .agg TT]) rfl ?_).mono fun e W' ⟨he, xD⟩ => ?_
  · intro i x hi
    rcases i with _ | _ | _ |  i
    · simp only [List.getElem?_cons_zero, Option.some.injEq] at hi; subst hi; exact QV
    · simp only [List.getElem?_cons_zero, List.getElem?_cons_succ, Option.some.injEq] at hi; subst hi; exact (by simp [RX])
    · simp only [List.getElem?_cons_zero, List.getElem?_cons_succ, Option.some.injEq] at hi; subst hi; exact J9
    · simp at hi
  · subst he
    exact ⟨_, rfl, _, _, _, [], _, [], TL, trodAll_mk1 (shut_bool Try.underlying4 _), (trodAll_cons_mk (Below.trod laidOut ao (of_decide_eq_true ao) h0 xD TO) (trodAll_cons_mk (shut_int Try.underlying5 w1) (trodAll_cons_mk (Below.trod laidOut ao (of_decide_eq_true ao) h2 xD TV) trodAll_mk0))), rfl, xD.frame _, fun h => by cases h⟩
theorem u3 : Rows.timingArrivalsRow.holds Try.pinned (OpenSpec.ofChange Rows.timingArrivalsSpec) :=
  OpenClaim.holds_of_wide 13 Try.f13 rfl rfl rfl rfl rfl rfl rfl ⟨rfl, rfl, rfl, rfl, rfl⟩ rfl rfl rfl rfl rfl ao Try.func13 ao
    (of_decide_eq_true ao) (by unfold Func.isWrapper; first | (rw [if_pos (by decide +kernel)]; kernel_rfl) | (rw [if_neg (by decide +kernel)]; exact ⟨rfl, rfl⟩))
    (fun os started H enc _ => lifted os started H enc)
theorem proved : Rows.TimingArrivalsSaid := u3
end Go.Proofs.Ytligpghohcfpnaa.timingArrivals
namespace Go.Proofs.Ytligpghohcfpnaa
/-- The row, under a short name, for the claim. -/
theorem timingArrivals_holds : Rows.TimingArrivalsSaid := timingArrivals.proved
end Go.Proofs.Ytligpghohcfpnaa
