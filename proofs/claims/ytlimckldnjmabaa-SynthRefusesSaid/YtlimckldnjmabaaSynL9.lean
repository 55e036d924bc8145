/- The row of SynthRefuses. -/
import Derived.Test.YtlimckldnjmabaaRows
import Derived.Test.YtlimckldnjmabaaSynx0
import Derived.Test.YtlimckldnjmabaaSynx3
import Derived.Test.YtlimckldnjmabaaAWx1
import Derived.Test.YtlimckldnjmabaaAWx2
import Derived.WalkKit
import Derived.ProofKit
import Derived.OpenShut
import Derived.ShutString
import Derived.ChangeOld
import Derived.Below
import Derived.SizedLaws
import Derived.Deep.CondSized
set_option linter.unusedSimpArgs false
set_option linter.unusedVariables false
set_option linter.unusedSectionVars false
namespace Go.Proofs.Ytlimckldnjmabaa.synthRefuses
open Go Go.AW Go.ChangeShapes Go.WideShapes Go.ChangeAt Go.RowKit
theorem own : ownKnob Try.prog.godebug = none := by kernel_rfl
theorem laidOut : laidOutB Try.prog = true := by kernel_rfl
set_option maxRecDepth 100000 in
theorem lifted (os : Os) (started : os.Started) (H : Type) (enc : TypeId × Value → H) :
    ReturnsInHanded {} Try.checked os 9 .any (Rows.synthRefusesSpec.pre6 enc Try.prog Try.f9 Rows.synthRefusesRow.domain false) (Rows.synthRefusesSpec.post enc Try.prog Try.f9 false true false false) := by
  refine returnsInHanded_of_change_sized (C := Try.checked) own started aU Try.func9
    (ChangeSpec.witness6 (enc := enc) (C := Try.checked) false ⟨#[], #[.int .i64 0, .slice none 0 0, .int .i64 0], []⟩ 8 aU aU aU aU) ?_
  intro W base args ds gs before Gs hW Oy Kl _
  have ei : (DataW.weightsEach Try.prog (Try.f9.params.toList ++ Rows.synthRefusesSpec.plain.varTypes Try.prog) (ds ++ gs)).all (· ≤ reachBytes) = true := Kl
  have uC : ∀ (j : Nat) t v, Try.f9.params[j]? = some t → args[j]? = some v → Value.okWide Try.prog W .any base t v := Gs
  have Oz := hW
  obtain ⟨p, q, O0, hV, rfl, Gy, iw⟩ := hW
  have hA : DataW.TrodAll enc Try.prog W 0 (fun _ => true) true Try.f9.params.toList args.toList ds p := O0
  rw [Try.params9] at hA uC ei
  obtain ⟨v0, PC, d0, PD, p0, q0, dK, rfl, rfl, h0, r0⟩ := trodAll_cons hA
  obtain ⟨v1, PE, d1, PF, p1, q1, rfl, rfl, rfl, h1, r1⟩ := trodAll_cons r0
  obtain ⟨v2, PG, d2, PH, p2, q2, rfl, rfl, rfl, h2, r2⟩ := trodAll_cons r1
  obtain ⟨rfl, rfl, rfl⟩ := trodAll_nil r2
  obtain rfl : args = #[v0, v1, v2] := by cases args; simp_all
  obtain ⟨rfl, rfl⟩ := trodVars_none hV
  obtain ⟨a0, rfl, rfl, rfl, w0⟩ := open_int Try.underlying3 (uC 0 3 v0 rfl rfl) h0
  obtain ⟨b1, Km, Kn, rfl⟩ := okWide_slice Try.underlying22 (uC 1 22 v1 rfl rfl)
  have O1 : ∀ x ∈ p1, x.block < W.heap.size := by obtain ⟨m, hm⟩ := h1; exact DataW.trod_lt m _ _ _ hm
  obtain ⟨a1, O2, Hw, Oj⟩ := (Bu (enc := enc) (W := W) (base := 0)).one (Sz.of ei (j := 1) rfl rfl) rfl h1
  obtain ⟨a2, rfl, rfl, rfl, w2⟩ := open_int Try.underlying3 (uC 2 3 v2 rfl rfl) h2
  refine (ak.row (mh (op := a0) (ws := a1) (width := a2) (by have := O2.1; omega)) (W := W) (cZ := #[.int .i64 a0, .slice b1 Km Kn, .int .i64 a2]) rfl ?_).mono fun e W' ⟨he, LK⟩ => ?_
  · intro i x hi
    rcases i with _ | _ | _ |  i
    · simp only [List.getElem?_cons_zero, Option.some.injEq] at hi; subst hi; exact (by simp [RX])
    · simp only [List.getElem?_cons_zero, List.getElem?_cons_succ, Option.some.injEq] at hi; subst hi; exact Hw
    · simp only [List.getElem?_cons_zero, List.getElem?_cons_succ, Option.some.injEq] at hi; subst hi; exact (by simp [RX])
    · simp at hi
  · subst he
    exact ⟨_, rfl, _, _, _, [], _, [], Oz, trodAll_mk1 (shut_bool Try.underlying4 _), (trodAll_cons_mk (shut_int Try.underlying3 w0) (trodAll_cons_mk (Below.trod laidOut aU (of_decide_eq_true aU) h1 LK O1) (trodAll_cons_mk (shut_int Try.underlying3 w2) trodAll_mk0))), rfl, LK.frame _, fun h => by cases h⟩
theorem rq : Rows.synthRefusesRow.holds Try.pinned (OpenSpec.ofChange Rows.synthRefusesSpec) :=
  OpenClaim.holds_of_wide 9 Try.f9 rfl rfl rfl rfl rfl rfl rfl ⟨rfl, rfl, rfl, rfl, rfl⟩ rfl rfl rfl rfl rfl aU Try.func9 aU
    (of_decide_eq_true aU) (by unfold Func.isWrapper; first | (rw [if_pos (by decide +kernel)]; kernel_rfl) | (rw [if_neg (by decide +kernel)]; exact ⟨rfl, rfl⟩))
    (fun os started H enc _ => lifted os started H enc)
theorem proved : Rows.SynthRefusesSaid := rq
end Go.Proofs.Ytlimckldnjmabaa.synthRefuses
namespace Go.Proofs.Ytlimckldnjmabaa
/-- The row, under a short name, for the claim. -/
theorem synthRefuses_holds : Rows.SynthRefusesSaid := synthRefuses.proved
end Go.Proofs.Ytlimckldnjmabaa
