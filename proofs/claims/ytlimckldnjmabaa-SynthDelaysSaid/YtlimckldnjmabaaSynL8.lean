/- The row of SynthDelays. -/
import Derived.Test.YtlimckldnjmabaaRows
import Derived.Test.YtlimckldnjmabaaSynx0
import Derived.Test.YtlimckldnjmabaaSynx4
import Derived.Test.YtlimckldnjmabaaAWx1
import Derived.Test.YtlimckldnjmabaaAWx2
import Derived.WalkKit
import Derived.ProofKit
import Derived.OpenShut
import Derived.ShutString
import Derived.ChangeOld
import Derived.Below
import Derived.SizedLaws
import Derived.Deep.CondSized
set_option linter.unusedSimpArgs false
set_option linter.unusedVariables false
set_option linter.unusedSectionVars false
namespace Go.Proofs.Ytlimckldnjmabaa.synthDelays
open Go Go.AW Go.ChangeShapes Go.WideShapes Go.ChangeAt Go.RowKit
theorem own : ownKnob Try.prog.godebug = none := by kernel_rfl
theorem laidOut : laidOutB Try.prog = true := by kernel_rfl
set_option maxRecDepth 100000 in
theorem lifted (os : Os) (started : os.Started) (H : Type) (enc : TypeId × Value → H) :
    ReturnsInHanded {} Try.checked os 8 .any (Rows.synthDelaysSpec.pre6 enc Try.prog Try.f8 Rows.synthDelaysRow.domain false) (Rows.synthDelaysSpec.post enc Try.prog Try.f8 false true false false) := by
  refine returnsInHanded_of_change_sized (C := Try.checked) own started aX Try.func8
    (ChangeSpec.witness6 (enc := enc) (C := Try.checked) false ⟨#[], #[.int .u8 0, .agg #[.int .u8 0, .int .u8 0]], []⟩ 8 aX aX aX aX) ?_
  intro W base args ds gs before HV hW Qk LV _
  have et : (DataW.weightsEach Try.prog (Try.f8.params.toList ++ Rows.synthDelaysSpec.plain.varTypes Try.prog) (ds ++ gs)).all (· ≤ reachBytes) = true := LV
  have xd : ∀ (j : Nat) t v, Try.f8.params[j]? = some t → args[j]? = some v → Value.okWide Try.prog W .any base t v := HV
  have Ql := hW
  obtain ⟨p, q, Qm, hV, rfl, Ic, iP⟩ := hW
  have hA : DataW.TrodAll enc Try.prog W 0 (fun _ => true) true Try.f8.params.toList args.toList ds p := Qm
  rw [Try.params8] at hA xd et
  obtain ⟨v0, RA, d0, RB, p0, q0, dW, rfl, rfl, h0, r0⟩ := trodAll_cons hA
  obtain ⟨v1, RC, d1, RD, p1, q1, rfl, rfl, rfl, h1, r1⟩ := trodAll_cons r0
  obtain ⟨rfl, rfl, rfl⟩ := trodAll_nil r1
  obtain rfl : args = #[v0, v1] := by cases args; simp_all
  obtain ⟨rfl, rfl⟩ := trodVars_none hV
  obtain ⟨a0, rfl, rfl, rfl, w0⟩ := open_int Try.underlying5 (xd 0 5 v0 rfl rfl) h0
  obtain ⟨a0, rfl, Qn⟩ := vU w0
  obtain ⟨Me, rfl, Qo⟩ := rf Try.underlying81 (xd 1 81 v1 rfl rfl)
  have Qp : ∀ x ∈ p1, x.block < W.heap.size := by obtain ⟨m, hm⟩ := h1; exact DataW.trod_lt m _ _ _ hm
  obtain ⟨a1, Qq, IU, Nv⟩ := (Js (enc := enc) (W := W) (base := 0)).agg (Sz.of et (j := 1) rfl rfl) h1
  refine (al.row (nD (k := a0) (u := a1) Qn Qq) (W := W) (dq := #[.int .u8 (a0 : Int), .agg Me]) rfl ?_).mono fun e W' ⟨he, NI⟩ => ?_
  · intro i x hi
    rcases i with _ | _ |  i
    · simp only [List.getElem?_cons_zero, Option.some.injEq] at hi; subst hi; exact (by simp [RX])
    · simp only [List.getElem?_cons_zero, List.getElem?_cons_succ, Option.some.injEq] at hi; subst hi; exact IU
    · simp at hi
  · subst he
    exact ⟨_, rfl, _, _, _, [], _, [], Ql, trodAll_mk1 (shut_bool Try.underlying4 _), (trodAll_cons_mk (shut_int Try.underlying5 w0) (trodAll_cons_mk (Below.trod laidOut aX (of_decide_eq_true aX) h1 NI Qp) trodAll_mk0)), rfl, NI.frame _, fun h => by cases h⟩
theorem sc : Rows.synthDelaysRow.holds Try.pinned (OpenSpec.ofChange Rows.synthDelaysSpec) :=
  OpenClaim.holds_of_wide 8 Try.f8 rfl rfl rfl rfl rfl rfl rfl ⟨rfl, rfl, rfl, rfl, rfl⟩ rfl rfl rfl rfl rfl aX Try.func8 aX
    (of_decide_eq_true aX) (by unfold Func.isWrapper; first | (rw [if_pos (by decide +kernel)]; kernel_rfl) | (rw [if_neg (by decide +kernel)]; exact ⟨rfl, rfl⟩))
    (fun os started H enc _ => lifted os started H enc)
theorem proved : Rows.SynthDelaysSaid := sc
end Go.Proofs.Ytlimckldnjmabaa.synthDelays
namespace Go.Proofs.Ytlimckldnjmabaa
/-- The row, under a short name, for the claim. -/
theorem synthDelays_holds : Rows.SynthDelaysSaid := synthDelays.proved
end Go.Proofs.Ytlimckldnjmabaa
