/- The row of SynthTimes. -/
import Derived.Test.YtlimckldnjmabaaRows
import Derived.Test.YtlimckldnjmabaaSynx0
import Derived.Test.YtlimckldnjmabaaSynx5
import Derived.Test.YtlimckldnjmabaaAWx1
import Derived.Test.YtlimckldnjmabaaAWx2
import Derived.WalkKit
import Derived.ProofKit
import Derived.OpenShut
import Derived.ShutString
import Derived.ChangeOld
import Derived.Below
import Derived.SizedLaws
import Derived.Deep.CondSized
set_option linter.unusedSimpArgs false
set_option linter.unusedVariables false
set_option linter.unusedSectionVars false
namespace Go.Proofs.Ytlimckldnjmabaa.synthTimes
open Go Go.AW Go.ChangeShapes Go.WideShapes Go.ChangeAt Go.RowKit
theorem own : ownKnob Try.prog.godebug = none := by kernel_rfl
theorem laidOut : laidOutB Try.prog = true := by kernel_rfl
set_option maxRecDepth 100000 in
theorem lifted (os : Os) (started : os.Started) (H : Type) (enc : TypeId × Value → H) :
    ReturnsInHanded {} Try.checked os 10 .any (Rows.synthTimesSpec.pre6 enc Try.prog Try.f10 Rows.synthTimesRow.domain false) (Rows.synthTimesSpec.post enc Try.prog Try.f10 false true false false) := by
  refine returnsInHanded_of_change_sized (C := Try.checked) own started au Try.func10
    (ChangeSpec.witness6 (enc := enc) (C := Try.checked) false ⟨#[], #[.agg #[.slice none 0 0, .slice none 0 0, .slice none 0 0, .slice none 0 0, .slice none 0 0]], []⟩ 8 au au au au) ?_
  intro W base args ds gs before QQ hW aag We _
  have fY : (DataW.weightsEach Try.prog (Try.f10.params.toList ++ Rows.synthTimesSpec.plain.varTypes Try.prog) (ds ++ gs)).all (· ≤ reachBytes) = true := We
  have Hv : ∀ (j : Nat) t v, Try.f10.params[j]? = some t → args[j]? = some v → Value.okWide Try.prog W .any base t v := QQ
  have hW' := hW
  obtain ⟨p, q, hA0, hV, rfl, IE, jB⟩ := hW
  have hA : DataW.TrodAll enc Try.prog W 0 (fun _ => true) true Try.f10.params.toList args.toList ds p := hA0
  rw [Try.params10] at hA Hv fY
  obtain ⟨v0, vs0, d0, ds0, p0, q0, eW, rfl, rfl, h0, r0⟩ := trodAll_cons hA
  obtain ⟨rfl, rfl, rfl⟩ := trodAll_nil r0
  obtain rfl : args = #[v0] := by cases args; simp_all
  obtain ⟨rfl, rfl⟩ := trodVars_none hV
  obtain ⟨Rp, rfl, aaj⟩ := okWide_struct Try.underlying58 (Hv 0 58 v0 rfl rfl)
  have lt0 : ∀ x ∈ p0, x.block < W.heap.size := by obtain ⟨m, hm⟩ := h0; exact DataW.trod_lt m _ _ _ hm
  obtain ⟨a0, hp0, hx0, Wx⟩ := (Oo (enc := enc) (W := W) (base := 0)).agg (Sz.of fY (j := 0) rfl rfl) h0
  refine (aw.row (tR hp0) (W := W) (dy := #[.agg Rp]) rfl ?_).mono fun e W' ⟨he, XH⟩ => ?_
  · intro i x hi
    rcases i with _ |  i
    · simp only [List.getElem?_cons_zero, Option.some.injEq] at hi; subst hi; exact hx0
    · simp at hi
  · subst he
    exact ⟨_, rfl, _, _, _, [], _, [], hW', trodAll_mk1 (shut_bool Try.underlying4 _), (trodAll_cons_mk (Below.trod laidOut au (of_decide_eq_true au) h0 XH lt0) trodAll_mk0), rfl, XH.frame _, fun h => by cases h⟩
theorem wN : Rows.synthTimesRow.holds Try.pinned (OpenSpec.ofChange Rows.synthTimesSpec) :=
  OpenClaim.holds_of_wide 10 Try.f10 rfl rfl rfl rfl rfl rfl rfl ⟨rfl, rfl, rfl, rfl, rfl⟩ rfl rfl rfl rfl rfl au Try.func10 au
    (of_decide_eq_true au) (by unfold Func.isWrapper; first | (rw [if_pos (by decide +kernel)]; kernel_rfl) | (rw [if_neg (by decide +kernel)]; exact ⟨rfl, rfl⟩))
    (fun os started H enc _ => lifted os started H enc)
theorem proved : Rows.SynthTimesSaid := wN
end Go.Proofs.Ytlimckldnjmabaa.synthTimes
namespace Go.Proofs.Ytlimckldnjmabaa
/-- The row, under a short name, for the claim. -/
theorem synthTimes_holds : Rows.SynthTimesSaid := synthTimes.proved
end Go.Proofs.Ytlimckldnjmabaa
