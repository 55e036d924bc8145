/- The row of TimingMeshes. -/
import Derived.Test.YtlimckldnjmabaaRows
import Derived.Test.YtlimckldnjmabaaSynx0
import Derived.Test.YtlimckldnjmabaaSynx4
import Derived.Test.YtlimckldnjmabaaAWx1
import Derived.Test.YtlimckldnjmabaaAWx2
import Derived.WalkKit
import Derived.ProofKit
import Derived.OpenShut
import Derived.ShutString
import Derived.ChangeOld
import Derived.Below
import Derived.SizedLaws
import Derived.Deep.CondSized
set_option linter.unusedSimpArgs false
set_option linter.unusedVariables false
set_option linter.unusedSectionVars false
namespace Go.Proofs.Ytlimckldnjmabaa.timingMeshes
open Go Go.AW Go.ChangeShapes Go.WideShapes Go.ChangeAt Go.RowKit
theorem own : ownKnob Try.prog.godebug = none := by kernel_rfl
theorem laidOut : laidOutB Try.prog = true := by kernel_rfl
set_option maxRecDepth 100000 in
theorem lifted (os : Os) (started : os.Started) (H : Type) (enc : TypeId × Value → H) :
    ReturnsInHanded {} Try.checked os 12 .any (Rows.timingMeshesSpec.pre6 enc Try.prog Try.f12 Rows.timingMeshesRow.domain false) (Rows.timingMeshesSpec.post enc Try.prog Try.f12 false true false false) := by
  refine returnsInHanded_of_change_sized (C := Try.checked) own started au Try.func12
    (ChangeSpec.witness6 (enc := enc) (C := Try.checked) false ⟨#[], #[.agg #[.slice none 0 0, .slice none 0 0, .slice none 0 0, .slice none 0 0, .slice none 0 0], .int .u8 0], []⟩ 8 au au au au) ?_
  intro W base args ds gs before Rj hW abe WI _
  have fB : (DataW.weightsEach Try.prog (Try.f12.params.toList ++ Rows.timingMeshesSpec.plain.varTypes Try.prog) (ds ++ gs)).all (· ≤ reachBytes) = true := WI
  have Ez : ∀ (j : Nat) t v, Try.f12.params[j]? = some t → args[j]? = some v → Value.okWide Try.prog W .any base t v := Rj
  have hW' := hW
  obtain ⟨p, q, hA0, hV, rfl, MW, js⟩ := hW
  have hA : DataW.TrodAll enc Try.prog W 0 (fun _ => true) true Try.f12.params.toList args.toList ds p := hA0
  rw [Try.params12] at hA Ez fB
  obtain ⟨v0, vs0, d0, ds0, p0, q0, fe, rfl, rfl, h0, r0⟩ := trodAll_cons hA
  obtain ⟨v1, vs1, d1, ds1, p1, q1, rfl, rfl, rfl, h1, r1⟩ := trodAll_cons r0
  obtain ⟨rfl, rfl, rfl⟩ := trodAll_nil r1
  obtain rfl : args = #[v0, v1] := by cases args; simp_all
  obtain ⟨rfl, rfl⟩ := trodVars_none hV
  obtain ⟨R5, rfl, abh⟩ := okWide_struct Try.underlying58 (Ez 0 58 v0 rfl rfl)
  have lt0 : ∀ x ∈ p0, x.block < W.heap.size := by obtain ⟨m, hm⟩ := h0; exact DataW.trod_lt m _ _ _ hm
  obtain ⟨a0, hp0, hx0, WX⟩ := (O4 (enc := enc) (W := W) (base := 0)).agg (Sz.of fB (j := 0) rfl rfl) h0
  obtain ⟨a1, rfl, rfl, rfl, w1⟩ := open_int Try.underlying5 (Ez 1 5 v1 rfl rfl) h1
  obtain ⟨a1, rfl, ka1⟩ := Db w1
  refine (ay.row (rW (a := a1) hp0 ka1) (W := W) (cS := #[.agg R5, .int .u8 (a1 : Int)]) rfl ?_).mono fun e W' ⟨he, Yj⟩ => ?_
  · intro i x hi
    rcases i with _ | _ |  i
    · simp only [List.getElem?_cons_zero, Option.some.injEq] at hi; subst hi; exact hx0
    · simp only [List.getElem?_cons_zero, List.getElem?_cons_succ, Option.some.injEq] at hi; subst hi; exact (by simp [RX])
    · simp at hi
  · subst he
    exact ⟨_, rfl, _, _, _, [], _, [], hW', trodAll_mk1 (shut_bool Try.underlying4 _), (trodAll_cons_mk (Below.trod laidOut au (of_decide_eq_true au) h0 Yj lt0) (trodAll_cons_mk (shut_int Try.underlying5 w1) trodAll_mk0)), rfl, Yj.frame _, fun h => by cases h⟩
theorem wz : Rows.timingMeshesRow.holds Try.pinned (OpenSpec.ofChange Rows.timingMeshesSpec) :=
  OpenClaim.holds_of_wide 12 Try.f12 rfl rfl rfl rfl rfl rfl rfl ⟨rfl, rfl, rfl, rfl, rfl⟩ rfl rfl rfl rfl rfl au Try.func12 au
    (of_decide_eq_true au) (by unfold Func.isWrapper; first | (rw [if_pos (by decide +kernel)]; kernel_rfl) | (rw [if_neg (by decide +kernel)]; exact ⟨rfl, rfl⟩))
    (fun os started H enc _ => lifted os started H enc)
theorem proved : Rows.TimingMeshesSaid := wz
end Go.Proofs.Ytlimckldnjmabaa.timingMeshes
namespace Go.Proofs.Ytlimckldnjmabaa
/-- The row, under a short name, for the claim. -/
theorem timingMeshes_holds : Rows.TimingMeshesSaid := timingMeshes.proved
end Go.Proofs.Ytlimckldnjmabaa
