/- The row of SynthInvalid. -/
import Derived.Test.YtlimckldnjmabaaRows
import Derived.Test.YtlimckldnjmabaaSynx0
import Derived.Test.YtlimckldnjmabaaSynx5
import Derived.Test.YtlimckldnjmabaaAWx1
import Derived.Test.YtlimckldnjmabaaAWx2
import Derived.WalkKit
import Derived.ProofKit
import Derived.OpenShut
import Derived.ShutString
import Derived.ChangeOld
import Derived.Below
import Derived.SizedLaws
import Derived.Deep.CondSized
set_option linter.unusedSimpArgs false
set_option linter.unusedVariables false
set_option linter.unusedSectionVars false
namespace Go.Proofs.Ytlimckldnjmabaa.synthInvalid
open Go Go.AW Go.ChangeShapes Go.WideShapes Go.ChangeAt Go.RowKit
theorem own : ownKnob Try.prog.godebug = none := by kernel_rfl
theorem laidOut : laidOutB Try.prog = true := by kernel_rfl
set_option maxRecDepth 100000 in
theorem lifted (os : Os) (started : os.Started) (H : Type) (enc : TypeId × Value → H) :
    ReturnsInHanded {} Try.checked os 11 .any (Rows.synthInvalidSpec.pre6 enc Try.prog Try.f11 Rows.synthInvalidRow.domain false) (Rows.synthInvalidSpec.post enc Try.prog Try.f11 false true false false) := by
  refine returnsInHanded_of_change_sized (C := Try.checked) own started au Try.func11
    (ChangeSpec.witness6 (enc := enc) (C := Try.checked) false ⟨#[], #[.agg #[.slice none 0 0, .slice none 0 0, .slice none 0 0, .slice none 0 0, .slice none 0 0], .int .u8 0, .agg #[.int .i64 0, .int .i64 0, .int .i64 0, .slice none 0 0, .int .u64 0, .int .i64 0]], []⟩ 8 au au au au) ?_
  intro W base args ds gs before Qu hW Zb Ve _
  have fP : (DataW.weightsEach Try.prog (Try.f11.params.toList ++ Rows.synthInvalidSpec.plain.varTypes Try.prog) (ds ++ gs)).all (· ≤ reachBytes) = true := Ve
  have Cx : ∀ (j : Nat) t v, Try.f11.params[j]? = some t → args[j]? = some v → Value.okWide Try.prog W .any base t v := Qu
  have Zc := hW
  obtain ⟨p, q, Zd, hV, rfl, Mk, jR⟩ := hW
  have hA : DataW.TrodAll enc Try.prog W 0 (fun _ => true) true Try.f11.params.toList args.toList ds p := Zd
  rw [Try.params11] at hA Cx fP
  obtain ⟨v0, vs0, d0, ds0, p0, q0, fi, rfl, rfl, h0, r0⟩ := trodAll_cons hA
  obtain ⟨v1, vs1, d1, ds1, p1, q1, rfl, rfl, rfl, h1, r1⟩ := trodAll_cons r0
  obtain ⟨v2, vs2, d2, ds2, p2, q2, rfl, rfl, rfl, h2, r2⟩ := trodAll_cons r1
  obtain ⟨rfl, rfl, rfl⟩ := trodAll_nil r2
  obtain rfl : args = #[v0, v1, v2] := by cases args; simp_all
  obtain ⟨rfl, rfl⟩ := trodVars_none hV
  obtain ⟨QG, rfl, Ze⟩ := okWide_struct Try.underlying58 (Cx 0 58 v0 rfl rfl)
  have Zf : ∀ x ∈ p0, x.block < W.heap.size := by obtain ⟨m, hm⟩ := h0; exact DataW.trod_lt m _ _ _ hm
  obtain ⟨a0, Zg, Zh, Vs⟩ := (NS (enc := enc) (W := W) (base := 0)).agg (Sz.of fP (j := 0) rfl rfl) h0
  obtain ⟨a1, rfl, rfl, rfl, w1⟩ := open_int Try.underlying5 (Cx 1 5 v1 rfl rfl) h1
  obtain ⟨a1, rfl, Zi⟩ := CE w1
  obtain ⟨Zj, rfl, Zk⟩ := okWide_struct Try.underlying73 (Cx 2 73 v2 rfl rfl)
  have Zl : ∀ x ∈ p2, x.block < W.heap.size := by obtain ⟨m, hm⟩ := h2; exact DataW.trod_lt m _ _ _ hm
  obtain ⟨a2, LF, Nm, Ur⟩ := (Kd (enc := enc) (W := W) (base := 0)).agg (Sz.of fP (j := 2) rfl rfl) h2
  refine (aw.row (rR (a := a1) Zg Zi LF) (W := W) (dB := #[.agg QG, .int .u8 (a1 : Int), .agg Zj]) rfl ?_).mono fun e W' ⟨he, Vf⟩ => ?_
  · intro i x hi
    rcases i with _ | _ | _ |  i
    · simp only [List.getElem?_cons_zero, Option.some.injEq] at hi; subst hi; exact Zh
    · simp only [List.getElem?_cons_zero, List.getElem?_cons_succ, Option.some.injEq] at hi; subst hi; exact (by simp [RX])
    · simp only [List.getElem?_cons_zero, List.getElem?_cons_succ, Option.some.injEq] at hi; subst hi; exact Nm
    · simp at hi
  · subst he
    exact ⟨_, rfl, _, _, _, [], _, [], Zc, trodAll_mk1 (shut_bool Try.underlying4 _), (trodAll_cons_mk (Below.trod laidOut au (of_decide_eq_true au) h0 Vf Zf) (trodAll_cons_mk (shut_int Try.underlying5 w1) (trodAll_cons_mk (Below.trod laidOut au (of_decide_eq_true au) h2 Vf Zl) trodAll_mk0))), rfl, Vf.frame _, fun h => by cases h⟩
theorem w9 : Rows.synthInvalidRow.holds Try.pinned (OpenSpec.ofChange Rows.synthInvalidSpec) :=
  OpenClaim.holds_of_wide 11 Try.f11 rfl rfl rfl rfl rfl rfl rfl ⟨rfl, rfl, rfl, rfl, rfl⟩ rfl rfl rfl rfl rfl au Try.func11 au
    (of_decide_eq_true au) (by unfold Func.isWrapper; first | (rw [if_pos (by decide +kernel)]; kernel_rfl) | (rw [if_neg (by decide +kernel)]; exact ⟨rfl, rfl⟩))
    (fun os started H enc _ => lifted os started H enc)
theorem proved : Rows.SynthInvalidSaid := w9
end Go.Proofs.Ytlimckldnjmabaa.synthInvalid
namespace Go.Proofs.Ytlimckldnjmabaa
/-- The row, under a short name, for the claim. -/
theorem synthInvalid_holds : Rows.SynthInvalidSaid := synthInvalid.proved
end Go.Proofs.Ytlimckldnjmabaa
