/- The row of SynthOperators. -/
import Derived.Test.YtlimckldnjmabaaRows
import Derived.Test.YtlimckldnjmabaaSynx0
import Derived.Test.YtlimckldnjmabaaSynx1
import Derived.Test.YtlimckldnjmabaaSynx4
import Derived.Test.YtlimckldnjmabaaAWx1
import Derived.Test.YtlimckldnjmabaaAWx2
import Derived.WalkKit
import Derived.ProofKit
import Derived.OpenShut
import Derived.ShutString
import Derived.ChangeOld
import Derived.Below
import Derived.SizedLaws
import Derived.Deep.CondSized
set_option linter.unusedSimpArgs false
set_option linter.unusedVariables false
set_option linter.unusedSectionVars false
namespace Go.Proofs.Ytlimckldnjmabaa.synthOperators
open Go Go.AW Go.ChangeShapes Go.WideShapes Go.ChangeAt Go.RowKit
theorem own : ownKnob Try.prog.godebug = none := by kernel_rfl
theorem laidOut : laidOutB Try.prog = true := by kernel_rfl
set_option maxRecDepth 100000 in
theorem lifted (os : Os) (started : os.Started) (H : Type) (enc : TypeId × Value → H) :
    ReturnsInHanded {} Try.checked os 7 .any (Rows.synthOperatorsSpec.pre6 enc Try.prog Try.f7 Rows.synthOperatorsRow.domain false) (Rows.synthOperatorsSpec.post enc Try.prog Try.f7 false true false false) := by
  refine returnsInHanded_of_change_sized (C := Try.checked) own started ba Try.func7
    (ChangeSpec.witness6 (enc := enc) (C := Try.checked) false ⟨#[], #[.int .u8 0, .agg #[.int .u8 0, .int .u8 0], .agg #[.int .u64 0, .int .u64 0, .int .u64 0]], []⟩ 8 ba ba ba ba) ?_
  intro W base args ds gs before Ke hW SI O4 _
  have ez : (DataW.weightsEach Try.prog (Try.f7.params.toList ++ Rows.synthOperatorsSpec.plain.varTypes Try.prog) (ds ++ gs)).all (· ≤ reachBytes) = true := O4
  have xB : ∀ (j : Nat) t v, Try.f7.params[j]? = some t → args[j]? = some v → Value.okWide Try.prog W .any base t v := Ke
  have SJ := hW
  obtain ⟨p, q, SK, hV, rfl, Kv, jA⟩ := hW
  have hA : DataW.TrodAll enc Try.prog W 0 (fun _ => true) true Try.f7.params.toList args.toList ds p := SK
  rw [Try.params7] at hA xB ez
  obtain ⟨v0, Ub, d0, Uc, p0, q0, eh, rfl, rfl, h0, r0⟩ := trodAll_cons hA
  obtain ⟨v1, Ud, d1, Ue, p1, q1, rfl, rfl, rfl, h1, r1⟩ := trodAll_cons r0
  obtain ⟨v2, Uf, d2, Ug, p2, q2, rfl, rfl, rfl, h2, r2⟩ := trodAll_cons r1
  obtain ⟨rfl, rfl, rfl⟩ := trodAll_nil r2
  obtain rfl : args = #[v0, v1, v2] := by cases args; simp_all
  obtain ⟨rfl, rfl⟩ := trodVars_none hV
  obtain ⟨a0, rfl, rfl, rfl, w0⟩ := open_int Try.underlying5 (xB 0 5 v0 rfl rfl) h0
  obtain ⟨a0, rfl, SL⟩ := ye w0
  obtain ⟨OE, rfl, SM⟩ := nI Try.underlying81 (xB 1 81 v1 rfl rfl)
  have SN : ∀ x ∈ p1, x.block < W.heap.size := by obtain ⟨m, hm⟩ := h1; exact DataW.trod_lt m _ _ _ hm
  obtain ⟨a1, SO, Kj, S5⟩ := (L0 (enc := enc) (W := W) (base := 0)).agg (Sz.of ez (j := 1) rfl rfl) h1
  obtain ⟨SP, rfl, SQ⟩ := nI Try.underlying82 (xB 2 82 v2 rfl rfl)
  have SR : ∀ x ∈ p2, x.block < W.heap.size := by obtain ⟨m, hm⟩ := h2; exact DataW.trod_lt m _ _ _ hm
  obtain ⟨a2, FY, HF, S6⟩ := (LI (enc := enc) (W := W) (base := 0)).agg (Sz.of ez (j := 2) rfl rfl) h2
  refine (ak.row (m0 (k := a0) (u := a1) (v := a2) SL SO FY) (W := W) (dB := #[.int .u8 (a0 : Int), .agg OE, .agg SP]) rfl ?_).mono fun e W' ⟨he, O5⟩ => ?_
  · intro i x hi
    rcases i with _ | _ | _ |  i
    · simp only [List.getElem?_cons_zero, Option.some.injEq] at hi; subst hi; exact (by simp [RX])
    · simp only [List.getElem?_cons_zero, List.getElem?_cons_succ, Option.some.injEq] at hi; subst hi; exact Kj
    · simp only [List.getElem?_cons_zero, List.getElem?_cons_succ, Option.some.injEq] at hi; subst hi; exact HF
    · simp at hi
  · subst he
    exact ⟨_, rfl, _, _, _, [], _, [], SJ, trodAll_mk1 (shut_bool Try.underlying4 _), (trodAll_cons_mk (shut_int Try.underlying5 w0) (trodAll_cons_mk (Below.trod laidOut ba (of_decide_eq_true ba) h1 O5 SN) (trodAll_cons_mk (Below.trod laidOut ba (of_decide_eq_true ba) h2 O5 SR) trodAll_mk0))), rfl, O5.frame _, fun h => by cases h⟩
theorem tD : Rows.synthOperatorsRow.holds Try.pinned (OpenSpec.ofChange Rows.synthOperatorsSpec) :=
  OpenClaim.holds_of_wide 7 Try.f7 rfl rfl rfl rfl rfl rfl rfl ⟨rfl, rfl, rfl, rfl, rfl⟩ rfl rfl rfl rfl rfl ba Try.func7 ba
    (of_decide_eq_true ba) (by unfold Func.isWrapper; first | (rw [if_pos (by decide +kernel)]; kernel_rfl) | (rw [if_neg (by decide +kernel)]; exact ⟨rfl, rfl⟩))
    (fun os started H enc _ => lifted os started H enc)
theorem proved : Rows.SynthOperatorsSaid := tD
end Go.Proofs.Ytlimckldnjmabaa.synthOperators
namespace Go.Proofs.Ytlimckldnjmabaa
/-- The row, under a short name, for the claim. -/
theorem synthOperators_holds : Rows.SynthOperatorsSaid := synthOperators.proved
end Go.Proofs.Ytlimckldnjmabaa
