/- The row of TimingSlack. -/
import Derived.Test.YtligpghohcfpnaaRows
import Derived.Test.YtligpghohcfpnaaNetx0
import Derived.Test.YtligpghohcfpnaaNetx4
import Derived.Test.YtligpghohcfpnaaAWx3
import Derived.Test.YtligpghohcfpnaaAWx1
import Derived.Test.YtligpghohcfpnaaAWx2
import Derived.WalkKit
import Derived.ProofKit
import Derived.OpenShut
import Derived.ShutString
import Derived.ChangeOld
import Derived.Below
import Derived.SizedLaws
import Derived.Deep.CondSized
set_option linter.unusedSimpArgs false
set_option linter.unusedVariables false
set_option linter.unusedSectionVars false
namespace Go.Proofs.Ytligpghohcfpnaa.timingSlack
open Go Go.AW Go.ChangeShapes Go.WideShapes Go.ChangeAt Go.RowKit
theorem own : ownKnob Try.prog.godebug = none := by kernel_rfl
theorem laidOut : laidOutB Try.prog = true := by kernel_rfl
set_option maxRecDepth 100000 in
theorem lifted (os : Os) (started : os.Started) (H : Type) (enc : TypeId × Value → H) :
    ReturnsInHanded {} Try.checked os 14 .any (Rows.timingSlackSpec.pre6 enc Try.prog Try.f14 Rows.timingSlackRow.domain false) (Rows.timingSlackSpec.post enc Try.prog Try.f14 false true false false) := by
  refine returnsInHanded_of_change_sized (C := Try.checked) own started aq Try.func14
    (ChangeSpec.witness6 (enc := enc) (C := Try.checked) false ⟨#[], #[.agg #[.slice none 0 0, .slice none 0 0, .slice none 0 0, .slice none 0 0, .slice none 0 0], .int .i16 0], []⟩ 8 aq aq aq aq) ?_
  intro W base args ds gs before JJ hW Rq NY _
  have fe : (DataW.weightsEach Try.prog (Try.f14.params.toList ++ Rows.timingSlackSpec.plain.varTypes Try.prog) (ds ++ gs)).all (· ≤ reachBytes) = true := NY
  have zc : ∀ (j : Nat) t v, Try.f14.params[j]? = some t → args[j]? = some v → Value.okWide Try.prog W .any base t v := JJ
  have Rr := hW
  obtain ⟨p, q, Rs, hV, rfl, Al, iw⟩ := hW
  have hA : DataW.TrodAll enc Try.prog W 0 (fun _ => true) true Try.f14.params.toList args.toList ds p := Rs
  rw [Try.params14] at hA zc fe
  obtain ⟨v0, Si, d0, Sj, p0, q0, dM, rfl, rfl, h0, r0⟩ := trodAll_cons hA
  obtain ⟨v1, Sk, d1, Sl, p1, q1, rfl, rfl, rfl, h1, r1⟩ := trodAll_cons r0
  obtain ⟨rfl, rfl, rfl⟩ := trodAll_nil r1
  obtain rfl : args = #[v0, v1] := by cases args; simp_all
  obtain ⟨rfl, rfl⟩ := trodVars_none hV
  obtain ⟨JZ, rfl, Ru⟩ := okWide_struct Try.underlying36 (zc 0 36 v0 rfl rfl)
  have Rv : ∀ x ∈ p0, x.block < W.heap.size := by obtain ⟨m, hm⟩ := h0; exact DataW.trod_lt m _ _ _ hm
  obtain ⟨a0, Rw, OS, Oq⟩ := (HW (enc := enc) (W := W) (base := 0)).agg (Sz.of fe (j := 0) rfl rfl) h0
  obtain ⟨a1, rfl, rfl, rfl, w1⟩ := open_int Try.underlying78 (zc 1 78 v1 rfl rfl) h1
  refine (az.row (pM (a := a1) Rw (wf_i16 w1)) (W := W) (cF := #[.agg JZ, .int .i16 a1]) rfl ?_).mono fun e W' ⟨he, tK⟩ => ?_
  · intro i x hi
    rcases i with _ | _ |  i
    · simp only [List.getElem?_cons_zero, Option.some.injEq] at hi; subst hi; exact OS
    · simp only [List.getElem?_cons_zero, List.getElem?_cons_succ, Option.some.injEq] at hi; subst hi; exact (by simp [RX])
    · simp at hi
  · subst he
    exact ⟨_, rfl, _, _, _, [], _, [], Rr, trodAll_mk1 (shut_bool Try.underlying4 _), (trodAll_cons_mk (Below.trod laidOut aq (of_decide_eq_true aq) h0 tK Rv) (trodAll_cons_mk (shut_int Try.underlying78 w1) trodAll_mk0)), rfl, tK.frame _, fun h => by cases h⟩
theorem sN : Rows.timingSlackRow.holds Try.pinned (OpenSpec.ofChange Rows.timingSlackSpec) :=
  OpenClaim.holds_of_wide 14 Try.f14 rfl rfl rfl rfl rfl rfl rfl ⟨rfl, rfl, rfl, rfl, rfl⟩ rfl rfl rfl rfl rfl aq Try.func14 aq
    (of_decide_eq_true aq) (by unfold Func.isWrapper; first | (rw [if_pos (by decide +kernel)]; kernel_rfl) | (rw [if_neg (by decide +kernel)]; exact ⟨rfl, rfl⟩))
    (fun os started H enc _ => lifted os started H enc)
theorem proved : Rows.TimingSlackSaid := sN
end Go.Proofs.Ytligpghohcfpnaa.timingSlack
namespace Go.Proofs.Ytligpghohcfpnaa
/-- The row, under a short name, for the claim. -/
theorem timingSlack_holds : Rows.TimingSlackSaid := timingSlack.proved
end Go.Proofs.Ytligpghohcfpnaa
