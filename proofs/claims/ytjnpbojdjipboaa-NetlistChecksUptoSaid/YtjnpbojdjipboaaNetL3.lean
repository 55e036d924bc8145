/- The row of NetlistChecks. -/
import Derived.Test.YtjnpbojdjipboaaRows
import Derived.Test.YtjnpbojdjipboaaNetx0
import Derived.Test.YtjnpbojdjipboaaNetx5
import Derived.Test.YtjnpbojdjipboaaAWx1
import Derived.Test.YtjnpbojdjipboaaAWx2
import Derived.WalkKit
import Derived.ProofKit
import Derived.OpenShut
import Derived.ShutString
import Derived.ChangeOld
import Derived.Below
import Derived.SizedLaws
import Derived.Deep.CondSized
set_option linter.unusedSimpArgs false
set_option linter.unusedVariables false
set_option linter.unusedSectionVars false
namespace Go.Proofs.Ytjnpbojdjipboaa.netlistChecks
open Go Go.AW Go.ChangeShapes Go.WideShapes Go.ChangeAt Go.RowKit
theorem own : ownKnob Try.prog.godebug = none := by kernel_rfl
theorem laidOut : laidOutB Try.prog = true := by kernel_rfl
set_option maxRecDepth 100000 in
theorem lifted (os : Os) (started : os.Started) (H : Type) (enc : TypeId × Value → H) (F : Stop.Interp) :
    ReturnsInHanded {} Try.checked os 3 .any ((Rows.OpenSpec.upto Rows.netlistChecksSpec).pre6 enc Try.prog Try.f3 Rows.netlistChecksUptoRow.domain false) (((Rows.OpenSpec.upto Rows.netlistChecksSpec).at F).post enc Try.prog Try.f3 false true false false) := by
  refine returnsInHanded_of_cond_sized (C := Try.checked) (s := Rows.OpenSpec.upto Rows.netlistChecksSpec) (k := Rows.uptoSmall) rfl own started (by kernel_rfl) Try.func3
    (OpenSpec.witness (enc := enc) (C := Try.checked) (s := Rows.OpenSpec.upto Rows.netlistChecksSpec) (k := Rows.uptoSmall) rfl false ⟨#[], #[.agg #[.string .empty, .slice none 0 0, .slice none 0 0, .slice none 0 0, .slice none 0 0, .slice none 0 0, .slice none 0 0, .slice none 0 0, .int .i64 0, .int .i64 0, .slice none 0 0]], []⟩ 8 (by kernel_rfl) (by kernel_rfl) (by kernel_rfl)
      (x := ([.agg [.lit (.string []), .nil, .nil, .nil, .nil, .nil, .nil, .nil, .lit (.int .i64 0), .lit (.int .i64 0), .nil]], [], [])) (by kernel_rfl) rfl (by kernel_rfl)) ?_
  intro W base args ds gs before hval0 hW hcnd hk hsz0 _
  have hsz : (DataW.weightsEach Try.prog (Try.f3.params.toList ++ (Rows.OpenSpec.upto Rows.netlistChecksSpec).bare.plain.varTypes Try.prog) (ds ++ gs)).all (· ≤ reachBytes) = true := hsz0
  have hval : ∀ (j : Nat) t v, Try.f3.params[j]? = some t → args[j]? = some v → Value.okWide Try.prog W .any base t v := hval0
  have hW' := hW
  obtain ⟨p, q, hA0, hV, rfl, hfz, hnd⟩ := hW
  have hA : DataW.TrodAll enc Try.prog W 0 (fun _ => true) true Try.f3.params.toList args.toList ds p := hA0
  rw [Try.params3] at hA hval hsz
  obtain ⟨v0, vs0, d0, ds0, p0, q0, hargs, rfl, rfl, h0, r0⟩ := trodAll_cons hA
  obtain ⟨rfl, rfl, rfl⟩ := trodAll_nil r0
  obtain rfl : args = #[v0] := by cases args; simp_all
  obtain ⟨rfl, rfl⟩ := trodVars_none hV
  have hkk : Rows.uptoBulkAll [d0] ≤ 1048576 := of_decide_eq_true hk
  simp only [Rows.uptoBulkAll, bulk_eq] at hkk
  obtain ⟨cs0, rfl, hcs0⟩ := okWide_struct Try.underlying27 (hval 0 27 v0 rfl rfl)
  have lt0 : ∀ x ∈ p0, x.block < W.heap.size := by obtain ⟨m, hm⟩ := h0; exact DataW.trod_lt m _ _ _ hm
  obtain ⟨a0, hp0, hx0, hm0⟩ := (rdNet (enc := enc) (W := W) (base := 0)).agg (Sz.of hsz (j := 0) rfl rfl) h0
  refine (ACalls.row (netlistChecks_spec (hp0 (by omega))) (W := W) (cargs := #[.agg cs0]) rfl ?_).mono fun e W' ⟨he, bel⟩ => ?_
  · intro i x hi
    rcases i with _ |  i
    · simp only [List.getElem?_cons_zero, Option.some.injEq] at hi; subst hi; exact hx0
    · simp at hi
  · subst he
    exact ⟨_, rfl, _, _, _, [], _, [], hW', trodAll_mk1 (shut_bool Try.underlying4 _), (trodAll_cons_mk (Below.trod laidOut (by kernel_rfl) (of_decide_eq_true (by kernel_rfl)) h0 bel lt0) trodAll_mk0), rfl, bel.frame _, fun h => by cases h⟩
theorem over : Rows.netlistChecksUptoRow.holds Try.pinned (Rows.OpenSpec.upto Rows.netlistChecksSpec) :=
  OpenClaim.holds_of_cond 3 Try.f3 rfl rfl rfl rfl rfl rfl rfl ⟨rfl, rfl, rfl, rfl, rfl⟩ rfl rfl rfl rfl rfl (by kernel_rfl) Try.func3 (by kernel_rfl)
    (of_decide_eq_true (by kernel_rfl)) (by unfold Func.isWrapper; first | (rw [if_pos (by decide +kernel)]; kernel_rfl) | (rw [if_neg (by decide +kernel)]; exact ⟨rfl, rfl⟩))
    (fun os started H enc _ F => lifted os started H enc F)
theorem proved : Rows.NetlistChecksUptoSaid := over
end Go.Proofs.Ytjnpbojdjipboaa.netlistChecks
namespace Go.Proofs.Ytjnpbojdjipboaa
/-- The row, under a short name, for the claim. -/
theorem netlistChecksUpto_holds : Rows.NetlistChecksUptoSaid := netlistChecks.proved
end Go.Proofs.Ytjnpbojdjipboaa
