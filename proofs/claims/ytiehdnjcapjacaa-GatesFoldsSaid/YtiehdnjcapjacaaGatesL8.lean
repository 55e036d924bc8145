/- GatesFolds returns true for all parts, kept gates and values, which read behind the call as before. -/
import Derived.Test.YtiehdnjcapjacaaRows
import Derived.Test.YtiehdnjcapjacaaGatesx3
import Derived.Test.YtiehdnjcapjacaaAWx1
import Derived.WalkKit
import Derived.ProofKit
import Derived.OpenShut
import Derived.ShutString
import Derived.ChangeOld
import Derived.Below
import Derived.SizedLaws
namespace Go.Proofs.Ytiehdnjcapjacaa.gatesFolds
open Go Go.AW Go.ChangeShapes Go.WideShapes Go.ChangeAt Go.RowKit
theorem own : ownKnob Try.prog.godebug = none := by kernel_rfl
theorem laidOut : laidOutB Try.prog = true := by kernel_rfl
set_option maxRecDepth 100000 in
theorem lifted (os : Os) (started : os.Started) (H : Type) (enc : TypeId × Value → H) :
    ReturnsInHanded {} Try.checked os 8 .any (Rows.gatesFoldsSpec.pre6 enc Try.prog Try.f8 Rows.gatesFoldsRow.domain false) (Rows.gatesFoldsSpec.post enc Try.prog Try.f8 false true false false) := by
  refine returnsInHanded_of_change_sized (C := Try.checked) own started (by kernel_rfl) Try.func8
    (ChangeSpec.witness6 (enc := enc) (C := Try.checked) false ⟨#[], #[.slice none 0 0, .slice none 0 0, .slice none 0 0], []⟩ 8 (by kernel_rfl) (by kernel_rfl) (by kernel_rfl) (by kernel_rfl)) ?_
  intro W base args ds gs before hval0 hW hcnd hsz0 _
  have hsz : (DataW.weightsEach Try.prog (Try.f8.params.toList ++ Rows.gatesFoldsSpec.plain.varTypes Try.prog) (ds ++ gs)).all (· ≤ reachBytes) = true := hsz0
  have hval : ∀ (j : Nat) t v, Try.f8.params[j]? = some t → args[j]? = some v → Value.okWide Try.prog W .any base t v := hval0
  have hW' := hW
  obtain ⟨p, q, hA0, hV, rfl, hfz, hnd⟩ := hW
  have hA : DataW.TrodAll enc Try.prog W 0 (fun _ => true) true Try.f8.params.toList args.toList ds p := hA0
  rw [Try.params8] at hA hval hsz
  obtain ⟨v0, vs0, d0, ds0, p0, q0, hargs, rfl, rfl, h0, r0⟩ := trodAll_cons hA
  obtain ⟨v1, vs1, d1, ds1, p1, q1, rfl, rfl, rfl, h1, r1⟩ := trodAll_cons r0
  obtain ⟨v2, vs2, d2, ds2, p2, q2, rfl, rfl, rfl, h2, r2⟩ := trodAll_cons r1
  obtain ⟨rfl, rfl, rfl⟩ := trodAll_nil r2
  obtain rfl : args = #[v0, v1, v2] := by cases args; simp_all
  obtain ⟨rfl, rfl⟩ := trodVars_none hV
  obtain ⟨b0, len0, cap0, hv0⟩ := okWide_slice Try.underlying33 (hval 0 33 v0 rfl rfl)
  have lt0 : ∀ x ∈ p0, x.block < W.heap.size := by obtain ⟨m, hm⟩ := h0; exact DataW.trod_lt m _ _ _ hm
  obtain ⟨l0, hl0, hp0, hx0⟩ := fz_read (f := Part.row) (p := fun p => p.ok) (s := 3) (B := 3) (jj := 0) Try.underlying33 (by kernel_rfl) (by decide) (by kernel_rfl) hsz rfl rfl
    (fun n cs y h => by obtain ⟨a, b, c, h0, h1, h2⟩ := read_int3 (k := .u8) Try.underlying57 (by kernel_rfl) (by kernel_rfl) Try.underlying5 Try.underlying5 Try.underlying5 h; exact ⟨⟨a, b, c⟩, h0, h1, h2⟩) hv0 h0
  obtain ⟨b1, len1, cap1, hv1⟩ := okWide_slice Try.underlying48 (hval 1 48 v1 rfl rfl)
  have lt1 : ∀ x ∈ p1, x.block < W.heap.size := by obtain ⟨m, hm⟩ := h1; exact DataW.trod_lt m _ _ _ hm
  obtain ⟨l1, hl1, hp1, hx1⟩ := fz_read (f := u8row) (p := fun z => (Lit.int .u8 z).wf = true) (s := 1) (B := 1) (jj := 1) Try.underlying48 (by kernel_rfl) (by decide) (by kernel_rfl) hsz rfl rfl
    (fun n cs y h => read_int Try.underlying5 h) hv1 h1
  obtain ⟨b2, len2, cap2, hv2⟩ := okWide_slice Try.underlying27 (hval 2 27 v2 rfl rfl)
  have lt2 : ∀ x ∈ p2, x.block < W.heap.size := by obtain ⟨m, hm⟩ := h2; exact DataW.trod_lt m _ _ _ hm
  obtain ⟨l2, hl2, hp2, hx2⟩ := fz_read (f := brow) (p := fun _ => True) (s := 1) (B := 1) (jj := 2) Try.underlying27 (by kernel_rfl) (by decide) (by kernel_rfl) hsz rfl rfl
    (fun n cs y h => read_bool Try.underlying4 h) hv2 h2
  refine (ACalls.row (law8_int (ps := l0) (ks := l1) (xs := l2) (by omega) (by omega) hp0 hp1) (W := W) (cargs := #[v0, v1, v2]) rfl ?_).mono fun e W' ⟨he, bel⟩ => ?_
  · intro i x hi
    rcases i with _ | _ | _ |  i
    · simp only [List.getElem?_cons_zero, Option.some.injEq] at hi; subst hi; exact hx0
    · simp only [List.getElem?_cons_zero, List.getElem?_cons_succ, Option.some.injEq] at hi; subst hi; exact hx1
    · simp only [List.getElem?_cons_zero, List.getElem?_cons_succ, Option.some.injEq] at hi; subst hi; exact hx2
    · simp at hi
  · subst he
    exact ⟨_, rfl, _, _, _, [], _, [], hW', trodAll_mk1 (shut_bool Try.underlying4 _), (trodAll_cons_mk (Below.trod laidOut (by kernel_rfl) (of_decide_eq_true (by kernel_rfl)) h0 bel lt0) (trodAll_cons_mk (Below.trod laidOut (by kernel_rfl) (of_decide_eq_true (by kernel_rfl)) h1 bel lt1) (trodAll_cons_mk (Below.trod laidOut (by kernel_rfl) (of_decide_eq_true (by kernel_rfl)) h2 bel lt2) trodAll_mk0))), rfl, bel.frame _, fun h => by cases h⟩
theorem over : Rows.gatesFoldsRow.holds Try.pinned (OpenSpec.ofChange Rows.gatesFoldsSpec) :=
  OpenClaim.holds_of_wide 8 Try.f8 rfl rfl rfl rfl rfl rfl rfl ⟨rfl, rfl, rfl, rfl, rfl⟩ rfl rfl rfl rfl rfl (by kernel_rfl) Try.func8 (by kernel_rfl)
    (of_decide_eq_true (by kernel_rfl)) (by unfold Func.isWrapper; first | (rw [if_pos (by decide +kernel)]; kernel_rfl) | (rw [if_neg (by decide +kernel)]; exact ⟨rfl, rfl⟩))
    (fun os started H enc _ => lifted os started H enc)
theorem proved : Rows.GatesFoldsSaid := over
end Go.Proofs.Ytiehdnjcapjacaa.gatesFolds
namespace Go.Proofs.Ytiehdnjcapjacaa
/-- The row, under a short name, for the claim. -/
theorem gatesFolds_holds : Rows.GatesFoldsSaid := gatesFolds.proved
end Go.Proofs.Ytiehdnjcapjacaa
