/- Part of the abstract walk: calls that see slices of the caller's, in the form that proofs use. -/
import Derived.Test.YtiehdnjcapjacaaAWD3
namespace Go.AW
open Go

section
variable {P : Program} {N : Frm} {st : St} {Q : Exit → St → Prop} {all : Array Oper} {rest : List Oper} {d : Nat} {ty : TypeId} {pos : String} {af : Array Edge}
/-- A slice of the caller's, as the callee sees it. -/
theorem LentL.lend {L : List Nat} {ν : Nat → Nat} {o s lo n : Nat} {rs rs' : List (List X)} {xs ys : List X} (ho : look st.objs o = some (.rows s rs)) (hL : L.elem o = true) (hln : lo + n ≤ rs.length) (he : (rs.drop lo).take n = rs')
    (hs : LentL st L ν xs ys) : LentL st L ν (.slc o s lo n :: xs) (.fz s rs' :: ys) := by
  subst he
  exact .cons (.view ho (List.elem_iff.1 hL) hln) hs
theorem lend1 {o : Nat} {ob : Obj} (h : look st.objs o = some ob) (h' : Owns0 ob) : ∀ q ∈ [o], ∃ ob, look st.objs q = some ob ∧ Owns0 ob := by
  intro q hq
  simp only [List.mem_singleton] at hq
  subst hq
  exact ⟨ob, h, h'⟩
theorem lend2 {o : Nat} {ob : Obj} {L : List Nat} (h : look st.objs o = some ob) (h' : Owns0 ob) (hs : ∀ q ∈ L, ∃ ob, look st.objs q = some ob ∧ Owns0 ob) : ∀ q ∈ o :: L, ∃ ob, look st.objs q = some ob ∧ Owns0 ob := by
  intro q hq
  rcases List.mem_cons.1 hq with rfl | hq
  · exact ⟨ob, h, h'⟩
  · exact hs q hq
/-- A call that sees some slices of the caller's as they stand, and gives R. -/
theorem AOps.callLP {f : FuncId} {fargs : Array Operand} {ats : Array TypeId} {xs args : List X} {R : X} (L : List Nat) (hok : callOK P f = true) (hspec : ACalls P f args [] [] (fun r o => r = R ∧ o = []))
    (hxs : opds st fargs.toList = some xs) (hargs : LentL st L (nameF []) xs args) (h0 : ∀ o ∈ L, ∃ ob, look st.objs o = some ob ∧ Owns0 ob) (hd : d < N.n) (hlt : R.lt 0 = true) (hp : R.plain)
    (k : AOps P N all rest (st.put d R) Q) : AOps P N all (⟨some d, .call ⟨.value (.func f), fargs, ats⟩, ty, pos, af, none⟩ :: rest) st Q :=
  AOps.callL L hok hspec hxs hargs h0 hd hlt (X.ren_lt0 hlt) hp k
theorem drop0_take {α : Type} {l : List α} {n : Nat} (h : n = l.length) : (l.drop 0).take n = l := by
  subst h; rw [List.drop_zero, List.take_length]
end
end Go.AW
