/- Part of the abstract walk: operations that are not wanted leave a word that is no test. -/
import Derived.Test.YtiehdnjcapjacaaAWD0
namespace Go.AW
open Go

def notB (want : Bool) : Value → Bool
  | .bool b => !(b == want)
  | _ => true

section
variable {P : Program} {N : Frm} {st : St} {Q : Exit → St → Prop} {K : St → Prop} {all : Array Oper} {rest : List Oper} {d dd : Nat} {ty : TypeId} {pos : String} {af : Array Edge} {dst : Option Nat} {op : Op} {j : Nat} {want : Bool} {u : Value}

theorem unwanted {G : Ctx} {E : Env} {RR : Own → List Nat} {a : Act} (hi : Inv G E RR st a) (hj : (all[j]?).bind (·.dst) = some d) (hd : d < G.fn.n) (hx : look st.slots d = some (.v u)) (hne : notB want u = true) :
    Region.wanted ⟨dst, op, ty, pos, af, some (j, want)⟩ (yielded all a.tmps) = false := by
  have hs := hi.slots d _ hx
  simp only [RX] at hs
  have hsz : d < a.tmps.size := by rw [hi.tmps]; exact hd
  have hv : a.tmps[d]? = some u := by
    have := hs.1
    simp only [Array.getD, hsz, dif_pos] at this
    rw [Array.getElem?_eq_getElem hsz]
    exact congrArg some this
  have hy : yielded all a.tmps j ≠ some want := by
    unfold yielded
    rw [hj, Option.bind_some, hv]
    intro h
    cases u <;> simp [notB] at hne h
    exact hne h
  simp only [Region.wanted]
  cases h : yielded all a.tmps j with
  | none => rfl
  | some b => rw [h] at hy; simpa using hy

theorem AOps.guardSkipV (hj : (all[j]?).bind (·.dst) = some d) (hd : d < N.n) (hdd : dd < N.n) (hx : look st.slots d = some (.v u)) (hne : notB want u = true)
    (k : AOps P N all rest (st.put dd (.v undef)) Q) : AOps P N all (⟨some dd, op, ty, pos, af, some (j, want)⟩ :: rest) st Q := by
  intro G hn a w hh
  obtain ⟨E, RR, rfl, hi⟩ := hh
  unfold wpList
  rw [if_neg (by rw [unwanted hi hj (hn ▸ hd) hx hne]; simp)]
  exact k G hn _ _ ⟨E, _, rfl, hi.put0 (hn ▸ hdd) (by simp [RX])⟩

theorem AOps.guardSkipV0 (hj : (all[j]?).bind (·.dst) = some d) (hd : d < N.n) (hx : look st.slots d = some (.v u)) (hne : notB want u = true)
    (k : AOps P N all rest st Q) : AOps P N all (⟨none, op, ty, pos, af, some (j, want)⟩ :: rest) st Q := by
  intro G hn a w hh
  have hk := k G hn a w hh
  obtain ⟨E, RR, rfl, hi⟩ := hh
  unfold wpList
  rw [if_neg (by rw [unwanted hi hj (hn ▸ hd) hx hne]; simp)]
  exact hk

theorem AHead.guardSkipV (hj : (all[j]?).bind (·.dst) = some d) (hd : d < N.n) (hdd : dd < N.n) (hx : look st.slots d = some (.v u)) (hne : notB want u = true)
    (k : AHead P N all rest (st.put dd (.v undef)) K) : AHead P N all (⟨some dd, op, ty, pos, af, some (j, want)⟩ :: rest) st K := by
  intro G hn a w hh
  obtain ⟨E, RR, rfl, hi⟩ := hh
  unfold wpStill
  rw [if_neg (by rw [unwanted hi hj (hn ▸ hd) hx hne]; simp)]
  exact k G hn _ _ ⟨E, _, rfl, hi.put0 (hn ▸ hdd) (by simp [RX])⟩

end
end Go.AW
