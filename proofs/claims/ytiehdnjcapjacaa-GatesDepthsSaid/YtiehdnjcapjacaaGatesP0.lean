/- Gates that are made of parts, and values for their inputs, in plain Lean. -/
import Derived.Test.YtiehdnjcapjacaaGatesG0
import Derived.Test.YtiehdnjcapjacaaAWD3
namespace Go.Proofs.Ytiehdnjcapjacaa
open Go Go.AW

structure Part where
  kind : Int
  a : Int
  b : Int
instance : Inhabited Part := ⟨⟨0, 0, 0⟩⟩
def Part.row (p : Part) : List X := [.v (.int .u8 p.kind), .v (.int .u8 p.a), .v (.int .u8 p.b)]
def Part.ok (p : Part) : Prop := (Lit.int .u8 p.kind).wf = true ∧ (Lit.int .u8 p.a).wf = true ∧ (Lit.int .u8 p.b).wf = true
def partsOk (ps : List Part) : Prop := ∀ p ∈ ps, p.ok
theorem partsOk.get {ps : List Part} (h : partsOk ps) {i : Nat} {p : Part} (hp : ps[i]? = some p) : (0 ≤ p.kind ∧ p.kind ≤ 255) ∧ (0 ≤ p.a ∧ p.a ≤ 255) ∧ (0 ≤ p.b ∧ p.b ≤ 255) := by
  obtain ⟨h0, h1, h2⟩ := h p (List.mem_of_getElem? hp)
  exact ⟨wf_u8 h0, wf_u8 h1, wf_u8 h2⟩

/-- The gate of a part, behind n gates. -/
def gateOf (n : Nat) (p : Part) : Gate :=
  ⟨1 + p.kind % 7, if 4 ≤ 1 + p.kind % 7 then (n : Int) - 1 - p.a % (n : Int) else 0, if 5 ≤ 1 + p.kind % 7 then (n : Int) - 1 - p.b % (n : Int) else 0⟩
/-- The gates of the first i parts. -/
def made (ps : List Part) : Nat → List Gate
  | 0 => [⟨3, 0, 0⟩]
  | i + 1 => made ps i ++ (match ps[i]? with | some p => [gateOf (i + 1) p] | none => [])
theorem made_succ {ps : List Part} {i : Nat} {p : Part} (hp : ps[i]? = some p) : made ps (i + 1) = made ps i ++ [gateOf (i + 1) p] := by simp [made, hp]
theorem made_length {ps : List Part} : ∀ {i : Nat}, i ≤ ps.length → (made ps i).length = i + 1
  | 0, _ => rfl
  | i + 1, h => by
    rw [made_succ (List.getElem?_eq_getElem (show i < ps.length by omega)), List.length_append, made_length (by omega)]; rfl
theorem mod_in {x : Int} {n : Nat} (h : 0 < n) : 0 ≤ x % (n : Int) ∧ x % (n : Int) < n := ⟨Int.emod_nonneg _ (by omega), Int.emod_lt_of_pos _ (by omega)⟩
theorem gateOf_ok {n : Nat} {p : Part} (hn : 0 < n) : okGate n (gateOf n p) := by
  have h1 := mod_in (x := p.a) hn
  have h2 := mod_in (x := p.b) hn
  simp only [okGate, okArg, operands, gateOf]
  generalize p.a % (n : Int) = u at *
  generalize p.b % (n : Int) = v at *
  exact ⟨by omega, by omega, by omega⟩
theorem made_good {ps : List Part} : ∀ {i : Nat}, i ≤ ps.length → Good (made ps i)
  | 0, _ => by
    intro j g h
    rcases j with _ | j
    · simp [made] at h; subst h; simp [okGate, okArg, operands]
    · simp [made] at h
  | i + 1, h => by
    have hp : ps[i]? = some ps[i] := List.getElem?_eq_getElem (show i < ps.length by omega)
    intro j g hg
    rw [made_succ hp] at hg
    have hlen := made_length (ps := ps) (i := i) (by omega)
    rcases Nat.lt_or_ge j (i + 1) with hj | hj
    · rw [List.getElem?_append_left (by omega)] at hg
      exact made_good (by omega) j g hg
    · rw [List.getElem?_append_right (by omega)] at hg
      have : j - (made ps i).length = 0 := by
        rcases Nat.eq_zero_or_pos (j - (made ps i).length) with h0 | h0
        · exact h0
        · rw [List.getElem?_eq_none (by simp; omega)] at hg; cases hg
      rw [this] at hg
      simp only [List.getElem?_cons_zero, Option.some.injEq] at hg
      subst hg
      rw [show j = i + 1 by omega]
      exact gateOf_ok (by omega)
theorem made_app {ps : List Part} {i : Nat} {p : Part} {g : Gate} (hp : ps[i]? = some p) (hi : i ≤ ps.length) (hg : g = gateOf (i + 1) p) :
    ((((made ps i).map Gate.row).drop 0).take (i + 1)) ++ [g.row] = (made ps (i + 1)).map Gate.row := by
  rw [made_succ hp, List.drop_zero, List.take_of_length_le (by simp [made_length hi]), hg]
  simp

/-- The value for the input i, of a list that is repeated. -/
def openB (xs : List Bool) (i : Nat) : Bool := if 0 < xs.length then xs.getD (i % xs.length) false else false
def opened (xs : List Bool) (n : Nat) : List Bool := (List.range n).map (openB xs)
theorem opened_length (xs : List Bool) (n : Nat) : (opened xs n).length = n := by simp [opened]
theorem opened_succ (xs : List Bool) (n : Nat) : opened xs (n + 1) = opened xs n ++ [openB xs n] := by simp [opened, List.range_succ]
theorem opened_app {xs : List Bool} {i : Nat} {b : Bool} (hb : b = openB xs i) : ((((opened xs i).map brow).drop 0).take i) ++ [[.v (.bool b)]] = (opened xs (i + 1)).map brow := by
  rw [opened_succ, List.drop_zero, List.take_of_length_le (by simp [opened_length]), hb]
  simp [brow]

end Go.Proofs.Ytiehdnjcapjacaa
