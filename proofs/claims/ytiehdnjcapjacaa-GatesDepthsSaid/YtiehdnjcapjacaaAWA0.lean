/- Part of the abstract walk: values as trees, objects by name, and what they say of the model's values and memory. -/
import Derived.WalkKit
namespace Go.AW
open Go

/-- A value as a walk sees it. -/
inductive X where
  | v (u : Value)
  | no
  | fz (s : Nat) (rows : List (List X))
  | uni (s : Nat) (rows : List (List X))
  | ptr (o s i k : Nat)
  | slc (o s lo n : Nat)
  | mref (o : Nat)
  | fp (row : List X) (k : Nat)
  | agg (xs : List X)
  | tup (xs : List X)
  | clo (fn : Fn) (first caps : List X)

mutual
/-- It names no object. -/
def X.nr : X → Bool
  | .v _ | .no | .fz .. | .uni .. | .fp .. => true
  | .ptr .. | .slc .. | .mref _ => false
  | .agg xs => X.nrs xs
  | .tup xs => X.nrs xs
  | .clo _ a b => X.nrs a && X.nrs b
def X.nrs : List X → Bool
  | [] => true
  | x :: r => x.nr && X.nrs r
end

mutual
/-- It names the object o. -/
def X.ment (o : Nat) : X → Bool
  | .v _ | .no | .fz .. | .uni .. | .fp .. => false
  | .ptr p .. => Nat.beq p o
  | .slc p .. => Nat.beq p o
  | .mref p => Nat.beq p o
  | .agg xs => X.ments o xs
  | .tup xs => X.ments o xs
  | .clo _ a b => X.ments o a || X.ments o b
def X.ments (o : Nat) : List X → Bool
  | [] => false
  | x :: r => x.ment o || X.ments o r
end

mutual
/-- It owns no block, whatever its value. -/
def X.free : X → Bool
  | .v _ | .no | .fz .. | .ptr .. | .slc .. | .mref _ | .fp .. | .clo .. => true
  | .uni .. => false
  | .agg xs => X.frees xs
  | .tup xs => X.frees xs
def X.frees : List X → Bool
  | [] => true
  | x :: r => x.free && X.frees r
end

structure Blk where
  b : Nat
  off : Nat
  cap : Nat

abbrev Fz := Nat → Nat → Option Value

structure Env where
  φ : Fz
  β : Nat → Option Blk
  w : World

/-- A value that fits in one cell. -/
def Single : Value → Prop
  | .agg _ | .tuple _ => False
  | _ => True

def Uniform (s : Nat) (rows : List (List X)) : Prop := ∀ r ∈ rows, r.length = s

mutual
/-- c is what x says; R: the blocks that x owns. -/
def RX (E : Env) : X → Value → List Nat → Prop
  | .v u, c, R => c = u ∧ R = []
  | .no, _, R => R = []
  | .fz s rows, c, R => R = [] ∧ Uniform s rows ∧ ∃ base cap, c = .slice base rows.length cap ∧
      ((rows = [] ∧ cap = 0) ∨ ∃ b off, base = some ⟨b, off, none⟩ ∧ rows.length ≤ cap ∧ RFr E rows b off)
  | .uni s rows, c, R => Uniform s rows ∧ ∃ base cap, c = .slice base rows.length cap ∧
      ((rows = [] ∧ cap = 0 ∧ R = []) ∨ ∃ b off cs ty R', base = some ⟨b, off, none⟩ ∧ E.w.heap[b]? = some (.cells cs ty (0, 0)) ∧
        rows.length ≤ cap ∧ off + cap * s ≤ cs.size ∧ (∀ i, E.φ b i = none) ∧ ROr E rows cs off R' ∧ R = b :: R')
  | .ptr o s i k, c, R => R = [] ∧ ∃ B, E.β o = some B ∧ c = .pointer (some ⟨B.b, B.off + (i * s + k), none⟩)
  | .slc o s lo n, c, R => R = [] ∧ ∃ base cap, c = .slice base n cap ∧
      ((E.β o = none ∧ lo = 0 ∧ n = 0 ∧ cap = 0) ∨ ∃ B, E.β o = some B ∧ lo + cap = B.cap ∧ n ≤ cap ∧ (cap = 0 ∨ base = some ⟨B.b, B.off + lo * s, none⟩))
  | .mref o, c, R => R = [] ∧ ∃ B, E.β o = some B ∧ c = .map (some B.b)
  | .fp row k, c, R => R = [] ∧ ∃ b off, c = .pointer (some ⟨b, off + k, none⟩) ∧ RF E row b off
  | .agg xs, c, R => ∃ cs, c = .agg cs ∧ RXs E xs cs.toList R
  | .tup xs, c, R => ∃ cs, c = .tuple cs ∧ RXt E xs cs.toList R
  | .clo fn first caps, c, R => R = [] ∧ ∃ f cc, c = .func fn f cc ∧ RXt E first f.toList [] ∧ RXt E caps cc.toList []
/-- The cells of a struct by value. -/
def RXs (E : Env) : List X → List Value → List Nat → Prop
  | [], cs, R => cs = [] ∧ R = []
  | x :: r, cs, R => ∃ c cs' R₁ R₂, cs = c :: cs' ∧ Single c ∧ RX E x c R₁ ∧ RXs E r cs' R₂ ∧ R = R₁ ++ R₂
/-- Several values. -/
def RXt (E : Env) : List X → List Value → List Nat → Prop
  | [], cs, R => cs = [] ∧ R = []
  | x :: r, cs, R => ∃ c cs' R₁ R₂, cs = c :: cs' ∧ RX E x c R₁ ∧ RXt E r cs' R₂ ∧ R = R₁ ++ R₂
/-- Frozen cells. -/
def RF (E : Env) : List X → Nat → Nat → Prop
  | [], _, _ => True
  | x :: r, b, off => (∃ u, E.φ b off = some u ∧ Single u ∧ x.nr = true ∧ RX E x u []) ∧ RF E r b (off + 1)
def RFr (E : Env) : List (List X) → Nat → Nat → Prop
  | [], _, _ => True
  | r :: rs, b, off => RF E r b off ∧ RFr E rs b (off + r.length)
/-- Cells of an owned block. -/
def RO (E : Env) : List X → Array Value → Nat → List Nat → Prop
  | [], _, _, R => R = []
  | x :: r, cs, off, R => ∃ u R₁ R₂, cs[off]? = some u ∧ Single u ∧ RX E x u R₁ ∧ RO E r cs (off + 1) R₂ ∧ R = R₁ ++ R₂
def ROr (E : Env) : List (List X) → Array Value → Nat → List Nat → Prop
  | [], _, _, R => R = []
  | r :: rs, cs, off, R => ∃ R₁ R₂, X.nrs r = true ∧ RO E r cs off R₁ ∧ ROr E rs cs (off + r.length) R₂ ∧ R = R₁ ++ R₂
end

/-- What an object holds. -/
inductive Obj where
  | cells (xs : List X)
  | rows (s : Nat) (rs : List (List X))
  | gone

end Go.AW
