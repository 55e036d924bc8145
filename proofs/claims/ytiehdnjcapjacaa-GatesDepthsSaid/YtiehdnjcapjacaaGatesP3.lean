/- The times at which gates are stable, in plain Lean. -/
import Derived.Test.YtiehdnjcapjacaaGatesP2
namespace Go.Proofs.Ytiehdnjcapjacaa
open Go Go.AW

def irow (z : Int) : List X := [.v (.int .i64 z)]
theorem irow_frees (z : Int) : X.frees (irow z) = true := rfl
def mx (x y : Int) : Int := if y > x then y else x
def tOf (out ins : List Int) (n : Nat) (g : Gate) : Int :=
  if g.kind = 3 then ins.getD n 0 else if g.kind = 4 then out.getD g.a.toNat 0 + 10 else if g.kind = 5 ∨ g.kind = 6 ∨ g.kind = 7 then mx (out.getD g.a.toNat 0) (out.getD g.b.toNat 0) + 20 else 0
theorem tOf_in {out ins : List Int} {n : Nat} {g : Gate} (h : g.kind = 3) : tOf out ins n g = ins.getD n 0 := by rw [tOf, if_pos h]
theorem tOf_not {out ins : List Int} {n : Nat} {g : Gate} (h : g.kind = 4) : tOf out ins n g = out.getD g.a.toNat 0 + 10 := by rw [tOf, if_neg (by omega), if_pos h]
theorem tOf_two {out ins : List Int} {n : Nat} {g : Gate} (h : g.kind = 5 ∨ g.kind = 6 ∨ g.kind = 7) : tOf out ins n g = mx (out.getD g.a.toNat 0) (out.getD g.b.toNat 0) + 20 := by rw [tOf, if_neg (by omega), if_neg (by omega), if_pos h]
theorem tOf_none {out ins : List Int} {n : Nat} {g : Gate} (h : ¬ g.kind = 3) (h' : ¬ g.kind = 4) (h'' : ¬ (g.kind = 5 ∨ g.kind = 6 ∨ g.kind = 7)) : tOf out ins n g = 0 := by rw [tOf, if_neg h, if_neg h', if_neg h'']
def touts (l : List Gate) (ins : List Int) : Nat → List Int
  | 0 => []
  | i + 1 => touts l ins i ++ (match l[i]? with | some g => [tOf (touts l ins i) ins (nin (l.take i)) g] | none => [])
theorem touts_succ {l : List Gate} {ins : List Int} {i : Nat} {q : Gate} (hg : l[i]? = some q) : touts l ins (i + 1) = touts l ins i ++ [tOf (touts l ins i) ins (nin (l.take i)) q] := by simp [touts, hg]
theorem touts_length {l : List Gate} {ins : List Int} : ∀ {i : Nat}, i ≤ l.length → (touts l ins i).length = i
  | 0, _ => rfl
  | i + 1, h => by
    rw [touts_succ (List.getElem?_eq_getElem (show i < l.length by omega)), List.length_append, touts_length (by omega)]; rfl
def Small (m : Int) (l : List Int) : Prop := ∀ z ∈ l, 0 ≤ z ∧ z ≤ m
theorem Small.get {m : Int} {l : List Int} (h : Small m l) (hm : 0 ≤ m) (k : Nat) : 0 ≤ l.getD k 0 ∧ l.getD k 0 ≤ m := by
  rcases Nat.lt_or_ge k l.length with hk | hk
  · rw [List.getD_eq_getElem?_getD, List.getElem?_eq_getElem hk]
    exact h _ (List.getElem_mem hk)
  · rw [List.getD_eq_getElem?_getD, List.getElem?_eq_none hk]
    exact ⟨Int.le_refl 0, hm⟩
theorem touts_small {l : List Gate} {ins : List Int} (h : Small 65535 ins) : ∀ i : Nat, Small (65535 + 20 * (i : Int)) (touts l ins i)
  | 0 => fun z hz => by cases hz
  | i + 1 => by
    have ih := touts_small (l := l) h i
    have hs : Small (65535 + 20 * ((i + 1 : Nat) : Int)) (touts l ins i) := fun z hz => by have := ih z hz; omega
    cases hg : l[i]? with
    | none => simpa [touts, hg] using hs
    | some q =>
      rw [touts_succ hg]
      intro z hz
      rcases List.mem_append.1 hz with hz | hz
      · exact hs z hz
      · simp only [List.mem_singleton] at hz
        subst hz
        have h1 := h.get (by omega) (nin (l.take i))
        have h2 := ih.get (by omega) q.a.toNat
        have h3 := ih.get (by omega) q.b.toNat
        simp only [tOf, mx]
        omega
def ifill (n : Nat) (out : List Int) : List (List X) := (out ++ List.replicate (n - out.length) 0).map irow
theorem ifill_nil (n : Nat) : ifill n [] = List.replicate n [.v (.int .i64 0)] := by simp [ifill, irow]
theorem ifill_length {n : Nat} {out : List Int} (h : out.length ≤ n) : (ifill n out).length = n := by simp [ifill]; omega
theorem ifill_full {out : List Int} {n : Nat} (h : out.length = n) : ifill n out = out.map irow := by simp [ifill, ← h]
theorem ifill_row {n : Nat} {out : List Int} {i : Nat} (hi : out.length = i) (h : i < n) : (ifill n out)[0 + i]? = some (irow 0) := by
  rw [Nat.zero_add]
  subst hi
  simp [ifill, show 0 < n - out.length by omega]
theorem ifill_get {n : Nat} {out : List Int} {i : Nat} (h : i < out.length) : (ifill n out)[0 + i]? = some (irow (out.getD i 0)) := by
  rw [Nat.zero_add]
  rw [ifill, List.map_append, List.getElem?_append_left (by simpa using h)]
  simp [h]
theorem ifill_set {n : Nat} {out : List Int} {i : Nat} (v : Int) (hi : out.length = i) (h : i < n) : (ifill n out).set (0 + i) (putL (irow 0) 0 [.v (.int .i64 v)]) = ifill n (out ++ [v]) := by
  subst hi
  rw [Nat.zero_add]
  have h1 : List.replicate (n - out.length) (0 : Int) = 0 :: List.replicate (n - (out.length + 1)) 0 := by
    rw [show n - out.length = (n - (out.length + 1)) + 1 by omega, List.replicate_succ]
  unfold ifill
  rw [h1]
  simp [List.map_append, irow, putL, List.set_append_right]
theorem ifill_same {n : Nat} {out : List Int} (h : out.length < n) : ifill n out = ifill n (out ++ [0]) := by
  have h1 : List.replicate (n - out.length) (0 : Int) = 0 :: List.replicate (n - (out.length + 1)) 0 := by
    rw [show n - out.length = (n - (out.length + 1)) + 1 by omega, List.replicate_succ]
  simp [ifill, h1]
open Classical in
/-- What Depths returns. -/
noncomputable def depthR (l : List Gate) (ins : List Int) : List Int × Int := if ¬ Good l then ([], 3) else if ins.length ≠ nin l then ([], 1) else (touts l ins l.length, 0)
theorem depthR_form {l : List Gate} (ins : List Int) (h : ¬ Good l) : depthR l ins = ([], 3) := by simp [depthR, h]
theorem depthR_arg {l : List Gate} {ins : List Int} (h : Good l) (h' : ins.length ≠ nin l) : depthR l ins = ([], 1) := by simp [depthR, h, h']
theorem depthR_ok {l : List Gate} {ins : List Int} (h : Good l) (h' : ins.length = nin l) : depthR l ins = (touts l ins l.length, 0) := by simp [depthR, h, h']
theorem irow0 {out : List Int} {k : Nat} (h : k < out.length) : (out.map irow)[0 + k]? = some (irow (out.getD k 0)) := by
  rw [Nat.zero_add]; exact map_row 0 h
theorem touts_app {l : List Gate} {ins : List Int} {i : Nat} {q : Gate} {b : Int} (hg : l[i]? = some q) (hi : i ≤ l.length) (hb : b = tOf (touts l ins i) ins (nin (l.take i)) q) :
    ((((touts l ins i).map irow).drop 0).take i) ++ [[.v (.int .i64 b)]] = (touts l ins (i + 1)).map irow := by
  rw [touts_succ hg, List.drop_zero, List.take_of_length_le (by simp [touts_length hi]), hb]
  simp [irow]
end Go.Proofs.Ytiehdnjcapjacaa
