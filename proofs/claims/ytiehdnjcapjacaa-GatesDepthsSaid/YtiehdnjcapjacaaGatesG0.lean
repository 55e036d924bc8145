/- What the gates' functions compute, in plain Lean. -/
import Derived.Test.YtiehdnjcapjacaaAWD1
namespace Go.Proofs.Ytiehdnjcapjacaa
open Go Go.AW

structure Gate where
  kind : Int
  a : Int
  b : Int

instance : Inhabited Gate := ⟨⟨0, 0, 0⟩⟩
def Gate.row (g : Gate) : List X := [.v (.int .i64 g.kind), .v (.int .i64 g.a), .v (.int .i64 g.b)]
theorem Gate.row_frees (g : Gate) : X.frees g.row = true := rfl

def operands (k : Int) : Int := if k = 4 then 1 else if k = 5 ∨ k = 6 ∨ k = 7 then 2 else 0

def okArg (i : Nat) (n : Int) (k : Int) (x : Int) : Prop := (k < n → 0 ≤ x ∧ x < i) ∧ (¬ k < n → x = 0)
def okGate (i : Nat) (g : Gate) : Prop := (1 ≤ g.kind ∧ g.kind ≤ 7) ∧ okArg i (operands g.kind) 0 g.a ∧ okArg i (operands g.kind) 1 g.b
def Good (l : List Gate) : Prop := ∀ i g, l[i]? = some g → okGate i g
open Classical in
noncomputable def check (l : List Gate) : Int := if Good l then 0 else 3
theorem check_good {l : List Gate} (h : Good l) : check l = 0 := by simp [check, h]
theorem check_bad {l : List Gate} {i : Nat} {g : Gate} (hg : l[i]? = some g) (h : ¬ okGate i g) : check l = 3 := by
  unfold check
  rw [if_neg (fun hl => h (hl i g hg))]

open Classical in
noncomputable def formed (l : List Gate) : Bool := decide (Good l)
theorem formed_good {l : List Gate} (h : Good l) : formed l = true := by simp [formed, h]
theorem formed_bad {l : List Gate} {i : Nat} {g : Gate} (hg : l[i]? = some g) (h : ¬ okGate i g) : formed l = false := by
  simp only [formed, decide_eq_false_iff_not]
  exact fun hl => h (hl i g hg)
theorem rform {n m : Bool} (h : n = m) : X.v (.bool m) = X.v (.bool n) := by rw [h]
theorem rcheck {n m : Int} (h : n = m) : X.v (.int .i64 m) = X.v (.int .i64 n) := by rw [h]
/-- What holds below i and of i holds below i + 1. -/
theorem below {α : Type} {l : List α} {p : Nat → α → Prop} {i : Nat} {q : α} (h : ∀ j q, j < i → l[j]? = some q → p j q) (hg : l[i]? = some q) (hp : p i q) : ∀ j q, j < i + 1 → l[j]? = some q → p j q := by
  intro j q' hj hq
  rcases Nat.lt_or_ge j i with h1 | h1
  · exact h j q' h1 hq
  · obtain rfl : j = i := by omega
    rw [hg] at hq; cases hq; exact hp
theorem upto {p : Nat → Prop} {i : Nat} (h : ∀ j, j < i → p j) (hp : p i) : ∀ j, j < i + 1 → p j := by
  intro j hj
  rcases Nat.lt_or_ge j i with h1 | h1
  · exact h j h1
  · obtain rfl : j = i := by omega
    exact hp
theorem bad_arg {i k : Nat} {g : Gate} (hk : k < 2) (h : ¬ okArg i (operands g.kind) k (if k = 0 then g.a else g.b)) : ¬ okGate i g := by
  intro ⟨_, h0, h1⟩
  rcases k with _ | _ | k
  · exact h (by simpa using h0)
  · exact h (by simpa using h1)
  · omega

/-- How many gates of a kind. -/
def cnt (l : List Gate) (k : Nat) : Nat := l.countP (fun g => decide (g.kind = (k : Int) ∧ 1 ≤ g.kind ∧ g.kind ≤ 7))
theorem take_succ' {α : Type} {l : List α} {i : Nat} {q : α} (hg : l[i]? = some q) : l.take (i + 1) = l.take i ++ [q] := by
  rw [List.take_add_one, hg]; rfl
theorem cnt_le (l : List Gate) (k i : Nat) : cnt (l.take i) k ≤ i := by
  have h := List.countP_le_length (p := fun g => decide (g.kind = (k : Int) ∧ 1 ≤ g.kind ∧ g.kind ≤ 7)) (l := l.take i)
  have h2 : (l.take i).length ≤ i := by simp; omega
  unfold cnt; omega
theorem cnt_succ {l : List Gate} {i : Nat} {q : Gate} (hg : l[i]? = some q) (k : Nat) : cnt (l.take (i + 1)) k = cnt (l.take i) k + if q.kind = (k : Int) ∧ 1 ≤ q.kind ∧ q.kind ≤ 7 then 1 else 0 := by
  rw [take_succ' hg, cnt, List.countP_append, List.countP_singleton, cnt]
  simp
def cntX (l : List Gate) (i : Nat) (k : Nat) : X := .v (.int .i64 (cnt (l.take i) k))
theorem cntX_free (l : List Gate) (i k : Nat) : (cntX l i k).free = true := rfl
theorem cntX_zero (l : List Gate) : (List.range 8).map (cntX l 0) = [.v (.int .i64 0), .v (.int .i64 0), .v (.int .i64 0), .v (.int .i64 0), .v (.int .i64 0), .v (.int .i64 0), .v (.int .i64 0), .v (.int .i64 0)] := by
  simp [cntX, cnt, List.range_succ, List.range_zero]
theorem cntX_same {l : List Gate} {i : Nat} {q : Gate} (hg : l[i]? = some q) (h : ¬ (1 ≤ q.kind ∧ q.kind ≤ 7)) : (List.range 8).map (cntX l i) = (List.range 8).map (cntX l (i + 1)) := by
  congr 1
  funext k
  simp only [cntX, cnt_succ hg]
  rw [if_neg (by omega)]; rfl
theorem cntX_put {l : List Gate} {i : Nat} {q : Gate} (hg : l[i]? = some q) (h : 1 ≤ q.kind) (h' : q.kind ≤ 7) :
    putL ((List.range 8).map (cntX l i)) (0 + q.kind.toNat * 1) [.v (.int .i64 (cnt (l.take i) q.kind.toNat + 1))] = (List.range 8).map (cntX l (i + 1)) := by
  rw [Nat.zero_add, Nat.mul_one, putL_range (by omega)]
  congr 1
  funext k
  simp only [cntX, cnt_succ hg]
  by_cases hk : k = q.kind.toNat
  · subst hk
    rw [if_pos rfl, if_pos (by omega)]; simp
  · rw [if_neg hk, if_neg (by omega)]; rfl
theorem cntX_get {l : List Gate} {i k : Nat} (h : k < 8) : ((List.range 8).map (cntX l i))[0 + k * 1]? = some (.v (.int .i64 (cnt (l.take i) k))) := by
  rw [Nat.zero_add, Nat.mul_one]; simp [List.getElem?_map, List.getElem?_range h, cntX]

/-- How many gates come from outside. -/
def nin (l : List Gate) : Nat := l.countP (fun g => decide (g.kind = 3))
theorem nin_cnt (l : List Gate) : cnt l 3 = nin l := by
  unfold cnt nin
  congr 1
  funext g
  exact decide_eq_decide.2 (by omega)
theorem nin_succ {l : List Gate} {i : Nat} {q : Gate} (hg : l[i]? = some q) : nin (l.take (i + 1)) = nin (l.take i) + if q.kind = 3 then 1 else 0 := by
  rw [take_succ' hg, nin, List.countP_append, List.countP_singleton, nin]
  simp
theorem nin_take_le (l : List Gate) (i : Nat) : nin (l.take i) ≤ nin l := List.Sublist.countP_le (List.take_sublist i l)
theorem nin_lt {l : List Gate} {i : Nat} {q : Gate} (hg : l[i]? = some q) (h : q.kind = 3) : nin (l.take i) < nin l := by
  have := nin_take_le l (i + 1)
  rw [nin_succ hg, if_pos h] at this; omega
theorem nin_le (l : List Gate) : nin l ≤ l.length := List.countP_le_length

def valOf (out ins : List Bool) (n : Nat) (g : Gate) : Bool :=
  if g.kind = 2 then true else if g.kind = 3 then ins.getD n false else if g.kind = 4 then !out.getD g.a.toNat false
  else if g.kind = 5 then out.getD g.a.toNat false && out.getD g.b.toNat false else if g.kind = 6 then out.getD g.a.toNat false || out.getD g.b.toNat false
  else if g.kind = 7 then out.getD g.a.toNat false != out.getD g.b.toNat false else false
theorem valOf_and {out ins : List Bool} {n : Nat} {g : Gate} (h : g.kind = 5) : valOf out ins n g = (out.getD g.a.toNat false && out.getD g.b.toNat false) := by simp [valOf, h]
theorem valOf_not {out ins : List Bool} {n : Nat} {g : Gate} (h : g.kind = 4) : valOf out ins n g = !out.getD g.a.toNat false := by simp [valOf, h]
theorem valOf_xor {out ins : List Bool} {n : Nat} {g : Gate} (h : g.kind = 7) : valOf out ins n g = (out.getD g.a.toNat false != out.getD g.b.toNat false) := by simp [valOf, h]
theorem valOf_or {out ins : List Bool} {n : Nat} {g : Gate} (h : g.kind = 6) : valOf out ins n g = (out.getD g.a.toNat false || out.getD g.b.toNat false) := by simp [valOf, h]
/-- The values of the first i gates. -/
def outs (l : List Gate) (ins : List Bool) : Nat → List Bool
  | 0 => []
  | i + 1 => outs l ins i ++ (match l[i]? with | some g => [valOf (outs l ins i) ins (nin (l.take i)) g] | none => [])
theorem outs_succ {l : List Gate} {ins : List Bool} {i : Nat} {q : Gate} (hg : l[i]? = some q) : outs l ins (i + 1) = outs l ins i ++ [valOf (outs l ins i) ins (nin (l.take i)) q] := by
  simp [outs, hg]
theorem outs_length {l : List Gate} {ins : List Bool} : ∀ {i : Nat}, i ≤ l.length → (outs l ins i).length = i
  | 0, _ => rfl
  | i + 1, h => by
    rw [outs_succ (List.getElem?_eq_getElem (show i < l.length by omega)), List.length_append, outs_length (by omega)]; rfl

def brow (b : Bool) : List X := [.v (.bool b)]
theorem brow_frees (b : Bool) : X.frees (brow b) = true := rfl
/-- The slice of the values while it is filled. -/
def fill (n : Nat) (out : List Bool) : List (List X) := (out ++ List.replicate (n - out.length) false).map brow
theorem fill_nil (n : Nat) : fill n [] = List.replicate n [.v (.bool false)] := by simp [fill, brow]
theorem fill_length {n : Nat} {out : List Bool} (h : out.length ≤ n) : (fill n out).length = n := by simp [fill]; omega
theorem fill_full {out : List Bool} {n : Nat} (h : out.length = n) : fill n out = out.map brow := by simp [fill, ← h]
theorem fill_row {n : Nat} {out : List Bool} {i : Nat} (hi : out.length = i) (h : i < n) : (fill n out)[0 + i]? = some (brow false) := by
  rw [Nat.zero_add]
  subst hi
  simp [fill, show 0 < n - out.length by omega]
theorem fill_get {n : Nat} {out : List Bool} {i : Nat} (h : i < out.length) : (fill n out)[0 + i]? = some (brow (out.getD i false)) := by
  rw [Nat.zero_add]
  rw [fill, List.map_append, List.getElem?_append_left (by simpa using h)]
  simp [h]
theorem fill_set {n : Nat} {out : List Bool} {i : Nat} (v : Bool) (hi : out.length = i) (h : i < n) : (fill n out).set (0 + i) (putL (brow false) 0 [.v (.bool v)]) = fill n (out ++ [v]) := by
  subst hi
  rw [Nat.zero_add]
  have h1 : List.replicate (n - out.length) false = false :: List.replicate (n - (out.length + 1)) false := by
    rw [show n - out.length = (n - (out.length + 1)) + 1 by omega, List.replicate_succ]
  unfold fill
  rw [h1]
  simp [List.map_append, brow, putL, List.set_append_right]
theorem fill_same {n : Nat} {out : List Bool} (h : out.length < n) : fill n out = fill n (out ++ [false]) := by
  have h1 : List.replicate (n - out.length) false = false :: List.replicate (n - (out.length + 1)) false := by
    rw [show n - out.length = (n - (out.length + 1)) + 1 by omega, List.replicate_succ]
  simp [fill, h1]

theorem nin_zero (l : List Gate) : nin (l.take 0) = 0 := by simp [nin]
theorem head_drop {α β : Type} {f : α → β} {l : List α} {n : Nat} (d : α) (h : n < l.length) : ((l.drop n).map f)[0]? = some (f (l.getD n d)) := by
  simp [h]
theorem tail_drop {α β : Type} (f : α → β) (l : List α) (n : Nat) : (((l.drop n).map f).take ((l.drop n).map f).length).drop 1 = (l.drop (n + 1)).map f := by
  rw [List.take_length, ← List.map_drop, List.drop_drop]
open Classical in
/-- What Eval returns. -/
noncomputable def evalR (l : List Gate) (ins : List Bool) : List Bool × Int := if ¬ Good l then ([], 3) else if ins.length ≠ nin l then ([], 1) else (outs l ins l.length, 0)
def retX (s : Nat) (rows : List (List X)) (e : Int) : X := .tup [.uni s rows, .v (.int .i64 e)]
theorem resX_two (rows : List (List X)) (s : Nat) (e : Int) {r : X} (h : r = retX s rows e) : resX [.uni s rows, .v (.int .i64 e)] = r := by rw [h]; rfl
theorem evalR_form {l : List Gate} (ins : List Bool) (h : ¬ Good l) : evalR l ins = ([], 3) := by simp [evalR, h]
theorem evalR_arg {l : List Gate} {ins : List Bool} (h : Good l) (h' : ins.length ≠ nin l) : evalR l ins = ([], 1) := by simp [evalR, h, h']
theorem evalR_ok {l : List Gate} {ins : List Bool} (h : Good l) (h' : ins.length = nin l) : evalR l ins = (outs l ins l.length, 0) := by simp [evalR, h, h']

theorem retX_ffz (out : List Bool) (e : Int) : (retX 1 (out.map brow) e).ffz = .tup [.fz 1 (out.map brow), .v (.int .i64 e)] := by
  simp only [retX, X.ffz, X.ffzs]
  rw [X.ffzr_frees (Frees.map brow_frees)]
theorem formed_true {l : List Gate} (h : formed l = true) : Good l := by simpa [formed] using h
theorem formed_not {l : List Gate} (h : formed l = false) : ¬ Good l := by simpa [formed] using h
theorem map_row {α : Type} {f : α → List X} {l : List α} (d : α) {n : Nat} (h : n < l.length) : (l.map f)[n]? = some (f (l.getD n d)) := by simp [h]
theorem row0 {out : List Bool} {k : Nat} (h : k < out.length) : (out.map brow)[0 + k]? = some (brow (out.getD k false)) := by
  rw [Nat.zero_add]; exact map_row false h
theorem outs_app {l : List Gate} {ins : List Bool} {i : Nat} {q : Gate} {b : Bool} (hg : l[i]? = some q) (hi : i ≤ l.length) (hb : b = valOf (outs l ins i) ins (nin (l.take i)) q) :
    ((((outs l ins i).map brow).drop 0).take i) ++ [[.v (.bool b)]] = (outs l ins (i + 1)).map brow := by
  rw [outs_succ hg, List.drop_zero, List.take_of_length_le (by simp [outs_length hi]), hb]
  simp [brow]

end Go.Proofs.Ytiehdnjcapjacaa
