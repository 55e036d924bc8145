/- What the gates' functions compute, in plain Lean. -/
import Derived.Test.YtiehdnjcapjacaaAWx1
import Derived.Test.YtiehdnjcapjacaaProg
namespace Go.Proofs.Ytiehdnjcapjacaa
open Go Go.AW

structure Gate where
  kind : Int
  a : Int
  b : Int

instance : Inhabited Gate := ⟨⟨0, 0, 0⟩⟩
def Gate.row (g : Gate) : List X := [.v (.int .i64 g.kind), .v (.int .i64 g.a), .v (.int .i64 g.b)]
theorem Gate.row_frees (g : Gate) : X.frees g.row = true := rfl

def operands (k : Int) : Int := if k = 4 then 1 else if k = 5 ∨ k = 6 ∨ k = 7 then 2 else 0

def okArg (i : Nat) (n : Int) (k : Int) (x : Int) : Prop := (k < n → 0 ≤ x ∧ x < i) ∧ (¬ k < n → x = 0)
def okGate (i : Nat) (g : Gate) : Prop := (1 ≤ g.kind ∧ g.kind ≤ 7) ∧ okArg i (operands g.kind) 0 g.a ∧ okArg i (operands g.kind) 1 g.b
def Good (l : List Gate) : Prop := ∀ i g, l[i]? = some g → okGate i g
open Classical in
noncomputable def check (l : List Gate) : Int := if Good l then 0 else 3
theorem check_good {l : List Gate} (h : Good l) : check l = 0 := by simp [check, h]
theorem check_bad {l : List Gate} {i : Nat} {g : Gate} (hg : l[i]? = some g) (h : ¬ okGate i g) : check l = 3 := by
  unfold check
  rw [if_neg (fun hl => h (hl i g hg))]

open Classical in
noncomputable def formed (l : List Gate) : Bool := decide (Good l)
theorem formed_good {l : List Gate} (h : Good l) : formed l = true := by simp [formed, h]
theorem formed_bad {l : List Gate} {i : Nat} {g : Gate} (hg : l[i]? = some g) (h : ¬ okGate i g) : formed l = false := by
  simp only [formed, decide_eq_false_iff_not]
  exact fun hl => h (hl i g hg)
theorem rform {n m : Bool} (h : n = m) : X.v (.bool m) = X.v (.bool n) := by rw [h]
theorem rcheck {n m : Int} (h : n = m) : X.v (.int .i64 m) = X.v (.int .i64 n) := by rw [h]
/-- What holds below i and of i holds below i + 1. -/
theorem below {α : Type} {l : List α} {p : Nat → α → Prop} {i : Nat} {q : α} (h : ∀ j q, j < i → l[j]? = some q → p j q) (hg : l[i]? = some q) (hp : p i q) : ∀ j q, j < i + 1 → l[j]? = some q → p j q := by
  intro j q' hj hq
  rcases Nat.lt_or_ge j i with h1 | h1
  · exact h j q' h1 hq
  · obtain rfl : j = i := by omega
    rw [hg] at hq; cases hq; exact hp
theorem upto {p : Nat → Prop} {i : Nat} (h : ∀ j, j < i → p j) (hp : p i) : ∀ j, j < i + 1 → p j := by
  intro j hj
  rcases Nat.lt_or_ge j i with h1 | h1
  · exact h j h1
  · obtain rfl : j = i := by omega
    exact hp
theorem bad_arg {i k : Nat} {g : Gate} (hk : k < 2) (h : ¬ okArg i (operands g.kind) k (if k = 0 then g.a else g.b)) : ¬ okGate i g := by
  intro ⟨_, h0, h1⟩
  rcases k with _ | _ | k
  · exact h (by simpa using h0)
  · exact h (by simpa using h1)
  · omega

/-- How many gates of a kind. -/
def cnt (l : List Gate) (k : Nat) : Nat := l.countP (fun g => decide (g.kind = (k : Int) ∧ 1 ≤ g.kind ∧ g.kind ≤ 7))
theorem take_succ' {α : Type} {l : List α} {i : Nat} {q : α} (hg : l[i]? = some q) : l.take (i + 1) = l.take i ++ [q] := by
  rw [List.take_add_one, hg]; rfl
theorem cnt_le (l : List Gate) (k i : Nat) : cnt (l.take i) k ≤ i := by
  have h := List.countP_le_length (p := fun g => decide (g.kind = (k : Int) ∧ 1 ≤ g.kind ∧ g.kind ≤ 7)) (l := l.take i)
  have h2 : (l.take i).length ≤ i := by simp; omega
  unfold cnt; omega
theorem cnt_succ {l : List Gate} {i : Nat} {q : Gate} (hg : l[i]? = some q) (k : Nat) : cnt (l.take (i + 1)) k = cnt (l.take i) k + if q.kind = (k : Int) ∧ 1 ≤ q.kind ∧ q.kind ≤ 7 then 1 else 0 := by
  rw [take_succ' hg, cnt, List.countP_append, List.countP_singleton, cnt]
  simp
def cntX (l : List Gate) (i : Nat) (k : Nat) : X := .v (.int .i64 (cnt (l.take i) k))
theorem cntX_free (l : List Gate) (i k : Nat) : (cntX l i k).free = true := rfl
theorem cntX_zero (l : List Gate) : (List.range 8).map (cntX l 0) = [.v (.int .i64 0), .v (.int .i64 0), .v (.int .i64 0), .v (.int .i64 0), .v (.int .i64 0), .v (.int .i64 0), .v (.int .i64 0), .v (.int .i64 0)] := by
  simp [cntX, cnt, List.range_succ, List.range_zero]
theorem cntX_same {l : List Gate} {i : Nat} {q : Gate} (hg : l[i]? = some q) (h : ¬ (1 ≤ q.kind ∧ q.kind ≤ 7)) : (List.range 8).map (cntX l i) = (List.range 8).map (cntX l (i + 1)) := by
  congr 1
  funext k
  simp only [cntX, cnt_succ hg]
  rw [if_neg (by omega)]; rfl
theorem cntX_put {l : List Gate} {i : Nat} {q : Gate} (hg : l[i]? = some q) (h : 1 ≤ q.kind) (h' : q.kind ≤ 7) :
    putL ((List.range 8).map (cntX l i)) (0 + q.kind.toNat * 1) [.v (.int .i64 (cnt (l.take i) q.kind.toNat + 1))] = (List.range 8).map (cntX l (i + 1)) := by
  rw [Nat.zero_add, Nat.mul_one, putL_range (by omega)]
  congr 1
  funext k
  simp only [cntX, cnt_succ hg]
  by_cases hk : k = q.kind.toNat
  · subst hk
    rw [if_pos rfl, if_pos (by omega)]; simp
  · rw [if_neg hk, if_neg (by omega)]; rfl
theorem cntX_get {l : List Gate} {i k : Nat} (h : k < 8) : ((List.range 8).map (cntX l i))[0 + k * 1]? = some (.v (.int .i64 (cnt (l.take i) k))) := by
  rw [Nat.zero_add, Nat.mul_one]; simp [List.getElem?_map, List.getElem?_range h, cntX]

/-- How many gates come from outside. -/
def nin (l : List Gate) : Nat := l.countP (fun g => decide (g.kind = 3))
theorem nin_cnt (l : List Gate) : cnt l 3 = nin l := by
  unfold cnt nin
  congr 1
  funext g
  exact decide_eq_decide.2 (by omega)
theorem nin_succ {l : List Gate} {i : Nat} {q : Gate} (hg : l[i]? = some q) : nin (l.take (i + 1)) = nin (l.take i) + if q.kind = 3 then 1 else 0 := by
  rw [take_succ' hg, nin, List.countP_append, List.countP_singleton, nin]
  simp
theorem nin_take_le (l : List Gate) (i : Nat) : nin (l.take i) ≤ nin l := List.Sublist.countP_le (List.take_sublist i l)
theorem nin_lt {l : List Gate} {i : Nat} {q : Gate} (hg : l[i]? = some q) (h : q.kind = 3) : nin (l.take i) < nin l := by
  have := nin_take_le l (i + 1)
  rw [nin_succ hg, if_pos h] at this; omega
theorem nin_le (l : List Gate) : nin l ≤ l.length := List.countP_le_length

def valOf (out ins : List Bool) (n : Nat) (g : Gate) : Bool :=
  if g.kind = 2 then true else if g.kind = 3 then ins.getD n false else if g.kind = 4 then !out.getD g.a.toNat false
  else if g.kind = 5 then out.getD g.a.toNat false && out.getD g.b.toNat false else if g.kind = 6 then out.getD g.a.toNat false || out.getD g.b.toNat false
  else if g.kind = 7 then out.getD g.a.toNat false != out.getD g.b.toNat false else false
theorem valOf_and {out ins : List Bool} {n : Nat} {g : Gate} (h : g.kind = 5) : valOf out ins n g = (out.getD g.a.toNat false && out.getD g.b.toNat false) := by simp [valOf, h]
theorem valOf_not {out ins : List Bool} {n : Nat} {g : Gate} (h : g.kind = 4) : valOf out ins n g = !out.getD g.a.toNat false := by simp [valOf, h]
theorem valOf_xor {out ins : List Bool} {n : Nat} {g : Gate} (h : g.kind = 7) : valOf out ins n g = (out.getD g.a.toNat false != out.getD g.b.toNat false) := by simp [valOf, h]
theorem valOf_or {out ins : List Bool} {n : Nat} {g : Gate} (h : g.kind = 6) : valOf out ins n g = (out.getD g.a.toNat false || out.getD g.b.toNat false) := by simp [valOf, h]
/-- The values of the first i gates. -/
def outs (l : List Gate) (ins : List Bool) : Nat → List Bool
  | 0 => []
  | i + 1 => outs l ins i ++ (match l[i]? with | some g => [valOf (outs l ins i) ins (nin (l.take i)) g] | none => [])
theorem outs_succ {l : List Gate} {ins : List Bool} {i : Nat} {q : Gate} (hg : l[i]? = some q) : outs l ins (i + 1) = outs l ins i ++ [valOf (outs l ins i) ins (nin (l.take i)) q] := by
  simp [outs, hg]
theorem outs_length {l : List Gate} {ins : List Bool} : ∀ {i : Nat}, i ≤ l.length → (outs l ins i).length = i
  | 0, _ => rfl
  | i + 1, h => by
    rw [outs_succ (List.getElem?_eq_getElem (show i < l.length by omega)), List.length_append, outs_length (by omega)]; rfl

def brow (b : Bool) : List X := [.v (.bool b)]
theorem brow_frees (b : Bool) : X.frees (brow b) = true := rfl
/-- The slice of the values while it is filled. -/
def fill (n : Nat) (out : List Bool) : List (List X) := (out ++ List.replicate (n - out.length) false).map brow
theorem fill_nil (n : Nat) : fill n [] = List.replicate n [.v (.bool false)] := by simp [fill, brow]
theorem fill_length {n : Nat} {out : List Bool} (h : out.length ≤ n) : (fill n out).length = n := by simp [fill]; omega
theorem fill_full {out : List Bool} {n : Nat} (h : out.length = n) : fill n out = out.map brow := by simp [fill, ← h]
theorem fill_row {n : Nat} {out : List Bool} {i : Nat} (hi : out.length = i) (h : i < n) : (fill n out)[0 + i]? = some (brow false) := by
  rw [Nat.zero_add]
  subst hi
  simp [fill, show 0 < n - out.length by omega]
theorem fill_get {n : Nat} {out : List Bool} {i : Nat} (h : i < out.length) : (fill n out)[0 + i]? = some (brow (out.getD i false)) := by
  rw [Nat.zero_add]
  rw [fill, List.map_append, List.getElem?_append_left (by simpa using h)]
  simp [h]
theorem fill_set {n : Nat} {out : List Bool} {i : Nat} (v : Bool) (hi : out.length = i) (h : i < n) : (fill n out).set (0 + i) (putL (brow false) 0 [.v (.bool v)]) = fill n (out ++ [v]) := by
  subst hi
  rw [Nat.zero_add]
  have h1 : List.replicate (n - out.length) false = false :: List.replicate (n - (out.length + 1)) false := by
    rw [show n - out.length = (n - (out.length + 1)) + 1 by omega, List.replicate_succ]
  unfold fill
  rw [h1]
  simp [List.map_append, brow, putL, List.set_append_right]
theorem fill_same {n : Nat} {out : List Bool} (h : out.length < n) : fill n out = fill n (out ++ [false]) := by
  have h1 : List.replicate (n - out.length) false = false :: List.replicate (n - (out.length + 1)) false := by
    rw [show n - out.length = (n - (out.length + 1)) + 1 by omega, List.replicate_succ]
  simp [fill, h1]

theorem nin_zero (l : List Gate) : nin (l.take 0) = 0 := by simp [nin]
theorem head_drop {α β : Type} {f : α → β} {l : List α} {n : Nat} (d : α) (h : n < l.length) : ((l.drop n).map f)[0]? = some (f (l.getD n d)) := by
  simp [h]
theorem tail_drop {α β : Type} (f : α → β) (l : List α) (n : Nat) : (((l.drop n).map f).take ((l.drop n).map f).length).drop 1 = (l.drop (n + 1)).map f := by
  rw [List.take_length, ← List.map_drop, List.drop_drop]
open Classical in
/-- What Eval returns. -/
noncomputable def evalR (l : List Gate) (ins : List Bool) : List Bool × Int := if ¬ Good l then ([], 3) else if ins.length ≠ nin l then ([], 1) else (outs l ins l.length, 0)
def retX (s : Nat) (rows : List (List X)) (e : Int) : X := .tup [.uni s rows, .v (.int .i64 e)]
theorem resX_two (rows : List (List X)) (s : Nat) (e : Int) {r : X} (h : r = retX s rows e) : resX [.uni s rows, .v (.int .i64 e)] = r := by rw [h]; rfl
theorem evalR_form {l : List Gate} (ins : List Bool) (h : ¬ Good l) : evalR l ins = ([], 3) := by simp [evalR, h]
theorem evalR_arg {l : List Gate} {ins : List Bool} (h : Good l) (h' : ins.length ≠ nin l) : evalR l ins = ([], 1) := by simp [evalR, h, h']
theorem evalR_ok {l : List Gate} {ins : List Bool} (h : Good l) (h' : ins.length = nin l) : evalR l ins = (outs l ins l.length, 0) := by simp [evalR, h, h']

theorem retX_ffz (out : List Bool) (e : Int) : (retX 1 (out.map brow) e).ffz = .tup [.fz 1 (out.map brow), .v (.int .i64 e)] := by
  simp only [retX, X.ffz, X.ffzs]
  rw [X.ffzr_frees (Frees.map brow_frees)]
theorem formed_true {l : List Gate} (h : formed l = true) : Good l := by simpa [formed] using h
theorem formed_not {l : List Gate} (h : formed l = false) : ¬ Good l := by simpa [formed] using h
theorem map_row {α : Type} {f : α → List X} {l : List α} (d : α) {n : Nat} (h : n < l.length) : (l.map f)[n]? = some (f (l.getD n d)) := by simp [h]
theorem row0 {out : List Bool} {k : Nat} (h : k < out.length) : (out.map brow)[0 + k]? = some (brow (out.getD k false)) := by
  rw [Nat.zero_add]; exact map_row false h
theorem outs_app {l : List Gate} {ins : List Bool} {i : Nat} {q : Gate} {b : Bool} (hg : l[i]? = some q) (hi : i ≤ l.length) (hb : b = valOf (outs l ins i) ins (nin (l.take i)) q) :
    ((((outs l ins i).map brow).drop 0).take i) ++ [[.v (.bool b)]] = (outs l ins (i + 1)).map brow := by
  rw [outs_succ hg, List.drop_zero, List.take_of_length_le (by simp [outs_length hi]), hb]
  simp [brow]

end Go.Proofs.Ytiehdnjcapjacaa
/- Facts on the types of the program. -/
namespace Go.Proofs.Ytiehdnjcapjacaa
open Go Go.AW Go.Proofs

theorem ar35 : TY.array Try.prog 35 = some (8, 3, 1) := by kernel_rfl
theorem ar54 : TY.array Try.prog 54 = some (2, 3, 1) := by kernel_rfl
theorem fl38_0 : TY.fld Try.prog 38 0 = some (0, 3) := by kernel_rfl
theorem fl38_1 : TY.fld Try.prog 38 1 = some (1, 3) := by kernel_rfl
theorem fl38_2 : TY.fld Try.prog 38 2 = some (2, 3) := by kernel_rfl
theorem fl57_0 : TY.fld Try.prog 57 0 = some (0, 5) := by kernel_rfl
theorem fl57_1 : TY.fld Try.prog 57 1 = some (1, 5) := by kernel_rfl
theorem fl57_2 : TY.fld Try.prog 57 2 = some (2, 5) := by kernel_rfl
theorem fl61_0 : TY.fld Try.prog 61 0 = some (0, 22) := by kernel_rfl
theorem fl61_1 : TY.fld Try.prog 61 1 = some (1, 59) := by kernel_rfl
theorem ii3 : TY.isInt Try.prog 3 = some .i64 := by kernel_rfl
theorem ii43 : TY.isInt Try.prog 43 = some .u16 := by kernel_rfl
theorem ii5 : TY.isInt Try.prog 5 = some .u8 := by kernel_rfl
theorem ok10 : callOK Try.prog 10 = true := by kernel_rfl
theorem ok11 : callOK Try.prog 11 = true := by kernel_rfl
theorem ok12 : callOK Try.prog 12 = true := by kernel_rfl
theorem ok13 : callOK Try.prog 13 = true := by kernel_rfl
theorem ok14 : callOK Try.prog 14 = true := by kernel_rfl
theorem ok15 : callOK Try.prog 15 = true := by kernel_rfl
theorem ok16 : callOK Try.prog 16 = true := by kernel_rfl
theorem ok17 : callOK Try.prog 17 = true := by kernel_rfl
theorem ok18 : callOK Try.prog 18 = true := by kernel_rfl
theorem ok19 : callOK Try.prog 19 = true := by kernel_rfl
theorem ok20 : callOK Try.prog 20 = true := by kernel_rfl
theorem ok23 : callOK Try.prog 23 = true := by kernel_rfl
theorem ok24 : callOK Try.prog 24 = true := by kernel_rfl
theorem ok25 : callOK Try.prog 25 = true := by kernel_rfl
theorem ok27 : callOK Try.prog 27 = true := by kernel_rfl
theorem ok29 : callOK Try.prog 29 = true := by kernel_rfl
theorem pl38 : TY.places Try.prog 38 = some [(0, 1), (1, 1), (2, 1)] := by kernel_rfl
theorem sh22 : TY.shape Try.prog 22 = some none := by kernel_rfl
theorem sh3 : TY.shape Try.prog 3 = some none := by kernel_rfl
theorem sh35 : TY.shape Try.prog 35 = some (some 8) := by kernel_rfl
theorem sh38 : TY.shape Try.prog 38 = some (some 3) := by kernel_rfl
theorem sh4 : TY.shape Try.prog 4 = some none := by kernel_rfl
theorem sh43 : TY.shape Try.prog 43 = some none := by kernel_rfl
theorem sh5 : TY.shape Try.prog 5 = some none := by kernel_rfl
theorem sh59 : TY.shape Try.prog 59 = some none := by kernel_rfl
theorem si22 : TY.size Try.prog 22 = some 1 := by kernel_rfl
theorem si3 : TY.size Try.prog 3 = some 1 := by kernel_rfl
theorem si35 : TY.size Try.prog 35 = some 8 := by kernel_rfl
theorem si38 : TY.size Try.prog 38 = some 3 := by kernel_rfl
theorem si4 : TY.size Try.prog 4 = some 1 := by kernel_rfl
theorem sl22 : TY.slice Try.prog 22 = some (38, 3, 24) := by kernel_rfl
theorem sl27 : TY.slice Try.prog 27 = some (4, 1, 1) := by kernel_rfl
theorem sl33 : TY.slice Try.prog 33 = some (57, 3, 3) := by kernel_rfl
theorem sl41 : TY.slice Try.prog 41 = some (43, 1, 2) := by kernel_rfl
theorem sl42 : TY.slice Try.prog 42 = some (3, 1, 8) := by kernel_rfl
theorem un4 : Try.prog.underlying 4 = some .bool := by kernel_rfl
theorem ze3 : TY.zero Try.prog 3 = some [.int .i64 0] := by kernel_rfl
theorem ze35 : TY.zero Try.prog 35 = some [.int .i64 0, .int .i64 0, .int .i64 0, .int .i64 0, .int .i64 0, .int .i64 0, .int .i64 0, .int .i64 0] := by kernel_rfl
theorem ze38 : TY.zero Try.prog 38 = some [.int .i64 0, .int .i64 0, .int .i64 0] := by kernel_rfl
theorem ze4 : TY.zero Try.prog 4 = some [.bool false] := by kernel_rfl
theorem ze54 : TY.zero Try.prog 54 = some [.int .i64 0, .int .i64 0] := by kernel_rfl


end Go.Proofs.Ytiehdnjcapjacaa
/- More facts on the types of the program. -/
namespace Go.Proofs.Ytiehdnjcapjacaa
open Go Go.AW Go.Proofs

theorem ok21 : callOK Try.prog 21 = true := by kernel_rfl
theorem ok22 : callOK Try.prog 22 = true := by kernel_rfl
theorem ok26 : callOK Try.prog 26 = true := by kernel_rfl
theorem ok28 : callOK Try.prog 28 = true := by kernel_rfl
theorem pl61 : TY.places Try.prog 61 = some [(0, 1), (1, 1)] := by kernel_rfl
theorem sl48 : TY.slice Try.prog 48 = some (5, 1, 1) := by kernel_rfl
theorem ze61 : TY.zero Try.prog 61 = some [.slice none 0 0, .map none] := by kernel_rfl


end Go.Proofs.Ytiehdnjcapjacaa
/- Gates that are made of parts, and values for their inputs, in plain Lean. -/
namespace Go.Proofs.Ytiehdnjcapjacaa
open Go Go.AW

structure Part where
  kind : Int
  a : Int
  b : Int
instance : Inhabited Part := ⟨⟨0, 0, 0⟩⟩
def Part.row (p : Part) : List X := [.v (.int .u8 p.kind), .v (.int .u8 p.a), .v (.int .u8 p.b)]
def Part.ok (p : Part) : Prop := (Lit.int .u8 p.kind).wf = true ∧ (Lit.int .u8 p.a).wf = true ∧ (Lit.int .u8 p.b).wf = true
def partsOk (ps : List Part) : Prop := ∀ p ∈ ps, p.ok
theorem partsOk.get {ps : List Part} (h : partsOk ps) {i : Nat} {p : Part} (hp : ps[i]? = some p) : (0 ≤ p.kind ∧ p.kind ≤ 255) ∧ (0 ≤ p.a ∧ p.a ≤ 255) ∧ (0 ≤ p.b ∧ p.b ≤ 255) := by
  obtain ⟨h0, h1, h2⟩ := h p (List.mem_of_getElem? hp)
  exact ⟨wf_u8 h0, wf_u8 h1, wf_u8 h2⟩

/-- The gate of a part, behind n gates. -/
def gateOf (n : Nat) (p : Part) : Gate :=
  ⟨1 + p.kind % 7, if 4 ≤ 1 + p.kind % 7 then (n : Int) - 1 - p.a % (n : Int) else 0, if 5 ≤ 1 + p.kind % 7 then (n : Int) - 1 - p.b % (n : Int) else 0⟩
/-- The gates of the first i parts. -/
def made (ps : List Part) : Nat → List Gate
  | 0 => [⟨3, 0, 0⟩]
  | i + 1 => made ps i ++ (match ps[i]? with | some p => [gateOf (i + 1) p] | none => [])
theorem made_succ {ps : List Part} {i : Nat} {p : Part} (hp : ps[i]? = some p) : made ps (i + 1) = made ps i ++ [gateOf (i + 1) p] := by simp [made, hp]
theorem made_length {ps : List Part} : ∀ {i : Nat}, i ≤ ps.length → (made ps i).length = i + 1
  | 0, _ => rfl
  | i + 1, h => by
    rw [made_succ (List.getElem?_eq_getElem (show i < ps.length by omega)), List.length_append, made_length (by omega)]; rfl
theorem mod_in {x : Int} {n : Nat} (h : 0 < n) : 0 ≤ x % (n : Int) ∧ x % (n : Int) < n := ⟨Int.emod_nonneg _ (by omega), Int.emod_lt_of_pos _ (by omega)⟩
theorem gateOf_ok {n : Nat} {p : Part} (hn : 0 < n) : okGate n (gateOf n p) := by
  have h1 := mod_in (x := p.a) hn
  have h2 := mod_in (x := p.b) hn
  simp only [okGate, okArg, operands, gateOf]
  generalize p.a % (n : Int) = u at *
  generalize p.b % (n : Int) = v at *
  exact ⟨by omega, by omega, by omega⟩
theorem made_good {ps : List Part} : ∀ {i : Nat}, i ≤ ps.length → Good (made ps i)
  | 0, _ => by
    intro j g h
    rcases j with _ | j
    · simp [made] at h; subst h; simp [okGate, okArg, operands]
    · simp [made] at h
  | i + 1, h => by
    have hp : ps[i]? = some ps[i] := List.getElem?_eq_getElem (show i < ps.length by omega)
    intro j g hg
    rw [made_succ hp] at hg
    have hlen := made_length (ps := ps) (i := i) (by omega)
    rcases Nat.lt_or_ge j (i + 1) with hj | hj
    · rw [List.getElem?_append_left (by omega)] at hg
      exact made_good (by omega) j g hg
    · rw [List.getElem?_append_right (by omega)] at hg
      have : j - (made ps i).length = 0 := by
        rcases Nat.eq_zero_or_pos (j - (made ps i).length) with h0 | h0
        · exact h0
        · rw [List.getElem?_eq_none (by simp; omega)] at hg; cases hg
      rw [this] at hg
      simp only [List.getElem?_cons_zero, Option.some.injEq] at hg
      subst hg
      rw [show j = i + 1 by omega]
      exact gateOf_ok (by omega)
theorem made_app {ps : List Part} {i : Nat} {p : Part} {g : Gate} (hp : ps[i]? = some p) (hi : i ≤ ps.length) (hg : g = gateOf (i + 1) p) :
    ((((made ps i).map Gate.row).drop 0).take (i + 1)) ++ [g.row] = (made ps (i + 1)).map Gate.row := by
  rw [made_succ hp, List.drop_zero, List.take_of_length_le (by simp [made_length hi]), hg]
  simp

/-- The value for the input i, of a list that is repeated. -/
def openB (xs : List Bool) (i : Nat) : Bool := if 0 < xs.length then xs.getD (i % xs.length) false else false
def opened (xs : List Bool) (n : Nat) : List Bool := (List.range n).map (openB xs)
theorem opened_length (xs : List Bool) (n : Nat) : (opened xs n).length = n := by simp [opened]
theorem opened_succ (xs : List Bool) (n : Nat) : opened xs (n + 1) = opened xs n ++ [openB xs n] := by simp [opened, List.range_succ]
theorem opened_app {xs : List Bool} {i : Nat} {b : Bool} (hb : b = openB xs i) : ((((opened xs i).map brow).drop 0).take i) ++ [[.v (.bool b)]] = (opened xs (i + 1)).map brow := by
  rw [opened_succ, List.drop_zero, List.take_of_length_le (by simp [opened_length]), hb]
  simp [brow]

end Go.Proofs.Ytiehdnjcapjacaa
/- The numbers of gates add up; a value depends on the gates before it: in plain Lean. -/
namespace Go.Proofs.Ytiehdnjcapjacaa
open Go Go.AW

def sumF (c : Nat → Nat) : Nat → Nat
  | 0 => 0
  | k + 1 => sumF c k + c k
theorem sumF_le {c : Nat → Nat} {m : Nat} (h : ∀ k, c k ≤ m) : ∀ k, sumF c k ≤ k * m
  | 0 => Nat.zero_le _
  | k + 1 => by
    have := sumF_le h k
    have h1 := h k
    rw [sumF, Nat.add_mul, Nat.one_mul]; omega
theorem cnt_all (l : List Gate) (k : Nat) : cnt l k ≤ l.length := List.countP_le_length
theorem cnt_app (a b : List Gate) (k : Nat) : cnt (a ++ b) k = cnt a k + cnt b k := List.countP_append
theorem cnt_cons (g : Gate) (l : List Gate) (k : Nat) : cnt (g :: l) k = cnt l k + if g.kind = (k : Int) ∧ 1 ≤ g.kind ∧ g.kind ≤ 7 then 1 else 0 := by
  simp [cnt, List.countP_cons]
theorem cnt_sum : ∀ l : List Gate, sumF (cnt l) 8 = l.countP (fun g => decide (1 ≤ g.kind ∧ g.kind ≤ 7))
  | [] => rfl
  | g :: l => by
    have ih := cnt_sum l
    rw [List.countP_cons]
    simp only [sumF, cnt_cons] at ih ⊢
    by_cases h : 1 ≤ g.kind ∧ g.kind ≤ 7
    · have hk : g.kind = 1 ∨ g.kind = 2 ∨ g.kind = 3 ∨ g.kind = 4 ∨ g.kind = 5 ∨ g.kind = 6 ∨ g.kind = 7 := by omega
      rcases hk with hk | hk | hk | hk | hk | hk | hk <;> simp [hk, -Bool.decide_and] <;> omega
    · simp only [h, and_false, if_false, decide_false, Bool.false_eq_true]
      omega
theorem good_count : ∀ {l : List Gate}, (∀ g ∈ l, 1 ≤ g.kind ∧ g.kind ≤ 7) → l.countP (fun g => decide (1 ≤ g.kind ∧ g.kind ≤ 7)) = l.length := by
  intro l h
  rw [List.countP_eq_length]
  intro g hg
  exact decide_eq_true (h g hg)
theorem Good.mem {l : List Gate} (h : Good l) : ∀ g ∈ l, 1 ≤ g.kind ∧ g.kind ≤ 7 := by
  intro g hg
  obtain ⟨i, hi⟩ := List.getElem?_of_mem hg
  exact (h i g hi).1
def more (l : List Gate) : List Gate := l ++ [⟨-3, 0, 0⟩, ⟨8, 0, 0⟩]
theorem more_length (l : List Gate) : (more l).length = l.length + 2 := by simp [more]
theorem more_sum {l : List Gate} (h : Good l) : sumF (cnt (more l)) 8 = l.length := by
  rw [cnt_sum, more, List.countP_append, good_count h.mem]
  rfl
theorem more_seven (l : List Gate) : cnt (more l) 7 = cnt l 7 := by
  rw [more, cnt_app]; rfl
theorem more_none (l : List Gate) : cnt (more l) 0 = 0 := by
  simp only [cnt, List.countP_eq_zero]
  intro g _
  simp only [decide_eq_true_eq]
  omega

theorem Good.take {l : List Gate} (h : Good l) (k : Nat) : Good (l.take k) := by
  intro i g hg
  rw [List.getElem?_take] at hg
  split at hg
  · exact h i g hg
  · cases hg
theorem outs_take {l : List Gate} {ins : List Bool} {k : Nat} (hk : k ≤ l.length) : ∀ {i : Nat}, i ≤ k → outs (l.take k) (ins.take (nin (l.take k))) i = outs l ins i
  | 0, _ => rfl
  | i + 1, hi => by
    have hg : l[i]? = some l[i] := List.getElem?_eq_getElem (show i < l.length by omega)
    have hg' : (l.take k)[i]? = some l[i] := by rw [List.getElem?_take_of_lt (by omega)]; exact hg
    rw [outs_succ hg, outs_succ hg', outs_take hk (by omega)]
    congr 2
    have ht : (l.take k).take i = l.take i := by rw [List.take_take, Nat.min_eq_left (by omega)]
    rw [ht]
    unfold valOf
    by_cases h3 : l[i].kind = 3
    · have hlt : nin (l.take i) < nin (l.take k) := by
        have := nin_lt hg' h3
        rwa [ht] at this
      simp [h3, List.getElem?_take_of_lt hlt]
    · simp [h3]
end Go.Proofs.Ytiehdnjcapjacaa
/- The times at which gates are stable, in plain Lean. -/
namespace Go.Proofs.Ytiehdnjcapjacaa
open Go Go.AW

def irow (z : Int) : List X := [.v (.int .i64 z)]
theorem irow_frees (z : Int) : X.frees (irow z) = true := rfl
def mx (x y : Int) : Int := if y > x then y else x
def tOf (out ins : List Int) (n : Nat) (g : Gate) : Int :=
  if g.kind = 3 then ins.getD n 0 else if g.kind = 4 then out.getD g.a.toNat 0 + 10 else if g.kind = 5 ∨ g.kind = 6 ∨ g.kind = 7 then mx (out.getD g.a.toNat 0) (out.getD g.b.toNat 0) + 20 else 0
theorem tOf_in {out ins : List Int} {n : Nat} {g : Gate} (h : g.kind = 3) : tOf out ins n g = ins.getD n 0 := by rw [tOf, if_pos h]
theorem tOf_not {out ins : List Int} {n : Nat} {g : Gate} (h : g.kind = 4) : tOf out ins n g = out.getD g.a.toNat 0 + 10 := by rw [tOf, if_neg (by omega), if_pos h]
theorem tOf_two {out ins : List Int} {n : Nat} {g : Gate} (h : g.kind = 5 ∨ g.kind = 6 ∨ g.kind = 7) : tOf out ins n g = mx (out.getD g.a.toNat 0) (out.getD g.b.toNat 0) + 20 := by rw [tOf, if_neg (by omega), if_neg (by omega), if_pos h]
theorem tOf_none {out ins : List Int} {n : Nat} {g : Gate} (h : ¬ g.kind = 3) (h' : ¬ g.kind = 4) (h'' : ¬ (g.kind = 5 ∨ g.kind = 6 ∨ g.kind = 7)) : tOf out ins n g = 0 := by rw [tOf, if_neg h, if_neg h', if_neg h'']
def touts (l : List Gate) (ins : List Int) : Nat → List Int
  | 0 => []
  | i + 1 => touts l ins i ++ (match l[i]? with | some g => [tOf (touts l ins i) ins (nin (l.take i)) g] | none => [])
theorem touts_succ {l : List Gate} {ins : List Int} {i : Nat} {q : Gate} (hg : l[i]? = some q) : touts l ins (i + 1) = touts l ins i ++ [tOf (touts l ins i) ins (nin (l.take i)) q] := by simp [touts, hg]
theorem touts_length {l : List Gate} {ins : List Int} : ∀ {i : Nat}, i ≤ l.length → (touts l ins i).length = i
  | 0, _ => rfl
  | i + 1, h => by
    rw [touts_succ (List.getElem?_eq_getElem (show i < l.length by omega)), List.length_append, touts_length (by omega)]; rfl
def Small (m : Int) (l : List Int) : Prop := ∀ z ∈ l, 0 ≤ z ∧ z ≤ m
theorem Small.get {m : Int} {l : List Int} (h : Small m l) (hm : 0 ≤ m) (k : Nat) : 0 ≤ l.getD k 0 ∧ l.getD k 0 ≤ m := by
  rcases Nat.lt_or_ge k l.length with hk | hk
  · rw [List.getD_eq_getElem?_getD, List.getElem?_eq_getElem hk]
    exact h _ (List.getElem_mem hk)
  · rw [List.getD_eq_getElem?_getD, List.getElem?_eq_none hk]
    exact ⟨Int.le_refl 0, hm⟩
theorem touts_small {l : List Gate} {ins : List Int} (h : Small 65535 ins) : ∀ i : Nat, Small (65535 + 20 * (i : Int)) (touts l ins i)
  | 0 => fun z hz => by cases hz
  | i + 1 => by
    have ih := touts_small (l := l) h i
    have hs : Small (65535 + 20 * ((i + 1 : Nat) : Int)) (touts l ins i) := fun z hz => by have := ih z hz; omega
    cases hg : l[i]? with
    | none => simpa [touts, hg] using hs
    | some q =>
      rw [touts_succ hg]
      intro z hz
      rcases List.mem_append.1 hz with hz | hz
      · exact hs z hz
      · simp only [List.mem_singleton] at hz
        subst hz
        have h1 := h.get (by omega) (nin (l.take i))
        have h2 := ih.get (by omega) q.a.toNat
        have h3 := ih.get (by omega) q.b.toNat
        simp only [tOf, mx]
        omega
def ifill (n : Nat) (out : List Int) : List (List X) := (out ++ List.replicate (n - out.length) 0).map irow
theorem ifill_nil (n : Nat) : ifill n [] = List.replicate n [.v (.int .i64 0)] := by simp [ifill, irow]
theorem ifill_length {n : Nat} {out : List Int} (h : out.length ≤ n) : (ifill n out).length = n := by simp [ifill]; omega
theorem ifill_full {out : List Int} {n : Nat} (h : out.length = n) : ifill n out = out.map irow := by simp [ifill, ← h]
theorem ifill_row {n : Nat} {out : List Int} {i : Nat} (hi : out.length = i) (h : i < n) : (ifill n out)[0 + i]? = some (irow 0) := by
  rw [Nat.zero_add]
  subst hi
  simp [ifill, show 0 < n - out.length by omega]
theorem ifill_get {n : Nat} {out : List Int} {i : Nat} (h : i < out.length) : (ifill n out)[0 + i]? = some (irow (out.getD i 0)) := by
  rw [Nat.zero_add]
  rw [ifill, List.map_append, List.getElem?_append_left (by simpa using h)]
  simp [h]
theorem ifill_set {n : Nat} {out : List Int} {i : Nat} (v : Int) (hi : out.length = i) (h : i < n) : (ifill n out).set (0 + i) (putL (irow 0) 0 [.v (.int .i64 v)]) = ifill n (out ++ [v]) := by
  subst hi
  rw [Nat.zero_add]
  have h1 : List.replicate (n - out.length) (0 : Int) = 0 :: List.replicate (n - (out.length + 1)) 0 := by
    rw [show n - out.length = (n - (out.length + 1)) + 1 by omega, List.replicate_succ]
  unfold ifill
  rw [h1]
  simp [List.map_append, irow, putL, List.set_append_right]
theorem ifill_same {n : Nat} {out : List Int} (h : out.length < n) : ifill n out = ifill n (out ++ [0]) := by
  have h1 : List.replicate (n - out.length) (0 : Int) = 0 :: List.replicate (n - (out.length + 1)) 0 := by
    rw [show n - out.length = (n - (out.length + 1)) + 1 by omega, List.replicate_succ]
  simp [ifill, h1]
open Classical in
/-- What Depths returns. -/
noncomputable def depthR (l : List Gate) (ins : List Int) : List Int × Int := if ¬ Good l then ([], 3) else if ins.length ≠ nin l then ([], 1) else (touts l ins l.length, 0)
theorem depthR_form {l : List Gate} (ins : List Int) (h : ¬ Good l) : depthR l ins = ([], 3) := by simp [depthR, h]
theorem depthR_arg {l : List Gate} {ins : List Int} (h : Good l) (h' : ins.length ≠ nin l) : depthR l ins = ([], 1) := by simp [depthR, h, h']
theorem depthR_ok {l : List Gate} {ins : List Int} (h : Good l) (h' : ins.length = nin l) : depthR l ins = (touts l ins l.length, 0) := by simp [depthR, h, h']
theorem irow0 {out : List Int} {k : Nat} (h : k < out.length) : (out.map irow)[0 + k]? = some (irow (out.getD k 0)) := by
  rw [Nat.zero_add]; exact map_row 0 h
theorem touts_app {l : List Gate} {ins : List Int} {i : Nat} {q : Gate} {b : Int} (hg : l[i]? = some q) (hi : i ≤ l.length) (hb : b = tOf (touts l ins i) ins (nin (l.take i)) q) :
    ((((touts l ins i).map irow).drop 0).take i) ++ [[.v (.int .i64 b)]] = (touts l ins (i + 1)).map irow := by
  rw [touts_succ hg, List.drop_zero, List.take_of_length_le (by simp [touts_length hi]), hb]
  simp [irow]
end Go.Proofs.Ytiehdnjcapjacaa
/- The walks through the gates' functions. -/
namespace Go.Proofs.Ytiehdnjcapjacaa
open Go Go.AW Go.Proofs



set_option maxHeartbeats 1000000 in
theorem operands_spec (k : Int) : ACalls Try.prog 23 [.v (.int .i64 k)] [] [] (fun r o => r = .v (.int .i64 (operands k)) ∧ o = []) := by
  refine ACalls.of Try.func23 rfl rfl rfl (n := 10) (by decide) (Nat.le_of_ble_eq_true rfl) ?_
  refine AWp.seq ?_
  refine AWp.region ?_
  refine AOps.val (Y.assign rfl rfl) (by decide) ?_
  refine AOps.nil ?_
  refine AWp.seq ?_
  refine AWp.seq ?_
  refine AWp.region ?_
  first | refine AOps.val (Y.move rfl rfl) (by decide) ?_ | refine AOps.moveU rfl (by decide) ?_
  refine AOps.nil ?_
  refine AWp.block ?_
  refine AWp.seq ?_
  refine AWp.region ?_
  refine AOps.val (Y.eql rfl rfl) (by decide) ?_
  first | refine AOps.val (Y.assign rfl rfl) (by decide) ?_ | refine AOps.assignU rfl (by decide) ?_
  refine AOps.nil ?_
  refine AWp.condD rfl (fun c4 => ?_) (fun c4 => ?_)
  · refine AWp.seq ?_
    refine AWp.region ?_
    refine AOps.val (Y.assign rfl rfl) (by decide) ?_
    refine AOps.nil ?_
    refine AWp.ret ?_
    exact ⟨_, _, rfl, rfl, by simp_all [operands, resX]⟩
  · refine AWp.seq ?_
    refine AWp.seq ?_
    refine AWp.region ?_
    refine AOps.val (Y.eql rfl rfl) (by decide) ?_
    first | refine AOps.val (Y.assign rfl rfl) (by decide) ?_ | refine AOps.assignU rfl (by decide) ?_
    refine AOps.nil ?_
    refine AWp.condKD rfl (fun c6 => ?_) (fun c6 => ?_)
    · refine AWp.skip ?_
      refine AWp.condT rfl ?_
      refine AWp.seq ?_
      refine AWp.region ?_
      refine AOps.val (Y.assign rfl rfl) (by decide) ?_
      refine AOps.nil ?_
      refine AWp.ret ?_
      exact ⟨_, _, rfl, rfl, by simp_all [operands, resX]⟩
    · refine AWp.seq ?_
      refine AWp.region ?_
      refine AOps.val (Y.eql rfl rfl) (by decide) ?_
      first | refine AOps.val (Y.assign rfl rfl) (by decide) ?_ | refine AOps.assignU rfl (by decide) ?_
      refine AOps.nil ?_
      refine AWp.condKD rfl (fun c6 => ?_) (fun c6 => ?_)
      · refine AWp.skip ?_
        refine AWp.condT rfl ?_
        refine AWp.seq ?_
        refine AWp.region ?_
        refine AOps.val (Y.assign rfl rfl) (by decide) ?_
        refine AOps.nil ?_
        refine AWp.ret ?_
        exact ⟨_, _, rfl, rfl, by simp_all [operands, resX]⟩
      · refine AWp.region ?_
        refine AOps.val (Y.eql rfl rfl) (by decide) ?_
        first | refine AOps.val (Y.assign rfl rfl) (by decide) ?_ | refine AOps.assignU rfl (by decide) ?_
        refine AOps.nil ?_
        refine AWp.condKD rfl (fun c6 => ?_) (fun c6 => ?_)
        · refine AWp.seq ?_
          refine AWp.region ?_
          refine AOps.val (Y.assign rfl rfl) (by decide) ?_
          refine AOps.nil ?_
          refine AWp.ret ?_
          exact ⟨_, _, rfl, rfl, by simp_all [operands, resX]⟩
        · refine AWp.skip ?_
          refine AWp.seq ?_
          refine AWp.region ?_
          refine AOps.val (Y.assign rfl rfl) (by decide) ?_
          refine AOps.nil ?_
          refine AWp.ret ?_
          exact ⟨_, _, rfl, rfl, by simp_all [operands, resX]⟩

set_option maxHeartbeats 1000000 in
theorem check_spec {l : List Gate} (hl : l.length ≤ 4611686018427387904) : ACalls Try.prog 12 [.fz 3 (l.map Gate.row)] [] [] (fun r o => r = .v (.int .i64 (check l)) ∧ o = []) := by
  refine ACalls.of Try.func12 rfl rfl rfl (n := 47) (by decide) (Nat.le_of_ble_eq_true rfl) ?_
  refine AWp.seq ?_
  refine AWp.region ?_
  refine AOps.val (Y.assign rfl rfl) (by decide) ?_
  refine AOps.nil ?_
  refine AWp.seq ?_
  refine AWp.seq ?_
  refine AWp.region ?_
  first | refine AOps.val (Y.move rfl rfl) (by decide) ?_ | refine AOps.moveU rfl (by decide) ?_
  refine AOps.val (Y.len sl22 rfl (n := l.length) (congrArg some (List.length_map ..))) (by decide) ?_
  refine AOps.val (Y.move rfl rfl) (by decide) ?_
  refine AOps.nil ?_
  refine AWp.block ?_
  refine AWp.loop (fun (ix : Nat) => ⟨[(9, .v (.int .i64 ((ix : Int)))), (7, .fz 3 (l.map Gate.row)), (8, .v (.int .i64 ((l.length : Int))))], []⟩) (fun ix => ix ≤ l.length ∧ ∀ j q, j < ix → l[j]? = some q → okGate j q) (fun ix => l.length - ix) (0) (⟨by omega, by intro j q h; omega⟩) (Le.mk (by repeat (first | exact SubL.nil | refine SubL.cons rfl ?_)) (by repeat (first | exact SubL.nil | refine SubL.cons rfl ?_))) (fun ix hI => ?_)
  refine AWp.seq ?_
  refine AWp.region ?_
  refine AOps.val (Y.lss rfl rfl) (by decide) ?_
  refine AOps.nil ?_
  refine AWp.seq ?_
  refine AWp.condD rfl (fun c10 => ?_) (fun c10 => ?_)
  · obtain ⟨q, hg⟩ : ∃ q, l[ix]? = some q := ⟨_, List.getElem?_eq_getElem (by omega)⟩
    refine AWp.skip ?_
    refine AWp.seq ?_
    refine AWp.block ?_
    refine AWp.seq ?_
    refine AWp.region ?_
    first | refine AOps.val (Y.move rfl rfl) (by decide) ?_ | refine AOps.moveU rfl (by decide) ?_
    refine AOps.val (Y.indexF sl22 rfl rfl rfl (getElem?_map' hg)) (by decide) ?_
    refine AOps.val (Y.loadA sh38 rfl rfl (Nat.le_of_ble_eq_true rfl) rfl rfl) (by decide) ?_
    refine AOps.alloc 104 ze38 rfl rfl (by decide) ?_
    first | refine AOps.val (Y.assign rfl rfl) (by decide) ?_ | refine AOps.assignU rfl (by decide) ?_
    first | refine AOps.storeC si38 rfl rfl rfl rfl rfl rfl (Nat.le_of_ble_eq_true rfl) rfl ?_ | refine AOps.storeR si38 rfl rfl rfl rfl rfl rfl rfl (by first | assumption | exact getElem?_map' (by assumption)) (Nat.le_of_ble_eq_true rfl) ?_
    refine AOps.nil ?_
    refine AWp.seq ?_
    refine AWp.seq ?_
    refine AWp.region ?_
    refine AOps.val (Y.fieldAddr fl38_0 rfl rfl) (by decide) ?_
    refine AOps.val (Y.load sh3 rfl rfl rfl rfl) (by decide) ?_
    refine AOps.val (Y.lss rfl rfl) (by decide) ?_
    first | refine AOps.val (Y.move rfl rfl) (by decide) ?_ | refine AOps.moveU rfl (by decide) ?_
    refine AOps.splitD (d := 17) rfl (fun c17 => ?_) (fun c17 => ?_)
    · refine AOps.guardSkipV (d := 17) rfl (by decide) (by decide) rfl rfl ?_
      refine AOps.guardSkipV (d := 17) rfl (by decide) (by decide) rfl rfl ?_
      refine AOps.guardSkipV (d := 17) rfl (by decide) (by decide) rfl rfl ?_
      refine AOps.val (Y.pick rfl rfl rfl) (by decide) ?_
      refine AOps.nil ?_
      refine AWp.condT rfl ?_
      refine AWp.seq ?_
      refine AWp.region ?_
      refine AOps.val (Y.assign rfl rfl) (by decide) ?_
      refine AOps.nil ?_
      refine AWp.ret ?_
      exact ⟨_, _, rfl, rfl, rcheck (check_bad hg (by simp only [okGate]; omega)), rfl⟩
    · refine AOps.guardRun (d := 17) rfl (by decide) rfl ?_
      refine AOps.val (Y.fieldAddr fl38_0 rfl rfl) (by decide) ?_
      refine AOps.guardRun (d := 17) rfl (by decide) rfl ?_
      refine AOps.val (Y.load sh3 rfl rfl rfl rfl) (by decide) ?_
      refine AOps.guardRun (d := 17) rfl (by decide) rfl ?_
      refine AOps.val (Y.gtr rfl rfl) (by decide) ?_
      refine AOps.val (Y.pick rfl rfl rfl) (by decide) ?_
      refine AOps.nil ?_
      refine AWp.condD rfl (fun c21 => ?_) (fun c21 => ?_)
      · refine AWp.seq ?_
        refine AWp.region ?_
        refine AOps.val (Y.assign rfl rfl) (by decide) ?_
        refine AOps.nil ?_
        refine AWp.ret ?_
        exact ⟨_, _, rfl, rfl, rcheck (check_bad hg (by simp only [okGate]; omega)), rfl⟩
      · refine AWp.skip ?_
        refine AWp.seq ?_
        refine AWp.region ?_
        refine AOps.val (Y.fieldAddr fl38_1 rfl rfl) (by decide) ?_
        refine AOps.val (Y.load sh3 rfl rfl rfl rfl) (by decide) ?_
        refine AOps.val (Y.fieldAddr fl38_2 rfl rfl) (by decide) ?_
        refine AOps.val (Y.load sh3 rfl rfl rfl rfl) (by decide) ?_
        refine AOps.val (Y.buildA ar54 ze54 rfl rfl rfl) (by decide) ?_
        refine AOps.val (Y.move rfl rfl) (by decide) ?_
        refine AOps.nil ?_
        refine AWp.block ?_
        refine AWp.loop (fun (k : Nat) => ⟨[(27, .v (.int .i64 ((k : Int)))), (26, .agg [.v (.int .i64 (q.a)), .v (.int .i64 (q.b))]), (3, .v (.int .i64 ((ix : Int)))), (4, .ptr 104 0 0 0), (9, .v (.int .i64 ((ix : Int)))), (7, .fz 3 (l.map Gate.row)), (8, .v (.int .i64 ((l.length : Int))))], [(104, .cells (Gate.row q))]⟩) (fun k => k ≤ 2 ∧ ∀ j : Nat, j < k → okArg ix (operands q.kind) j (if j = 0 then q.a else q.b)) (fun k => 2 - k) (0) (⟨by omega, by intro j h; omega⟩) (Le.mk (by repeat (first | exact SubL.nil | refine SubL.cons rfl ?_)) (by repeat (first | exact SubL.nil | refine SubL.cons rfl ?_))) (fun k hk => ?_)
        refine AWp.seq ?_
        refine AWp.region ?_
        refine AOps.val (Y.lss rfl rfl) (by decide) ?_
        refine AOps.nil ?_
        refine AWp.seq ?_
        refine AWp.condD rfl (fun c28 => ?_) (fun c28 => ?_)
        · refine AWp.skip ?_
          refine AWp.seq ?_
          refine AWp.block ?_
          refine AWp.seq ?_
          refine AWp.region ?_
          first | refine AOps.val (Y.move rfl rfl) (by decide) ?_ | refine AOps.moveU rfl (by decide) ?_
          refine AOps.val (Y.indexA (m := k) (y := .v (.int .i64 (if k = 0 then q.a else q.b))) ar54 sh3 rfl rfl rfl (by omega) (by rcases k with _ | _ | k <;> first | rfl | omega) rfl) (by decide) ?_
          first | refine AOps.val (Y.assign rfl rfl) (by decide) ?_ | refine AOps.assignU rfl (by decide) ?_
          first | refine AOps.val (Y.assign rfl rfl) (by decide) ?_ | refine AOps.assignU rfl (by decide) ?_
          refine AOps.nil ?_
          refine AWp.seq ?_
          refine AWp.region ?_
          first | refine AOps.val (Y.move rfl rfl) (by decide) ?_ | refine AOps.moveU rfl (by decide) ?_
          refine AOps.val (Y.fieldAddr fl38_0 rfl rfl) (by decide) ?_
          refine AOps.val (Y.load sh3 rfl rfl rfl rfl) (by decide) ?_
          refine AOps.callP ok23 (operands_spec _) rfl (.keep rfl rfl .nil) (by decide) rfl ?_
          refine AOps.val (Y.lss rfl rfl) (by decide) ?_
          refine AOps.nil ?_
          refine AWp.condD rfl (fun c35 => ?_) (fun c35 => ?_)
          · refine AWp.seq ?_
            refine AWp.region ?_
            first | refine AOps.val (Y.move rfl rfl) (by decide) ?_ | refine AOps.moveU rfl (by decide) ?_
            refine AOps.val (Y.lss rfl rfl) (by decide) ?_
            first | refine AOps.val (Y.move rfl rfl) (by decide) ?_ | refine AOps.moveU rfl (by decide) ?_
            refine AOps.splitD (d := 38) rfl (fun c38 => ?_) (fun c38 => ?_)
            · refine AOps.guardSkipV (d := 38) rfl (by decide) (by decide) rfl rfl ?_
              refine AOps.guardSkipV (d := 38) rfl (by decide) (by decide) rfl rfl ?_
              refine AOps.guardSkipV (d := 38) rfl (by decide) (by decide) rfl rfl ?_
              refine AOps.val (Y.pick rfl rfl rfl) (by decide) ?_
              refine AOps.nil ?_
              refine AWp.condT rfl ?_
              refine AWp.seq ?_
              refine AWp.region ?_
              refine AOps.val (Y.assign rfl rfl) (by decide) ?_
              refine AOps.nil ?_
              refine AWp.ret ?_
              exact ⟨_, _, rfl, rfl, rcheck (check_bad hg (bad_arg (k := k) (by omega) (by simp only [okArg]; omega))), rfl⟩
            · refine AOps.guardRun (d := 38) rfl (by decide) rfl ?_
              first | refine AOps.val (Y.move rfl rfl) (by decide) ?_ | refine AOps.moveU rfl (by decide) ?_
              refine AOps.guardRun (d := 38) rfl (by decide) rfl ?_
              first | refine AOps.val (Y.move rfl rfl) (by decide) ?_ | refine AOps.moveU rfl (by decide) ?_
              refine AOps.guardRun (d := 38) rfl (by decide) rfl ?_
              refine AOps.val (Y.geq rfl rfl) (by decide) ?_
              refine AOps.val (Y.pick rfl rfl rfl) (by decide) ?_
              refine AOps.nil ?_
              refine AWp.condD rfl (fun c42 => ?_) (fun c42 => ?_)
              · refine AWp.seq ?_
                refine AWp.region ?_
                refine AOps.val (Y.assign rfl rfl) (by decide) ?_
                refine AOps.nil ?_
                refine AWp.ret ?_
                exact ⟨_, _, rfl, rfl, rcheck (check_bad hg (bad_arg (k := k) (by omega) (by simp only [okArg]; omega))), rfl⟩
              · refine AWp.skip ?_
                refine AWp.region ?_
                first | refine AOps.val (Y.addI rfl rfl (by omega)) (by decide) ?_ | refine AOps.val (Y.add rfl rfl rfl) (by decide) ?_
                first | refine AOps.val (Y.move rfl rfl) (by decide) ?_ | refine AOps.moveU rfl (by decide) ?_
                refine AOps.nil ?_
                exact ⟨k + 1, ⟨by omega, upto hk.2 (by simp only [okArg]; omega)⟩, by omega, Le.mk (by repeat (first | exact SubL.nil | refine SubL.cons rfl ?_)) (by repeat (first | exact SubL.nil | refine SubL.cons rfl ?_))⟩
          · refine AWp.seq ?_
            refine AWp.region ?_
            first | refine AOps.val (Y.move rfl rfl) (by decide) ?_ | refine AOps.moveU rfl (by decide) ?_
            refine AOps.val (Y.neq rfl rfl) (by decide) ?_
            refine AOps.nil ?_
            refine AWp.condD rfl (fun c44 => ?_) (fun c44 => ?_)
            · refine AWp.seq ?_
              refine AWp.region ?_
              refine AOps.val (Y.assign rfl rfl) (by decide) ?_
              refine AOps.nil ?_
              refine AWp.ret ?_
              exact ⟨_, _, rfl, rfl, rcheck (check_bad hg (bad_arg (k := k) (by omega) (by simp only [okArg]; omega))), rfl⟩
            · refine AWp.skip ?_
              refine AWp.region ?_
              first | refine AOps.val (Y.addI rfl rfl (by omega)) (by decide) ?_ | refine AOps.val (Y.add rfl rfl rfl) (by decide) ?_
              first | refine AOps.val (Y.move rfl rfl) (by decide) ?_ | refine AOps.moveU rfl (by decide) ?_
              refine AOps.nil ?_
              exact ⟨k + 1, ⟨by omega, upto hk.2 (by simp only [okArg]; omega)⟩, by omega, Le.mk (by repeat (first | exact SubL.nil | refine SubL.cons rfl ?_)) (by repeat (first | exact SubL.nil | refine SubL.cons rfl ?_))⟩
        · refine AWp.exit ?_
          refine AWp.region ?_
          first | refine AOps.val (Y.addI rfl rfl (by omega)) (by decide) ?_ | refine AOps.val (Y.add rfl rfl rfl) (by decide) ?_
          first | refine AOps.val (Y.move rfl rfl) (by decide) ?_ | refine AOps.moveU rfl (by decide) ?_
          refine AOps.nil ?_
          exact ⟨ix + 1, ⟨by omega, below hI.2 hg ⟨⟨by omega, by omega⟩, by simpa using hk.2 0 (by omega), by simpa using hk.2 1 (by omega)⟩⟩, by omega, Le.mk (by repeat (first | exact SubL.nil | refine SubL.cons rfl ?_)) (by repeat (first | exact SubL.nil | refine SubL.cons rfl ?_))⟩
  · refine AWp.exit ?_
    refine AWp.seq ?_
    refine AWp.region ?_
    refine AOps.val (Y.assign rfl rfl) (by decide) ?_
    refine AOps.nil ?_
    refine AWp.ret ?_
    exact ⟨_, _, rfl, rfl, rcheck (check_good (fun j q hq => hI.2 j q (by have := (List.getElem?_eq_some_iff.1 hq).1; omega) hq)), rfl⟩

set_option maxHeartbeats 1000000 in
theorem count_spec {l : List Gate} (hl : l.length ≤ 4611686018427387904) : ACalls Try.prog 17 [.fz 3 (l.map Gate.row)] [] [] (fun r o => r = .agg ((List.range 8).map (cntX l l.length)) ∧ o = []) := by
  refine ACalls.of Try.func17 rfl rfl rfl (n := 28) (by decide) (Nat.le_of_ble_eq_true rfl) ?_
  have hl2 : l.length ≤ 4611686018427387904 := hl
  refine AWp.seq ?_
  refine AWp.region ?_
  refine AOps.alloc 102 ze35 rfl rfl (by decide) ?_
  refine AOps.nil ?_
  refine AWp.seq ?_
  refine AWp.region ?_
  refine AOps.alloc 103 ze35 rfl rfl (by decide) ?_
  refine AOps.nil ?_
  refine AWp.seq ?_
  refine AWp.seq ?_
  refine AWp.region ?_
  first | refine AOps.val (Y.move rfl rfl) (by decide) ?_ | refine AOps.moveU rfl (by decide) ?_
  refine AOps.val (Y.len sl22 rfl (n := l.length) (congrArg some (List.length_map ..))) (by decide) ?_
  refine AOps.val (Y.move rfl rfl) (by decide) ?_
  refine AOps.nil ?_
  refine AWp.block ?_
  refine AWp.loop (fun (ix : Nat) => ⟨[(8, .v (.int .i64 ((ix : Int)))), (6, .fz 3 (l.map Gate.row)), (7, .v (.int .i64 ((l.length : Int)))), (3, .ptr 103 0 0 0), (2, .ptr 102 0 0 0)], [(102, .cells (List.replicate 8 (.v (.int .i64 0)))), (103, .cells ((List.range 8).map (cntX l ix)))]⟩) (fun ix => ix ≤ l.length) (fun ix => l.length - ix) (0) (by omega) (Le.mk (by repeat (first | exact SubL.nil | refine SubL.cons rfl ?_)) (SubL.cons rfl (SubL.cons (by rw [cntX_zero]; rfl) SubL.nil))) (fun ix hI => ?_)
  refine AWp.seq ?_
  refine AWp.region ?_
  refine AOps.val (Y.lss rfl rfl) (by decide) ?_
  refine AOps.nil ?_
  refine AWp.seq ?_
  refine AWp.condD rfl (fun c9 => ?_) (fun c9 => ?_)
  · obtain ⟨q, hg⟩ : ∃ q, l[ix]? = some q := ⟨_, List.getElem?_eq_getElem (by omega)⟩
    have hcl := cnt_le l q.kind.toNat ix
    refine AWp.skip ?_
    refine AWp.seq ?_
    refine AWp.block ?_
    refine AWp.seq ?_
    refine AWp.region ?_
    refine AOps.val (Y.indexF sl22 rfl rfl rfl (getElem?_map' hg)) (by decide) ?_
    refine AOps.val (Y.loadA sh38 rfl rfl (Nat.le_of_ble_eq_true rfl) rfl rfl) (by decide) ?_
    refine AOps.alloc 105 ze38 rfl rfl (by decide) ?_
    first | refine AOps.storeC si38 rfl rfl rfl rfl rfl rfl (Nat.le_of_ble_eq_true rfl) rfl ?_ | refine AOps.storeR si38 rfl rfl rfl rfl rfl rfl rfl (by first | assumption | exact getElem?_map' (by assumption)) (Nat.le_of_ble_eq_true rfl) ?_
    refine AOps.nil ?_
    refine AWp.seq ?_
    refine AWp.region ?_
    refine AOps.val (Y.fieldAddr fl38_0 rfl rfl) (by decide) ?_
    refine AOps.val (Y.load sh3 rfl rfl rfl rfl) (by decide) ?_
    refine AOps.val (Y.geq rfl rfl) (by decide) ?_
    first | refine AOps.val (Y.move rfl rfl) (by decide) ?_ | refine AOps.moveU rfl (by decide) ?_
    refine AOps.splitD (d := 15) rfl (fun c15 => ?_) (fun c15 => ?_)
    · refine AOps.guardRun (d := 15) rfl (by decide) rfl ?_
      refine AOps.val (Y.fieldAddr fl38_0 rfl rfl) (by decide) ?_
      refine AOps.guardRun (d := 15) rfl (by decide) rfl ?_
      refine AOps.val (Y.load sh3 rfl rfl rfl rfl) (by decide) ?_
      refine AOps.guardRun (d := 15) rfl (by decide) rfl ?_
      refine AOps.val (Y.leq rfl rfl) (by decide) ?_
      refine AOps.val (Y.pick rfl rfl rfl) (by decide) ?_
      refine AOps.nil ?_
      refine AWp.condD rfl (fun c19 => ?_) (fun c19 => ?_)
      · refine AWp.region ?_
        refine AOps.val (Y.fieldAddr fl38_0 rfl rfl) (by decide) ?_
        refine AOps.val (Y.load sh3 rfl rfl rfl rfl) (by decide) ?_
        refine AOps.val (Y.indexP ar35 rfl rfl (m := q.kind.toNat) (by omega) (by omega) rfl) (by decide) ?_
        refine AOps.val (Y.load sh3 rfl rfl (cntX_get (by omega)) rfl) (by decide) ?_
        first | refine AOps.val (Y.addI rfl rfl (by omega)) (by decide) ?_ | refine AOps.val (Y.add rfl rfl rfl) (by decide) ?_
        refine AOps.val (Y.indexP ar35 rfl rfl (m := q.kind.toNat) (by omega) (by omega) rfl) (by decide) ?_
        refine AOps.storeCE ((List.range 8).map (cntX l (ix + 1))) si3 rfl rfl rfl rfl rfl rfl (by simp only [List.length_map, List.length_range]; omega) (cntX_put hg (by omega) (by omega)) (frees_range (cntX_free l (ix + 1)) 8) ?_
        refine AOps.nil ?_
        refine AWp.region ?_
        first | refine AOps.val (Y.addI rfl rfl (by omega)) (by decide) ?_ | refine AOps.val (Y.add rfl rfl rfl) (by decide) ?_
        first | refine AOps.val (Y.move rfl rfl) (by decide) ?_ | refine AOps.moveU rfl (by decide) ?_
        refine AOps.nil ?_
        exact ⟨ix + 1, by omega, by omega, Le.mk (by repeat (first | exact SubL.nil | refine SubL.cons rfl ?_)) (SubL.cons rfl (SubL.cons (by first | rfl | (rw [← cntX_same hg (by omega)]; rfl)) SubL.nil))⟩
      · refine AWp.skip ?_
        refine AWp.region ?_
        first | refine AOps.val (Y.addI rfl rfl (by omega)) (by decide) ?_ | refine AOps.val (Y.add rfl rfl rfl) (by decide) ?_
        first | refine AOps.val (Y.move rfl rfl) (by decide) ?_ | refine AOps.moveU rfl (by decide) ?_
        refine AOps.nil ?_
        exact ⟨ix + 1, by omega, by omega, Le.mk (by repeat (first | exact SubL.nil | refine SubL.cons rfl ?_)) (SubL.cons rfl (SubL.cons (by first | rfl | (rw [← cntX_same hg (by omega)]; rfl)) SubL.nil))⟩
    · refine AOps.guardSkipV (d := 15) rfl (by decide) (by decide) rfl rfl ?_
      refine AOps.guardSkipV (d := 15) rfl (by decide) (by decide) rfl rfl ?_
      refine AOps.guardSkipV (d := 15) rfl (by decide) (by decide) rfl rfl ?_
      refine AOps.val (Y.pick rfl rfl rfl) (by decide) ?_
      refine AOps.nil ?_
      refine AWp.condF rfl ?_
      refine AWp.skip ?_
      refine AWp.region ?_
      first | refine AOps.val (Y.addI rfl rfl (by omega)) (by decide) ?_ | refine AOps.val (Y.add rfl rfl rfl) (by decide) ?_
      first | refine AOps.val (Y.move rfl rfl) (by decide) ?_ | refine AOps.moveU rfl (by decide) ?_
      refine AOps.nil ?_
      exact ⟨ix + 1, by omega, by omega, Le.mk (by repeat (first | exact SubL.nil | refine SubL.cons rfl ?_)) (SubL.cons rfl (SubL.cons (by first | rfl | (rw [← cntX_same hg (by omega)]; rfl)) SubL.nil))⟩
  · refine AWp.exit ?_
    refine AWp.seq ?_
    refine AWp.region ?_
    refine AOps.val (Y.loadA sh35 rfl rfl (Nat.le_of_ble_eq_true rfl) rfl rfl) (by decide) ?_
    first | refine AOps.storeC si35 rfl rfl rfl rfl rfl rfl (Nat.le_of_ble_eq_true rfl) rfl ?_ | refine AOps.storeR si35 rfl rfl rfl rfl rfl rfl rfl (by first | assumption | exact getElem?_map' (by assumption)) (Nat.le_of_ble_eq_true rfl) ?_
    refine AOps.nil ?_
    refine AWp.ret ?_
    exact ⟨_, _, rfl, rfl, (by have h : ix = l.length := (by omega); subst h; rfl), rfl⟩

set_option maxHeartbeats 1000000 in
theorem inputs_spec {l : List Gate} (hl : l.length ≤ 4611686018427387904) : ACalls Try.prog 24 [.fz 3 (l.map Gate.row)] [] [] (fun r o => r = .v (.int .i64 (nin l)) ∧ o = []) := by
  refine ACalls.of Try.func24 rfl rfl rfl (n := 6) (by decide) (Nat.le_of_ble_eq_true rfl) ?_
  refine AWp.seq ?_
  refine AWp.region ?_
  refine AOps.val (Y.assign rfl rfl) (by decide) ?_
  refine AOps.nil ?_
  refine AWp.seq ?_
  refine AWp.region ?_
  first | refine AOps.val (Y.move rfl rfl) (by decide) ?_ | refine AOps.moveU rfl (by decide) ?_
  refine AOps.callP ok17 (count_spec (by omega)) rfl (.keep rfl rfl .nil) (by decide) rfl ?_
  refine AOps.val (Y.indexA (m := 3) (y := .v (.int .i64 (nin l))) ar35 sh3 rfl rfl rfl (by omega) (by rw [← nin_cnt]; simp [cntX]) rfl) (by decide) ?_
  first | refine AOps.val (Y.assign rfl rfl) (by decide) ?_ | refine AOps.assignU rfl (by decide) ?_
  refine AOps.nil ?_
  refine AWp.ret ?_
  exact ⟨_, _, rfl, rfl, rfl, rfl⟩

set_option maxHeartbeats 1000000 in
theorem eval_spec {l : List Gate} {ins : List Bool} (hl : l.length ≤ 8796093022208) : ACalls Try.prog 13 [.fz 3 (l.map Gate.row), .fz 1 (ins.map brow)] [] [] (fun r o => r = retX 1 ((evalR l ins).1.map brow) (evalR l ins).2 ∧ o = []) := by
  refine ACalls.of Try.func13 rfl rfl rfl (n := 107) (by decide) (Nat.le_of_ble_eq_true rfl) ?_
  refine AWp.seq ?_
  refine AWp.region ?_
  refine AOps.val (Y.assign rfl rfl) (by decide) ?_
  refine AOps.val (Y.assign rfl rfl) (by decide) ?_
  refine AOps.nil ?_
  refine AWp.seq ?_
  refine AWp.seq ?_
  refine AWp.region ?_
  first | refine AOps.val (Y.move rfl rfl) (by decide) ?_ | refine AOps.moveU rfl (by decide) ?_
  refine AOps.callP ok12 (check_spec (by omega)) rfl (.keep rfl rfl .nil) (by decide) rfl ?_
  refine AOps.val (Y.neq rfl rfl) (by decide) ?_
  refine AOps.nil ?_
  refine AWp.condD rfl (fun c11 => ?_) (fun c11 => ?_)
  · have hb : ¬ Good l := fun h => c11 (check_good h)
    refine AWp.seq ?_
    refine AWp.region ?_
    refine AOps.val (Y.assign rfl rfl) (by decide) ?_
    refine AOps.sh (Sh.nilU (d := 4) 1 rfl) ?_
    refine AOps.val (Y.assign rfl rfl) (by decide) ?_
    refine AOps.nil ?_
    refine AWp.ret ?_
    exact ⟨_, _, rfl, rfl, by rw [evalR_form ins hb]; rfl, rfl⟩
  · have hb : Good l := by
      refine Classical.byContradiction fun h => c11 ?_
      simp [check, h] at c11
    refine AWp.skip ?_
    refine AWp.seq ?_
    refine AWp.seq ?_
    refine AWp.region ?_
    first | refine AOps.val (Y.move rfl rfl) (by decide) ?_ | refine AOps.moveU rfl (by decide) ?_
    refine AOps.val (Y.len sl27 rfl (n := ins.length) (congrArg some (List.length_map ..))) (by decide) ?_
    first | refine AOps.val (Y.move rfl rfl) (by decide) ?_ | refine AOps.moveU rfl (by decide) ?_
    refine AOps.callP ok24 (inputs_spec (by omega)) rfl (.keep rfl rfl .nil) (by decide) rfl ?_
    refine AOps.val (Y.neq rfl rfl) (by decide) ?_
    refine AOps.nil ?_
    refine AWp.condD rfl (fun c16 => ?_) (fun c16 => ?_)
    · refine AWp.seq ?_
      refine AWp.region ?_
      refine AOps.val (Y.assign rfl rfl) (by decide) ?_
      refine AOps.sh (Sh.nilU (d := 4) 1 rfl) ?_
      refine AOps.val (Y.assign rfl rfl) (by decide) ?_
      refine AOps.nil ?_
      refine AWp.ret ?_
      exact ⟨_, _, rfl, rfl, by rw [evalR_arg hb (by omega)]; rfl, rfl⟩
    · have hin : ins.length = nin l := by omega
      refine AWp.skip ?_
      refine AWp.seq ?_
      refine AWp.region ?_
      first | refine AOps.val (Y.move rfl rfl) (by decide) ?_ | refine AOps.moveU rfl (by decide) ?_
      refine AOps.val (Y.len sl22 rfl (n := l.length) (congrArg some (List.length_map ..))) (by decide) ?_
      refine AOps.makeSlice sl27 ze4 rfl rfl rfl rfl (by omega) (by omega) (by decide) ?_
      first | refine AOps.val (Y.assign rfl rfl) (by decide) ?_ | refine AOps.assignU rfl (by decide) ?_
      refine AOps.nil ?_
      refine AWp.seq ?_
      refine AWp.seq ?_
      refine AWp.region ?_
      refine AOps.sh (Sh.adoptN (d := 6) (n := l.length) 106 rfl (by simp) (by decide)) ?_
      first | refine AOps.val (Y.move rfl rfl) (by decide) ?_ | refine AOps.moveU rfl (by decide) ?_
      refine AOps.val (Y.len sl22 rfl (n := l.length) (congrArg some (List.length_map ..))) (by decide) ?_
      refine AOps.val (Y.move rfl rfl) (by decide) ?_
      refine AOps.nil ?_
      refine AWp.block ?_
      refine AWp.loop (fun (ix : Nat) => ⟨[(22, .v (.int .i64 ((ix : Int)))), (20, .fz 3 (l.map Gate.row)), (21, .v (.int .i64 ((l.length : Int)))), (6, .slc 106 1 0 l.length), (1, .fz 1 ((ins.drop (nin (l.take ix))).map brow))], [(106, .rows 1 (fill l.length (outs l ins ix)))]⟩) (fun ix => ix ≤ l.length) (fun ix => l.length - ix) (0) (by omega) (Le.mk (by repeat (first | exact SubL.nil | refine SubL.cons (by first | rfl | (rw [nin_zero]; rfl)) ?_)) (SubL.cons (by rw [outs, fill_nil]; rfl) SubL.nil)) (fun ix hI => ?_)
      refine AWp.seq ?_
      refine AWp.region ?_
      refine AOps.val (Y.lss rfl rfl) (by decide) ?_
      refine AOps.nil ?_
      refine AWp.seq ?_
      refine AWp.condD rfl (fun c23 => ?_) (fun c23 => ?_)
      · obtain ⟨q, hg⟩ : ∃ q, l[ix]? = some q := ⟨_, List.getElem?_eq_getElem (by omega)⟩
        have hol : (outs l ins ix).length = ix := outs_length (by omega)
        have hok := hb ix q hg
        simp only [okGate, okArg, operands] at hok
        refine AWp.skip ?_
        refine AWp.seq ?_
        refine AWp.block ?_
        refine AWp.seq ?_
        refine AWp.region ?_
        first | refine AOps.val (Y.move rfl rfl) (by decide) ?_ | refine AOps.moveU rfl (by decide) ?_
        refine AOps.val (Y.indexF sl22 rfl rfl rfl (getElem?_map' hg)) (by decide) ?_
        refine AOps.val (Y.loadA sh38 rfl rfl (Nat.le_of_ble_eq_true rfl) rfl rfl) (by decide) ?_
        refine AOps.alloc 108 ze38 rfl rfl (by decide) ?_
        first | refine AOps.val (Y.assign rfl rfl) (by decide) ?_ | refine AOps.assignU rfl (by decide) ?_
        first | refine AOps.storeC si38 rfl rfl rfl rfl rfl rfl (Nat.le_of_ble_eq_true rfl) rfl ?_ | refine AOps.storeR si38 rfl rfl rfl rfl rfl rfl rfl (by first | assumption | exact getElem?_map' (by assumption)) (Nat.le_of_ble_eq_true rfl) ?_
        refine AOps.nil ?_
        refine AWp.seq ?_
        refine AWp.region ?_
        refine AOps.val (Y.fieldAddr fl38_0 rfl rfl) (by decide) ?_
        refine AOps.val (Y.load sh3 rfl rfl rfl rfl) (by decide) ?_
        refine AOps.nil ?_
        refine AWp.block ?_
        refine AWp.seq ?_
        refine AWp.region ?_
        refine AOps.val (Y.eql rfl rfl) (by decide) ?_
        first | refine AOps.val (Y.assign rfl rfl) (by decide) ?_ | refine AOps.assignU rfl (by decide) ?_
        refine AOps.nil ?_
        refine AWp.condD rfl (fun c29 => ?_) (fun c29 => ?_)
        · refine AWp.region ?_
          first | refine AOps.val (Y.move rfl rfl) (by decide) ?_ | refine AOps.moveU rfl (by decide) ?_
          first | refine AOps.val (Y.move rfl rfl) (by decide) ?_ | refine AOps.moveU rfl (by decide) ?_
          refine AOps.val (Y.indexO (m := ix) sl27 rfl rfl (by omega) (by omega)) (by decide) ?_
          refine AOps.storeE (fill l.length (outs l ins (ix + 1))) si4 rfl rfl rfl rfl rfl rfl rfl (fill_row hol (by omega)) (Nat.le_of_ble_eq_true rfl) (by rw [outs_succ hg, show valOf (outs l ins ix) ins (nin (l.take ix)) q = true by simp [valOf, c29]]; exact fill_set _ hol (by omega)) ?_
          refine AOps.nil ?_
          refine AWp.region ?_
          first | refine AOps.val (Y.addI rfl rfl (by omega)) (by decide) ?_ | refine AOps.val (Y.add rfl rfl rfl) (by decide) ?_
          first | refine AOps.val (Y.move rfl rfl) (by decide) ?_ | refine AOps.moveU rfl (by decide) ?_
          refine AOps.nil ?_
          exact ⟨ix + 1, by omega, by omega, Le.mk (by repeat (first | exact SubL.nil | refine SubL.cons (by first | rfl | (rw [nin_succ hg, if_neg (by omega)]; rfl) | (rw [nin_succ hg, if_pos (by omega)]; rfl)) ?_)) (SubL.cons (by first | rfl | (rw [outs_succ hg, show valOf (outs l ins ix) ins (nin (l.take ix)) q = false by simp [valOf, *], ← fill_same (by omega)]; rfl)) SubL.nil)⟩
        · refine AWp.seq ?_
          refine AWp.region ?_
          refine AOps.val (Y.eql rfl rfl) (by decide) ?_
          first | refine AOps.val (Y.assign rfl rfl) (by decide) ?_ | refine AOps.assignU rfl (by decide) ?_
          refine AOps.nil ?_
          refine AWp.condD rfl (fun c34 => ?_) (fun c34 => ?_)
          · have hlt := nin_lt hg c34
            refine AWp.regionAny rfl ?_
            refine AAny.blind 0 rfl (by kernel_rfl) (Blind.move rfl rfl) (by decide) ?_
            refine AAny.blind 1 rfl (by kernel_rfl) (Blind.move rfl rfl) (by decide) ?_
            refine AAny.blind 2 rfl (by kernel_rfl) (Blind.move rfl rfl) (by decide) ?_
            refine AAny.blind 5 rfl (by kernel_rfl) (Blind.move rfl rfl) (by decide) ?_
            refine AAny.blind 6 rfl (by kernel_rfl) (Blind.sliceF sl27 rfl (.some rfl) (.none _) (by simp; omega) (Nat.le_refl _) (tail_drop brow _ _)) (by decide) ?_
            refine AAny.one 3 rfl (by kernel_rfl) ?_
            refine AOps.val (Y.indexF sl27 rfl rfl (m := 0) rfl (head_drop (f := brow) false (by omega))) (by decide) ?_
            refine AOps.nil ⟨rfl, ?_⟩
            refine AAny.one 4 rfl (by kernel_rfl) ?_
            refine AOps.val (Y.load sh4 rfl rfl rfl rfl) (by decide) ?_
            refine AOps.nil ⟨rfl, ?_⟩
            refine AAny.one 7 rfl (by kernel_rfl) ?_
            refine AOps.val (Y.indexO (m := ix) sl27 rfl rfl (by omega) (by omega)) (by decide) ?_
            refine AOps.nil ⟨rfl, ?_⟩
            refine AAny.one 8 rfl (by kernel_rfl) ?_
            refine AOps.storeE (fill l.length (outs l ins (ix + 1))) si4 rfl rfl rfl rfl rfl rfl rfl (fill_row hol (by omega)) (Nat.le_of_ble_eq_true rfl) (by rw [outs_succ hg, show valOf (outs l ins ix) ins (nin (l.take ix)) q = ins.getD (nin (l.take ix)) false by simp [valOf, c34]]; exact fill_set _ hol (by omega)) ?_
            refine AOps.nil ⟨rfl, ?_⟩
            refine AAny.one 9 rfl (by kernel_rfl) ?_
            first | refine AOps.val (Y.assign rfl rfl) (by decide) ?_ | refine AOps.assignU rfl (by decide) ?_
            refine AOps.nil ⟨rfl, ?_⟩
            refine AAny.done (by kernel_rfl) ?_
            refine AWp.region ?_
            first | refine AOps.val (Y.addI rfl rfl (by omega)) (by decide) ?_ | refine AOps.val (Y.add rfl rfl rfl) (by decide) ?_
            first | refine AOps.val (Y.move rfl rfl) (by decide) ?_ | refine AOps.moveU rfl (by decide) ?_
            refine AOps.nil ?_
            exact ⟨ix + 1, by omega, by omega, Le.mk (by repeat (first | exact SubL.nil | refine SubL.cons (by first | rfl | (rw [nin_succ hg, if_neg (by omega)]; rfl) | (rw [nin_succ hg, if_pos (by omega)]; rfl)) ?_)) (SubL.cons (by first | rfl | (rw [outs_succ hg, show valOf (outs l ins ix) ins (nin (l.take ix)) q = false by simp [valOf, *], ← fill_same (by omega)]; rfl)) SubL.nil)⟩
          · refine AWp.seq ?_
            refine AWp.region ?_
            refine AOps.val (Y.eql rfl rfl) (by decide) ?_
            first | refine AOps.val (Y.assign rfl rfl) (by decide) ?_ | refine AOps.assignU rfl (by decide) ?_
            refine AOps.nil ?_
            refine AWp.condD rfl (fun c44 => ?_) (fun c44 => ?_)
            · refine AWp.region ?_
              first | refine AOps.val (Y.move rfl rfl) (by decide) ?_ | refine AOps.moveU rfl (by decide) ?_
              first | refine AOps.val (Y.move rfl rfl) (by decide) ?_ | refine AOps.moveU rfl (by decide) ?_
              first | refine AOps.val (Y.move rfl rfl) (by decide) ?_ | refine AOps.moveU rfl (by decide) ?_
              refine AOps.val (Y.fieldAddr fl38_1 rfl rfl) (by decide) ?_
              refine AOps.val (Y.load sh3 rfl rfl rfl rfl) (by decide) ?_
              refine AOps.val (Y.indexO (m := q.a.toNat) sl27 rfl rfl (by omega) (by omega)) (by decide) ?_
              refine AOps.val (Y.load sh4 rfl (fill_get (n := l.length) (out := outs l ins ix) (i := q.a.toNat) (by omega)) rfl rfl) (by decide) ?_
              refine AOps.val (Y.not rfl) (by decide) ?_
              refine AOps.val (Y.indexO (m := ix) sl27 rfl rfl (by omega) (by omega)) (by decide) ?_
              refine AOps.storeE (fill l.length (outs l ins (ix + 1))) si4 rfl rfl rfl rfl rfl rfl rfl (fill_row hol (by omega)) (Nat.le_of_ble_eq_true rfl) (by rw [outs_succ hg, show valOf (outs l ins ix) ins (nin (l.take ix)) q = !(outs l ins ix).getD q.a.toNat false by simp [valOf, c44]]; exact fill_set _ hol (by omega)) ?_
              refine AOps.nil ?_
              refine AWp.region ?_
              first | refine AOps.val (Y.addI rfl rfl (by omega)) (by decide) ?_ | refine AOps.val (Y.add rfl rfl rfl) (by decide) ?_
              first | refine AOps.val (Y.move rfl rfl) (by decide) ?_ | refine AOps.moveU rfl (by decide) ?_
              refine AOps.nil ?_
              exact ⟨ix + 1, by omega, by omega, Le.mk (by repeat (first | exact SubL.nil | refine SubL.cons (by first | rfl | (rw [nin_succ hg, if_neg (by omega)]; rfl) | (rw [nin_succ hg, if_pos (by omega)]; rfl)) ?_)) (SubL.cons (by first | rfl | (rw [outs_succ hg, show valOf (outs l ins ix) ins (nin (l.take ix)) q = false by simp [valOf, *], ← fill_same (by omega)]; rfl)) SubL.nil)⟩
            · refine AWp.seq ?_
              refine AWp.region ?_
              refine AOps.val (Y.eql rfl rfl) (by decide) ?_
              first | refine AOps.val (Y.assign rfl rfl) (by decide) ?_ | refine AOps.assignU rfl (by decide) ?_
              refine AOps.nil ?_
              refine AWp.condD rfl (fun c55 => ?_) (fun c55 => ?_)
              · refine AWp.region ?_
                first | refine AOps.val (Y.move rfl rfl) (by decide) ?_ | refine AOps.moveU rfl (by decide) ?_
                first | refine AOps.val (Y.move rfl rfl) (by decide) ?_ | refine AOps.moveU rfl (by decide) ?_
                first | refine AOps.val (Y.move rfl rfl) (by decide) ?_ | refine AOps.moveU rfl (by decide) ?_
                refine AOps.val (Y.fieldAddr fl38_1 rfl rfl) (by decide) ?_
                refine AOps.val (Y.load sh3 rfl rfl rfl rfl) (by decide) ?_
                refine AOps.val (Y.indexO (m := q.a.toNat) sl27 rfl rfl (by omega) (by omega)) (by decide) ?_
                refine AOps.val (Y.load sh4 rfl (fill_get (n := l.length) (out := outs l ins ix) (i := q.a.toNat) (by omega)) rfl rfl) (by decide) ?_
                first | refine AOps.val (Y.move rfl rfl) (by decide) ?_ | refine AOps.moveU rfl (by decide) ?_
                refine AOps.split (d := 64) rfl (fun c64 => ?_) (fun c64 => ?_)
                · refine AOps.guardRun (d := 64) rfl (by decide) rfl ?_
                  first | refine AOps.val (Y.move rfl rfl) (by decide) ?_ | refine AOps.moveU rfl (by decide) ?_
                  refine AOps.guardRun (d := 64) rfl (by decide) rfl ?_
                  refine AOps.val (Y.fieldAddr fl38_2 rfl rfl) (by decide) ?_
                  refine AOps.guardRun (d := 64) rfl (by decide) rfl ?_
                  refine AOps.val (Y.load sh3 rfl rfl rfl rfl) (by decide) ?_
                  refine AOps.guardRun (d := 64) rfl (by decide) rfl ?_
                  refine AOps.val (Y.indexO (m := q.b.toNat) sl27 rfl rfl (by omega) (by omega)) (by decide) ?_
                  refine AOps.guardRun (d := 64) rfl (by decide) rfl ?_
                  refine AOps.val (Y.load sh4 rfl (fill_get (n := l.length) (out := outs l ins ix) (i := q.b.toNat) (by omega)) rfl rfl) (by decide) ?_
                  refine AOps.val (Y.pick rfl rfl rfl) (by decide) ?_
                  refine AOps.val (Y.indexO (m := ix) sl27 rfl rfl (by omega) (by omega)) (by decide) ?_
                  refine AOps.storeE (fill l.length (outs l ins (ix + 1))) si4 rfl rfl rfl rfl rfl rfl rfl (fill_row hol (by omega)) (Nat.le_of_ble_eq_true rfl) (by rw [outs_succ hg]; exact (fill_set (n := l.length) (out := outs l ins ix) (i := ix) _ hol (by omega)).trans (congrArg (fun b => fill l.length (outs l ins ix ++ [b])) (by rw [valOf_and c55, c64]; rfl))) ?_
                  refine AOps.nil ?_
                  refine AWp.region ?_
                  first | refine AOps.val (Y.addI rfl rfl (by omega)) (by decide) ?_ | refine AOps.val (Y.add rfl rfl rfl) (by decide) ?_
                  first | refine AOps.val (Y.move rfl rfl) (by decide) ?_ | refine AOps.moveU rfl (by decide) ?_
                  refine AOps.nil ?_
                  exact ⟨ix + 1, by omega, by omega, Le.mk (by repeat (first | exact SubL.nil | refine SubL.cons (by first | rfl | (rw [nin_succ hg, if_neg (by omega)]; rfl) | (rw [nin_succ hg, if_pos (by omega)]; rfl)) ?_)) (SubL.cons (by first | rfl | (rw [outs_succ hg, show valOf (outs l ins ix) ins (nin (l.take ix)) q = false by simp [valOf, *], ← fill_same (by omega)]; rfl)) SubL.nil)⟩
                · refine AOps.guardSkipV (d := 64) rfl (by decide) (by decide) rfl rfl ?_
                  refine AOps.guardSkipV (d := 64) rfl (by decide) (by decide) rfl rfl ?_
                  refine AOps.guardSkipV (d := 64) rfl (by decide) (by decide) rfl rfl ?_
                  refine AOps.guardSkipV (d := 64) rfl (by decide) (by decide) rfl rfl ?_
                  refine AOps.guardSkipV (d := 64) rfl (by decide) (by decide) rfl rfl ?_
                  refine AOps.val (Y.pick rfl rfl rfl) (by decide) ?_
                  refine AOps.val (Y.indexO (m := ix) sl27 rfl rfl (by omega) (by omega)) (by decide) ?_
                  refine AOps.storeE (fill l.length (outs l ins (ix + 1))) si4 rfl rfl rfl rfl rfl rfl rfl (fill_row hol (by omega)) (Nat.le_of_ble_eq_true rfl) (by rw [outs_succ hg]; exact (fill_set (n := l.length) (out := outs l ins ix) (i := ix) _ hol (by omega)).trans (congrArg (fun b => fill l.length (outs l ins ix ++ [b])) (by rw [valOf_and c55, c64]; rfl))) ?_
                  refine AOps.nil ?_
                  refine AWp.region ?_
                  first | refine AOps.val (Y.addI rfl rfl (by omega)) (by decide) ?_ | refine AOps.val (Y.add rfl rfl rfl) (by decide) ?_
                  first | refine AOps.val (Y.move rfl rfl) (by decide) ?_ | refine AOps.moveU rfl (by decide) ?_
                  refine AOps.nil ?_
                  exact ⟨ix + 1, by omega, by omega, Le.mk (by repeat (first | exact SubL.nil | refine SubL.cons (by first | rfl | (rw [nin_succ hg, if_neg (by omega)]; rfl) | (rw [nin_succ hg, if_pos (by omega)]; rfl)) ?_)) (SubL.cons (by first | rfl | (rw [outs_succ hg, show valOf (outs l ins ix) ins (nin (l.take ix)) q = false by simp [valOf, *], ← fill_same (by omega)]; rfl)) SubL.nil)⟩
              · refine AWp.seq ?_
                refine AWp.region ?_
                refine AOps.val (Y.eql rfl rfl) (by decide) ?_
                first | refine AOps.val (Y.assign rfl rfl) (by decide) ?_ | refine AOps.assignU rfl (by decide) ?_
                refine AOps.nil ?_
                refine AWp.condD rfl (fun c72 => ?_) (fun c72 => ?_)
                · refine AWp.region ?_
                  first | refine AOps.val (Y.move rfl rfl) (by decide) ?_ | refine AOps.moveU rfl (by decide) ?_
                  first | refine AOps.val (Y.move rfl rfl) (by decide) ?_ | refine AOps.moveU rfl (by decide) ?_
                  first | refine AOps.val (Y.move rfl rfl) (by decide) ?_ | refine AOps.moveU rfl (by decide) ?_
                  refine AOps.val (Y.fieldAddr fl38_1 rfl rfl) (by decide) ?_
                  refine AOps.val (Y.load sh3 rfl rfl rfl rfl) (by decide) ?_
                  refine AOps.val (Y.indexO (m := q.a.toNat) sl27 rfl rfl (by omega) (by omega)) (by decide) ?_
                  refine AOps.val (Y.load sh4 rfl (fill_get (n := l.length) (out := outs l ins ix) (i := q.a.toNat) (by omega)) rfl rfl) (by decide) ?_
                  first | refine AOps.val (Y.move rfl rfl) (by decide) ?_ | refine AOps.moveU rfl (by decide) ?_
                  refine AOps.split (d := 81) rfl (fun c81 => ?_) (fun c81 => ?_)
                  · refine AOps.guardSkipV (d := 81) rfl (by decide) (by decide) rfl rfl ?_
                    refine AOps.guardSkipV (d := 81) rfl (by decide) (by decide) rfl rfl ?_
                    refine AOps.guardSkipV (d := 81) rfl (by decide) (by decide) rfl rfl ?_
                    refine AOps.guardSkipV (d := 81) rfl (by decide) (by decide) rfl rfl ?_
                    refine AOps.guardSkipV (d := 81) rfl (by decide) (by decide) rfl rfl ?_
                    refine AOps.val (Y.pick rfl rfl rfl) (by decide) ?_
                    refine AOps.val (Y.indexO (m := ix) sl27 rfl rfl (by omega) (by omega)) (by decide) ?_
                    refine AOps.storeE (fill l.length (outs l ins (ix + 1))) si4 rfl rfl rfl rfl rfl rfl rfl (fill_row hol (by omega)) (Nat.le_of_ble_eq_true rfl) (by rw [outs_succ hg]; exact (fill_set (n := l.length) (out := outs l ins ix) (i := ix) _ hol (by omega)).trans (congrArg (fun b => fill l.length (outs l ins ix ++ [b])) (by rw [valOf_or c72, c81]; rfl))) ?_
                    refine AOps.nil ?_
                    refine AWp.region ?_
                    first | refine AOps.val (Y.addI rfl rfl (by omega)) (by decide) ?_ | refine AOps.val (Y.add rfl rfl rfl) (by decide) ?_
                    first | refine AOps.val (Y.move rfl rfl) (by decide) ?_ | refine AOps.moveU rfl (by decide) ?_
                    refine AOps.nil ?_
                    exact ⟨ix + 1, by omega, by omega, Le.mk (by repeat (first | exact SubL.nil | refine SubL.cons (by first | rfl | (rw [nin_succ hg, if_neg (by omega)]; rfl) | (rw [nin_succ hg, if_pos (by omega)]; rfl)) ?_)) (SubL.cons (by first | rfl | (rw [outs_succ hg, show valOf (outs l ins ix) ins (nin (l.take ix)) q = false by simp [valOf, *], ← fill_same (by omega)]; rfl)) SubL.nil)⟩
                  · refine AOps.guardRun (d := 81) rfl (by decide) rfl ?_
                    first | refine AOps.val (Y.move rfl rfl) (by decide) ?_ | refine AOps.moveU rfl (by decide) ?_
                    refine AOps.guardRun (d := 81) rfl (by decide) rfl ?_
                    refine AOps.val (Y.fieldAddr fl38_2 rfl rfl) (by decide) ?_
                    refine AOps.guardRun (d := 81) rfl (by decide) rfl ?_
                    refine AOps.val (Y.load sh3 rfl rfl rfl rfl) (by decide) ?_
                    refine AOps.guardRun (d := 81) rfl (by decide) rfl ?_
                    refine AOps.val (Y.indexO (m := q.b.toNat) sl27 rfl rfl (by omega) (by omega)) (by decide) ?_
                    refine AOps.guardRun (d := 81) rfl (by decide) rfl ?_
                    refine AOps.val (Y.load sh4 rfl (fill_get (n := l.length) (out := outs l ins ix) (i := q.b.toNat) (by omega)) rfl rfl) (by decide) ?_
                    refine AOps.val (Y.pick rfl rfl rfl) (by decide) ?_
                    refine AOps.val (Y.indexO (m := ix) sl27 rfl rfl (by omega) (by omega)) (by decide) ?_
                    refine AOps.storeE (fill l.length (outs l ins (ix + 1))) si4 rfl rfl rfl rfl rfl rfl rfl (fill_row hol (by omega)) (Nat.le_of_ble_eq_true rfl) (by rw [outs_succ hg]; exact (fill_set (n := l.length) (out := outs l ins ix) (i := ix) _ hol (by omega)).trans (congrArg (fun b => fill l.length (outs l ins ix ++ [b])) (by rw [valOf_or c72, c81]; rfl))) ?_
                    refine AOps.nil ?_
                    refine AWp.region ?_
                    first | refine AOps.val (Y.addI rfl rfl (by omega)) (by decide) ?_ | refine AOps.val (Y.add rfl rfl rfl) (by decide) ?_
                    first | refine AOps.val (Y.move rfl rfl) (by decide) ?_ | refine AOps.moveU rfl (by decide) ?_
                    refine AOps.nil ?_
                    exact ⟨ix + 1, by omega, by omega, Le.mk (by repeat (first | exact SubL.nil | refine SubL.cons (by first | rfl | (rw [nin_succ hg, if_neg (by omega)]; rfl) | (rw [nin_succ hg, if_pos (by omega)]; rfl)) ?_)) (SubL.cons (by first | rfl | (rw [outs_succ hg, show valOf (outs l ins ix) ins (nin (l.take ix)) q = false by simp [valOf, *], ← fill_same (by omega)]; rfl)) SubL.nil)⟩
                · refine AWp.seq ?_
                  refine AWp.region ?_
                  refine AOps.val (Y.eql rfl rfl) (by decide) ?_
                  first | refine AOps.val (Y.assign rfl rfl) (by decide) ?_ | refine AOps.assignU rfl (by decide) ?_
                  refine AOps.nil ?_
                  refine AWp.condD rfl (fun c89 => ?_) (fun c89 => ?_)
                  · refine AWp.regionT 14 rfl (by kernel_rfl) ?_
                    first | refine AHead.val (Y.move rfl rfl) (by decide) ?_ | refine AHead.moveU rfl (by decide) ?_
                    first | refine AHead.val (Y.move rfl rfl) (by decide) ?_ | refine AHead.moveU rfl (by decide) ?_
                    first | refine AHead.val (Y.move rfl rfl) (by decide) ?_ | refine AHead.moveU rfl (by decide) ?_
                    refine AHead.val (Y.fieldAddr fl38_1 rfl rfl) (by decide) ?_
                    refine AHead.val (Y.load sh3 rfl rfl rfl rfl) (by decide) ?_
                    refine AHead.val (Y.indexO (m := q.a.toNat) sl27 rfl rfl (by omega) (by omega)) (by decide) ?_
                    refine AHead.val (Y.load sh4 rfl (fill_get (n := l.length) (out := outs l ins ix) (i := q.a.toNat) (by omega)) rfl rfl) (by decide) ?_
                    first | refine AHead.val (Y.move rfl rfl) (by decide) ?_ | refine AHead.moveU rfl (by decide) ?_
                    refine AHead.val (Y.fieldAddr fl38_2 rfl rfl) (by decide) ?_
                    refine AHead.val (Y.load sh3 rfl rfl rfl rfl) (by decide) ?_
                    refine AHead.val (Y.indexO (m := q.b.toNat) sl27 rfl rfl (by omega) (by omega)) (by decide) ?_
                    refine AHead.val (Y.load sh4 rfl (fill_get (n := l.length) (out := outs l ins ix) (i := q.b.toNat) (by omega)) rfl rfl) (by decide) ?_
                    refine AHead.val (Y.neqB un4 rfl rfl) (by decide) ?_
                    refine AHead.val (Y.indexO (m := ix) sl27 rfl rfl (by omega) (by omega)) (by decide) ?_
                    refine AHead.nil ?_
                    refine AOps.storeE (fill l.length (outs l ins (ix + 1))) si4 rfl rfl rfl rfl rfl rfl rfl (fill_row hol (by omega)) (Nat.le_of_ble_eq_true rfl) (by rw [outs_succ hg, show valOf (outs l ins ix) ins (nin (l.take ix)) q = ((outs l ins ix).getD q.a.toNat false != (outs l ins ix).getD q.b.toNat false) by simp [valOf, c89]]; exact fill_set _ hol (by omega)) ?_
                    refine AOps.nil ?_
                    refine AWp.region ?_
                    first | refine AOps.val (Y.addI rfl rfl (by omega)) (by decide) ?_ | refine AOps.val (Y.add rfl rfl rfl) (by decide) ?_
                    first | refine AOps.val (Y.move rfl rfl) (by decide) ?_ | refine AOps.moveU rfl (by decide) ?_
                    refine AOps.nil ?_
                    exact ⟨ix + 1, by omega, by omega, Le.mk (by repeat (first | exact SubL.nil | refine SubL.cons (by first | rfl | (rw [nin_succ hg, if_neg (by omega)]; rfl) | (rw [nin_succ hg, if_pos (by omega)]; rfl)) ?_)) (SubL.cons (by first | rfl | (rw [outs_succ hg, show valOf (outs l ins ix) ins (nin (l.take ix)) q = false by simp [valOf, *], ← fill_same (by omega)]; rfl)) SubL.nil)⟩
                  · refine AWp.skip ?_
                    refine AWp.region ?_
                    first | refine AOps.val (Y.addI rfl rfl (by omega)) (by decide) ?_ | refine AOps.val (Y.add rfl rfl rfl) (by decide) ?_
                    first | refine AOps.val (Y.move rfl rfl) (by decide) ?_ | refine AOps.moveU rfl (by decide) ?_
                    refine AOps.nil ?_
                    exact ⟨ix + 1, by omega, by omega, Le.mk (by repeat (first | exact SubL.nil | refine SubL.cons (by first | rfl | (rw [nin_succ hg, if_neg (by omega)]; rfl) | (rw [nin_succ hg, if_pos (by omega)]; rfl)) ?_)) (SubL.cons (by first | rfl | (rw [outs_succ hg, show valOf (outs l ins ix) ins (nin (l.take ix)) q = false by simp [valOf, *], ← fill_same (by omega)]; rfl)) SubL.nil)⟩
      · refine AWp.exit ?_
        refine AWp.seq ?_
        refine AWp.region ?_
        first | refine AOps.val (Y.move rfl rfl) (by decide) ?_ | refine AOps.moveU rfl (by decide) ?_
        first | refine AOps.val (Y.assign rfl rfl) (by decide) ?_ | refine AOps.assignU rfl (by decide) ?_
        refine AOps.sh (Sh.detach (d := 4) (o := 106) rfl rfl (by rw [fill_length (by rw [outs_length hI]; omega)]) (by decide)) ?_
        refine AOps.val (Y.assign rfl rfl) (by decide) ?_
        refine AOps.nil ?_
        refine AWp.ret ?_
        exact ⟨_, _, rfl, rfl, by rw [evalR_ok hb hin, show l.length = ix by omega, fill_full (outs_length (by omega))]; rfl, rfl⟩

end Go.Proofs.Ytiehdnjcapjacaa
/- The walks through the gates' functions: the reference. -/
namespace Go.Proofs.Ytiehdnjcapjacaa
open Go Go.AW Go.Proofs



set_option maxHeartbeats 1000000 in
theorem formed_spec {l : List Gate} (hl : l.length ≤ 4611686018427387904) : ACalls Try.prog 11 [.fz 3 (l.map Gate.row)] [] [] (fun r o => r = .v (.bool (formed l)) ∧ o = []) := by
  refine ACalls.of Try.func11 rfl rfl rfl (n := 71) (by decide) (Nat.le_of_ble_eq_true rfl) ?_
  refine AWp.seq ?_
  refine AWp.region ?_
  refine AOps.val (Y.assign rfl rfl) (by decide) ?_
  refine AOps.nil ?_
  refine AWp.seq ?_
  refine AWp.seq ?_
  refine AWp.region ?_
  refine AOps.val (Y.assign rfl rfl) (by decide) ?_
  refine AOps.nil ?_
  refine AWp.block ?_
  refine AWp.loop (fun (ix : Nat) => ⟨[(3, .v (.int .i64 ((ix : Int)))), (0, .fz 3 (l.map Gate.row))], []⟩) (fun ix => ix ≤ l.length ∧ ∀ j q, j < ix → l[j]? = some q → okGate j q) (fun ix => l.length - ix) (0) (⟨by omega, by intro j q h; omega⟩) (Le.mk (by repeat (first | exact SubL.nil | refine SubL.cons rfl ?_)) (by repeat (first | exact SubL.nil | refine SubL.cons rfl ?_))) (fun ix hI => ?_)
  refine AWp.seq ?_
  refine AWp.seq ?_
  refine AWp.region ?_
  first | refine AOps.val (Y.move rfl rfl) (by decide) ?_ | refine AOps.moveU rfl (by decide) ?_
  first | refine AOps.val (Y.move rfl rfl) (by decide) ?_ | refine AOps.moveU rfl (by decide) ?_
  refine AOps.val (Y.len sl22 rfl (n := l.length) (congrArg some (List.length_map ..))) (by decide) ?_
  refine AOps.val (Y.lss rfl rfl) (by decide) ?_
  refine AOps.nil ?_
  refine AWp.condD rfl (fun c8 => ?_) (fun c8 => ?_)
  · obtain ⟨q, hg⟩ : ∃ q, l[ix]? = some q := ⟨_, List.getElem?_eq_getElem (by omega)⟩
    refine AWp.skip ?_
    refine AWp.seq ?_
    refine AWp.block ?_
    refine AWp.seq ?_
    refine AWp.region ?_
    first | refine AOps.val (Y.move rfl rfl) (by decide) ?_ | refine AOps.moveU rfl (by decide) ?_
    first | refine AOps.val (Y.move rfl rfl) (by decide) ?_ | refine AOps.moveU rfl (by decide) ?_
    refine AOps.val (Y.indexF sl22 rfl rfl rfl (getElem?_map' hg)) (by decide) ?_
    refine AOps.val (Y.loadA sh38 rfl rfl (Nat.le_of_ble_eq_true rfl) rfl rfl) (by decide) ?_
    refine AOps.alloc 104 ze38 rfl rfl (by decide) ?_
    first | refine AOps.storeC si38 rfl rfl rfl rfl rfl rfl (Nat.le_of_ble_eq_true rfl) rfl ?_ | refine AOps.storeR si38 rfl rfl rfl rfl rfl rfl rfl (by first | assumption | exact getElem?_map' (by assumption)) (Nat.le_of_ble_eq_true rfl) ?_
    refine AOps.nil ?_
    refine AWp.seq ?_
    refine AWp.seq ?_
    refine AWp.region ?_
    refine AOps.val (Y.fieldAddr fl38_0 rfl rfl) (by decide) ?_
    refine AOps.val (Y.load sh3 rfl rfl rfl rfl) (by decide) ?_
    refine AOps.val (Y.lss rfl rfl) (by decide) ?_
    first | refine AOps.val (Y.move rfl rfl) (by decide) ?_ | refine AOps.moveU rfl (by decide) ?_
    refine AOps.splitD (d := 18) rfl (fun c18 => ?_) (fun c18 => ?_)
    · refine AOps.guardSkipV (d := 18) rfl (by decide) (by decide) rfl rfl ?_
      refine AOps.guardSkipV (d := 18) rfl (by decide) (by decide) rfl rfl ?_
      refine AOps.guardSkipV (d := 18) rfl (by decide) (by decide) rfl rfl ?_
      refine AOps.val (Y.pick rfl rfl rfl) (by decide) ?_
      refine AOps.nil ?_
      refine AWp.condT rfl ?_
      refine AWp.seq ?_
      refine AWp.region ?_
      refine AOps.val (Y.assign rfl rfl) (by decide) ?_
      refine AOps.nil ?_
      refine AWp.ret ?_
      exact ⟨_, _, rfl, rfl, rform (formed_bad hg (by simp only [okGate, okArg, operands]; omega)), rfl⟩
    · refine AOps.guardRun (d := 18) rfl (by decide) rfl ?_
      refine AOps.val (Y.fieldAddr fl38_0 rfl rfl) (by decide) ?_
      refine AOps.guardRun (d := 18) rfl (by decide) rfl ?_
      refine AOps.val (Y.load sh3 rfl rfl rfl rfl) (by decide) ?_
      refine AOps.guardRun (d := 18) rfl (by decide) rfl ?_
      refine AOps.val (Y.gtr rfl rfl) (by decide) ?_
      refine AOps.val (Y.pick rfl rfl rfl) (by decide) ?_
      refine AOps.nil ?_
      refine AWp.condD rfl (fun c22 => ?_) (fun c22 => ?_)
      · refine AWp.seq ?_
        refine AWp.region ?_
        refine AOps.val (Y.assign rfl rfl) (by decide) ?_
        refine AOps.nil ?_
        refine AWp.ret ?_
        exact ⟨_, _, rfl, rfl, rform (formed_bad hg (by simp only [okGate, okArg, operands]; omega)), rfl⟩
      · refine AWp.skip ?_
        refine AWp.join (fun (_ : Unit) => ⟨[(3, .v (.int .i64 ((ix : Int)))), (0, .fz 3 (l.map Gate.row)), (4, .ptr 104 0 0 0)], [(104, .cells (Gate.row q))]⟩) (fun _ => ¬ (q.kind < 4 ∧ q.a ≠ 0) ∧ ¬ (q.kind < 5 ∧ q.b ≠ 0)) ?_ (fun u hJ => ?_)
        · refine AWp.seq ?_
          refine AWp.region ?_
          refine AOps.val (Y.fieldAddr fl38_0 rfl rfl) (by decide) ?_
          refine AOps.val (Y.load sh3 rfl rfl rfl rfl) (by decide) ?_
          refine AOps.val (Y.lss rfl rfl) (by decide) ?_
          first | refine AOps.val (Y.move rfl rfl) (by decide) ?_ | refine AOps.moveU rfl (by decide) ?_
          refine AOps.splitD (d := 26) rfl (fun c26 => ?_) (fun c26 => ?_)
          · refine AOps.guardRun (d := 26) rfl (by decide) rfl ?_
            refine AOps.val (Y.fieldAddr fl38_1 rfl rfl) (by decide) ?_
            refine AOps.guardRun (d := 26) rfl (by decide) rfl ?_
            refine AOps.val (Y.load sh3 rfl rfl rfl rfl) (by decide) ?_
            refine AOps.guardRun (d := 26) rfl (by decide) rfl ?_
            refine AOps.val (Y.neq rfl rfl) (by decide) ?_
            refine AOps.val (Y.pick rfl rfl rfl) (by decide) ?_
            first | refine AOps.val (Y.move rfl rfl) (by decide) ?_ | refine AOps.moveU rfl (by decide) ?_
            refine AOps.splitD (d := 31) rfl (fun c31 => ?_) (fun c31 => ?_)
            · refine AOps.guardSkipV (d := 31) rfl (by decide) (by decide) rfl rfl ?_
              refine AOps.guardSkipV (d := 31) rfl (by decide) (by decide) rfl rfl ?_
              refine AOps.guardSkipV (d := 31) rfl (by decide) (by decide) rfl rfl ?_
              refine AOps.guardSkipV (d := 31) rfl (by decide) (by decide) rfl rfl ?_
              refine AOps.guardSkipV (d := 35) rfl (by decide) (by decide) rfl rfl ?_
              refine AOps.guardSkipV (d := 35) rfl (by decide) (by decide) rfl rfl ?_
              refine AOps.guardSkipV (d := 35) rfl (by decide) (by decide) rfl rfl ?_
              refine AOps.guardSkipV (d := 31) rfl (by decide) (by decide) rfl rfl ?_
              refine AOps.val (Y.pick rfl rfl rfl) (by decide) ?_
              refine AOps.nil ?_
              refine AWp.condT rfl ?_
              refine AWp.seq ?_
              refine AWp.region ?_
              refine AOps.val (Y.assign rfl rfl) (by decide) ?_
              refine AOps.nil ?_
              refine AWp.ret ?_
              exact ⟨_, _, rfl, rfl, rform (formed_bad hg (by simp only [okGate, okArg, operands]; omega)), rfl⟩
            · refine AOps.guardRun (d := 31) rfl (by decide) rfl ?_
              refine AOps.val (Y.fieldAddr fl38_0 rfl rfl) (by decide) ?_
              refine AOps.guardRun (d := 31) rfl (by decide) rfl ?_
              refine AOps.val (Y.load sh3 rfl rfl rfl rfl) (by decide) ?_
              refine AOps.guardRun (d := 31) rfl (by decide) rfl ?_
              refine AOps.val (Y.lss rfl rfl) (by decide) ?_
              refine AOps.guardRun (d := 31) rfl (by decide) rfl ?_
              first | refine AOps.val (Y.move rfl rfl) (by decide) ?_ | refine AOps.moveU rfl (by decide) ?_
              refine AOps.splitD (d := 35) rfl (fun c35 => ?_) (fun c35 => ?_)
              · refine AOps.guardRun (d := 35) rfl (by decide) rfl ?_
                refine AOps.val (Y.fieldAddr fl38_2 rfl rfl) (by decide) ?_
                refine AOps.guardRun (d := 35) rfl (by decide) rfl ?_
                refine AOps.val (Y.load sh3 rfl rfl rfl rfl) (by decide) ?_
                refine AOps.guardRun (d := 35) rfl (by decide) rfl ?_
                refine AOps.val (Y.neq rfl rfl) (by decide) ?_
                refine AOps.guardRun (d := 31) rfl (by decide) rfl ?_
                refine AOps.val (Y.pick rfl rfl rfl) (by decide) ?_
                refine AOps.val (Y.pick rfl rfl rfl) (by decide) ?_
                refine AOps.nil ?_
                refine AWp.condD rfl (fun c40 => ?_) (fun c40 => ?_)
                · refine AWp.seq ?_
                  refine AWp.region ?_
                  refine AOps.val (Y.assign rfl rfl) (by decide) ?_
                  refine AOps.nil ?_
                  refine AWp.ret ?_
                  exact ⟨_, _, rfl, rfl, rform (formed_bad hg (by simp only [okGate, okArg, operands]; omega)), rfl⟩
                · refine AWp.skip ?_
                  exact ⟨(), by omega, Le.mk (by repeat (first | exact SubL.nil | refine SubL.cons rfl ?_)) (by repeat (first | exact SubL.nil | refine SubL.cons rfl ?_))⟩
              · refine AOps.guardSkipV (d := 35) rfl (by decide) (by decide) rfl rfl ?_
                refine AOps.guardSkipV (d := 35) rfl (by decide) (by decide) rfl rfl ?_
                refine AOps.guardSkipV (d := 35) rfl (by decide) (by decide) rfl rfl ?_
                refine AOps.guardRun (d := 31) rfl (by decide) rfl ?_
                refine AOps.val (Y.pick rfl rfl rfl) (by decide) ?_
                refine AOps.val (Y.pick rfl rfl rfl) (by decide) ?_
                refine AOps.nil ?_
                refine AWp.condF rfl ?_
                refine AWp.skip ?_
                exact ⟨(), by omega, Le.mk (by repeat (first | exact SubL.nil | refine SubL.cons rfl ?_)) (by repeat (first | exact SubL.nil | refine SubL.cons rfl ?_))⟩
          · refine AOps.guardSkipV (d := 26) rfl (by decide) (by decide) rfl rfl ?_
            refine AOps.guardSkipV (d := 26) rfl (by decide) (by decide) rfl rfl ?_
            refine AOps.guardSkipV (d := 26) rfl (by decide) (by decide) rfl rfl ?_
            refine AOps.val (Y.pick rfl rfl rfl) (by decide) ?_
            first | refine AOps.val (Y.move rfl rfl) (by decide) ?_ | refine AOps.moveU rfl (by decide) ?_
            refine AOps.guardRun (d := 31) rfl (by decide) rfl ?_
            refine AOps.val (Y.fieldAddr fl38_0 rfl rfl) (by decide) ?_
            refine AOps.guardRun (d := 31) rfl (by decide) rfl ?_
            refine AOps.val (Y.load sh3 rfl rfl rfl rfl) (by decide) ?_
            refine AOps.guardRun (d := 31) rfl (by decide) rfl ?_
            refine AOps.val (Y.lss rfl rfl) (by decide) ?_
            refine AOps.guardRun (d := 31) rfl (by decide) rfl ?_
            first | refine AOps.val (Y.move rfl rfl) (by decide) ?_ | refine AOps.moveU rfl (by decide) ?_
            refine AOps.splitD (d := 35) rfl (fun c35 => ?_) (fun c35 => ?_)
            · refine AOps.guardRun (d := 35) rfl (by decide) rfl ?_
              refine AOps.val (Y.fieldAddr fl38_2 rfl rfl) (by decide) ?_
              refine AOps.guardRun (d := 35) rfl (by decide) rfl ?_
              refine AOps.val (Y.load sh3 rfl rfl rfl rfl) (by decide) ?_
              refine AOps.guardRun (d := 35) rfl (by decide) rfl ?_
              refine AOps.val (Y.neq rfl rfl) (by decide) ?_
              refine AOps.guardRun (d := 31) rfl (by decide) rfl ?_
              refine AOps.val (Y.pick rfl rfl rfl) (by decide) ?_
              refine AOps.val (Y.pick rfl rfl rfl) (by decide) ?_
              refine AOps.nil ?_
              refine AWp.condD rfl (fun c40 => ?_) (fun c40 => ?_)
              · refine AWp.seq ?_
                refine AWp.region ?_
                refine AOps.val (Y.assign rfl rfl) (by decide) ?_
                refine AOps.nil ?_
                refine AWp.ret ?_
                exact ⟨_, _, rfl, rfl, rform (formed_bad hg (by simp only [okGate, okArg, operands]; omega)), rfl⟩
              · refine AWp.skip ?_
                exact ⟨(), by omega, Le.mk (by repeat (first | exact SubL.nil | refine SubL.cons rfl ?_)) (by repeat (first | exact SubL.nil | refine SubL.cons rfl ?_))⟩
            · refine AOps.guardSkipV (d := 35) rfl (by decide) (by decide) rfl rfl ?_
              refine AOps.guardSkipV (d := 35) rfl (by decide) (by decide) rfl rfl ?_
              refine AOps.guardSkipV (d := 35) rfl (by decide) (by decide) rfl rfl ?_
              refine AOps.guardRun (d := 31) rfl (by decide) rfl ?_
              refine AOps.val (Y.pick rfl rfl rfl) (by decide) ?_
              refine AOps.val (Y.pick rfl rfl rfl) (by decide) ?_
              refine AOps.nil ?_
              refine AWp.condF rfl ?_
              refine AWp.skip ?_
              exact ⟨(), by omega, Le.mk (by repeat (first | exact SubL.nil | refine SubL.cons rfl ?_)) (by repeat (first | exact SubL.nil | refine SubL.cons rfl ?_))⟩
        · refine AWp.seq ?_
          refine AWp.region ?_
          refine AOps.val (Y.fieldAddr fl38_0 rfl rfl) (by decide) ?_
          refine AOps.val (Y.load sh3 rfl rfl rfl rfl) (by decide) ?_
          refine AOps.val (Y.geq rfl rfl) (by decide) ?_
          first | refine AOps.val (Y.move rfl rfl) (by decide) ?_ | refine AOps.moveU rfl (by decide) ?_
          refine AOps.splitD (d := 44) rfl (fun c44 => ?_) (fun c44 => ?_)
          · refine AOps.guardRun (d := 44) rfl (by decide) rfl ?_
            refine AOps.val (Y.fieldAddr fl38_1 rfl rfl) (by decide) ?_
            refine AOps.guardRun (d := 44) rfl (by decide) rfl ?_
            refine AOps.val (Y.load sh3 rfl rfl rfl rfl) (by decide) ?_
            refine AOps.guardRun (d := 44) rfl (by decide) rfl ?_
            refine AOps.val (Y.lss rfl rfl) (by decide) ?_
            refine AOps.guardRun (d := 44) rfl (by decide) rfl ?_
            first | refine AOps.val (Y.move rfl rfl) (by decide) ?_ | refine AOps.moveU rfl (by decide) ?_
            refine AOps.splitD (d := 48) rfl (fun c48 => ?_) (fun c48 => ?_)
            · refine AOps.guardSkipV (d := 48) rfl (by decide) (by decide) rfl rfl ?_
              refine AOps.guardSkipV (d := 48) rfl (by decide) (by decide) rfl rfl ?_
              refine AOps.guardSkipV (d := 48) rfl (by decide) (by decide) rfl rfl ?_
              refine AOps.guardSkipV (d := 48) rfl (by decide) (by decide) rfl rfl ?_
              refine AOps.guardRun (d := 44) rfl (by decide) rfl ?_
              refine AOps.val (Y.pick rfl rfl rfl) (by decide) ?_
              refine AOps.val (Y.pick rfl rfl rfl) (by decide) ?_
              first | refine AOps.val (Y.move rfl rfl) (by decide) ?_ | refine AOps.moveU rfl (by decide) ?_
              refine AOps.guardSkipV (d := 55) rfl (by decide) (by decide) rfl rfl ?_
              refine AOps.guardSkipV (d := 55) rfl (by decide) (by decide) rfl rfl ?_
              refine AOps.guardSkipV (d := 55) rfl (by decide) (by decide) rfl rfl ?_
              refine AOps.guardSkipV (d := 55) rfl (by decide) (by decide) rfl rfl ?_
              refine AOps.guardSkipV (d := 59) rfl (by decide) (by decide) rfl rfl ?_
              refine AOps.guardSkipV (d := 59) rfl (by decide) (by decide) rfl rfl ?_
              refine AOps.guardSkipV (d := 59) rfl (by decide) (by decide) rfl rfl ?_
              refine AOps.guardSkipV (d := 59) rfl (by decide) (by decide) rfl rfl ?_
              refine AOps.guardSkipV (d := 63) rfl (by decide) (by decide) rfl rfl ?_
              refine AOps.guardSkipV (d := 63) rfl (by decide) (by decide) rfl rfl ?_
              refine AOps.guardSkipV (d := 63) rfl (by decide) (by decide) rfl rfl ?_
              refine AOps.guardSkipV (d := 63) rfl (by decide) (by decide) rfl rfl ?_
              refine AOps.guardSkipV (d := 59) rfl (by decide) (by decide) rfl rfl ?_
              refine AOps.guardSkipV (d := 55) rfl (by decide) (by decide) rfl rfl ?_
              refine AOps.val (Y.pick rfl rfl rfl) (by decide) ?_
              refine AOps.nil ?_
              refine AWp.condT rfl ?_
              refine AWp.seq ?_
              refine AWp.region ?_
              refine AOps.val (Y.assign rfl rfl) (by decide) ?_
              refine AOps.nil ?_
              refine AWp.ret ?_
              exact ⟨_, _, rfl, rfl, rform (formed_bad hg (by simp only [okGate, okArg, operands]; omega)), rfl⟩
            · refine AOps.guardRun (d := 48) rfl (by decide) rfl ?_
              refine AOps.val (Y.fieldAddr fl38_1 rfl rfl) (by decide) ?_
              refine AOps.guardRun (d := 48) rfl (by decide) rfl ?_
              refine AOps.val (Y.load sh3 rfl rfl rfl rfl) (by decide) ?_
              refine AOps.guardRun (d := 48) rfl (by decide) rfl ?_
              first | refine AOps.val (Y.move rfl rfl) (by decide) ?_ | refine AOps.moveU rfl (by decide) ?_
              refine AOps.guardRun (d := 48) rfl (by decide) rfl ?_
              refine AOps.val (Y.geq rfl rfl) (by decide) ?_
              refine AOps.guardRun (d := 44) rfl (by decide) rfl ?_
              refine AOps.val (Y.pick rfl rfl rfl) (by decide) ?_
              refine AOps.val (Y.pick rfl rfl rfl) (by decide) ?_
              first | refine AOps.val (Y.move rfl rfl) (by decide) ?_ | refine AOps.moveU rfl (by decide) ?_
              refine AOps.splitD (d := 55) rfl (fun c55 => ?_) (fun c55 => ?_)
              · refine AOps.guardSkipV (d := 55) rfl (by decide) (by decide) rfl rfl ?_
                refine AOps.guardSkipV (d := 55) rfl (by decide) (by decide) rfl rfl ?_
                refine AOps.guardSkipV (d := 55) rfl (by decide) (by decide) rfl rfl ?_
                refine AOps.guardSkipV (d := 55) rfl (by decide) (by decide) rfl rfl ?_
                refine AOps.guardSkipV (d := 59) rfl (by decide) (by decide) rfl rfl ?_
                refine AOps.guardSkipV (d := 59) rfl (by decide) (by decide) rfl rfl ?_
                refine AOps.guardSkipV (d := 59) rfl (by decide) (by decide) rfl rfl ?_
                refine AOps.guardSkipV (d := 59) rfl (by decide) (by decide) rfl rfl ?_
                refine AOps.guardSkipV (d := 63) rfl (by decide) (by decide) rfl rfl ?_
                refine AOps.guardSkipV (d := 63) rfl (by decide) (by decide) rfl rfl ?_
                refine AOps.guardSkipV (d := 63) rfl (by decide) (by decide) rfl rfl ?_
                refine AOps.guardSkipV (d := 63) rfl (by decide) (by decide) rfl rfl ?_
                refine AOps.guardSkipV (d := 59) rfl (by decide) (by decide) rfl rfl ?_
                refine AOps.guardSkipV (d := 55) rfl (by decide) (by decide) rfl rfl ?_
                refine AOps.val (Y.pick rfl rfl rfl) (by decide) ?_
                refine AOps.nil ?_
                refine AWp.condT rfl ?_
                refine AWp.seq ?_
                refine AWp.region ?_
                refine AOps.val (Y.assign rfl rfl) (by decide) ?_
                refine AOps.nil ?_
                refine AWp.ret ?_
                exact ⟨_, _, rfl, rfl, rform (formed_bad hg (by simp only [okGate, okArg, operands]; omega)), rfl⟩
              · refine AOps.guardRun (d := 55) rfl (by decide) rfl ?_
                refine AOps.val (Y.fieldAddr fl38_0 rfl rfl) (by decide) ?_
                refine AOps.guardRun (d := 55) rfl (by decide) rfl ?_
                refine AOps.val (Y.load sh3 rfl rfl rfl rfl) (by decide) ?_
                refine AOps.guardRun (d := 55) rfl (by decide) rfl ?_
                refine AOps.val (Y.geq rfl rfl) (by decide) ?_
                refine AOps.guardRun (d := 55) rfl (by decide) rfl ?_
                first | refine AOps.val (Y.move rfl rfl) (by decide) ?_ | refine AOps.moveU rfl (by decide) ?_
                refine AOps.splitD (d := 59) rfl (fun c59 => ?_) (fun c59 => ?_)
                · refine AOps.guardRun (d := 59) rfl (by decide) rfl ?_
                  refine AOps.val (Y.fieldAddr fl38_2 rfl rfl) (by decide) ?_
                  refine AOps.guardRun (d := 59) rfl (by decide) rfl ?_
                  refine AOps.val (Y.load sh3 rfl rfl rfl rfl) (by decide) ?_
                  refine AOps.guardRun (d := 59) rfl (by decide) rfl ?_
                  refine AOps.val (Y.lss rfl rfl) (by decide) ?_
                  refine AOps.guardRun (d := 59) rfl (by decide) rfl ?_
                  first | refine AOps.val (Y.move rfl rfl) (by decide) ?_ | refine AOps.moveU rfl (by decide) ?_
                  refine AOps.splitD (d := 63) rfl (fun c63 => ?_) (fun c63 => ?_)
                  · refine AOps.guardSkipV (d := 63) rfl (by decide) (by decide) rfl rfl ?_
                    refine AOps.guardSkipV (d := 63) rfl (by decide) (by decide) rfl rfl ?_
                    refine AOps.guardSkipV (d := 63) rfl (by decide) (by decide) rfl rfl ?_
                    refine AOps.guardSkipV (d := 63) rfl (by decide) (by decide) rfl rfl ?_
                    refine AOps.guardRun (d := 59) rfl (by decide) rfl ?_
                    refine AOps.val (Y.pick rfl rfl rfl) (by decide) ?_
                    refine AOps.guardRun (d := 55) rfl (by decide) rfl ?_
                    refine AOps.val (Y.pick rfl rfl rfl) (by decide) ?_
                    refine AOps.val (Y.pick rfl rfl rfl) (by decide) ?_
                    refine AOps.nil ?_
                    refine AWp.condT rfl ?_
                    refine AWp.seq ?_
                    refine AWp.region ?_
                    refine AOps.val (Y.assign rfl rfl) (by decide) ?_
                    refine AOps.nil ?_
                    refine AWp.ret ?_
                    exact ⟨_, _, rfl, rfl, rform (formed_bad hg (by simp only [okGate, okArg, operands]; omega)), rfl⟩
                  · refine AOps.guardRun (d := 63) rfl (by decide) rfl ?_
                    refine AOps.val (Y.fieldAddr fl38_2 rfl rfl) (by decide) ?_
                    refine AOps.guardRun (d := 63) rfl (by decide) rfl ?_
                    refine AOps.val (Y.load sh3 rfl rfl rfl rfl) (by decide) ?_
                    refine AOps.guardRun (d := 63) rfl (by decide) rfl ?_
                    first | refine AOps.val (Y.move rfl rfl) (by decide) ?_ | refine AOps.moveU rfl (by decide) ?_
                    refine AOps.guardRun (d := 63) rfl (by decide) rfl ?_
                    refine AOps.val (Y.geq rfl rfl) (by decide) ?_
                    refine AOps.guardRun (d := 59) rfl (by decide) rfl ?_
                    refine AOps.val (Y.pick rfl rfl rfl) (by decide) ?_
                    refine AOps.guardRun (d := 55) rfl (by decide) rfl ?_
                    refine AOps.val (Y.pick rfl rfl rfl) (by decide) ?_
                    refine AOps.val (Y.pick rfl rfl rfl) (by decide) ?_
                    refine AOps.nil ?_
                    refine AWp.condD rfl (fun c70 => ?_) (fun c70 => ?_)
                    · refine AWp.seq ?_
                      refine AWp.region ?_
                      refine AOps.val (Y.assign rfl rfl) (by decide) ?_
                      refine AOps.nil ?_
                      refine AWp.ret ?_
                      exact ⟨_, _, rfl, rfl, rform (formed_bad hg (by simp only [okGate, okArg, operands]; omega)), rfl⟩
                    · refine AWp.skip ?_
                      refine AWp.region ?_
                      first | refine AOps.val (Y.move rfl rfl) (by decide) ?_ | refine AOps.moveU rfl (by decide) ?_
                      first | refine AOps.val (Y.addI rfl rfl (by omega)) (by decide) ?_ | refine AOps.val (Y.add rfl rfl rfl) (by decide) ?_
                      first | refine AOps.val (Y.assign rfl rfl) (by decide) ?_ | refine AOps.assignU rfl (by decide) ?_
                      refine AOps.nil ?_
                      exact ⟨ix + 1, ⟨by omega, below hI.2 hg (by simp only [okGate, okArg, operands]; omega)⟩, by omega, Le.mk (by repeat (first | exact SubL.nil | refine SubL.cons rfl ?_)) (by repeat (first | exact SubL.nil | refine SubL.cons rfl ?_))⟩
                · refine AOps.guardSkipV (d := 59) rfl (by decide) (by decide) rfl rfl ?_
                  refine AOps.guardSkipV (d := 59) rfl (by decide) (by decide) rfl rfl ?_
                  refine AOps.guardSkipV (d := 59) rfl (by decide) (by decide) rfl rfl ?_
                  refine AOps.guardSkipV (d := 59) rfl (by decide) (by decide) rfl rfl ?_
                  refine AOps.guardSkipV (d := 63) rfl (by decide) (by decide) rfl rfl ?_
                  refine AOps.guardSkipV (d := 63) rfl (by decide) (by decide) rfl rfl ?_
                  refine AOps.guardSkipV (d := 63) rfl (by decide) (by decide) rfl rfl ?_
                  refine AOps.guardSkipV (d := 63) rfl (by decide) (by decide) rfl rfl ?_
                  refine AOps.guardSkipV (d := 59) rfl (by decide) (by decide) rfl rfl ?_
                  refine AOps.guardRun (d := 55) rfl (by decide) rfl ?_
                  refine AOps.val (Y.pick rfl rfl rfl) (by decide) ?_
                  refine AOps.val (Y.pick rfl rfl rfl) (by decide) ?_
                  refine AOps.nil ?_
                  refine AWp.condF rfl ?_
                  refine AWp.skip ?_
                  refine AWp.region ?_
                  first | refine AOps.val (Y.move rfl rfl) (by decide) ?_ | refine AOps.moveU rfl (by decide) ?_
                  first | refine AOps.val (Y.addI rfl rfl (by omega)) (by decide) ?_ | refine AOps.val (Y.add rfl rfl rfl) (by decide) ?_
                  first | refine AOps.val (Y.assign rfl rfl) (by decide) ?_ | refine AOps.assignU rfl (by decide) ?_
                  refine AOps.nil ?_
                  exact ⟨ix + 1, ⟨by omega, below hI.2 hg (by simp only [okGate, okArg, operands]; omega)⟩, by omega, Le.mk (by repeat (first | exact SubL.nil | refine SubL.cons rfl ?_)) (by repeat (first | exact SubL.nil | refine SubL.cons rfl ?_))⟩
          · refine AOps.guardSkipV (d := 44) rfl (by decide) (by decide) rfl rfl ?_
            refine AOps.guardSkipV (d := 44) rfl (by decide) (by decide) rfl rfl ?_
            refine AOps.guardSkipV (d := 44) rfl (by decide) (by decide) rfl rfl ?_
            refine AOps.guardSkipV (d := 44) rfl (by decide) (by decide) rfl rfl ?_
            refine AOps.guardSkipV (d := 48) rfl (by decide) (by decide) rfl rfl ?_
            refine AOps.guardSkipV (d := 48) rfl (by decide) (by decide) rfl rfl ?_
            refine AOps.guardSkipV (d := 48) rfl (by decide) (by decide) rfl rfl ?_
            refine AOps.guardSkipV (d := 48) rfl (by decide) (by decide) rfl rfl ?_
            refine AOps.guardSkipV (d := 44) rfl (by decide) (by decide) rfl rfl ?_
            refine AOps.val (Y.pick rfl rfl rfl) (by decide) ?_
            first | refine AOps.val (Y.move rfl rfl) (by decide) ?_ | refine AOps.moveU rfl (by decide) ?_
            refine AOps.guardRun (d := 55) rfl (by decide) rfl ?_
            refine AOps.val (Y.fieldAddr fl38_0 rfl rfl) (by decide) ?_
            refine AOps.guardRun (d := 55) rfl (by decide) rfl ?_
            refine AOps.val (Y.load sh3 rfl rfl rfl rfl) (by decide) ?_
            refine AOps.guardRun (d := 55) rfl (by decide) rfl ?_
            refine AOps.val (Y.geq rfl rfl) (by decide) ?_
            refine AOps.guardRun (d := 55) rfl (by decide) rfl ?_
            first | refine AOps.val (Y.move rfl rfl) (by decide) ?_ | refine AOps.moveU rfl (by decide) ?_
            refine AOps.splitD (d := 59) rfl (fun c59 => ?_) (fun c59 => ?_)
            · refine AOps.guardRun (d := 59) rfl (by decide) rfl ?_
              refine AOps.val (Y.fieldAddr fl38_2 rfl rfl) (by decide) ?_
              refine AOps.guardRun (d := 59) rfl (by decide) rfl ?_
              refine AOps.val (Y.load sh3 rfl rfl rfl rfl) (by decide) ?_
              refine AOps.guardRun (d := 59) rfl (by decide) rfl ?_
              refine AOps.val (Y.lss rfl rfl) (by decide) ?_
              refine AOps.guardRun (d := 59) rfl (by decide) rfl ?_
              first | refine AOps.val (Y.move rfl rfl) (by decide) ?_ | refine AOps.moveU rfl (by decide) ?_
              refine AOps.splitD (d := 63) rfl (fun c63 => ?_) (fun c63 => ?_)
              · refine AOps.guardSkipV (d := 63) rfl (by decide) (by decide) rfl rfl ?_
                refine AOps.guardSkipV (d := 63) rfl (by decide) (by decide) rfl rfl ?_
                refine AOps.guardSkipV (d := 63) rfl (by decide) (by decide) rfl rfl ?_
                refine AOps.guardSkipV (d := 63) rfl (by decide) (by decide) rfl rfl ?_
                refine AOps.guardRun (d := 59) rfl (by decide) rfl ?_
                refine AOps.val (Y.pick rfl rfl rfl) (by decide) ?_
                refine AOps.guardRun (d := 55) rfl (by decide) rfl ?_
                refine AOps.val (Y.pick rfl rfl rfl) (by decide) ?_
                refine AOps.val (Y.pick rfl rfl rfl) (by decide) ?_
                refine AOps.nil ?_
                refine AWp.condT rfl ?_
                refine AWp.seq ?_
                refine AWp.region ?_
                refine AOps.val (Y.assign rfl rfl) (by decide) ?_
                refine AOps.nil ?_
                refine AWp.ret ?_
                exact ⟨_, _, rfl, rfl, rform (formed_bad hg (by simp only [okGate, okArg, operands]; omega)), rfl⟩
              · refine AOps.guardRun (d := 63) rfl (by decide) rfl ?_
                refine AOps.val (Y.fieldAddr fl38_2 rfl rfl) (by decide) ?_
                refine AOps.guardRun (d := 63) rfl (by decide) rfl ?_
                refine AOps.val (Y.load sh3 rfl rfl rfl rfl) (by decide) ?_
                refine AOps.guardRun (d := 63) rfl (by decide) rfl ?_
                first | refine AOps.val (Y.move rfl rfl) (by decide) ?_ | refine AOps.moveU rfl (by decide) ?_
                refine AOps.guardRun (d := 63) rfl (by decide) rfl ?_
                refine AOps.val (Y.geq rfl rfl) (by decide) ?_
                refine AOps.guardRun (d := 59) rfl (by decide) rfl ?_
                refine AOps.val (Y.pick rfl rfl rfl) (by decide) ?_
                refine AOps.guardRun (d := 55) rfl (by decide) rfl ?_
                refine AOps.val (Y.pick rfl rfl rfl) (by decide) ?_
                refine AOps.val (Y.pick rfl rfl rfl) (by decide) ?_
                refine AOps.nil ?_
                refine AWp.condD rfl (fun c70 => ?_) (fun c70 => ?_)
                · refine AWp.seq ?_
                  refine AWp.region ?_
                  refine AOps.val (Y.assign rfl rfl) (by decide) ?_
                  refine AOps.nil ?_
                  refine AWp.ret ?_
                  exact ⟨_, _, rfl, rfl, rform (formed_bad hg (by simp only [okGate, okArg, operands]; omega)), rfl⟩
                · refine AWp.skip ?_
                  refine AWp.region ?_
                  first | refine AOps.val (Y.move rfl rfl) (by decide) ?_ | refine AOps.moveU rfl (by decide) ?_
                  first | refine AOps.val (Y.addI rfl rfl (by omega)) (by decide) ?_ | refine AOps.val (Y.add rfl rfl rfl) (by decide) ?_
                  first | refine AOps.val (Y.assign rfl rfl) (by decide) ?_ | refine AOps.assignU rfl (by decide) ?_
                  refine AOps.nil ?_
                  exact ⟨ix + 1, ⟨by omega, below hI.2 hg (by simp only [okGate, okArg, operands]; omega)⟩, by omega, Le.mk (by repeat (first | exact SubL.nil | refine SubL.cons rfl ?_)) (by repeat (first | exact SubL.nil | refine SubL.cons rfl ?_))⟩
            · refine AOps.guardSkipV (d := 59) rfl (by decide) (by decide) rfl rfl ?_
              refine AOps.guardSkipV (d := 59) rfl (by decide) (by decide) rfl rfl ?_
              refine AOps.guardSkipV (d := 59) rfl (by decide) (by decide) rfl rfl ?_
              refine AOps.guardSkipV (d := 59) rfl (by decide) (by decide) rfl rfl ?_
              refine AOps.guardSkipV (d := 63) rfl (by decide) (by decide) rfl rfl ?_
              refine AOps.guardSkipV (d := 63) rfl (by decide) (by decide) rfl rfl ?_
              refine AOps.guardSkipV (d := 63) rfl (by decide) (by decide) rfl rfl ?_
              refine AOps.guardSkipV (d := 63) rfl (by decide) (by decide) rfl rfl ?_
              refine AOps.guardSkipV (d := 59) rfl (by decide) (by decide) rfl rfl ?_
              refine AOps.guardRun (d := 55) rfl (by decide) rfl ?_
              refine AOps.val (Y.pick rfl rfl rfl) (by decide) ?_
              refine AOps.val (Y.pick rfl rfl rfl) (by decide) ?_
              refine AOps.nil ?_
              refine AWp.condF rfl ?_
              refine AWp.skip ?_
              refine AWp.region ?_
              first | refine AOps.val (Y.move rfl rfl) (by decide) ?_ | refine AOps.moveU rfl (by decide) ?_
              first | refine AOps.val (Y.addI rfl rfl (by omega)) (by decide) ?_ | refine AOps.val (Y.add rfl rfl rfl) (by decide) ?_
              first | refine AOps.val (Y.assign rfl rfl) (by decide) ?_ | refine AOps.assignU rfl (by decide) ?_
              refine AOps.nil ?_
              exact ⟨ix + 1, ⟨by omega, below hI.2 hg (by simp only [okGate, okArg, operands]; omega)⟩, by omega, Le.mk (by repeat (first | exact SubL.nil | refine SubL.cons rfl ?_)) (by repeat (first | exact SubL.nil | refine SubL.cons rfl ?_))⟩
  · refine AWp.exit ?_
    refine AWp.seq ?_
    refine AWp.region ?_
    refine AOps.val (Y.assign rfl rfl) (by decide) ?_
    refine AOps.nil ?_
    refine AWp.ret ?_
    exact ⟨_, _, rfl, rfl, rform (formed_good (fun j q hq => hI.2 j q (by have := (List.getElem?_eq_some_iff.1 hq).1; omega) hq)), rfl⟩

set_option maxHeartbeats 1000000 in
theorem refInputs_spec {l : List Gate} (hl : l.length ≤ 4611686018427387904) : ACalls Try.prog 14 [.fz 3 (l.map Gate.row)] [] [] (fun r o => r = .v (.int .i64 ((nin l : Nat))) ∧ o = []) := by
  refine ACalls.of Try.func14 rfl rfl rfl (n := 20) (by decide) (Nat.le_of_ble_eq_true rfl) ?_
  refine AWp.seq ?_
  refine AWp.region ?_
  refine AOps.val (Y.assign rfl rfl) (by decide) ?_
  refine AOps.nil ?_
  refine AWp.seq ?_
  refine AWp.region ?_
  refine AOps.val (Y.assign rfl rfl) (by decide) ?_
  refine AOps.nil ?_
  refine AWp.seq ?_
  refine AWp.seq ?_
  refine AWp.region ?_
  refine AOps.val (Y.assign rfl rfl) (by decide) ?_
  refine AOps.nil ?_
  refine AWp.block ?_
  refine AWp.loop (fun (ix : Nat) => ⟨[(4, .v (.int .i64 ((ix : Int)))), (3, .v (.int .i64 ((nin (l.take ix) : Nat)))), (0, .fz 3 (l.map Gate.row))], []⟩) (fun ix => ix ≤ l.length) (fun ix => l.length - ix) (0) (by omega) (Le.mk (by repeat (first | exact SubL.nil | refine SubL.cons (by first | rfl | (rw [nin_zero]; rfl)) ?_)) SubL.nil) (fun ix hI => ?_)
  refine AWp.seq ?_
  refine AWp.seq ?_
  refine AWp.region ?_
  first | refine AOps.val (Y.move rfl rfl) (by decide) ?_ | refine AOps.moveU rfl (by decide) ?_
  first | refine AOps.val (Y.move rfl rfl) (by decide) ?_ | refine AOps.moveU rfl (by decide) ?_
  refine AOps.val (Y.len sl22 rfl (n := l.length) (congrArg some (List.length_map ..))) (by decide) ?_
  refine AOps.val (Y.lss rfl rfl) (by decide) ?_
  refine AOps.nil ?_
  refine AWp.condD rfl (fun c8 => ?_) (fun c8 => ?_)
  · obtain ⟨q, hg⟩ : ∃ q, l[ix]? = some q := ⟨_, List.getElem?_eq_getElem (by omega)⟩
    have hnl := nin_take_le l ix
    have hnl2 := nin_le l
    refine AWp.skip ?_
    refine AWp.seq ?_
    refine AWp.block ?_
    refine AWp.seq ?_
    refine AWp.region ?_
    first | refine AOps.val (Y.move rfl rfl) (by decide) ?_ | refine AOps.moveU rfl (by decide) ?_
    first | refine AOps.val (Y.move rfl rfl) (by decide) ?_ | refine AOps.moveU rfl (by decide) ?_
    refine AOps.val (Y.indexF sl22 rfl rfl rfl (getElem?_map' hg)) (by decide) ?_
    refine AOps.val (Y.fieldAddr fl38_0 rfl rfl) (by decide) ?_
    refine AOps.val (Y.load sh3 rfl rfl rfl rfl) (by decide) ?_
    refine AOps.val (Y.eql rfl rfl) (by decide) ?_
    refine AOps.nil ?_
    refine AWp.condD rfl (fun c16 => ?_) (fun c16 => ?_)
    · refine AWp.region ?_
      first | refine AOps.val (Y.move rfl rfl) (by decide) ?_ | refine AOps.moveU rfl (by decide) ?_
      first | refine AOps.val (Y.addI rfl rfl (by omega)) (by decide) ?_ | refine AOps.val (Y.add rfl rfl rfl) (by decide) ?_
      first | refine AOps.val (Y.assign rfl rfl) (by decide) ?_ | refine AOps.assignU rfl (by decide) ?_
      refine AOps.nil ?_
      refine AWp.region ?_
      first | refine AOps.val (Y.move rfl rfl) (by decide) ?_ | refine AOps.moveU rfl (by decide) ?_
      first | refine AOps.val (Y.addI rfl rfl (by omega)) (by decide) ?_ | refine AOps.val (Y.add rfl rfl rfl) (by decide) ?_
      first | refine AOps.val (Y.assign rfl rfl) (by decide) ?_ | refine AOps.assignU rfl (by decide) ?_
      refine AOps.nil ?_
      exact ⟨ix + 1, by omega, by omega, Le.mk (by repeat (first | exact SubL.nil | refine SubL.cons (by first | rfl | (rw [nin_succ hg, if_neg (by omega)]; rfl) | (rw [nin_succ hg, if_pos (by omega)]; rfl)) ?_)) SubL.nil⟩
    · refine AWp.skip ?_
      refine AWp.region ?_
      first | refine AOps.val (Y.move rfl rfl) (by decide) ?_ | refine AOps.moveU rfl (by decide) ?_
      first | refine AOps.val (Y.addI rfl rfl (by omega)) (by decide) ?_ | refine AOps.val (Y.add rfl rfl rfl) (by decide) ?_
      first | refine AOps.val (Y.assign rfl rfl) (by decide) ?_ | refine AOps.assignU rfl (by decide) ?_
      refine AOps.nil ?_
      exact ⟨ix + 1, by omega, by omega, Le.mk (by repeat (first | exact SubL.nil | refine SubL.cons (by first | rfl | (rw [nin_succ hg, if_neg (by omega)]; rfl) | (rw [nin_succ hg, if_pos (by omega)]; rfl)) ?_)) SubL.nil⟩
  · refine AWp.exit ?_
    refine AWp.seq ?_
    refine AWp.region ?_
    first | refine AOps.val (Y.move rfl rfl) (by decide) ?_ | refine AOps.moveU rfl (by decide) ?_
    first | refine AOps.val (Y.assign rfl rfl) (by decide) ?_ | refine AOps.assignU rfl (by decide) ?_
    refine AOps.nil ?_
    refine AWp.ret ?_
    exact ⟨_, _, rfl, rfl, (by have h : ix = l.length := (by omega); subst h; rw [List.take_length]; rfl), rfl⟩

end Go.Proofs.Ytiehdnjcapjacaa
/- The example that every law begins with; the law on Check. -/
namespace Go.Proofs.Ytiehdnjcapjacaa
open Go Go.AW Go.Proofs



theorem awake_good : Good [⟨3, 0, 0⟩, ⟨4, 0, 0⟩] := by
  intro i g h
  rcases i with _ | _ | i
  · simp at h; subst h; simp [okGate, okArg, operands]
  · simp at h; subst h; simp [okGate, okArg, operands]
  · simp at h
theorem awake_evalR : evalR [⟨3, 0, 0⟩, ⟨4, 0, 0⟩] [false] = ([false, true], 0) := by
  rw [evalR_ok awake_good rfl]; rfl
theorem awake_eval : ACalls Try.prog 13 [.fz 3 (([⟨3, 0, 0⟩, ⟨4, 0, 0⟩] : List Gate).map Gate.row), .fz 1 ([false].map brow)] [] [] (fun r o => r = .tup [.uni 1 ([false, true].map brow), .v (.int .i64 0)] ∧ o = []) := by
  have h := eval_spec (l := [⟨3, 0, 0⟩, ⟨4, 0, 0⟩]) (ins := [false]) (by decide)
  rw [awake_evalR] at h
  exact h
theorem awake_check : ACalls Try.prog 12 [.fz 3 (([⟨99, 0, 0⟩] : List Gate).map Gate.row)] [] [] (fun r o => r = .v (.int .i64 3) ∧ o = []) := by
  have h := check_spec (l := [⟨99, 0, 0⟩]) (by decide)
  rw [check_bad (i := 0) (g := ⟨99, 0, 0⟩) rfl (by simp [okGate])] at h
  exact h
theorem formed_check {l : List Gate} : (formed l = true → check l = 0) ∧ (formed l = false → check l = 3) := by
  by_cases h : Good l
  · exact ⟨fun _ => check_good h, fun h' => by rw [formed_good h] at h'; cases h'⟩
  · exact ⟨fun h' => by simp [formed, h] at h', fun _ => by simp [check, h]⟩

set_option maxHeartbeats 1000000 in
theorem awake_spec : ACalls Try.prog 10 [] [] [] (fun r o => r = .v (.bool true) ∧ o = []) := by
  refine ACalls.of Try.func10 rfl rfl rfl (n := 31) (by decide) (Nat.zero_le _) ?_
  refine AWp.seq ?_
  refine AWp.region ?_
  refine AOps.val (Y.assign rfl rfl) (by decide) ?_
  refine AOps.nil ?_
  refine AWp.seq ?_
  refine AWp.region ?_
  refine AOps.val (Y.build pl38 ze38 rfl rfl rfl) (by decide) ?_
  refine AOps.val (Y.build pl38 ze38 rfl rfl rfl) (by decide) ?_
  refine AOps.buildSlice (([⟨3, 0, 0⟩, ⟨4, 0, 0⟩] : List Gate).map Gate.row) sl22 ze38 rfl rfl rfl rfl rfl (by intro r hr; simp at hr; (first | subst hr | (rcases hr with rfl | rfl)) <;> rfl) rfl rfl rfl (by decide) ?_
  first | refine AOps.val (Y.assign rfl rfl) (by decide) ?_ | refine AOps.assignU rfl (by decide) ?_
  refine AOps.nil ?_
  refine AWp.seq ?_
  refine AWp.region ?_
  first | refine AOps.val (Y.move rfl rfl) (by decide) ?_ | refine AOps.moveU rfl (by decide) ?_
  refine AOps.buildSlice ([false].map brow) sl27 ze4 rfl rfl rfl rfl rfl (by intro r hr; simp at hr; (first | subst hr | (rcases hr with rfl | rfl)) <;> rfl) rfl rfl rfl (by decide) ?_
  refine AOps.sh (Sh.freezeX (d := 8) (y := .fz 3 (([⟨3, 0, 0⟩, ⟨4, 0, 0⟩] : List Gate).map Gate.row)) rfl rfl) ?_
  refine AOps.sh (Sh.freezeX (d := 9) (y := .fz 1 ([false].map brow)) rfl rfl) ?_
  refine AOps.callP ok13 (awake_eval) rfl (.keep rfl rfl (.keep rfl rfl .nil)) (by decide) rfl ?_
  refine AOps.sh (Sh.freezeX (d := 10) (y := .tup [.fz 1 ([false, true].map brow), .v (.int .i64 0)]) rfl rfl) ?_
  first | refine AOps.val (Y.move rfl rfl) (by decide) ?_ | refine AOps.moveU rfl (by decide) ?_
  refine AOps.val (Y.extract rfl rfl rfl) (by decide) ?_
  refine AOps.val (Y.extract rfl rfl rfl) (by decide) ?_
  first | refine AOps.val (Y.assign rfl rfl) (by decide) ?_ | refine AOps.assignU rfl (by decide) ?_
  first | refine AOps.val (Y.assign rfl rfl) (by decide) ?_ | refine AOps.assignU rfl (by decide) ?_
  refine AOps.nil ?_
  refine AWp.seq ?_
  refine AWp.region ?_
  first | refine AOps.val (Y.move rfl rfl) (by decide) ?_ | refine AOps.moveU rfl (by decide) ?_
  refine AOps.val (Y.eql rfl rfl) (by decide) ?_
  first | refine AOps.val (Y.move rfl rfl) (by decide) ?_ | refine AOps.moveU rfl (by decide) ?_
  refine AOps.splitD (d := 15) rfl (fun c15 => ?_) (fun c15 => ?_)
  · refine AOps.guardRun (d := 15) rfl (by decide) rfl ?_
    first | refine AOps.val (Y.move rfl rfl) (by decide) ?_ | refine AOps.moveU rfl (by decide) ?_
    refine AOps.guardRun (d := 15) rfl (by decide) rfl ?_
    refine AOps.val (Y.len sl27 rfl (n := 2) rfl) (by decide) ?_
    refine AOps.guardRun (d := 15) rfl (by decide) rfl ?_
    refine AOps.val (Y.eql rfl rfl) (by decide) ?_
    refine AOps.val (Y.pick rfl rfl rfl) (by decide) ?_
    first | refine AOps.val (Y.move rfl rfl) (by decide) ?_ | refine AOps.moveU rfl (by decide) ?_
    refine AOps.splitD (d := 20) rfl (fun c20 => ?_) (fun c20 => ?_)
    · refine AOps.guardRun (d := 20) rfl (by decide) rfl ?_
      first | refine AOps.val (Y.move rfl rfl) (by decide) ?_ | refine AOps.moveU rfl (by decide) ?_
      refine AOps.guardRun (d := 20) rfl (by decide) rfl ?_
      refine AOps.val (Y.indexF sl27 rfl rfl (m := 1) rfl rfl) (by decide) ?_
      refine AOps.guardRun (d := 20) rfl (by decide) rfl ?_
      refine AOps.val (Y.load sh4 rfl rfl rfl rfl) (by decide) ?_
      refine AOps.val (Y.pick rfl rfl rfl) (by decide) ?_
      first | refine AOps.val (Y.move rfl rfl) (by decide) ?_ | refine AOps.moveU rfl (by decide) ?_
      refine AOps.split (d := 25) rfl (fun c25 => ?_) (fun c25 => ?_)
      · refine AOps.guardRun (d := 25) rfl (by decide) rfl ?_
        refine AOps.val (Y.build pl38 ze38 rfl rfl rfl) (by decide) ?_
        refine AOps.guardRun (d := 25) rfl (by decide) rfl ?_
        refine AOps.buildSlice (([⟨99, 0, 0⟩] : List Gate).map Gate.row) sl22 ze38 rfl rfl rfl rfl rfl (by intro r hr; simp at hr; (first | subst hr | (rcases hr with rfl | rfl)) <;> rfl) rfl rfl rfl (by decide) ?_
        refine AOps.sh (Sh.freezeX (d := 27) (y := .fz 3 (([⟨99, 0, 0⟩] : List Gate).map Gate.row)) rfl rfl) ?_
        refine AOps.guardRun (d := 25) rfl (by decide) rfl ?_
        refine AOps.callP ok12 (awake_check) rfl (.keep rfl rfl .nil) (by decide) rfl ?_
        refine AOps.guardRun (d := 25) rfl (by decide) rfl ?_
        refine AOps.val (Y.eql rfl rfl) (by decide) ?_
        refine AOps.val (Y.pick rfl rfl rfl) (by decide) ?_
        first | refine AOps.val (Y.assign rfl rfl) (by decide) ?_ | refine AOps.assignU rfl (by decide) ?_
        refine AOps.nil ?_
        refine AWp.ret ?_
        exact ⟨_, _, rfl, rfl, rfl, rfl⟩
      · exact absurd c25 (by decide)
    · exact absurd rfl c20
  · exact absurd rfl c15

set_option maxHeartbeats 1000000 in
theorem law3_spec {l : List Gate} (hl : l.length ≤ 4611686018427387904) : ACalls Try.prog 3 [.fz 3 (l.map Gate.row)] [] [] (fun r o => r = .v (.bool true) ∧ o = []) := by
  refine ACalls.of Try.func3 rfl rfl rfl (n := 12) (by decide) (Nat.le_of_ble_eq_true rfl) ?_
  refine AWp.seq ?_
  refine AWp.region ?_
  refine AOps.val (Y.assign rfl rfl) (by decide) ?_
  refine AOps.nil ?_
  refine AWp.seq ?_
  refine AWp.seq ?_
  refine AWp.region ?_
  refine AOps.callP ok10 (awake_spec) rfl .nil (by decide) rfl ?_
  refine AOps.val (Y.not rfl) (by decide) ?_
  refine AOps.nil ?_
  refine AWp.cond rfl (fun c5 => ?_) (fun c5 => ?_)
  · exact absurd c5 (by decide)
  · refine AWp.skip ?_
    refine AWp.seq ?_
    refine AWp.region ?_
    refine AOps.val (Y.assign rfl rfl) (by decide) ?_
    refine AOps.nil ?_
    refine AWp.seq ?_
    refine AWp.seq ?_
    refine AWp.region ?_
    first | refine AOps.val (Y.move rfl rfl) (by decide) ?_ | refine AOps.moveU rfl (by decide) ?_
    refine AOps.callP ok11 (formed_spec (by omega)) rfl (.keep rfl rfl .nil) (by decide) rfl ?_
    refine AOps.nil ?_
    refine AWp.cond rfl (fun c7 => ?_) (fun c7 => ?_)
    · refine AWp.region ?_
      refine AOps.val (Y.assign rfl rfl) (by decide) ?_
      refine AOps.nil ?_
      refine AWp.seq ?_
      refine AWp.region ?_
      first | refine AOps.val (Y.move rfl rfl) (by decide) ?_ | refine AOps.moveU rfl (by decide) ?_
      refine AOps.callP ok12 (check_spec (by omega)) rfl (.keep rfl rfl .nil) (by decide) rfl ?_
      first | refine AOps.val (Y.move rfl rfl) (by decide) ?_ | refine AOps.moveU rfl (by decide) ?_
      refine AOps.val (Y.eql rfl rfl) (by decide) ?_
      first | refine AOps.val (Y.assign rfl rfl) (by decide) ?_ | refine AOps.assignU rfl (by decide) ?_
      refine AOps.nil ?_
      refine AWp.ret ?_
      exact ⟨_, _, rfl, rfl, rform (by rw [formed_check.1 c7]; rfl), rfl⟩
    · refine AWp.skip ?_
      refine AWp.seq ?_
      refine AWp.region ?_
      first | refine AOps.val (Y.move rfl rfl) (by decide) ?_ | refine AOps.moveU rfl (by decide) ?_
      refine AOps.callP ok12 (check_spec (by omega)) rfl (.keep rfl rfl .nil) (by decide) rfl ?_
      first | refine AOps.val (Y.move rfl rfl) (by decide) ?_ | refine AOps.moveU rfl (by decide) ?_
      refine AOps.val (Y.eql rfl rfl) (by decide) ?_
      first | refine AOps.val (Y.assign rfl rfl) (by decide) ?_ | refine AOps.assignU rfl (by decide) ?_
      refine AOps.nil ?_
      refine AWp.ret ?_
      exact ⟨_, _, rfl, rfl, rform (by rw [formed_check.2 c7]; rfl), rfl⟩

end Go.Proofs.Ytiehdnjcapjacaa
/- The law on Eval. -/
namespace Go.Proofs.Ytiehdnjcapjacaa
open Go Go.AW Go.Proofs



set_option maxHeartbeats 1000000 in
theorem refEval_spec {l : List Gate} {ins : List Bool} (hl : l.length ≤ 8796093022208) (hb : Good l) (hin : ins.length = nin l) : ACalls Try.prog 15 [.fz 3 (l.map Gate.row), .fz 1 (ins.map brow)] [] [] (fun r o => r = .uni 1 ((outs l ins l.length).map brow) ∧ o = []) := by
  refine ACalls.of Try.func15 rfl rfl rfl (n := 86) (by decide) (Nat.le_of_ble_eq_true rfl) ?_
  refine AWp.seq ?_
  refine AWp.region ?_
  refine AOps.val (Y.assign rfl rfl) (by decide) ?_
  refine AOps.nil ?_
  refine AWp.seq ?_
  refine AWp.region ?_
  refine AOps.val (Y.assign rfl rfl) (by decide) ?_
  refine AOps.nil ?_
  refine AWp.seq ?_
  refine AWp.region ?_
  refine AOps.val (Y.assign rfl rfl) (by decide) ?_
  refine AOps.nil ?_
  refine AWp.seq ?_
  refine AWp.seq ?_
  refine AWp.sh (Sh.nil (d := 5) 105 1 rfl (by decide)) ?_
  refine AWp.region ?_
  refine AOps.val (Y.assign rfl rfl) (by decide) ?_
  refine AOps.nil ?_
  refine AWp.block ?_
  refine AWp.loop (fun (ix : Nat) => ⟨[(6, .v (.int .i64 ((nin (l.take ix) : Nat)))), (7, .v (.int .i64 ((ix : Int)))), (5, .slc 105 1 0 ix), (0, .fz 3 (l.map Gate.row)), (1, .fz 1 (ins.map brow))], [(105, .rows 1 ((outs l ins ix).map brow))]⟩) (fun ix => ix ≤ l.length) (fun ix => l.length - ix) (0) (by omega) (Le.mk (by repeat (first | exact SubL.nil | refine SubL.cons (by first | rfl | (rw [nin_zero]; rfl)) ?_)) (SubL.cons rfl SubL.nil)) (fun ix hI => ?_)
  refine AWp.seq ?_
  refine AWp.seq ?_
  refine AWp.region ?_
  first | refine AOps.val (Y.move rfl rfl) (by decide) ?_ | refine AOps.moveU rfl (by decide) ?_
  first | refine AOps.val (Y.move rfl rfl) (by decide) ?_ | refine AOps.moveU rfl (by decide) ?_
  refine AOps.val (Y.len sl22 rfl (n := l.length) (congrArg some (List.length_map ..))) (by decide) ?_
  refine AOps.val (Y.lss rfl rfl) (by decide) ?_
  refine AOps.nil ?_
  refine AWp.condD rfl (fun c13 => ?_) (fun c13 => ?_)
  · obtain ⟨q, hg⟩ : ∃ q, l[ix]? = some q := ⟨_, List.getElem?_eq_getElem (by omega)⟩
    have hol : (outs l ins ix).length = ix := outs_length (by omega)
    have hok := hb ix q hg
    simp only [okGate, okArg, operands] at hok
    have hnl := nin_take_le l ix
    have hnl2 := nin_le l
    refine AWp.skip ?_
    refine AWp.seq ?_
    refine AWp.block ?_
    refine AWp.seq ?_
    refine AWp.region ?_
    first | refine AOps.val (Y.move rfl rfl) (by decide) ?_ | refine AOps.moveU rfl (by decide) ?_
    first | refine AOps.val (Y.move rfl rfl) (by decide) ?_ | refine AOps.moveU rfl (by decide) ?_
    refine AOps.val (Y.indexF sl22 rfl rfl rfl (getElem?_map' hg)) (by decide) ?_
    refine AOps.val (Y.loadA sh38 rfl rfl (Nat.le_of_ble_eq_true rfl) rfl rfl) (by decide) ?_
    refine AOps.alloc 108 ze38 rfl rfl (by decide) ?_
    first | refine AOps.storeC si38 rfl rfl rfl rfl rfl rfl (Nat.le_of_ble_eq_true rfl) rfl ?_ | refine AOps.storeR si38 rfl rfl rfl rfl rfl rfl rfl (by first | assumption | exact getElem?_map' (by assumption)) (Nat.le_of_ble_eq_true rfl) ?_
    refine AOps.nil ?_
    refine AWp.seq ?_
    refine AWp.region ?_
    refine AOps.val (Y.assign rfl rfl) (by decide) ?_
    refine AOps.nil ?_
    refine AWp.join (fun (u : Bool × Int) => ⟨[(9, .v (.bool u.1)), (6, .v (.int .i64 u.2)), (7, .v (.int .i64 ((ix : Int)))), (5, .slc 105 1 0 ix), (0, .fz 3 (l.map Gate.row)), (1, .fz 1 (ins.map brow))], [(105, .rows 1 ((outs l ins ix).map brow))]⟩) (fun u => u.1 = valOf (outs l ins ix) ins (nin (l.take ix)) q ∧ u.2 = (nin (l.take (ix + 1)) : Nat)) ?_ (fun u hJ => ?_)
    · refine AWp.seq ?_
      refine AWp.region ?_
      refine AOps.val (Y.fieldAddr fl38_0 rfl rfl) (by decide) ?_
      refine AOps.val (Y.load sh3 rfl rfl rfl rfl) (by decide) ?_
      refine AOps.nil ?_
      refine AWp.block ?_
      refine AWp.seq ?_
      refine AWp.region ?_
      refine AOps.val (Y.eql rfl rfl) (by decide) ?_
      first | refine AOps.val (Y.assign rfl rfl) (by decide) ?_ | refine AOps.assignU rfl (by decide) ?_
      refine AOps.nil ?_
      refine AWp.condD rfl (fun c22 => ?_) (fun c22 => ?_)
      · refine AWp.region ?_
        refine AOps.val (Y.assign rfl rfl) (by decide) ?_
        refine AOps.nil ?_
        refine ⟨(_, _), ?_, Le.mk (SubL.cons rfl (SubL.cons rfl (SubL.cons rfl (SubL.cons rfl (SubL.cons rfl (SubL.cons rfl (SubL.nil))))))) (SubL.cons rfl (SubL.nil))⟩
        refine ⟨by first | (rw [valOf_and c40, c47]; rfl) | (rw [valOf_or c54, c61]; rfl) | (rw [valOf_not c32]; rfl) | (rw [valOf_xor c68]; rfl) | (simp [valOf, c22]; done) | (simp [valOf, c24]; done) | (simp [valOf, *]; done), by rw [nin_succ hg]; first | (rw [if_pos (by omega)]; rfl) | (rw [if_neg (by omega)]; rfl)⟩
      · refine AWp.seq ?_
        refine AWp.region ?_
        refine AOps.val (Y.eql rfl rfl) (by decide) ?_
        first | refine AOps.val (Y.assign rfl rfl) (by decide) ?_ | refine AOps.assignU rfl (by decide) ?_
        refine AOps.nil ?_
        refine AWp.condD rfl (fun c24 => ?_) (fun c24 => ?_)
        · have hlt := nin_lt hg c24
          refine AWp.seq ?_
          refine AWp.region ?_
          first | refine AOps.val (Y.move rfl rfl) (by decide) ?_ | refine AOps.moveU rfl (by decide) ?_
          first | refine AOps.val (Y.move rfl rfl) (by decide) ?_ | refine AOps.moveU rfl (by decide) ?_
          refine AOps.val (Y.indexF sl27 rfl rfl rfl (map_row (f := brow) false (by omega))) (by decide) ?_
          refine AOps.val (Y.load sh4 rfl rfl rfl rfl) (by decide) ?_
          first | refine AOps.val (Y.assign rfl rfl) (by decide) ?_ | refine AOps.assignU rfl (by decide) ?_
          refine AOps.nil ?_
          refine AWp.region ?_
          first | refine AOps.val (Y.move rfl rfl) (by decide) ?_ | refine AOps.moveU rfl (by decide) ?_
          first | refine AOps.val (Y.addI rfl rfl (by omega)) (by decide) ?_ | refine AOps.val (Y.add rfl rfl rfl) (by decide) ?_
          first | refine AOps.val (Y.assign rfl rfl) (by decide) ?_ | refine AOps.assignU rfl (by decide) ?_
          refine AOps.nil ?_
          refine ⟨(_, _), ?_, Le.mk (SubL.cons rfl (SubL.cons rfl (SubL.cons rfl (SubL.cons rfl (SubL.cons rfl (SubL.cons rfl (SubL.nil))))))) (SubL.cons rfl (SubL.nil))⟩
          refine ⟨by first | (rw [valOf_and c40, c47]; rfl) | (rw [valOf_or c54, c61]; rfl) | (rw [valOf_not c32]; rfl) | (rw [valOf_xor c68]; rfl) | (simp [valOf, c22]; done) | (simp [valOf, c24]; done) | (simp [valOf, *]; done), by rw [nin_succ hg]; first | (rw [if_pos (by omega)]; rfl) | (rw [if_neg (by omega)]; rfl)⟩
        · refine AWp.seq ?_
          refine AWp.region ?_
          refine AOps.val (Y.eql rfl rfl) (by decide) ?_
          first | refine AOps.val (Y.assign rfl rfl) (by decide) ?_ | refine AOps.assignU rfl (by decide) ?_
          refine AOps.nil ?_
          refine AWp.condD rfl (fun c32 => ?_) (fun c32 => ?_)
          · refine AWp.region ?_
            first | refine AOps.val (Y.move rfl rfl) (by decide) ?_ | refine AOps.moveU rfl (by decide) ?_
            refine AOps.val (Y.fieldAddr fl38_1 rfl rfl) (by decide) ?_
            refine AOps.val (Y.load sh3 rfl rfl rfl rfl) (by decide) ?_
            refine AOps.val (Y.indexO (m := q.a.toNat) sl27 rfl rfl (by omega) (by omega)) (by decide) ?_
            refine AOps.val (Y.load sh4 rfl (row0 (out := outs l ins ix) (k := q.a.toNat) (by rw [hol]; omega)) rfl rfl) (by decide) ?_
            refine AOps.val (Y.not rfl) (by decide) ?_
            first | refine AOps.val (Y.assign rfl rfl) (by decide) ?_ | refine AOps.assignU rfl (by decide) ?_
            refine AOps.nil ?_
            refine ⟨(_, _), ?_, Le.mk (SubL.cons rfl (SubL.cons rfl (SubL.cons rfl (SubL.cons rfl (SubL.cons rfl (SubL.cons rfl (SubL.nil))))))) (SubL.cons rfl (SubL.nil))⟩
            refine ⟨by first | (rw [valOf_and c40, c47]; rfl) | (rw [valOf_or c54, c61]; rfl) | (rw [valOf_not c32]; rfl) | (rw [valOf_xor c68]; rfl) | (simp [valOf, c22]; done) | (simp [valOf, c24]; done) | (simp [valOf, *]; done), by rw [nin_succ hg]; first | (rw [if_pos (by omega)]; rfl) | (rw [if_neg (by omega)]; rfl)⟩
          · refine AWp.seq ?_
            refine AWp.region ?_
            refine AOps.val (Y.eql rfl rfl) (by decide) ?_
            first | refine AOps.val (Y.assign rfl rfl) (by decide) ?_ | refine AOps.assignU rfl (by decide) ?_
            refine AOps.nil ?_
            refine AWp.condD rfl (fun c40 => ?_) (fun c40 => ?_)
            · refine AWp.region ?_
              first | refine AOps.val (Y.move rfl rfl) (by decide) ?_ | refine AOps.moveU rfl (by decide) ?_
              refine AOps.val (Y.fieldAddr fl38_1 rfl rfl) (by decide) ?_
              refine AOps.val (Y.load sh3 rfl rfl rfl rfl) (by decide) ?_
              refine AOps.val (Y.indexO (m := q.a.toNat) sl27 rfl rfl (by omega) (by omega)) (by decide) ?_
              refine AOps.val (Y.load sh4 rfl (row0 (out := outs l ins ix) (k := q.a.toNat) (by rw [hol]; omega)) rfl rfl) (by decide) ?_
              first | refine AOps.val (Y.move rfl rfl) (by decide) ?_ | refine AOps.moveU rfl (by decide) ?_
              refine AOps.split (d := 47) rfl (fun c47 => ?_) (fun c47 => ?_)
              · refine AOps.guardRun (d := 47) rfl (by decide) rfl ?_
                first | refine AOps.val (Y.move rfl rfl) (by decide) ?_ | refine AOps.moveU rfl (by decide) ?_
                refine AOps.guardRun (d := 47) rfl (by decide) rfl ?_
                refine AOps.val (Y.fieldAddr fl38_2 rfl rfl) (by decide) ?_
                refine AOps.guardRun (d := 47) rfl (by decide) rfl ?_
                refine AOps.val (Y.load sh3 rfl rfl rfl rfl) (by decide) ?_
                refine AOps.guardRun (d := 47) rfl (by decide) rfl ?_
                refine AOps.val (Y.indexO (m := q.b.toNat) sl27 rfl rfl (by omega) (by omega)) (by decide) ?_
                refine AOps.guardRun (d := 47) rfl (by decide) rfl ?_
                refine AOps.val (Y.load sh4 rfl (row0 (out := outs l ins ix) (k := q.b.toNat) (by rw [hol]; omega)) rfl rfl) (by decide) ?_
                refine AOps.val (Y.pick rfl rfl rfl) (by decide) ?_
                first | refine AOps.val (Y.assign rfl rfl) (by decide) ?_ | refine AOps.assignU rfl (by decide) ?_
                refine AOps.nil ?_
                refine ⟨(_, _), ?_, Le.mk (SubL.cons rfl (SubL.cons rfl (SubL.cons rfl (SubL.cons rfl (SubL.cons rfl (SubL.cons rfl (SubL.nil))))))) (SubL.cons rfl (SubL.nil))⟩
                refine ⟨by first | (rw [valOf_and c40, c47]; rfl) | (rw [valOf_or c54, c61]; rfl) | (rw [valOf_not c32]; rfl) | (rw [valOf_xor c68]; rfl) | (simp [valOf, c22]; done) | (simp [valOf, c24]; done) | (simp [valOf, *]; done), by rw [nin_succ hg]; first | (rw [if_pos (by omega)]; rfl) | (rw [if_neg (by omega)]; rfl)⟩
              · refine AOps.guardSkipV (d := 47) rfl (by decide) (by decide) rfl rfl ?_
                refine AOps.guardSkipV (d := 47) rfl (by decide) (by decide) rfl rfl ?_
                refine AOps.guardSkipV (d := 47) rfl (by decide) (by decide) rfl rfl ?_
                refine AOps.guardSkipV (d := 47) rfl (by decide) (by decide) rfl rfl ?_
                refine AOps.guardSkipV (d := 47) rfl (by decide) (by decide) rfl rfl ?_
                refine AOps.val (Y.pick rfl rfl rfl) (by decide) ?_
                first | refine AOps.val (Y.assign rfl rfl) (by decide) ?_ | refine AOps.assignU rfl (by decide) ?_
                refine AOps.nil ?_
                refine ⟨(_, _), ?_, Le.mk (SubL.cons rfl (SubL.cons rfl (SubL.cons rfl (SubL.cons rfl (SubL.cons rfl (SubL.cons rfl (SubL.nil))))))) (SubL.cons rfl (SubL.nil))⟩
                refine ⟨by first | (rw [valOf_and c40, c47]; rfl) | (rw [valOf_or c54, c61]; rfl) | (rw [valOf_not c32]; rfl) | (rw [valOf_xor c68]; rfl) | (simp [valOf, c22]; done) | (simp [valOf, c24]; done) | (simp [valOf, *]; done), by rw [nin_succ hg]; first | (rw [if_pos (by omega)]; rfl) | (rw [if_neg (by omega)]; rfl)⟩
            · refine AWp.seq ?_
              refine AWp.region ?_
              refine AOps.val (Y.eql rfl rfl) (by decide) ?_
              first | refine AOps.val (Y.assign rfl rfl) (by decide) ?_ | refine AOps.assignU rfl (by decide) ?_
              refine AOps.nil ?_
              refine AWp.condD rfl (fun c54 => ?_) (fun c54 => ?_)
              · refine AWp.region ?_
                first | refine AOps.val (Y.move rfl rfl) (by decide) ?_ | refine AOps.moveU rfl (by decide) ?_
                refine AOps.val (Y.fieldAddr fl38_1 rfl rfl) (by decide) ?_
                refine AOps.val (Y.load sh3 rfl rfl rfl rfl) (by decide) ?_
                refine AOps.val (Y.indexO (m := q.a.toNat) sl27 rfl rfl (by omega) (by omega)) (by decide) ?_
                refine AOps.val (Y.load sh4 rfl (row0 (out := outs l ins ix) (k := q.a.toNat) (by rw [hol]; omega)) rfl rfl) (by decide) ?_
                first | refine AOps.val (Y.move rfl rfl) (by decide) ?_ | refine AOps.moveU rfl (by decide) ?_
                refine AOps.split (d := 61) rfl (fun c61 => ?_) (fun c61 => ?_)
                · refine AOps.guardSkipV (d := 61) rfl (by decide) (by decide) rfl rfl ?_
                  refine AOps.guardSkipV (d := 61) rfl (by decide) (by decide) rfl rfl ?_
                  refine AOps.guardSkipV (d := 61) rfl (by decide) (by decide) rfl rfl ?_
                  refine AOps.guardSkipV (d := 61) rfl (by decide) (by decide) rfl rfl ?_
                  refine AOps.guardSkipV (d := 61) rfl (by decide) (by decide) rfl rfl ?_
                  refine AOps.val (Y.pick rfl rfl rfl) (by decide) ?_
                  first | refine AOps.val (Y.assign rfl rfl) (by decide) ?_ | refine AOps.assignU rfl (by decide) ?_
                  refine AOps.nil ?_
                  refine ⟨(_, _), ?_, Le.mk (SubL.cons rfl (SubL.cons rfl (SubL.cons rfl (SubL.cons rfl (SubL.cons rfl (SubL.cons rfl (SubL.nil))))))) (SubL.cons rfl (SubL.nil))⟩
                  refine ⟨by first | (rw [valOf_and c40, c47]; rfl) | (rw [valOf_or c54, c61]; rfl) | (rw [valOf_not c32]; rfl) | (rw [valOf_xor c68]; rfl) | (simp [valOf, c22]; done) | (simp [valOf, c24]; done) | (simp [valOf, *]; done), by rw [nin_succ hg]; first | (rw [if_pos (by omega)]; rfl) | (rw [if_neg (by omega)]; rfl)⟩
                · refine AOps.guardRun (d := 61) rfl (by decide) rfl ?_
                  first | refine AOps.val (Y.move rfl rfl) (by decide) ?_ | refine AOps.moveU rfl (by decide) ?_
                  refine AOps.guardRun (d := 61) rfl (by decide) rfl ?_
                  refine AOps.val (Y.fieldAddr fl38_2 rfl rfl) (by decide) ?_
                  refine AOps.guardRun (d := 61) rfl (by decide) rfl ?_
                  refine AOps.val (Y.load sh3 rfl rfl rfl rfl) (by decide) ?_
                  refine AOps.guardRun (d := 61) rfl (by decide) rfl ?_
                  refine AOps.val (Y.indexO (m := q.b.toNat) sl27 rfl rfl (by omega) (by omega)) (by decide) ?_
                  refine AOps.guardRun (d := 61) rfl (by decide) rfl ?_
                  refine AOps.val (Y.load sh4 rfl (row0 (out := outs l ins ix) (k := q.b.toNat) (by rw [hol]; omega)) rfl rfl) (by decide) ?_
                  refine AOps.val (Y.pick rfl rfl rfl) (by decide) ?_
                  first | refine AOps.val (Y.assign rfl rfl) (by decide) ?_ | refine AOps.assignU rfl (by decide) ?_
                  refine AOps.nil ?_
                  refine ⟨(_, _), ?_, Le.mk (SubL.cons rfl (SubL.cons rfl (SubL.cons rfl (SubL.cons rfl (SubL.cons rfl (SubL.cons rfl (SubL.nil))))))) (SubL.cons rfl (SubL.nil))⟩
                  refine ⟨by first | (rw [valOf_and c40, c47]; rfl) | (rw [valOf_or c54, c61]; rfl) | (rw [valOf_not c32]; rfl) | (rw [valOf_xor c68]; rfl) | (simp [valOf, c22]; done) | (simp [valOf, c24]; done) | (simp [valOf, *]; done), by rw [nin_succ hg]; first | (rw [if_pos (by omega)]; rfl) | (rw [if_neg (by omega)]; rfl)⟩
              · refine AWp.seq ?_
                refine AWp.region ?_
                refine AOps.val (Y.eql rfl rfl) (by decide) ?_
                first | refine AOps.val (Y.assign rfl rfl) (by decide) ?_ | refine AOps.assignU rfl (by decide) ?_
                refine AOps.nil ?_
                refine AWp.condD rfl (fun c68 => ?_) (fun c68 => ?_)
                · refine AWp.regionS rfl (by kernel_rfl) ?_
                  first | refine AHead.val (Y.move rfl rfl) (by decide) ?_ | refine AHead.moveU rfl (by decide) ?_
                  refine AHead.val (Y.fieldAddr fl38_1 rfl rfl) (by decide) ?_
                  refine AHead.val (Y.load sh3 rfl rfl rfl rfl) (by decide) ?_
                  refine AHead.val (Y.indexO (m := q.a.toNat) sl27 rfl rfl (by omega) (by omega)) (by decide) ?_
                  refine AHead.val (Y.load sh4 rfl (row0 (out := outs l ins ix) (k := q.a.toNat) (by rw [hol]; omega)) rfl rfl) (by decide) ?_
                  first | refine AHead.val (Y.move rfl rfl) (by decide) ?_ | refine AHead.moveU rfl (by decide) ?_
                  refine AHead.val (Y.fieldAddr fl38_2 rfl rfl) (by decide) ?_
                  refine AHead.val (Y.load sh3 rfl rfl rfl rfl) (by decide) ?_
                  refine AHead.val (Y.indexO (m := q.b.toNat) sl27 rfl rfl (by omega) (by omega)) (by decide) ?_
                  refine AHead.val (Y.load sh4 rfl (row0 (out := outs l ins ix) (k := q.b.toNat) (by rw [hol]; omega)) rfl rfl) (by decide) ?_
                  refine AHead.val (Y.neqB un4 rfl rfl) (by decide) ?_
                  first | refine AHead.val (Y.assign rfl rfl) (by decide) ?_ | refine AHead.assignU rfl (by decide) ?_
                  refine AHead.nil ?_
                  refine ⟨(_, _), ?_, Le.mk (SubL.cons rfl (SubL.cons rfl (SubL.cons rfl (SubL.cons rfl (SubL.cons rfl (SubL.cons rfl (SubL.nil))))))) (SubL.cons rfl (SubL.nil))⟩
                  refine ⟨by first | (rw [valOf_and c40, c47]; rfl) | (rw [valOf_or c54, c61]; rfl) | (rw [valOf_not c32]; rfl) | (rw [valOf_xor c68]; rfl) | (simp [valOf, c22]; done) | (simp [valOf, c24]; done) | (simp [valOf, *]; done), by rw [nin_succ hg]; first | (rw [if_pos (by omega)]; rfl) | (rw [if_neg (by omega)]; rfl)⟩
                · refine AWp.skip ?_
                  refine ⟨(_, _), ?_, Le.mk (SubL.cons rfl (SubL.cons rfl (SubL.cons rfl (SubL.cons rfl (SubL.cons rfl (SubL.cons rfl (SubL.nil))))))) (SubL.cons rfl (SubL.nil))⟩
                  refine ⟨by first | (rw [valOf_and c40, c47]; rfl) | (rw [valOf_or c54, c61]; rfl) | (rw [valOf_not c32]; rfl) | (rw [valOf_xor c68]; rfl) | (simp [valOf, c22]; done) | (simp [valOf, c24]; done) | (simp [valOf, *]; done), by rw [nin_succ hg]; first | (rw [if_pos (by omega)]; rfl) | (rw [if_neg (by omega)]; rfl)⟩
    · obtain ⟨b, m⟩ := u
      obtain ⟨hb1, rfl⟩ := hJ
      refine AWp.region ?_
      first | refine AOps.val (Y.move rfl rfl) (by decide) ?_ | refine AOps.moveU rfl (by decide) ?_
      first | refine AOps.val (Y.move rfl rfl) (by decide) ?_ | refine AOps.moveU rfl (by decide) ?_
      refine AOps.buildSlice ([[.v (.bool b)]]) sl27 ze4 rfl rfl rfl rfl rfl (by intro r hr; simp at hr; (first | subst hr | (rcases hr with rfl | rfl)) <;> rfl) rfl rfl rfl (by decide) ?_
      refine AOps.appendE ((outs l ins (ix + 1)).map brow) (ix + 1) sl27 ze4 rfl rfl rfl rfl (by rw [List.length_map, hol]; omega) (outs_app hg (by omega) hb1) rfl (by omega) (by omega) (by decide) (by decide) ?_
      first | refine AOps.val (Y.assign rfl rfl) (by decide) ?_ | refine AOps.assignU rfl (by decide) ?_
      refine AOps.nil ?_
      refine AWp.region ?_
      first | refine AOps.val (Y.move rfl rfl) (by decide) ?_ | refine AOps.moveU rfl (by decide) ?_
      first | refine AOps.val (Y.addI rfl rfl (by omega)) (by decide) ?_ | refine AOps.val (Y.add rfl rfl rfl) (by decide) ?_
      first | refine AOps.val (Y.assign rfl rfl) (by decide) ?_ | refine AOps.assignU rfl (by decide) ?_
      refine AOps.nil ?_
      exact ⟨ix + 1, by omega, by omega, Le.mk (by repeat (first | exact SubL.nil | refine SubL.cons rfl ?_)) (by repeat (first | exact SubL.nil | refine SubL.cons rfl ?_))⟩
  · refine AWp.exit ?_
    refine AWp.seq ?_
    refine AWp.region ?_
    first | refine AOps.val (Y.move rfl rfl) (by decide) ?_ | refine AOps.moveU rfl (by decide) ?_
    first | refine AOps.val (Y.assign rfl rfl) (by decide) ?_ | refine AOps.assignU rfl (by decide) ?_
    refine AOps.sh (Sh.detach (d := 4) (o := 105) rfl rfl (by rw [List.length_map, outs_length hI]) (by decide)) ?_
    refine AOps.nil ?_
    refine AWp.ret ?_
    exact ⟨_, _, rfl, rfl, (by have h : ix = l.length := (by omega); subst h; rfl), rfl⟩

set_option maxHeartbeats 1000000 in
theorem law4_spec {l : List Gate} {ins : List Bool} (hl : l.length ≤ 8796093022208) : ACalls Try.prog 4 [.fz 3 (l.map Gate.row), .fz 1 (ins.map brow)] [] [] (fun r o => r = .v (.bool true) ∧ o = []) := by
  refine ACalls.of Try.func4 rfl rfl rfl (n := 66) (by decide) (Nat.le_of_ble_eq_true rfl) ?_
  refine AWp.seq ?_
  refine AWp.region ?_
  refine AOps.val (Y.assign rfl rfl) (by decide) ?_
  refine AOps.nil ?_
  refine AWp.seq ?_
  refine AWp.seq ?_
  refine AWp.region ?_
  refine AOps.callP ok10 (awake_spec) rfl .nil (by decide) rfl ?_
  refine AOps.val (Y.not rfl) (by decide) ?_
  refine AOps.nil ?_
  refine AWp.cond rfl (fun c10 => ?_) (fun c10 => ?_)
  · exact absurd c10 (by decide)
  · refine AWp.skip ?_
    refine AWp.seq ?_
    refine AWp.region ?_
    first | refine AOps.val (Y.move rfl rfl) (by decide) ?_ | refine AOps.moveU rfl (by decide) ?_
    first | refine AOps.val (Y.move rfl rfl) (by decide) ?_ | refine AOps.moveU rfl (by decide) ?_
    refine AOps.callP ok13 (eval_spec (by omega)) rfl (.keep rfl rfl (.keep rfl rfl .nil)) (by decide) rfl ?_
    refine AOps.sh (Sh.freezeX (d := 14) rfl (retX_ffz _ _)) ?_
    first | refine AOps.val (Y.move rfl rfl) (by decide) ?_ | refine AOps.moveU rfl (by decide) ?_
    refine AOps.val (Y.extract rfl rfl rfl) (by decide) ?_
    refine AOps.val (Y.extract rfl rfl rfl) (by decide) ?_
    first | refine AOps.val (Y.assign rfl rfl) (by decide) ?_ | refine AOps.assignU rfl (by decide) ?_
    first | refine AOps.val (Y.assign rfl rfl) (by decide) ?_ | refine AOps.assignU rfl (by decide) ?_
    refine AOps.nil ?_
    refine AWp.seq ?_
    refine AWp.seq ?_
    refine AWp.region ?_
    first | refine AOps.val (Y.move rfl rfl) (by decide) ?_ | refine AOps.moveU rfl (by decide) ?_
    refine AOps.callP ok11 (formed_spec (by omega)) rfl (.keep rfl rfl .nil) (by decide) rfl ?_
    refine AOps.val (Y.not rfl) (by decide) ?_
    refine AOps.nil ?_
    refine AWp.cond rfl (fun c19 => ?_) (fun c19 => ?_)
    · have hb : ¬ Good l := formed_not (by simpa using c19)
      rw [evalR_form ins hb]
      refine AWp.seq ?_
      refine AWp.region ?_
      first | refine AOps.val (Y.move rfl rfl) (by decide) ?_ | refine AOps.moveU rfl (by decide) ?_
      refine AOps.val (Y.eql rfl rfl) (by decide) ?_
      first | refine AOps.val (Y.move rfl rfl) (by decide) ?_ | refine AOps.moveU rfl (by decide) ?_
      refine AOps.splitD (d := 22) rfl (fun c22 => ?_) (fun c22 => ?_)
      · refine AOps.guardRun (d := 22) rfl (by decide) rfl ?_
        first | refine AOps.val (Y.move rfl rfl) (by decide) ?_ | refine AOps.moveU rfl (by decide) ?_
        refine AOps.guardRun (d := 22) rfl (by decide) rfl ?_
        refine AOps.val (Y.len sl27 rfl (n := 0) rfl) (by decide) ?_
        refine AOps.guardRun (d := 22) rfl (by decide) rfl ?_
        refine AOps.val (Y.eql rfl rfl) (by decide) ?_
        refine AOps.val (Y.pick rfl rfl rfl) (by decide) ?_
        first | refine AOps.val (Y.assign rfl rfl) (by decide) ?_ | refine AOps.assignU rfl (by decide) ?_
        refine AOps.nil ?_
        refine AWp.ret ?_
        exact ⟨_, _, rfl, rfl, rfl, rfl⟩
      · exact absurd rfl c22
    · have hb : Good l := formed_true (by simpa using c19)
      refine AWp.skip ?_
      refine AWp.seq ?_
      refine AWp.seq ?_
      refine AWp.region ?_
      first | refine AOps.val (Y.move rfl rfl) (by decide) ?_ | refine AOps.moveU rfl (by decide) ?_
      refine AOps.val (Y.len sl27 rfl (n := ins.length) (congrArg some (List.length_map ..))) (by decide) ?_
      first | refine AOps.val (Y.move rfl rfl) (by decide) ?_ | refine AOps.moveU rfl (by decide) ?_
      refine AOps.callP ok14 (refInputs_spec (by omega)) rfl (.keep rfl rfl .nil) (by decide) rfl ?_
      refine AOps.val (Y.neq rfl rfl) (by decide) ?_
      refine AOps.nil ?_
      refine AWp.condD rfl (fun c31 => ?_) (fun c31 => ?_)
      · rw [evalR_arg hb (by omega)]
        refine AWp.seq ?_
        refine AWp.region ?_
        first | refine AOps.val (Y.move rfl rfl) (by decide) ?_ | refine AOps.moveU rfl (by decide) ?_
        refine AOps.val (Y.eql rfl rfl) (by decide) ?_
        first | refine AOps.val (Y.move rfl rfl) (by decide) ?_ | refine AOps.moveU rfl (by decide) ?_
        refine AOps.splitD (d := 34) rfl (fun c34 => ?_) (fun c34 => ?_)
        · refine AOps.guardRun (d := 34) rfl (by decide) rfl ?_
          first | refine AOps.val (Y.move rfl rfl) (by decide) ?_ | refine AOps.moveU rfl (by decide) ?_
          refine AOps.guardRun (d := 34) rfl (by decide) rfl ?_
          refine AOps.val (Y.len sl27 rfl (n := 0) rfl) (by decide) ?_
          refine AOps.guardRun (d := 34) rfl (by decide) rfl ?_
          refine AOps.val (Y.eql rfl rfl) (by decide) ?_
          refine AOps.val (Y.pick rfl rfl rfl) (by decide) ?_
          first | refine AOps.val (Y.assign rfl rfl) (by decide) ?_ | refine AOps.assignU rfl (by decide) ?_
          refine AOps.nil ?_
          refine AWp.ret ?_
          exact ⟨_, _, rfl, rfl, rfl, rfl⟩
        · exact absurd rfl c34
      · have hin : ins.length = nin l := by omega
        rw [evalR_ok hb hin]
        refine AWp.skip ?_
        refine AWp.seq ?_
        refine AWp.region ?_
        first | refine AOps.val (Y.move rfl rfl) (by decide) ?_ | refine AOps.moveU rfl (by decide) ?_
        first | refine AOps.val (Y.move rfl rfl) (by decide) ?_ | refine AOps.moveU rfl (by decide) ?_
        refine AOps.callP ok15 (refEval_spec (by omega) hb hin) rfl (.keep rfl rfl (.keep rfl rfl .nil)) (by decide) rfl ?_
        refine AOps.sh (Sh.freezeX (d := 41) (y := .fz 1 ((outs l ins l.length).map brow)) rfl (congrArg (X.fz 1) (X.ffzr_frees (Frees.map brow_frees)))) ?_
        first | refine AOps.val (Y.assign rfl rfl) (by decide) ?_ | refine AOps.assignU rfl (by decide) ?_
        refine AOps.nil ?_
        refine AWp.seq ?_
        refine AWp.seq ?_
        refine AWp.region ?_
        first | refine AOps.val (Y.move rfl rfl) (by decide) ?_ | refine AOps.moveU rfl (by decide) ?_
        refine AOps.val (Y.neq rfl rfl) (by decide) ?_
        first | refine AOps.val (Y.move rfl rfl) (by decide) ?_ | refine AOps.moveU rfl (by decide) ?_
        refine AOps.splitD (d := 44) rfl (fun c44 => ?_) (fun c44 => ?_)
        · exact absurd rfl c44
        · refine AOps.guardRun (d := 44) rfl (by decide) rfl ?_
          first | refine AOps.val (Y.move rfl rfl) (by decide) ?_ | refine AOps.moveU rfl (by decide) ?_
          refine AOps.guardRun (d := 44) rfl (by decide) rfl ?_
          refine AOps.val (Y.len sl27 rfl (n := (outs l ins l.length).length) (congrArg some (List.length_map ..))) (by decide) ?_
          refine AOps.guardRun (d := 44) rfl (by decide) rfl ?_
          first | refine AOps.val (Y.move rfl rfl) (by decide) ?_ | refine AOps.moveU rfl (by decide) ?_
          refine AOps.guardRun (d := 44) rfl (by decide) rfl ?_
          refine AOps.val (Y.len sl27 rfl (n := (outs l ins l.length).length) (congrArg some (List.length_map ..))) (by decide) ?_
          refine AOps.guardRun (d := 44) rfl (by decide) rfl ?_
          refine AOps.val (Y.neq rfl rfl) (by decide) ?_
          refine AOps.val (Y.pick rfl rfl rfl) (by decide) ?_
          refine AOps.nil ?_
          refine AWp.condD rfl (fun c50 => ?_) (fun c50 => ?_)
          · exact absurd rfl c50
          · refine AWp.skip ?_
            refine AWp.seq ?_
            refine AWp.seq ?_
            refine AWp.region ?_
            first | refine AOps.val (Y.move rfl rfl) (by decide) ?_ | refine AOps.moveU rfl (by decide) ?_
            refine AOps.val (Y.len sl27 rfl (n := (outs l ins l.length).length) (congrArg some (List.length_map ..))) (by decide) ?_
            refine AOps.val (Y.move rfl rfl) (by decide) ?_
            refine AOps.nil ?_
            refine AWp.block ?_
            refine AWp.loop (fun (ix : Nat) => ⟨[(53, .v (.int .i64 ((ix : Int)))), (52, .v (.int .i64 (((outs l ins l.length).length : Int)))), (5, .fz 1 ((outs l ins l.length).map brow)), (7, .fz 1 ((outs l ins l.length).map brow))], []⟩) (fun ix => ix ≤ (outs l ins l.length).length) (fun ix => (outs l ins l.length).length - ix) (0) (by omega) (Le.mk (by repeat (first | exact SubL.nil | refine SubL.cons rfl ?_)) (by repeat (first | exact SubL.nil | refine SubL.cons rfl ?_))) (fun ix hI => ?_)
            have hol : (outs l ins l.length).length = l.length := outs_length (by omega)
            refine AWp.seq ?_
            refine AWp.region ?_
            refine AOps.val (Y.lss rfl rfl) (by decide) ?_
            refine AOps.nil ?_
            refine AWp.seq ?_
            refine AWp.condD rfl (fun c54 => ?_) (fun c54 => ?_)
            · refine AWp.skip ?_
              refine AWp.seq ?_
              refine AWp.block ?_
              refine AWp.seq ?_
              refine AWp.region ?_
              first | refine AOps.val (Y.move rfl rfl) (by decide) ?_ | refine AOps.moveU rfl (by decide) ?_
              first | refine AOps.val (Y.assign rfl rfl) (by decide) ?_ | refine AOps.assignU rfl (by decide) ?_
              refine AOps.nil ?_
              refine AWp.seq ?_
              refine AWp.regionS rfl (by kernel_rfl) ?_
              first | refine AHead.val (Y.move rfl rfl) (by decide) ?_ | refine AHead.moveU rfl (by decide) ?_
              first | refine AHead.val (Y.move rfl rfl) (by decide) ?_ | refine AHead.moveU rfl (by decide) ?_
              refine AHead.val (Y.indexF sl27 rfl rfl rfl (map_row (f := brow) false (by omega))) (by decide) ?_
              refine AHead.val (Y.load sh4 rfl rfl rfl rfl) (by decide) ?_
              first | refine AHead.val (Y.move rfl rfl) (by decide) ?_ | refine AHead.moveU rfl (by decide) ?_
              first | refine AHead.val (Y.move rfl rfl) (by decide) ?_ | refine AHead.moveU rfl (by decide) ?_
              refine AHead.val (Y.indexF sl27 rfl rfl rfl (map_row (f := brow) false (by omega))) (by decide) ?_
              refine AHead.val (Y.load sh4 rfl rfl rfl rfl) (by decide) ?_
              refine AHead.val (Y.neqB un4 rfl rfl) (by decide) ?_
              refine AHead.nil ?_
              refine AWp.cond rfl (fun c64 => ?_) (fun c64 => ?_)
              · exact absurd c64 (by simp)
              · refine AWp.skip ?_
                refine AWp.region ?_
                first | refine AOps.val (Y.addI rfl rfl (by omega)) (by decide) ?_ | refine AOps.val (Y.add rfl rfl rfl) (by decide) ?_
                first | refine AOps.val (Y.move rfl rfl) (by decide) ?_ | refine AOps.moveU rfl (by decide) ?_
                refine AOps.nil ?_
                exact ⟨ix + 1, by omega, by omega, Le.mk (by repeat (first | exact SubL.nil | refine SubL.cons rfl ?_)) (by repeat (first | exact SubL.nil | refine SubL.cons rfl ?_))⟩
            · refine AWp.exit ?_
              refine AWp.seq ?_
              refine AWp.region ?_
              refine AOps.val (Y.assign rfl rfl) (by decide) ?_
              refine AOps.nil ?_
              refine AWp.ret ?_
              exact ⟨_, _, rfl, rfl, rfl, rfl⟩

end Go.Proofs.Ytiehdnjcapjacaa
