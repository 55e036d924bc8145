/- Netlists as the walk sees them. -/
import Derived.Test.YtlimckldnjmabaaAWx1
import Derived.Test.YtlimckldnjmabaaAWx2
import Derived.Test.YtlimckldnjmabaaProg
import Derived.KernelRfl
import Derived.Test.YtlimckldnjmabaaRows
import Derived.WideShapes
set_option linter.unusedSimpArgs false
set_option linter.unusedVariables false
set_option linter.unusedSectionVars false
set_option maxRecDepth 4000
set_option maxHeartbeats 8000000
namespace Go.Proofs.Ytlimckldnjmabaa
open Go Go.AW
abbrev vi (z : Int) : X := .v (.int .i64 z)
abbrev vn : X := .v (.slice none 0 0)
theorem b7 {a b : Nat} (h : Nat.ble a b = true) : a ≤ b := Nat.le_of_ble_eq_true h
def aq (z : Int) : List X := [.v (.int .i64 z)]
theorem ig {p : Prop} (h : p := by first | rfl | (simp only [List.cons.injEq, X.v.injEq, X.aY.injEq, Value.int.injEq, and_true, true_and]; omega) | simp_all) : p := h
theorem Ia {p : Prop} (h : p := by first | rfl | exact IntWalk.i64_in _ (by omega)) : p := h
theorem bV (z : Int) : X.bc (aq z) = true := rfl
def ke (b : Bool) : List X := [.v (.bool b)]
theorem tO (b : Bool) : X.bc (ke b) = true := rfl
def xx (n : Nat) : List X := [.v (.int .u8 (n : Int))]
def gY (l : List Int) : List X := [.fz 1 (l.map aq)]
def lQ (l : List Int) : List X := [.di 1 (l.map aq)]
theorem oM (l : List Int) : X.bc (gY l) = true := rfl
theorem xy (l : List Int) : X.iM (lQ l) = gY l := by
 show [X.fz 1 (X.lO (l.map aq))] = _
 rw [X.oK (g := aq) (fun _ => rfl)]; rfl
structure Cell where
 kind : Int
 op : Int
 out : Int
 args : List Int
 num : Nat
 mem : Int
instance : Inhabited Cell := ⟨⟨0, 0, 0, [], 0, 0⟩⟩
def Cell.row (c : Cell) : List X := [.v (.int .i64 c.kind), .v (.int .i64 c.op), .v (.int .i64 c.out), .fz 1 (c.args.map aq), .v (.int .u64 (c.num : Int)), .v (.int .i64 c.mem)]
theorem Cell.cM (c : Cell) : X.bc c.row = true := rfl
structure pF where
 name : ByteArray
 width : Int
 len : Int
 kind : Int
 oN : Int
instance : Inhabited pF := ⟨⟨ByteArray.empty, 0, 0, 0, 0⟩⟩
def pF.row (a : pF) : List X := [.v (.string a.name), .v (.int .i64 a.width), .v (.int .i64 a.len), .v (.int .i64 a.kind), .v (.int .i64 a.oN)]
theorem pF.cM (c : pF) : X.bc c.row = true := rfl
structure gZ where
 name : ByteArray
 width : Int
 out : Bool
instance : Inhabited gZ := ⟨⟨ByteArray.empty, 0, false⟩⟩
def gZ.row (a : gZ) : List X := [.v (.string a.name), .v (.int .i64 a.width), .v (.bool a.out)]
theorem gZ.cM (c : gZ) : X.bc c.row = true := rfl
structure ab where
 name : ByteArray
 ai : List Int
 cells : List Cell
 ins : List Int
 bs : List pF
 streams : List gZ
 bW : List Int
 data : List Int
 freeze : Int
 done : Int
 eu : List Int
def ab.row (n : ab) : List X := [.v (.string n.name), .fz 1 (n.ai.map aq), .fz 6 (n.cells.map Cell.row), .fz 1 (n.ins.map aq), .fz 5 (n.bs.map pF.row), .fz 3 (n.streams.map gZ.row),
 .fz 1 (n.bW.map aq), .fz 1 (n.data.map aq), .v (.int .i64 n.freeze), .v (.int .i64 n.done), .fz 1 (n.eu.map aq)]
structure ab.Small (n : ab) : Prop where
 name : n.name.size ≤ 140737488351232
 ai : n.ai.length ≤ 17592186043904
 cells : n.cells.length ≤ 2199023255488
 args : ∀ c ∈ n.cells, c.args.length ≤ 17592186043904
 Ak : (n.cells.map (fun c => c.args.length)).sum ≤ 8796093022208
 CM : ∀ c ∈ n.cells, c.num < 18446744073709551616
 oO : ∀ m ∈ n.bs, m.name.size ≤ 140737488351232
 oP : ∀ m ∈ n.streams, m.name.size ≤ 140737488351232
 ins : n.ins.length ≤ 17592186043904
 bs : n.bs.length ≤ 2932031007317
 streams : n.streams.length ≤ 4398046510976
 bW : n.bW.length ≤ 17592186043904
 data : n.data.length ≤ 17592186043904
 eu : n.eu.length ≤ 17592186043904
open Go Go.AW Go.Proofs
section
variable {H : Type} {enc : TypeId × Value → H} {W : World} {base : Nat}
theorem CN : Reads enc Try.prog W base 5 xx (fun z => z < 256) (fun _ => 1) := Reads.Jh Try.underlying5
structure ab.Mt (n : ab) : Prop where
 name : n.name.size ≤ 140737488351232
 ai : n.ai.length ≤ 17592186043904
 cells : n.cells.length ≤ 2199023255488
 args : ∀ c ∈ n.cells, c.args.length ≤ 17592186043904
 CM : ∀ c ∈ n.cells, c.num < 18446744073709551616
 oO : ∀ m ∈ n.bs, m.name.size ≤ 140737488351232
 oP : ∀ m ∈ n.streams, m.name.size ≤ 140737488351232
 ins : n.ins.length ≤ 17592186043904
 bs : n.bs.length ≤ 2932031007317
 streams : n.streams.length ≤ 4398046510976
 bW : n.bW.length ≤ 17592186043904
 data : n.data.length ≤ 17592186043904
 eu : n.eu.length ≤ 17592186043904
theorem ab.Mt.small {n : ab} (h : n.Mt) (ht : (n.cells.map (fun c => c.args.length)).sum ≤ 8796093022208) : n.Small := ⟨h.name, h.ai, h.cells, h.args, ht, h.CM, h.oO, h.oP, h.ins, h.bs, h.streams, h.bW, h.data, h.eu⟩
end
open Go Go.AW Go.Proofs
end Go.Proofs.Ytlimckldnjmabaa
namespace Go.Proofs.Ytlimckldnjmabaa
open Go Go.AW
def iw (x : Nat) : Prop := (97 ≤ x ∧ x ≤ 122) ∨ (65 ≤ x ∧ x ≤ 90) ∨ (48 ≤ x ∧ x ≤ 57) ∨ x = 95
def nO (s : ByteArray) : Prop := (∀ i, i < s.size → iw (ba s i)) ∧ s.size ≤ 64
def cG (w : Int) : Prop := 1 ≤ w ∧ w ≤ 64
def bA (op : Int) : Int := if (2 ≤ op ∧ op ≤ 3) ∨ (9 ≤ op ∧ op ≤ 20) then 2 else if op = 21 then 3 else if 22 ≤ op ∧ op ≤ 24 then 1 else 0
theorem Qx {p : Prop} (h : p := by ((simp only [Shaped, bA, Int.reduceEq, Bool.not_eq_true, false_and, true_and, and_true, and_false, or_false, false_or, ne_eq]) <;> (first | omega | grind))) : p := h
def Shaped (n : ab) (c : Cell) : Prop :=
 (c.kind = 1 ∧ c.args.length = 0 ∧ c.op = 0 ∧ c.mem = 0) ∨
 (c.kind = 2 ∧ bA c.op ≠ 0 ∧ (c.args.length : Int) = bA c.op ∧ c.num = 0 ∧ c.mem = 0) ∨
 (c.kind = 3 ∧ 2 ≤ c.args.length ∧ c.args.length % 2 = 0 ∧ c.op = 0 ∧ c.num = 0 ∧ c.mem = 0) ∨
 (c.kind = 4 ∧ c.args.length = 2 ∧ c.op = 0 ∧ c.mem = 0) ∨
 (c.kind = 5 ∧ c.args.length = 2 ∧ (4 ≤ c.op ∧ c.op ≤ 8) ∧ (1 ≤ c.num ∧ c.num ≤ 4096) ∧ c.mem = 0) ∨
 (c.kind = 6 ∧ c.args.length = 2 ∧ c.op = 0 ∧ c.num = 0 ∧ 0 ≤ c.mem ∧ c.mem < n.bs.length) ∨
 (c.kind = 7 ∧ c.args.length = 3 ∧ c.op = 0 ∧ c.num = 0 ∧ 0 ≤ c.mem ∧ c.mem < n.bs.length) ∨
 (c.kind = 8 ∧ c.args.length = 0 ∧ c.op = 0 ∧ c.num < n.ins.length ∧ c.mem = 0) ∨
 (c.kind = 9 ∧ c.args.length = 0 ∧ c.op = 0 ∧ c.num = 0 ∧ 0 ≤ c.mem ∧ c.mem < n.streams.length) ∨
 (c.kind = 10 ∧ c.args.length = 0 ∧ c.op = 0 ∧ c.num = 0 ∧ (0 ≤ c.mem ∧ c.mem < n.streams.length) ∧ (n.streams.getD c.mem.toNat default).out = false)
theorem Qy {p : Prop} (h : p := by ((simp only [Shaped, Int.reduceEq, Bool.not_eq_true, false_and, true_and, and_true, and_false, or_false, false_or, ne_eq]) <;> (first | omega | grind))) : p := h
theorem eM {p : Prop} (h : p := by ((simp only [Shaped, *, Int.reduceEq, Bool.not_eq_true, false_and, true_and, and_true, and_false, or_false, false_or, ne_eq]) <;> (first | omega | grind))) : p := h
noncomputable instance (s : ByteArray) : Decidable (nO s) := Classical.propDecidable _
instance (w : Int) : Decidable (cG w) := by unfold cG; infer_instance
noncomputable instance (n : ab) (c : Cell) : Decidable (Shaped n c) := Classical.propDecidable _
theorem dt {p : Prop} [Decidable p] (h : p) : true = decide p := (decide_eq_true h).symm
theorem df {p : Prop} [Decidable p] (h : ¬ p) : false = decide p := (decide_eq_false h).symm
theorem dd {p q : Prop} [Decidable p] [Decidable q] (h : p ↔ q) : decide p = decide q := by
 by_cases hq : q
 ·rw [decide_eq_true hq, decide_eq_true (h.2 hq)]
 ·rw [decide_eq_false hq, decide_eq_false (fun hp => hq (h.1 hp))]
theorem db {b : Bool} {q : Prop} [Decidable q] (h : b = true ↔ q) : b = decide q := by
 cases b
 ·exact df (fun hq => by have := h.2 hq; cases this)
 ·exact dt (h.1 rfl)
open Go Go.AW
def k9 (w : Int) : Nat := if w < 0 then 0 else if 64 < w then 64 else w.toNat
theorem ra (w : Int) : k9 w ≤ 64 := by unfold k9; (repeat' split) <;> omega
def ln (w : Int) (x : Nat) : Nat := x % 2 ^ k9 w
theorem tP : ∀ k : Nat, k < 65 → 18446744073709551615 / 2 ^ (64 - k) = 2 ^ k - 1 := by decide +kernel
theorem xz : ∀ k : Nat, k < 65 → 1 ≤ 2 ^ k ∧ 2 ^ k ≤ 18446744073709551616 := by decide +kernel
theorem Al (w : Int) : 18446744073709551615 / 2 ^ (64 - k9 w) = 2 ^ k9 w - 1 := tP _ (by have := ra w; omega)
theorem Am (w : Int) : 2 ^ k9 w - 1 < 18446744073709551616 := by have := xz (k9 w) (by have := ra w; omega); omega
theorem x4 (w : Int) (x : Nat) : x &&& (2 ^ k9 w - 1) = ln w x := Nat.and_two_pow_sub_one_eq_mod x (k9 w)
theorem dr {l : List Int} {i : Nat} (h : i < l.length) : l.getD i 0 ∈ l := by
 rw [List.getD_eq_getElem?_getD, List.getElem?_eq_getElem h]; exact List.getElem_mem h
def fY (op : Int) : Prop := 15 ≤ op ∧ op ≤ 20
def tQ (op : Int) : Prop := 2 ≤ op ∧ op ≤ 20
def Seq (op : Int) : Prop := 4 ≤ op ∧ op ≤ 8
def Unary (op : Int) : Prop := op = 22 ∨ op = 23 ∨ op = 24
def Plain (op : Int) : Prop := (tQ op ∧ ¬ Seq op) ∨ op = 21 ∨ Unary op
def cH (k : Int) : Prop := k = 1 ∨ k = 2 ∨ k = 3
def In (i n : Int) : Prop := 0 ≤ i ∧ i < n
theorem fZ {p : Prop} (h : p := by first | omega | (simp [-List.getD_eq_getElem?_getD]; done) | (simp [-List.getD_eq_getElem?_getD]; omega) | (unfold In at *; omega)) : p := h
instance (w : Int) : Decidable (fY w) := by unfold fY; infer_instance
instance (w : Int) : Decidable (tQ w) := by unfold tQ; infer_instance
instance (w : Int) : Decidable (Seq w) := by unfold Seq; infer_instance
instance (w : Int) : Decidable (Unary w) := by unfold Unary; infer_instance
instance (w : Int) : Decidable (Plain w) := by unfold Plain; infer_instance
instance (w : Int) : Decidable (cH w) := by unfold cH; infer_instance
instance (i n : Int) : Decidable (In i n) := by unfold In; infer_instance
open Go Go.AW
def ab.wd (n : ab) (x : Int) : Int := n.ai.getD x.toNat 0
def ab.ow (n : ab) (c : Cell) : Int := if 0 ≤ c.out then n.wd c.out else 0
def ab.av (n : ab) (c : Cell) (k : Nat) : Int := n.wd (c.args.getD k 0)
def cv (op a b d w : Int) : Prop :=
 (op = 21 ∧ a = 1 ∧ b = w ∧ d = w) ∨ ((op = 22 ∨ op = 23) ∧ a ≤ w) ∨ (op = 24 ∧ w ≤ a) ∨ (fY op ∧ w = 1 ∧ a = b) ∨ (¬ fY op ∧ (op < 21 ∨ 24 < op) ∧ a = w ∧ b = w)
def iy (n : ab) (c : Cell) (k : Nat) : Prop := (k % 2 = 0 ∧ n.av c k = 1) ∨ (k % 2 = 1 ∧ n.av c k = n.ow c)
def Fits (n : ab) (c : Cell) : Prop :=
 (c.kind = 1 ∧ ln (n.ow c) c.num = c.num) ∨
 (c.kind = 2 ∧ cv c.op (n.av c 0) (n.av c 1) (n.av c 2) (n.ow c)) ∨
 (c.kind = 3 ∧ ∀ k, k < c.args.length → iy n c k) ∨
 (c.kind = 4 ∧ n.av c 0 = 1 ∧ n.av c 1 = n.ow c ∧ ln (n.ow c) c.num = c.num) ∨
 (c.kind = 5 ∧ n.av c 0 = n.ow c ∧ n.av c 1 = n.ow c) ∨
 (c.kind = 6 ∧ n.av c 0 = 1 ∧ (n.bs.getD c.mem.toNat default).width = n.ow c) ∨
 (c.kind = 7 ∧ n.av c 0 = 1 ∧ (n.bs.getD c.mem.toNat default).width = n.av c 2) ∨
 (c.kind = 8 ∧ n.ins.getD c.num 0 = n.ow c) ∨
 (c.kind = 9 ∧ n.ow c = 1) ∨
 (c.kind = 10 ∧ (n.streams.getD c.mem.toNat default).width = n.ow c)
theorem th {p : Prop} (h : p := by ((simp only [Fits, cv, fY, *, Int.reduceEq, Bool.not_eq_true, false_and, true_and, and_true, and_false, or_false, false_or, ne_eq]) <;> omega)) : p := h
instance (op a b d w : Int) : Decidable (cv op a b d w) := by unfold cv; infer_instance
noncomputable instance (n : ab) (c : Cell) : Decidable (Fits n c) := Classical.propDecidable _
structure uT (n : ab) (c : Cell) : Prop where
 out : c.out = -1 ∧ c.kind = 7 ∨ (0 ≤ c.out ∧ c.out < n.ai.length) ∧ c.kind ≠ 7
 args : ∀ x ∈ c.args, 0 ≤ x ∧ x < n.ai.length
theorem uT.arg {n : ab} {c : Cell} (h : uT n c) {k : Nat} (hk : k < c.args.length) : 0 ≤ c.args.getD k 0 ∧ c.args.getD k 0 < n.ai.length := h.args _ (dr hk)
section
variable {n : ab} {c : Cell} (h : Shaped n c)
include h
theorem Shaped.k2 (k : c.kind = 2) : ((2 ≤ c.op ∧ c.op ≤ 3 ∨ 9 ≤ c.op ∧ c.op ≤ 20) ∧ c.args.length = 2) ∨ (c.op = 21 ∧ c.args.length = 3) ∨ (22 ≤ c.op ∧ c.op ≤ 24 ∧ c.args.length = 1) := by
 simp only [Shaped, k, Int.reduceEq, false_and, true_and, false_or, or_false] at h
 obtain ⟨h1, h2, _⟩ := h
 unfold bA at h1 h2
 split at h2
 ·omega
 ·split at h2
  ·omega
  ·split at h2 <;> omega
theorem Shaped.k3 (k : c.kind = 3) : 2 ≤ c.args.length ∧ c.args.length % 2 = 0 := by simp only [Shaped, k, Int.reduceEq, false_and, true_and, false_or, or_false] at h; omega
theorem Shaped.k4 (k : c.kind = 4) : c.args.length = 2 := by simp only [Shaped, k, Int.reduceEq, false_and, true_and, false_or, or_false] at h; omega
theorem Shaped.k5 (k : c.kind = 5) : c.args.length = 2 ∧ 4 ≤ c.op ∧ c.op ≤ 8 ∧ 1 ≤ c.num ∧ c.num ≤ 4096 := by simp only [Shaped, k, Int.reduceEq, false_and, true_and, false_or, or_false] at h; omega
theorem Shaped.k6 (k : c.kind = 6) : c.args.length = 2 ∧ 0 ≤ c.mem ∧ c.mem < n.bs.length := by simp only [Shaped, k, Int.reduceEq, false_and, true_and, false_or, or_false] at h; omega
theorem Shaped.k7 (k : c.kind = 7) : c.args.length = 3 ∧ 0 ≤ c.mem ∧ c.mem < n.bs.length := by simp only [Shaped, k, Int.reduceEq, false_and, true_and, false_or, or_false] at h; omega
theorem Shaped.k8 (k : c.kind = 8) : c.num < n.ins.length := by simp only [Shaped, k, Int.reduceEq, false_and, true_and, false_or, or_false] at h; omega
theorem Shaped.Ib (k : c.kind = 10) : 0 ≤ c.mem ∧ c.mem < n.streams.length := by simp only [Shaped, k, Int.reduceEq, false_and, true_and, false_or, or_false] at h; omega
theorem Shaped.kind : 1 ≤ c.kind ∧ c.kind ≤ 10 := by unfold Shaped at h; omega
end
theorem bJ {α : Type} (l : List α) (i j : Nat) (v d : α) : (l.set i v).getD j d = if i = j ∧ i < l.length then v else l.getD j d := by
 rw [List.getD_eq_getElem?_getD, List.getD_eq_getElem?_getD, List.getElem?_set]
 by_cases h : i = j
 ·subst h
  by_cases h2 : i < l.length
  ·simp [h2]
  ·simp [h2]
 ·simp [h]
theorem vK {α : Type} {l : List α} {i : Nat} {d v : α} {f : Nat → α} (h : ∀ j, j < i → l.getD j d = f j) (hv : v = f i) (hi : i < l.length) : ∀ j, j < i + 1 → (l.set i v).getD j d = f j := by
 intro j hj
 rw [bJ]
 split
 ·next e => rw [← e.1]; exact hv
 ·exact h j om
theorem x5 {n : ab} {c : Cell} {i : Nat} (h : ∀ k, k < i → iy n c k) (hi : iy n c i) : ∀ k, k < i + 1 → iy n c k := by
 intro k hk
 rcases Nat.lt_succ_iff_lt_or_eq.1 hk with h1 | h1
 ·exact h k h1
 ·exact h1 ▸ hi
open Go Go.AW
section
variable {α : Type} {d : α} {p : α → Bool} {l : List α}
def re (p : α → Bool) (l : List α) : Int := if l.any p then (l.findIdx p : Int) else -1
theorem lR {i : Nat} (h0 : ∀ j, j < i → p (l.getD j d) = false) (hi : i < l.length) (h : p (l.getD i d) = true) : (i : Int) = re p l := by
 have e : l.findIdx p = i := by
  rw [List.findIdx_eq hi]
  rw [List.getD_eq_getElem?_getD, List.getElem?_eq_getElem hi] at h
  refine ⟨h, fun j hj => ?_⟩
  have := h0 j hj
  rw [List.getD_eq_getElem?_getD, List.getElem?_eq_getElem om] at this
  exact this
 have ha : l.any p = true := by
  rw [List.any_eq_true]
  refine ⟨l.getD i d, ?_, h⟩
  rw [List.getD_eq_getElem?_getD, List.getElem?_eq_getElem hi]; exact List.getElem_mem hi
 unfold re; rw [if_pos ha, e]
theorem na (h0 : ∀ j, j < l.length → p (l.getD j d) = false) : -1 = re p l := by
 have ha : ¬ (l.any p = true) := by
  rw [List.any_eq_true]
  rintro ⟨x, hx, hp⟩
  obtain ⟨i, hi, rfl⟩ := List.mem_iff_getElem.1 hx
  have := h0 i hi
  rw [List.getD_eq_getElem?_getD, List.getElem?_eq_getElem hi] at this
  exact absurd (hp.symm.trans this) ah
 unfold re; rw [if_neg ha]
theorem oQ : decide (0 ≤ re p l) = l.any p := by
 unfold re
 by_cases h : l.any p = true
 ·rw [if_pos h, h]; simp
 ·rw [if_neg h]; simp only [Bool.not_eq_true] at h; rw [h]; rfl
theorem kA {i : Nat} (h : ∀ j, j < i → p (l.getD j d) = false) (hi : p (l.getD i d) = false) : ∀ j, j < i + 1 → p (l.getD j d) = false := by
 intro k hk
 rcases Nat.lt_succ_iff_lt_or_eq.1 hk with h1 | h1
 ·exact h k h1
 ·exact h1 ▸ hi
theorem eP {i : Nat} (h : i < l.length) : l.getD i d ∈ l := by
 rw [List.getD_eq_getElem?_getD, List.getElem?_eq_getElem h]; exact List.getElem_mem h
theorem qA {ls : List (List α)} {i : Nat} (hi : i < ls.length) : (ls.take (i + 1)).flatten = (ls.take i).flatten ++ ls.getD i [] := by
 rw [List.take_add_one, List.flatten_append, List.getD_eq_getElem?_getD, List.getElem?_eq_getElem hi]; simp
theorem m4 (ls : List (List α)) (i : Nat) : (ls.take i).flatten.length ≤ ls.flatten.length := by
 conv => rhs; rw [← List.take_append_drop i ls, List.flatten_append, List.length_append]
 omega
end
open Go Go.AW
def l4 (m : pF) : Prop := nO m.name ∧ cG m.width ∧ 1 ≤ m.len ∧ m.len ≤ 4096 ∧ m.kind = 0 ∧ m.oN = 0
def iT (n : ab) (i : Nat) : Prop :=
 nO (n.streams.getD i default).name ∧ cG (n.streams.getD i default).width ∧ In (n.bW.getD i 0) n.ai.length ∧
 ((n.streams.getD i default).out = true → In (n.data.getD i 0) n.ai.length) ∧ ((n.streams.getD i default).out = false → n.data.getD i 0 = -1)
def iz (n : ab) (c : Cell) : Prop := (∀ x ∈ c.args, In x n.ai.length) ∧ Shaped n c ∧ (c.kind = 7 → c.out = -1) ∧ (c.kind ≠ 7 → In c.out n.ai.length)
def cg (l : List Cell) (w : Nat) : Nat := l.countP (fun c => decide (c.kind ≠ 7 ∧ c.out = (w : Int)))
structure bq (n : ab) : Prop where
 name : nO n.name
 ej : n.cells.length ≤ 65536
 dO : n.ai.length ≤ 65536
 iU : n.bs.length ≤ 64
 cJ : n.streams.length ≤ 64
 dX : n.bW.length = n.streams.length
 iA : n.data.length = n.streams.length
 wide : ∀ j, j < (n.ai ++ n.ins).length → cG ((n.ai ++ n.ins).getD j 0)
 bs : ∀ j, j < n.bs.length → l4 (n.bs.getD j default)
 strs : ∀ j, j < n.streams.length → iT n j
 freeze : In n.freeze n.ai.length
 done : In n.done n.ai.length
 eu : ∀ r ∈ n.eu, In r n.ai.length
 cells : ∀ j, j < n.cells.length → iz n (n.cells.getD j default)
 jG : ∀ w, w < n.ai.length → cg n.cells w = 1
noncomputable instance (n : ab) : Decidable (bq n) := Classical.propDecidable _
theorem eG {p : Nat → Prop} {i : Nat} (h : ∀ j, j < i → p j) (hi : p i) : ∀ j, j < i + 1 → p j := by
 intro k hk
 rcases Nat.lt_succ_iff_lt_or_eq.1 hk with h1 | h1
 ·exact h k h1
 ·exact h1 ▸ hi
theorem eg {l : List Cell} {i : Nat} (hi : i < l.length) (w : Nat) : cg (l.take (i + 1)) w = cg (l.take i) w + if (l.getD i default).kind ≠ 7 ∧ (l.getD i default).out = (w : Int) then 1 else 0 := by
 rw [List.take_add_one, List.getElem?_eq_getElem hi, List.getD_eq_getElem?_getD, List.getElem?_eq_getElem hi]
 simp only [cg, List.countP_append, Option.toList_some, List.countP_cons, List.countP_nil, Option.getD_some, Nat.zero_add, decide_eq_true_eq]
theorem nc (l : List Cell) (i w : Nat) : cg (l.take i) w ≤ cg l w := by
 conv => rhs; rw [← List.take_append_drop i l]
 simp only [cg, List.countP_append]; omega
def rM (n : ab) (i : Nat) (d : List Bool) : Prop := ∀ w, w < n.ai.length → cg (n.cells.take i) w ≤ 1 ∧ (d.getD w false = true ↔ cg (n.cells.take i) w = 1)
theorem rM.init (n : ab) : rM n 0 (List.replicate n.ai.length false) := by
 intro w hw
 refine ⟨by simp [cg], ?_⟩
 rw [List.getD_eq_getElem?_getD, List.getElem?_replicate, if_pos hw]; simp [cg]
theorem rM.skip {n : ab} {i : Nat} {d : List Bool} (h : rM n i d) (hi : i < n.cells.length) (h7 : (n.cells.getD i default).kind = 7) : rM n (i + 1) d := by
 intro w hw
 rw [eg hi, if_neg (fun h => h.1 h7)]
 exact h w hw
theorem rM.step {n : ab} {i : Nat} {d : List Bool} (h : rM n i d) (hi : i < n.cells.length) (h7 : (n.cells.getD i default).kind ≠ 7) (ho : In (n.cells.getD i default).out n.ai.length)
  (hl : d.length = n.ai.length) (hn : d.getD (n.cells.getD i default).out.toNat false = false) : rM n (i + 1) (d.set (n.cells.getD i default).out.toNat true) := by
 intro w hw
 have hh := h w hw
 rw [eg hi, bJ]
 unfold In at ho
 by_cases e : (n.cells.getD i default).out = (w : Int)
 ·rw [if_pos ⟨h7, e⟩, if_pos ⟨om, om⟩]
  have e2 : (n.cells.getD i default).out.toNat = w := by omega
  rw [e2] at hn
  have h0 : cg (n.cells.take i) w ≠ 1 := fun h1 => by have := hh.2.2 h1; rw [hn] at this; cases this
  have Qz := hh.1
  exact ⟨om, by simp; omega⟩
 ·rw [if_neg (fun h => e h.2), if_neg om]
  exact hh
theorem rM.dup {n : ab} {i : Nat} {d : List Bool} (h : rM n i d) (hi : i < n.cells.length) (h7 : (n.cells.getD i default).kind ≠ 7) (ho : In (n.cells.getD i default).out n.ai.length)
  (hn : d.getD (n.cells.getD i default).out.toNat false = true) (hf : bq n) : False := by
 unfold In at ho
 have hh := h (n.cells.getD i default).out.toNat om
 have h1 := hh.2.1 hn
 have h2 := eg hi (n.cells.getD i default).out.toNat
 rw [if_pos ⟨h7, om⟩, h1] at h2
 have h3 := nc n.cells (i + 1) (n.cells.getD i default).out.toNat
 have h4 := hf.jG (n.cells.getD i default).out.toNat om
 omega
theorem rM.all {n : ab} {d : List Bool} (h : rM n n.cells.length d) (hl : d.length = n.ai.length) : (!(d.any (fun x => false == x))) = true ↔ ∀ w, w < n.ai.length → cg n.cells w = 1 := by
 unfold rM at h
 rw [List.take_length] at h
 rw [Bool.not_eq_true', List.any_eq_false]
 constructor
 ·intro ha w hw
  refine (h w hw).2.1 ?_
  have := ha (d.getD w false) (eP om)
  cases hd : d.getD w false
  ·rw [hd] at this; exact absurd rfl this
  ·rfl
 ·intro ha x hx
  obtain ⟨w, hw, rfl⟩ := List.mem_iff_getElem.1 hx
  have := (h w om).2.2 (ha w om)
  rw [List.getD_eq_getElem?_getD, List.getElem?_eq_getElem hw] at this
  have t : d[w] = true := this
  rw [t]; decide
theorem kW {l : List Int} {p : Int → Prop} [DecidablePred p] : (l.any (fun z => !decide (p z))) = true ↔ ¬ ∀ z ∈ l, p z := by
 rw [List.any_eq_true]
 constructor
 ·rintro ⟨x, hx, hp⟩ h
  simp [h x hx] at hp
 ·intro h
  refine Classical.byContradiction fun hh => h fun z hz => Classical.byContradiction fun hp => hh ⟨z, hz, by simp [hp]⟩
theorem jh {l : List Int} {p : Int → Prop} [DecidablePred p] (h : (l.any (fun z => !decide (p z))) = false) : ∀ z ∈ l, p z := by
 refine Classical.byContradiction fun hh => ?_
 rw [kW.2 hh] at h; cases h
open Go Go.AW
def kB (n : ab) (i : Nat) : Prop := n.wd (n.bW.getD i 0) = 1 ∧ ((n.streams.getD i default).out = true → n.wd (n.data.getD i 0) = (n.streams.getD i default).width)
structure Fit (n : ab) : Prop where
 freeze : n.wd n.freeze = 1
 done : n.wd n.done = 1
 strs : ∀ j, j < n.streams.length → kB n j
 cells : ∀ j, j < n.cells.length → Fits n (n.cells.getD j default)
noncomputable instance (n : ab) : Decidable (Fit n) := Classical.propDecidable _
theorem iz.FC {n : ab} {c : Cell} (h : iz n c) : uT n c := by
 obtain ⟨h1, h2, h3, h4⟩ := h
 refine ⟨?_, h1⟩
 by_cases h7 : c.kind = 7
 ·exact .inl ⟨h3 h7, h7⟩
 ·exact .inr ⟨h4 h7, h7⟩
theorem bq.cell {n : ab} (h : bq n) {c : Cell} (hc : c ∈ n.cells) : iz n c := by
 obtain ⟨i, hi, rfl⟩ := List.mem_iff_getElem.1 hc
 have := h.cells i hi
 rw [List.getD_eq_getElem?_getD, List.getElem?_eq_getElem hi] at this
 exact this
theorem x6 {α : Type} {l : List α} {p : α → Prop} [DecidablePred p] : (l.any (fun z => !decide (p z))) = true ↔ ¬ ∀ z ∈ l, p z := by
 rw [List.any_eq_true]
 constructor
 ·rintro ⟨x, hx, hp⟩ h
  simp [h x hx] at hp
 ·intro h
  refine Classical.byContradiction fun hh => h fun z hz => Classical.byContradiction fun hp => hh ⟨z, hz, by simp [hp]⟩
theorem sj {α : Type} {l : List α} {p : α → Prop} {d : α} : (∀ j, j < l.length → p (l.getD j d)) ↔ ∀ z ∈ l, p z := by
 constructor
 ·intro h z hz
  obtain ⟨i, hi, rfl⟩ := List.mem_iff_getElem.1 hz
  have := h i hi
  rw [List.getD_eq_getElem?_getD, List.getElem?_eq_getElem hi] at this
  exact this
 ·exact fun h j hj => h _ (eP hj)
theorem sm {n : ab} (h1 : n.wd n.freeze = 1) (h2 : n.wd n.done = 1) (h3 : ∀ j, j < n.streams.length → kB n j) : (!(n.cells.any (fun z => !decide (Fits n z)))) = true ↔ Fit n := by
 rw [Bool.not_eq_true', ← Bool.not_eq_true, x6, Classical.not_not, ← sj (d := default)]
 exact ⟨fun h => ⟨h1, h2, h3, h⟩, fun h => h.cells⟩
open Go Go.AW
theorem length_le_of_subset {α : Type} [DecidableEq α] : ∀ {l m : List α}, l.Nodup → (∀ x ∈ l, x ∈ m) → l.length ≤ m.length
 | [], _, _, _ => Nat.zero_le _
 | a :: t, m, hn, hs => by
  have ha := hs a (List.mem_cons_self ..)
  obtain ⟨h1, h2⟩ := List.nodup_cons.1 hn
  have := length_le_of_subset (l := t) (m := m.erase a) h2 (fun x hx => (List.mem_erase_of_ne (by rintro rfl; exact h1 hx)).2 (hs x (List.mem_cons_of_mem _ hx)))
  have hm : 0 < m.length := List.length_pos_of_mem ha
  rw [List.length_erase_of_mem ha] at this
  simp only [List.length_cons]; omega
def ab.cell (n : ab) (i : Int) : Cell := n.cells.getD i.toNat default
def cw (n : ab) (i w : Int) : Prop := (0 ≤ i ∧ i < n.cells.length) ∧ (n.cell i).kind ≠ 7 ∧ (n.cell i).out = w
def bf (n : ab) (i : Int) : Prop := (0 ≤ i ∧ i < n.cells.length) ∧ cH (n.cell i).kind
def uU (n : ab) (w : Int) : Prop := ∃ j, bf n j ∧ (n.cell j).out = w
noncomputable instance (n : ab) : DecidablePred (uU n) := fun _ => Classical.propDecidable _
noncomputable instance (n : ab) (i : Int) : Decidable (bf n i) := Classical.propDecidable _
theorem bf.gP {n : ab} {i : Int} (h : bf n i) : cw n i (n.cell i).out := ⟨h.1, fun h7 => by have := h.2; rw [h7] at this; revert this; unfold cH; omega, rfl⟩
theorem kC (n : ab) (i : Nat) : n.cell (i : Int) = n.cells.getD i default := rfl
theorem sn {l : List Cell} {i j w : Nat} (h : i ≤ j) : cg (l.take i) w ≤ cg (l.take j) w := by
 have := nc (l.take j) i w
 rwa [List.take_take, Nat.min_eq_left h] at this
section
variable {n : ab} (hf : bq n)
include hf
theorem bq.cellAt {i : Int} (h : 0 ≤ i ∧ i < n.cells.length) : iz n (n.cell i) := hf.cells i.toNat om
theorem bq.iV {i w : Int} (h : cw n i w) : In w n.ai.length := h.2.2 ▸ (hf.cellAt h.1).2.2.2 h.2.1
theorem bq.l5 {i x : Int} (h : 0 ≤ i ∧ i < n.cells.length) (hx : x ∈ (n.cell i).args) : In x n.ai.length := (hf.cellAt h).1 x hx
theorem bq.unique {i j w : Int} (h1 : cw n i w) (h2 : cw n j w) : i = j := by
 have key : ∀ {i j : Int}, cw n i w → cw n j w → i < j → False := by
  intro i j h1 h2 gK
  have hw := hf.iV h1
  unfold In at hw
  obtain ⟨a1, a2, a3⟩ := h1
  obtain ⟨b1, b2, b3⟩ := h2
  have e1 := eg (l := n.cells) (i := i.toNat) om w.toNat
  have e2 := eg (l := n.cells) (i := j.toNat) om w.toNat
  rw [if_pos ⟨a2, by show (n.cell i).out = _; omega⟩] at e1
  rw [if_pos ⟨b2, by show (n.cell j).out = _; omega⟩] at e2
  have e3 := sn (l := n.cells) (i := i.toNat + 1) (j := j.toNat) (w := w.toNat) om
  have e4 := nc n.cells (j.toNat + 1) w.toNat
  have e5 := hf.jG w.toNat om
  omega
 rcases Int.lt_trichotomy i j with h | h | h
 ·exact (key h1 h2 h).elim
 ·exact h
 ·exact (key h2 h1 h).elim
theorem bq.kD {w : Int} (hw : In w n.ai.length) : ∃ i, cw n i w := by
 unfold In at hw
 have h := hf.jG w.toNat om
 have hp : 0 < cg n.cells w.toNat := by omega
 unfold cg at hp
 obtain ⟨c, hc, hp⟩ := List.countP_pos_iff.1 hp
 obtain ⟨i, hi, rfl⟩ := List.mem_iff_getElem.1 hc
 simp only [decide_eq_true_eq] at hp
 have e : n.cell (i : Int) = n.cells[i] := by rw [kC, List.getD_eq_getElem?_getD, List.getElem?_eq_getElem hi]; rfl
 refine ⟨(i : Int), ⟨om, om⟩, ?_⟩
 rw [e]; exact ⟨hp.1, om⟩
end
def dY (n : ab) (k : Nat) (l : List Bool) : Prop := ∀ w : Int, In w n.ai.length → (l.getD w.toNat false = true ↔ ∃ j, bf n j ∧ j < k ∧ (n.cell j).out = w)
theorem dY.init (n : ab) : dY n 0 (List.replicate n.ai.length false) := by
 intro w hw
 unfold In at hw
 rw [List.getD_eq_getElem?_getD, List.getElem?_replicate, if_pos om]
 exact ⟨fun h => (by cases h), fun ⟨j, h1, h2, _⟩ => (by have := h1.1; omega)⟩
theorem dY.skip {n : ab} {k : Nat} {l : List Bool} (h : dY n k l) (hc : ¬ cH (n.cells.getD k default).kind) : dY n (k + 1) l := by
 intro w hw
 rw [h w hw]
 constructor
 ·rintro ⟨j, h1, h2, h3⟩; exact ⟨j, h1, om, h3⟩
 ·rintro ⟨j, h1, h2, h3⟩
  refine ⟨j, h1, ?_, h3⟩
  rcases Int.lt_or_eq_of_le (show j ≤ k by omega) with h' | h'
  ·exact h'
  ·subst h'; exact absurd h1.2 hc
theorem dY.step {n : ab} {k : Nat} {l : List Bool} (h : dY n k l) (hk : k < n.cells.length) (hl : l.length = n.ai.length) (hc : cH (n.cells.getD k default).kind) (ho : In (n.cells.getD k default).out n.ai.length) :
  dY n (k + 1) (l.set (n.cells.getD k default).out.toNat true) := by
 intro w hw
 unfold In at ho
 have nV := hw
 unfold In at nV
 rw [bJ]
 by_cases e : (n.cells.getD k default).out = w
 ·rw [if_pos ⟨om, om⟩]
  exact ⟨fun _ => ⟨(k : Int), ⟨⟨om, om⟩, hc⟩, om, e⟩, fun _ => rfl⟩
 ·rw [if_neg om, h w hw]
  constructor
  ·rintro ⟨j, h1, h2, h3⟩; exact ⟨j, h1, om, h3⟩
  ·rintro ⟨j, h1, h2, h3⟩
   refine ⟨j, h1, ?_, h3⟩
   rcases Int.lt_or_eq_of_le (show j ≤ k by omega) with h' | h'
   ·exact h'
   ·subst h'; exact absurd h3 e
theorem dY.all {n : ab} {l : List Bool} (h : dY n n.cells.length l) {w : Int} (hw : In w n.ai.length) : l.getD w.toNat false = true ↔ uU n w := by
 rw [h w hw]
 exact ⟨fun ⟨j, h1, _, h3⟩ => ⟨j, h1, h3⟩, fun ⟨j, h1, h3⟩ => ⟨j, h1, by have := h1.1; omega, h3⟩⟩
def fM (n : ab) (k : Nat) : List Int := ((List.range k).filter (fun i => !decide (cH (n.cells.getD i default).kind))).map (fun (i : Nat) => (i : Int))
theorem qB (n : ab) (k : Nat) : fM n (k + 1) = fM n k ++ if cH (n.cells.getD k default).kind then [] else [(k : Int)] := by
 unfold fM
 rw [List.range_succ, List.filter_append, List.map_append]
 congr 1
 by_cases h : cH (n.cells.getD k default).kind
 ·rw [if_pos h]; simp [-List.getD_eq_getElem?_getD, h]
 ·rw [if_neg h]; simp [-List.getD_eq_getElem?_getD, h]
theorem gA {n : ab} {k : Nat} {x : Int} : x ∈ fM n k ↔ (0 ≤ x ∧ x < k) ∧ ¬ cH (n.cell x).kind := by
 unfold fM
 rw [List.mem_map]
 constructor
 ·rintro ⟨i, h, rfl⟩
  rw [List.mem_filter, List.mem_range] at h
  exact ⟨⟨om, om⟩, by rw [kC]; simpa [-List.getD_eq_getElem?_getD] using h.2⟩
 ·rintro ⟨h1, h2⟩
  refine ⟨x.toNat, ?_, om⟩
  rw [List.mem_filter, List.mem_range]
  have h3 : ¬ cH (n.cells.getD x.toNat default).kind := h2
  exact ⟨om, by simpa [-List.getD_eq_getElem?_getD] using h3⟩
theorem oR (n : ab) (k : Nat) : (fM n k).Nodup := by
 unfold fM
 rw [List.Nodup, List.pairwise_map]
 refine List.Pairwise.imp (fun {a b} h => ?_) (List.Pairwise.filter _ List.nodup_range)
 omega
theorem x7 (n : ab) (k : Nat) : (fM n k).length ≤ k := by
 unfold fM
 rw [List.length_map]
 exact Nat.le_trans (List.length_filter_le ..) (by simp)
def Open (n : ab) (done : List Int) (x : Int) : Prop := uU n x ∧ ∀ j ∈ done, (n.cell j).out ≠ x
noncomputable instance (n : ab) (done : List Int) : DecidablePred (Open n done) := fun _ => Classical.propDecidable _
noncomputable def cR (n : ab) (done : List Int) (i : Int) : Nat := (n.cell i).args.countP (fun x => decide (Open n done x))
theorem x8 (n : ab) (i : Int) : cR n [] i = (n.cell i).args.countP (fun x => decide (uU n x)) := by
 unfold cR
 apply List.countP_congr
 intro x _
 simp [Open]
theorem kX {n : ab} {done : List Int} {i : Int} : cR n done i = 0 ↔ ∀ x ∈ (n.cell i).args, uU n x → ∃ j ∈ done, (n.cell j).out = x := by
 unfold cR
 rw [List.countP_eq_zero]
 constructor
 ·intro h x hx hc
  refine Classical.byContradiction fun hh => h x hx (decide_eq_true ?_)
  exact ⟨hc, fun j hj e => hh ⟨j, hj, e⟩⟩
 ·intro h x hx hh
  have hh := of_decide_eq_true hh
  obtain ⟨j, hj, e⟩ := h x hx hh.1
  exact hh.2 j hj e
theorem vL {n : ab} (hf : bq n) {done : List Int} {i0 : Int} (h0 : bf n i0) (hd : ∀ j ∈ done, bf n j) (hn : i0 ∉ done) (i : Int) : cR n done i = cR n (done ++ [i0]) i + (n.cell i).args.count (n.cell i0).out := by
 unfold cR
 generalize (n.cell i).args = l
 induction l with
 | nil => rfl
 | cons x r ih =>
  rw [List.countP_cons, List.countP_cons, List.count_cons, ih]
  simp only [decide_eq_true_eq, beq_iff_eq]
  by_cases e : x = (n.cell i0).out
  ·have h1 : Open n done x := by
    refine ⟨⟨i0, h0, e.symm⟩, fun j hj e' => hn ?_⟩
    have := hf.unique (hd j hj).gP (by rw [e', e]; exact h0.gP)
    exact this ▸ hj
   have h2 : ¬ Open n (done ++ [i0]) x := fun h => h.2 i0 (by simp) e.symm
   rw [if_pos h1, if_neg h2, if_pos e]; omega
  ·have h1 : Open n done x ↔ Open n (done ++ [i0]) x := by
    constructor
    ·rintro ⟨a, b⟩
     refine ⟨a, fun j hj => ?_⟩
     rcases List.mem_append.1 hj with h | h
     ·exact b j h
     ·rw [List.mem_singleton.1 h]; exact fun h => e h.symm
    ·rintro ⟨a, b⟩
     exact ⟨a, fun j hj => b j (List.mem_append.2 (.inl hj))⟩
   rw [if_neg e]
   by_cases hh : Open n done x
   ·rw [if_pos hh, if_pos (h1.1 hh)]; omega
   ·rw [if_neg hh, if_neg (fun h => hh (h1.2 h))]; omega
open Go Go.AW
theorem gk {α : Type} {l : List α} {q : Nat} {d : α} (h : q < l.length) : l.take (q + 1) = l.take q ++ [l.getD q d] := by
 rw [List.take_add_one, List.getElem?_eq_getElem h, List.getD_eq_getElem?_getD, List.getElem?_eq_getElem h]; rfl
def Ak (n : ab) (k : Nat) : Nat := ((n.cells.take k).map (fun c => c.args.length)).sum
theorem oS {n : ab} {k : Nat} (h : k < n.cells.length) : Ak n (k + 1) = Ak n k + (n.cells.getD k default).args.length := by
 unfold Ak
 rw [gk (d := default) h, List.map_append, List.sum_append]; simp
theorem x9 {n : ab} (hs : n.Small) (k : Nat) : Ak n k ≤ 8796093022208 := by
 refine Nat.le_trans ?_ hs.Ak
 conv => rhs; rw [← List.take_append_drop k n.cells, List.map_append, List.sum_append]
 exact Nat.le_add_right ..
structure BI (n : ab) (k : Nat) (rem : List Int) (dF : List (List Int)) (ready : List Int) : Prop where
 jy : ∀ i, bf n i → i < k → rem.getD i.toNat 0 = (cR n [] i : Int)
 zero : ∀ i : Int, (k : Int) ≤ i → i < n.cells.length → rem.getD i.toNat 0 = 0
 BQ : ∀ w x, In w n.ai.length → x ∈ dF.getD w.toNat [] → bf n x ∧ x < k
 FD : ∀ w x, In w n.ai.length → uU n w → bf n x → x < k → (dF.getD w.toNat []).count x = (n.cell x).args.count w
 nd : ready.Nodup
 rd : ∀ x, x ∈ ready ↔ bf n x ∧ x < k ∧ cR n [] x = 0
 ul : ∀ w, In w n.ai.length → (dF.getD w.toNat []).length ≤ Ak n k
 rl : ready.length ≤ k
theorem BI.init (n : ab) : BI n 0 (List.replicate n.cells.length 0) (List.replicate n.ai.length []) [] where
 jy := fun i h h0 => by have := h.1; omega
 zero := fun i h1 h2 => by rw [List.getD_eq_getElem?_getD, List.getElem?_replicate]; split <;> rfl
 BQ := fun w x hw hx => by
  rw [List.getD_eq_getElem?_getD, List.getElem?_replicate] at hx
  split at hx <;> cases hx
 FD := fun w x hw _ h h0 => by have := h.1; omega
 nd := List.nodup_nil
 rd := fun x => ⟨fun h => (by cases h), fun ⟨h, h0, _⟩ => by have := h.1; omega⟩
 ul := fun w hw => by rw [List.getD_eq_getElem?_getD, List.getElem?_replicate]; split <;> exact Nat.zero_le _
 rl := Nat.le_refl _
theorem jH {n : ab} {k : Nat} {x : Int} (hc : ¬ cH (n.cells.getD k default).kind) (h : bf n x) (hx : x < ((k + 1 : Nat) : Int)) : x < k := by
 rcases Int.lt_or_eq_of_le (show x ≤ k by omega) with h' | h'
 ·exact h'
 ·subst h'; exact absurd h.2 hc
theorem BI.skip {n : ab} {k : Nat} {rem : List Int} {dF : List (List Int)} {ready : List Int} (h : BI n k rem dF ready) (hk : k < n.cells.length) (hc : ¬ cH (n.cells.getD k default).kind) : BI n (k + 1) rem dF ready where
 jy := fun i hi h0 => h.jy i hi (jH hc hi h0)
 zero := fun i h1 h2 => h.zero i om h2
 BQ := fun w x hw hx => ⟨(h.BQ w x hw hx).1, by have := (h.BQ w x hw hx).2; omega⟩
 FD := fun w x hw hC hx h0 => h.FD w x hw hC hx (jH hc hx h0)
 nd := h.nd
 rd := fun x => by
  rw [h.rd x]
  exact ⟨fun ⟨a, b, c⟩ => ⟨a, om, c⟩, fun ⟨a, b, c⟩ => ⟨a, jH hc a b, c⟩⟩
 ul := fun w hw => by have := h.ul w hw; rw [oS hk]; omega
 rl := by have := h.rl; omega
structure BJ (n : ab) (k q : Nat) (rem : List Int) (dF : List (List Int)) (iB : List Int) (eH : List (List Int)) : Prop where
 CO : ∀ i : Int, 0 ≤ i → i ≠ k → iB.getD i.toNat 0 = rem.getD i.toNat 0
 own : iB.getD k 0 = ((((n.cells.getD k default).args.take q).countP (fun x => decide (uU n x)) : Nat) : Int)
 us : ∀ w, In w n.ai.length → eH.getD w.toNat [] = dF.getD w.toNat [] ++ List.replicate (if uU n w then ((n.cells.getD k default).args.take q).count w else 0) (k : Int)
theorem BJ.init {n : ab} {k : Nat} {rem : List Int} {dF : List (List Int)} {ready : List Int} (h : BI n k rem dF ready) (hk : k < n.cells.length) : BJ n k 0 rem dF rem dF where
 CO := fun _ _ _ => rfl
 own := h.zero k (Int.le_refl _) om
 us := fun w _ => by simp
section
variable {n : ab} {k q : Nat} {rem iB : List Int} {dF eH : List (List Int)}
theorem BJ.skip (h : BJ n k q rem dF iB eH) (hq : q < (n.cells.getD k default).args.length) (hx : ¬ uU n ((n.cells.getD k default).args.getD q 0)) : BJ n k (q + 1) rem dF iB eH where
 CO := h.CO
 own := by rw [h.own, gk (d := 0) hq, List.countP_append, List.countP_cons, decide_eq_false hx]; simp
 us := fun w hw => by
  rw [h.us w hw]
  by_cases hC : uU n w
  ·rw [if_pos hC, if_pos hC, gk (d := 0) hq, List.count_append, List.count_cons]
   have : ((n.cells.getD k default).args.getD q 0 == w) = false := by
    rw [beq_eq_false_iff_ne]; rintro rfl; exact hx hC
   rw [this]; simp
  ·rw [if_neg hC, if_neg hC]
theorem BJ.step (h : BJ n k q rem dF iB eH) (hk : k < n.cells.length) (hl : iB.length = n.cells.length) (Q0 : eH.length = n.ai.length) (hq : q < (n.cells.getD k default).args.length)
  (hi : In ((n.cells.getD k default).args.getD q 0) n.ai.length) (hx : uU n ((n.cells.getD k default).args.getD q 0)) :
  BJ n k (q + 1) rem dF (iB.set k (iB.getD k 0 + 1)) (eH.set ((n.cells.getD k default).args.getD q 0).toNat (eH.getD ((n.cells.getD k default).args.getD q 0).toNat [] ++ [(k : Int)])) where
 CO := fun i h0 h1 => by rw [bJ, if_neg om]; exact h.CO i h0 h1
 own := by
  rw [bJ, if_pos ⟨rfl, om⟩, h.own, gk (d := 0) hq, List.countP_append, List.countP_cons, decide_eq_true hx]; simp
 us := fun w hw => by
  unfold In at hi
  have nV := hw
  unfold In at nV
  rw [bJ, gk (d := 0) hq, List.count_append, List.count_cons]
  by_cases e : (n.cells.getD k default).args.getD q 0 = w
  ·rw [e] at hx hi ⊢
   rw [if_pos ⟨rfl, om⟩, h.us w hw, if_pos hx, if_pos hx, List.append_assoc]
   congr 1
   rw [beq_self_eq_true, if_pos rfl]
   show _ = List.replicate (_ + 1) _
   rw [List.replicate_succ']
  ·have : ((n.cells.getD k default).args.getD q 0 == w) = false := by rw [beq_eq_false_iff_ne]; exact e
   rw [if_neg om, h.us w hw, this]; simp
theorem BJ.CP (h : BJ n k q rem dF iB eH) : 0 ≤ iB.getD k 0 ∧ iB.getD k 0 ≤ (q : Int) := by
 rw [h.own]
 have := Nat.le_trans (List.countP_le_length (p := fun x => decide (uU n x)) (l := (n.cells.getD k default).args.take q)) (List.length_take_le ..)
 omega
variable {ready : List Int}
theorem BJ.len (hb : BI n k rem dF ready) (h : BJ n k q rem dF iB eH) {w : Int} (hw : In w n.ai.length) : (eH.getD w.toNat []).length ≤ Ak n k + q := by
 rw [h.us w hw, List.length_append, List.length_replicate]
 have := hb.ul w hw
 have h2 : ((n.cells.getD k default).args.take q).count w ≤ q := Nat.le_trans List.count_le_length (by rw [List.length_take]; omega)
 split <;> omega
theorem BJ.fin (hb : BI n k rem dF ready) (hk : k < n.cells.length) (hc : cH (n.cells.getD k default).kind) (h : BJ n k (n.cells.getD k default).args.length rem dF iB eH) :
  (iB.getD k 0 = 0 → BI n (k + 1) iB eH (ready ++ [(k : Int)])) ∧ (iB.getD k 0 ≠ 0 → BI n (k + 1) iB eH ready) := by
 have hn : iB.getD k 0 = (cR n [] (k : Int) : Int) := by rw [h.own, List.take_length, x8]; rfl
 have wB : bf n (k : Int) := ⟨⟨om, om⟩, hc⟩
 have jy : ∀ i, bf n i → i < ((k + 1 : Nat) : Int) → iB.getD i.toNat 0 = (cR n [] i : Int) := by
  intro i hi h0
  by_cases e : i = k
  ·subst e; exact hn
  ·rw [h.CO i hi.1.1 e]; exact hb.jy i hi om
 have hzero : ∀ i : Int, (((k + 1 : Nat)) : Int) ≤ i → i < n.cells.length → iB.getD i.toNat 0 = 0 := by
  intro i h1 h2
  rw [h.CO i om om]; exact hb.zero i om h2
 have FE : ∀ w x, In w n.ai.length → x ∈ eH.getD w.toNat [] → bf n x ∧ x < ((k + 1 : Nat) : Int) := by
  intro w x hw hx
  rw [h.us w hw] at hx
  rcases List.mem_append.1 hx with hx | hx
  ·exact ⟨(hb.BQ w x hw hx).1, by have := (hb.BQ w x hw hx).2; omega⟩
  ·rw [List.eq_of_mem_replicate hx]; exact ⟨wB, om⟩
 have FF : ∀ w x, In w n.ai.length → uU n w → bf n x → x < ((k + 1 : Nat) : Int) → (eH.getD w.toNat []).count x = (n.cell x).args.count w := by
  intro w x hw hC hx h0
  rw [h.us w hw, if_pos hC, List.take_length, List.count_append]
  by_cases e : x = k
  ·subst e
   have h0 : (dF.getD w.toNat []).count (k : Int) = 0 := List.count_eq_zero.2 (fun hm => by have := (hb.BQ w _ hw hm).2; omega)
   rw [h0, List.count_replicate_self, Nat.zero_add]; rfl
  ·rw [hb.FD w x hw hC hx om, List.count_replicate, if_neg (by simpa using fun h => e h.symm)]; rfl
 have Mu : ∀ w, In w n.ai.length → (eH.getD w.toNat []).length ≤ Ak n (k + 1) := fun w hw => by rw [oS hk]; exact BJ.len hb h hw
 have EU := hb.rl
 constructor
 ·intro h0
  refine ⟨jy, hzero, FE, FF, ?_, fun x => ?_, Mu, by rw [List.length_append]; exact Nat.succ_le_succ EU⟩
  ·rw [List.nodup_append]
   refine ⟨hb.nd, by simp, fun a ha b fe => ?_⟩
   rw [List.mem_singleton.1 fe]
   have := ((hb.rd a).1 ha).2.1; omega
  ·rw [List.mem_append, hb.rd x, List.mem_singleton]
   constructor
   ·rintro (⟨a, b, c⟩ | rfl)
    ·exact ⟨a, om, c⟩
    ·exact ⟨wB, om, om⟩
   ·rintro ⟨a, b, c⟩
    by_cases e : x = k
    ·exact .inr e
    ·exact .inl ⟨a, om, c⟩
 ·intro h0
  refine ⟨jy, hzero, FE, FF, hb.nd, fun x => ?_, Mu, om⟩
  rw [hb.rd x]
  constructor
  ·rintro ⟨a, b, c⟩; exact ⟨a, om, c⟩
  ·rintro ⟨a, b, c⟩
   refine ⟨a, ?_, c⟩
   by_cases e : x = k
   ·subst e; omega
   ·omega
end
structure KI (n : ab) (done ready rem : List Int) : Prop where
 nd : (done ++ ready).Nodup
 cm : ∀ x ∈ done ++ ready, bf n x
 jy : ∀ i, bf n i → rem.getD i.toNat 0 = (cR n done i : Int)
 full : ∀ i, bf n i → (i ∈ done ++ ready ↔ cR n done i = 0)
 lp : ∀ p i s, done = p ++ i :: s → cR n p i = 0
structure US (n : ab) (dF : List (List Int)) : Prop where
 mem : ∀ w x, In w n.ai.length → x ∈ dF.getD w.toNat [] → bf n x
 O8 : ∀ w x, In w n.ai.length → uU n w → bf n x → (dF.getD w.toNat []).count x = (n.cell x).args.count w
theorem BI.us {n : ab} {rem : List Int} {dF : List (List Int)} {ready : List Int} (h : BI n n.cells.length rem dF ready) : US n dF :=
 ⟨fun w x hw hx => (h.BQ w x hw hx).1, fun w x hw hC hx => h.FD w x hw hC hx (by have := hx.1; omega)⟩
theorem BI.ki {n : ab} {rem : List Int} {dF : List (List Int)} {ready : List Int} (h : BI n n.cells.length rem dF ready) : KI n [] ready rem where
 nd := h.nd
 cm := fun x hx => ((h.rd x).1 hx).1
 jy := fun i hi => h.jy i hi (by have := hi.1; omega)
 full := fun i hi => by
  show i ∈ ready ↔ _
  rw [h.rd i]
  exact ⟨fun h => h.2.2, fun h => ⟨hi, by have := hi.1; omega, h⟩⟩
 lp := fun p i s h => by simp at h
structure KJ (n : ab) (done : List Int) (i0 : Int) (u : List Int) (q : Nat) (ready rem : List Int) : Prop where
 nd : (done ++ [i0] ++ ready).Nodup
 cm : ∀ x ∈ done ++ [i0] ++ ready, bf n x
 jy : ∀ i, bf n i → rem.getD i.toNat 0 = (cR n done i : Int) - ((u.take q).count i : Int)
 full : ∀ i, bf n i → (i ∈ done ++ [i0] ++ ready ↔ cR n done i ≤ (u.take q).count i)
theorem KJ.init {n : ab} {done ready rem u : List Int} (h : KI n done ready rem) (h0 : 0 < ready.length) : KJ n done (ready.getD 0 0) u 0 (ready.drop 1) rem := by
 have e : done ++ [ready.getD 0 0] ++ ready.drop 1 = done ++ ready := by
  cases ready with
  | nil => simp at h0
  | cons a r => simp
 refine ⟨by rw [e]; exact h.nd, by rw [e]; exact h.cm, fun i hi => by rw [h.jy i hi]; simp, fun i hi => by rw [e, h.full i hi]; simp⟩
section
variable {n : ab} (hf : bq n) {done ready rem u xA iB : List Int} {i0 : Int} {q : Nat}
include hf
theorem KJ.count (h : KJ n done i0 u q ready rem) (hu : ∀ x, bf n x → u.count x = (n.cell x).args.count (n.cell i0).out) {x : Int} (hx : bf n x) : cR n done x = cR n (done ++ [i0]) x + u.count x := by
 have iP := (List.nodup_append.1 h.nd).1
 have Jq : i0 ∉ done := fun hm => (List.nodup_append.1 iP).2.2 i0 hm i0 (by simp) rfl
 rw [hu x hx]
 exact vL hf (h.cm i0 (by simp)) (fun j hj => h.cm j (by simp [hj])) Jq x
theorem KJ.step (h : KJ n done i0 u q ready rem) (hl : rem.length = n.cells.length) (hq : q < u.length) (hu : ∀ x, bf n x → u.count x = (n.cell x).args.count (n.cell i0).out) (hm : ∀ x ∈ u, bf n x) :
  (rem.getD (u.getD q 0).toNat 0 - 1 = 0 → KJ n done i0 u (q + 1) (ready ++ [u.getD q 0]) (rem.set (u.getD q 0).toNat (rem.getD (u.getD q 0).toNat 0 - 1))) ∧
  (rem.getD (u.getD q 0).toNat 0 - 1 ≠ 0 → KJ n done i0 u (q + 1) ready (rem.set (u.getD q 0).toNat (rem.getD (u.getD q 0).toNat 0 - 1))) := by
 have hk : bf n (u.getD q 0) := hm _ (dr hq)
 have Jl := hk.1
 have ht := gk (d := 0) hq
 have FG : ∀ i, (u.take (q + 1)).count i = (u.take q).count i + if u.getD q 0 = i then 1 else 0 := by
  intro i
  rw [ht, List.count_append, List.count_cons]; simp
 have hle : (u.take (q + 1)).count (u.getD q 0) ≤ u.count (u.getD q 0) := by
  have e := congrArg (List.count (u.getD q 0)) (List.take_append_drop (q + 1) u)
  rw [List.count_append] at e; omega
 have hc := KJ.count hf h hu hk
 have O9 := FG (u.getD q 0)
 rw [if_pos rfl] at O9
 have Mv := h.jy _ hk
 have jy : ∀ i, bf n i → (rem.set (u.getD q 0).toNat (rem.getD (u.getD q 0).toNat 0 - 1)).getD i.toNat 0 = (cR n done i : Int) - ((u.take (q + 1)).count i : Int) := by
  intro i hi
  have OA := hi.1
  rw [bJ, FG i]
  by_cases e : u.getD q 0 = i
  ·rw [if_pos ⟨om, om⟩, if_pos e, Mv, e]; omega
  ·rw [if_neg om, if_neg e, h.jy i hi]; omega
 have rY : u.getD q 0 ∉ done ++ [i0] ++ ready := fun w8 => by
  have := (h.full _ hk).1 w8; omega
 constructor
 ·intro h0
  refine ⟨?_, ?_, jy, fun i hi => ?_⟩
  ·rw [← List.append_assoc, List.nodup_append]
   refine ⟨h.nd, by simp, fun a ha b hb e => rY ?_⟩
   rw [← List.mem_singleton.1 hb, ← e]; exact ha
  ·intro x hx
   rw [← List.append_assoc] at hx
   rcases List.mem_append.1 hx with hx | hx
   ·exact h.cm x hx
   ·rw [List.mem_singleton.1 hx]; exact hk
  ·rw [← List.append_assoc, List.mem_append, h.full i hi, List.mem_singleton, FG i]
   by_cases e : u.getD q 0 = i
   ·rw [if_pos e]
    subst e
    exact ⟨fun _ => by omega, fun _ => .inr rfl⟩
   ·rw [if_neg e]
    exact ⟨fun h => by rcases h with h | h; omega; exact absurd h.symm e, fun h => .inl om⟩
 ·intro h0
  refine ⟨h.nd, h.cm, jy, fun i hi => ?_⟩
  rw [h.full i hi, FG i]
  by_cases e : u.getD q 0 = i
  ·rw [if_pos e]
   subst e
   omega
  ·rw [if_neg e]; rfl
theorem KJ.bound (hs : n.Small) (h : KJ n done i0 u q ready rem) (hq : q < u.length) (hu : ∀ x, bf n x → u.count x = (n.cell x).args.count (n.cell i0).out) (hm : ∀ x ∈ u, bf n x) :
  1 ≤ rem.getD (u.getD q 0).toNat 0 ∧ rem.getD (u.getD q 0).toNat 0 ≤ 17592186043904 ∧ ready.length < n.cells.length := by
 have hk : bf n (u.getD q 0) := hm _ (dr hq)
 have ht := gk (d := 0) hq
 have FG : (u.take (q + 1)).count (u.getD q 0) = (u.take q).count (u.getD q 0) + 1 := by
  rw [ht, List.count_append, List.count_cons]; simp
 have e := congrArg (List.count (u.getD q 0)) (List.take_append_drop (q + 1) u)
 rw [List.count_append] at e
 have hc := KJ.count hf h hu hk
 have Mv := h.jy _ hk
 have hn : cR n done (u.getD q 0) ≤ (n.cell (u.getD q 0)).args.length := List.countP_le_length
 have ha : (n.cell (u.getD q 0)).args.length ≤ 17592186043904 := hs.args _ (eP (by have := hk.1; omega))
 refine ⟨om, om, ?_⟩
 have := length_le_of_subset (m := (List.range n.cells.length).map (fun (i : Nat) => (i : Int))) h.nd (fun x hx => by
  have := (h.cm x hx).1
  exact List.mem_map.2 ⟨x.toNat, List.mem_range.2 om, om⟩)
 rw [List.length_append, List.length_append, List.length_map, List.length_range] at this
 simp only [List.length_cons, List.length_nil] at this
 omega
theorem KJ.fin (hk : KI n done xA iB) (h0 : i0 ∈ xA) (h : KJ n done i0 u u.length ready rem) (hu : ∀ x, bf n x → u.count x = (n.cell x).args.count (n.cell i0).out) : KI n (done ++ [i0]) ready rem := by
 have hc : ∀ {x}, bf n x → cR n done x = cR n (done ++ [i0]) x + u.count x := fun hx => KJ.count hf h hu hx
 refine ⟨h.nd, h.cm, fun i hi => ?_, fun i hi => ?_, fun p i s e => ?_⟩
 ·rw [h.jy i hi, List.take_length, hc hi]; omega
 ·rw [h.full i hi, List.take_length, hc hi]; omega
 ·rcases List.eq_nil_or_concat s with rfl | ⟨s', x, rfl⟩
  ·have e2 := List.append_inj' (t₁ := [i0]) (t₂ := [i]) e rfl
   obtain ⟨rfl, e3⟩ := e2
   cases e3
   have me : bf n i0 := hk.cm i0 (List.mem_append.2 (.inr h0))
   exact (hk.full i0 me).1 (List.mem_append.2 (.inr h0))
  ·have e2 := List.append_inj' (s₁ := done) (s₂ := p ++ i :: s') (t₁ := [i0]) (t₂ := [x]) (by rw [e]; simp) rfl
   exact hk.lp p i s' e2.1
end
def Acyclic (n : ab) : Prop := ∃ r : Int → Nat, ∀ i j, bf n i → bf n j → (n.cell j).out ∈ (n.cell i).args → r j < r i
noncomputable instance (n : ab) : Decidable (Acyclic n) := Classical.propDecidable _
structure Ord (n : ab) (l : List Int) : Prop where
 len : l.length = n.cells.length
 nd : l.Nodup
 ti : ∀ x ∈ l, 0 ≤ x ∧ x < n.cells.length
 lp : ∀ p i s, l = p ++ i :: s → cH (n.cell i).kind → ∀ x ∈ (n.cell i).args, ∃ j ∈ p, cw n j x
theorem KI.all {n : ab} {done ready rem : List Int} (h : KI n done ready rem) : (fM n n.cells.length ++ done ++ ready).Nodup ∧ ∀ x ∈ fM n n.cells.length ++ done ++ ready, 0 ≤ x ∧ x < n.cells.length := by
 rw [List.append_assoc]
 refine ⟨?_, fun x hx => ?_⟩
 ·rw [List.nodup_append]
  refine ⟨oR _ _, h.nd, fun a ha b hb e => ?_⟩
  subst e
  exact (gA.1 ha).2 (h.cm a hb).2
 ·rcases List.mem_append.1 hx with h' | h'
  ·have := (gA.1 h').1; omega
  ·exact (h.cm x h').1
theorem KI.len {n : ab} {done ready rem : List Int} (h : KI n done ready rem) : (fM n n.cells.length ++ done).length + ready.length ≤ n.cells.length := by
 obtain ⟨h1, h2⟩ := h.all
 have := length_le_of_subset (m := (List.range n.cells.length).map (fun (i : Nat) => (i : Int))) h1 (fun x hx => by
  have := h2 x hx
  exact List.mem_map.2 ⟨x.toNat, List.mem_range.2 om, om⟩)
 rw [List.length_append, List.length_map, List.length_range] at this
 exact this
theorem KI.mem {n : ab} {done rem : List Int} (h : KI n done [] rem) {r : Int → Nat} (hr : ∀ i j, bf n i → bf n j → (n.cell j).out ∈ (n.cell i).args → r j < r i) : ∀ (m : Nat) (i : Int), bf n i → r i < m → i ∈ done
 | 0, _, _, hm => by omega
 | m + 1, i, hi, hm => by
  have hz : cR n done i = 0 := by
   rw [kX]
   rintro x hx ⟨j, hj, rfl⟩
   exact ⟨j, KI.mem h hr m j hj (by have := hr i j hi hj hx; omega), rfl⟩
  have := (h.full i hi).2 hz
  simpa using this
theorem vM (M : Nat) : ((List.range M).map (fun (i : Nat) => (i : Int))).Nodup := by
 rw [List.Nodup, List.pairwise_map]
 exact List.Pairwise.imp (fun {a b} h => by omega) List.nodup_range
theorem KI.FH {n : ab} {done rem : List Int} (h : KI n done [] rem) (hl : (fM n n.cells.length ++ done).length < n.cells.length) : ¬ Acyclic n := by
 rintro ⟨r, hr⟩
 have := length_le_of_subset (m := fM n n.cells.length ++ done) (vM n.cells.length) (fun x hx => by
  obtain ⟨i, hi, rfl⟩ := List.mem_map.1 hx
  rw [List.mem_range] at hi
  by_cases hc : cH (n.cell (i : Int)).kind
  ·exact List.mem_append.2 (.inr (KI.mem h hr _ (i : Int) ⟨⟨om, om⟩, hc⟩ (Nat.lt_succ_self _)))
  ·exact List.mem_append.2 (.inl (gA.2 ⟨⟨om, om⟩, hc⟩)))
 rw [List.length_map, List.length_range] at this
 omega
theorem m5 {l p s : List Int} {i j : Int} (hn : l.Nodup) (e : l = p ++ i :: s) (hj : j ∈ p) : l.idxOf j < l.idxOf i := by
 subst e
 have hi : i ∉ p := fun h => (List.nodup_append.1 hn).2.2 i h i (by simp) rfl
 rw [List.idxOf_append, if_pos hj, List.idxOf_append, if_neg hi]
 have := List.idxOf_lt_length_of_mem hj
 omega
theorem KI.ok {n : ab} (hf : bq n) {done rem : List Int} (h : KI n done [] rem) (hl : ¬ (fM n n.cells.length ++ done).length < n.cells.length) : Acyclic n ∧ Ord n (fM n n.cells.length ++ done) := by
 obtain ⟨h1, h2⟩ := h.all
 rw [List.append_nil] at h1 h2
 have hle := h.len
 simp only [List.length_nil, Nat.add_zero] at hle
 have FI : ∀ i : Int, (0 ≤ i ∧ i < n.cells.length) → i ∈ fM n n.cells.length ++ done := by
  intro i hi
  refine Classical.byContradiction fun hn => ?_
  have := length_le_of_subset (l := i :: (fM n n.cells.length ++ done)) (m := (List.range n.cells.length).map (fun (i : Nat) => (i : Int))) (List.nodup_cons.2 ⟨hn, h1⟩) (fun x hx => by
   have iK : 0 ≤ x ∧ x < n.cells.length := by
    rcases List.mem_cons.1 hx with rfl | hx
    ·exact hi
    ·exact h2 x hx
   exact List.mem_map.2 ⟨x.toNat, List.mem_range.2 om, om⟩)
  rw [List.length_cons, List.length_map, List.length_range] at this
  omega
 have EM : ∀ i, bf n i → i ∈ done := by
  intro i hi
  rcases List.mem_append.1 (FI i hi.1) with h' | h'
  ·exact absurd hi.2 (gA.1 h').2
  ·exact h'
 have OB : done.Nodup := (List.nodup_append.1 h1).2.1
 refine ⟨⟨fun i => done.idxOf i, fun i j hi hj hx => ?_⟩, om, h1, h2, fun p i s e hc x hx => ?_⟩
 ·obtain ⟨p, s, e⟩ := List.append_of_mem (EM i hi)
  obtain ⟨j', tG, e'⟩ := kX.1 (h.lp p i s e) _ hx ⟨j, hj, rfl⟩
  have CQ : bf n j' := h.cm j' (by rw [e]; simp [tG])
  have := hf.unique CQ.gP (e' ▸ hj.gP)
  subst this
  exact m5 OB e tG
 ·have hi : bf n i := ⟨h2 i (by rw [e]; simp), hc⟩
  obtain ⟨j, hj⟩ := hf.kD (hf.l5 hi.1 hx)
  by_cases CR : cH (n.cell j).kind
  ·-- the kD is combinational
   obtain ⟨p', s', e'⟩ := List.append_of_mem (EM i hi)
   obtain ⟨j', tG, e2⟩ := kX.1 (h.lp p' i s' e') x hx ⟨j, ⟨hj.1, CR⟩, hj.2.2⟩
   have CQ : bf n j' := h.cm j' (by rw [e']; simp [tG])
   have e3 : p ++ i :: s = (fM n n.cells.length ++ p') ++ i :: s' := by rw [← e, e', List.append_assoc]
   have hp : p = fM n n.cells.length ++ p' := by
    have FJ : i ∉ p := by
     rw [e] at h1
     exact fun h => (List.nodup_append.1 h1).2.2 i h i (by simp) rfl
    have jT : i ∉ fM n n.cells.length ++ p' := by
     rw [e, e3] at h1
     exact fun h => (List.nodup_append.1 h1).2.2 i h i (by simp) rfl
    have := congrArg (fun l => l.idxOf i) e3
    simp only [List.idxOf_append, if_neg FJ, if_neg jT, List.idxOf_cons_self, Nat.add_zero] at this
    exact (List.append_inj e3 om).1
   exact ⟨j', by rw [hp]; exact List.mem_append.2 (.inr tG), e2 ▸ CQ.gP⟩
  ·-- it comes first
   refine ⟨j, ?_, hj⟩
   have Em : j ∈ fM n n.cells.length := gA.2 ⟨hj.1, CR⟩
   have HW : i ∉ fM n n.cells.length := fun h => (gA.1 h).2 hc
   have : fM n n.cells.length ++ done = p ++ i :: s := e
   rcases List.append_eq_append_iff.1 this with ⟨a, ha, hb⟩ | ⟨a, ha, hb⟩
   ·rw [ha]; exact List.mem_append.2 (.inl Em)
   ·cases a with
    | nil => rw [List.append_nil] at ha; rw [← ha]; exact Em
    | cons b t =>
     rw [List.cons_append] at hb
     cases hb
     exact absurd (by rw [ha]; simp) HW
def kE (n : ab) (l : List Int) (e : Int) : Prop :=
 (¬ bq n ∧ l = [] ∧ e = 3) ∨ (bq n ∧ ¬ Fit n ∧ l = [] ∧ e = 13) ∨ (bq n ∧ Fit n ∧ ¬ Acyclic n ∧ l = [] ∧ e = 12) ∨ (bq n ∧ Fit n ∧ Acyclic n ∧ Ord n l ∧ e = 0)
theorem Q3 {p : Prop} (h : p := by ((try unfold Plain at *); (try unfold Unary at *); (try unfold tQ at *); (try unfold Seq at *); (try unfold In at *); first | (intro h; simp only [Shaped] at h; rcases h with h | h | h | h | h | h | h | h | h | h <;> omega) | (subst_vars; simp only [Shaped, Int.reduceEq, Bool.not_eq_true, false_and, true_and, and_true, and_false, or_false, false_or, ne_eq]; first | omega | grind | (unfold bA; grind)))) : p := h
theorem Q4 {p : Prop} (h : p := by ((try unfold Plain at *); (try unfold Unary at *); (try unfold tQ at *); (try unfold Seq at *); (try unfold In at *); (subst_vars; simp only [Shaped, Int.reduceEq, Bool.not_eq_true, false_and, true_and, and_true, and_false, or_false, false_or, ne_eq]; first | omega | grind | (unfold bA; grind)))) : p := h
noncomputable def m6 (n : ab) : Int := if bq n then if Fit n then if Acyclic n then 0 else 12 else 13 else 3
theorem kE.err {n : ab} {l : List Int} {e : Int} (h : kE n l e) : e = m6 n := by
 unfold m6
 rcases h with ⟨h1, _, h⟩ | ⟨h1, h2, _, h⟩ | ⟨h1, h2, h3, _, h⟩ | ⟨h1, h2, h3, _, h⟩
 ·rw [if_neg h1, h]
 ·rw [if_pos h1, if_neg h2, h]
 ·rw [if_pos h1, if_pos h2, if_neg h3, h]
 ·rw [if_pos h1, if_pos h2, if_pos h3, h]
open Go Go.AW
structure U2 where
 a : Nat
 b : Nat
instance : Inhabited U2 := ⟨⟨0, 0⟩⟩
def U2.row (x : U2) : List X := [.v (.int .u8 (x.a : Int)), .v (.int .u8 (x.b : Int))]
theorem U2.cM (c : U2) : X.bc c.row = true := rfl
structure xB where
 kind : Nat
 op : Nat
 width : Nat
 a : Nat
 b : Nat
 d : Nat
 num : Nat
instance : Inhabited xB := ⟨⟨0, 0, 0, 0, 0, 0, 0⟩⟩
def xB.row (x : xB) : List X := [.v (.int .u8 (x.kind : Int)), .v (.int .u8 (x.op : Int)), .v (.int .u8 (x.width : Int)), .v (.int .u8 (x.a : Int)), .v (.int .u8 (x.b : Int)), .v (.int .u8 (x.d : Int)), .v (.int .u64 (x.num : Int))]
theorem xB.cM (c : xB) : X.bc c.row = true := rfl
structure CS where
 bs : List U2
 streams : List U2
 ins : List Nat
 parts : List xB
 eu : List Nat
def CS.row (n : CS) : List X := [.fz 2 (n.bs.map U2.row), .fz 2 (n.streams.map U2.row), .fz 1 (n.ins.map xx), .fz 7 (n.parts.map xB.row), .fz 1 (n.eu.map xx)]
def Cell.lQ (c : Cell) : List X := [.v (.int .i64 c.kind), .v (.int .i64 c.op), .v (.int .i64 c.out), .di 1 (c.args.map aq), .v (.int .u64 (c.num : Int)), .v (.int .i64 c.mem)]
def ab.lQ (n : ab) : List X := [.v (.string n.name), .di 1 (n.ai.map aq), .di 6 (n.cells.map Cell.row), .fz 1 (n.ins.map aq), .fz 5 (n.bs.map pF.row), .fz 3 (n.streams.map gZ.row),
 .fz 1 (n.bW.map aq), .fz 1 (n.data.map aq), .v (.int .i64 n.freeze), .v (.int .i64 n.done), .fz 1 (n.eu.map aq)]
def oT (k : Nat) : Int := ([1, 2, 4, 7, 8, 13, 33, 64] : List Int).getD (k % 8) 0
theorem so (k : Nat) : cG (oT k) := by
 have h : ∀ j, j < 8 → cG (([1, 2, 4, 7, 8, 13, 33, 64] : List Int).getD j 0) := by decide
 exact h _ (Nat.mod_lt _ ah)
def qC (ws : List Int) (w : Int) (i : Nat) : List Int := ((List.range i).filter (fun j => decide (ws.getD j 0 = w))).map (fun (j : Nat) => (j : Int))
def sq (ws : List Int) (w : Int) (k : Nat) : Int := if (qC ws w ws.length).length = 0 then -1 else (qC ws w ws.length).getD (k % (qC ws w ws.length).length) 0
def An (ws : List Int) (w : Int) : Prop := ∃ j, j < ws.length ∧ ws.getD j 0 = w
theorem ss {ws : List Int} {w : Int} (h : An ws w) (k : Nat) : In (sq ws w k) ws.length ∧ ws.getD (sq ws w k).toNat 0 = w := by
 obtain ⟨j, hj, hw⟩ := h
 have h0 : (j : Int) ∈ qC ws w ws.length := List.mem_map.2 ⟨j, List.mem_filter.2 ⟨List.mem_range.2 hj, decide_eq_true hw⟩, rfl⟩
 have hp := List.length_pos_of_mem h0
 unfold sq
 rw [if_neg om]
 have hm := dr (l := qC ws w ws.length) (i := k % (qC ws w ws.length).length) (Nat.mod_lt _ hp)
 obtain ⟨i, hi, he⟩ := List.mem_map.1 hm
 obtain ⟨h1, h2⟩ := List.mem_filter.1 hi
 rw [← he]
 have := List.mem_range.1 h1
 exact ⟨⟨om, om⟩, by simpa using h2⟩
def BR (ws : List Int) (cs : List Cell) (p : xB) (i : Nat) : List Cell :=
 if (cs.getD ((((cs.length : Int) - 1) - (i : Int)).toNat) default).kind = 4 then
  cs.set ((((cs.length : Int) - 1) - (i : Int)).toNat) ⟨(cs.getD ((((cs.length : Int) - 1) - (i : Int)).toNat) default).kind, (cs.getD ((((cs.length : Int) - 1) - (i : Int)).toNat) default).op, (cs.getD ((((cs.length : Int) - 1) - (i : Int)).toNat) default).out,
   [sq ws 1 p.a, sq ws (ws.getD (cs.getD ((((cs.length : Int) - 1) - (i : Int)).toNat) default).out.toNat 0) p.d], (cs.getD ((((cs.length : Int) - 1) - (i : Int)).toNat) default).num, (cs.getD ((((cs.length : Int) - 1) - (i : Int)).toNat) default).mem⟩
 else cs
structure xB.Ok (p : xB) : Prop where
 kind : p.kind < 256
 op : p.op < 256
 width : p.width < 256
 a : p.a < 256
 b : p.b < 256
 d : p.d < 256
 num : p.num < 18446744073709551616
end Go.Proofs.Ytlimckldnjmabaa
namespace Go.AW
open Go
theorem rf {P : Program} {t : TypeId} {w : World} {r : Reach} {base : Nat} {v : Value} {n : Nat} {e : TypeId} (ht : P.underlying t = some (.array n e)) (h : Value.okWide P w r base t v) : ∃ cs, v = .agg cs ∧ cs.size = P.cellsOf t := by
 simp only [Value.okWide, ht] at h
 obtain ⟨cs, h1, h2, _⟩ := h
 exact ⟨cs, h1, h2⟩
end Go.AW
namespace Go.Proofs.Ytlimckldnjmabaa
open Go Go.AW Go.Proofs
section
variable {H : Type} {enc : TypeId × Value → H} {W : World} {base : Nat}
theorem Jr : Try.prog.cellsOf 5 = 1 := by kernel_rfl
theorem Js : Reads enc Try.prog W base 81 U2.row (fun u => u.a < 256 ∧ u.b < 256) (fun _ => 0) :=
 (Reads.Jj Try.underlying81 Jr aX CN).map (fun x => (⟨x.1, x.2⟩ : U2)) (fun _ => rfl) (fun _ h => h) (fun _ => Nat.zero_le _)
end
open Go Go.AW Go.Proofs
theorem fq : TY.iI Try.prog 100 0 = some (0, 3) := by kernel_rfl
theorem bB : TY.iI Try.prog 100 2 = some (2, 3) := by kernel_rfl
theorem gy : TY.iI Try.prog 100 3 = some (3, 3) := by kernel_rfl
theorem g5 : TY.iI Try.prog 100 4 = some (4, 3) := by kernel_rfl
theorem bt : TY.iI Try.prog 100 5 = some (5, 3) := by kernel_rfl
theorem Ao : TY.iI Try.prog 128 0 = some (0, 9) := by kernel_rfl
theorem rh : TY.iI Try.prog 128 1 = some (1, 3) := by kernel_rfl
theorem uV : TY.iI Try.prog 128 2 = some (2, 3) := by kernel_rfl
theorem Ap : TY.iI Try.prog 128 3 = some (3, 3) := by kernel_rfl
theorem Aq : TY.iI Try.prog 128 4 = some (4, 3) := by kernel_rfl
theorem Ar : TY.iI Try.prog 130 0 = some (0, 9) := by kernel_rfl
theorem rj : TY.iI Try.prog 130 1 = some (1, 3) := by kernel_rfl
theorem iW : TY.iI Try.prog 130 2 = some (2, 4) := by kernel_rfl
theorem fu : TY.iI Try.prog 152 0 = some (0, 27) := by kernel_rfl
theorem CU : TY.iI Try.prog 27 0 = some (0, 9) := by kernel_rfl
theorem fw : TY.iI Try.prog 27 1 = some (1, 22) := by kernel_rfl
theorem As : TY.iI Try.prog 27 10 = some (10, 22) := by kernel_rfl
theorem gm : TY.iI Try.prog 27 2 = some (2, 23) := by kernel_rfl
theorem oU : TY.iI Try.prog 27 3 = some (3, 22) := by kernel_rfl
theorem nf : TY.iI Try.prog 27 4 = some (4, 24) := by kernel_rfl
theorem gQ : TY.iI Try.prog 27 5 = some (5, 25) := by kernel_rfl
theorem tR : TY.iI Try.prog 27 6 = some (6, 22) := by kernel_rfl
theorem oV : TY.iI Try.prog 27 7 = some (7, 22) := by kernel_rfl
theorem tS : TY.iI Try.prog 27 8 = some (8, 3) := by kernel_rfl
theorem tT : TY.iI Try.prog 27 9 = some (9, 3) := by kernel_rfl
theorem ji : TY.iI Try.prog 73 0 = some (0, 3) := by kernel_rfl
theorem ek : TY.iI Try.prog 73 1 = some (1, 3) := by kernel_rfl
theorem kF : TY.iI Try.prog 73 2 = some (2, 3) := by kernel_rfl
theorem en : TY.iI Try.prog 73 3 = some (3, 22) := by kernel_rfl
theorem eb : TY.iI Try.prog 73 4 = some (4, 66) := by kernel_rfl
theorem cN : TY.iI Try.prog 73 5 = some (5, 3) := by kernel_rfl
theorem FM : TY.isInt Try.prog 232 = some .u64 := by kernel_rfl
theorem BS : TY.isInt Try.prog 3 = some .i64 := by kernel_rfl
theorem FN : TY.isInt Try.prog 5 = some .u8 := by kernel_rfl
theorem CV : TY.isInt Try.prog 66 = some .u64 := by kernel_rfl
theorem FO : aM Try.prog 108 = true := by kernel_rfl
theorem FP : aM Try.prog 109 = true := by kernel_rfl
theorem oW : aM Try.prog 117 = true := by kernel_rfl
theorem xD : aM Try.prog 123 = true := by kernel_rfl
theorem FQ : aM Try.prog 153 = true := by kernel_rfl
theorem xE : aM Try.prog 154 = true := by kernel_rfl
theorem xF : aM Try.prog 155 = true := by kernel_rfl
theorem oX : aM Try.prog 156 = true := by kernel_rfl
theorem BT : aM Try.prog 157 = true := by kernel_rfl
theorem FT : aM Try.prog 158 = true := by kernel_rfl
theorem FU : aM Try.prog 159 = true := by kernel_rfl
theorem FV : aM Try.prog 160 = true := by kernel_rfl
theorem FW : aM Try.prog 161 = true := by kernel_rfl
theorem FX : aM Try.prog 162 = true := by kernel_rfl
theorem FY : aM Try.prog 163 = true := by kernel_rfl
theorem FZ : aM Try.prog 164 = true := by kernel_rfl
theorem Ga : aM Try.prog 167 = true := by kernel_rfl
theorem su : aM Try.prog 174 = true := by kernel_rfl
theorem Gb : aM Try.prog 184 = true := by kernel_rfl
theorem Gc : aM Try.prog 185 = true := by kernel_rfl
theorem xG : aM Try.prog 186 = true := by kernel_rfl
theorem Gd : aM Try.prog 187 = true := by kernel_rfl
theorem Ge : aM Try.prog 188 = true := by kernel_rfl
theorem Gf : aM Try.prog 189 = true := by kernel_rfl
theorem Gg : aM Try.prog 190 = true := by kernel_rfl
theorem Gh : aM Try.prog 194 = true := by kernel_rfl
theorem Gi : aM Try.prog 197 = true := by kernel_rfl
theorem Gj : aM Try.prog 42 = true := by kernel_rfl
theorem xH : aM Try.prog 43 = true := by kernel_rfl
theorem Jv : aM Try.prog 44 = true := by kernel_rfl
theorem Jw : aM Try.prog 52 = true := by kernel_rfl
theorem CW : aM Try.prog 72 = true := by kernel_rfl
theorem CX : aM Try.prog 73 = true := by kernel_rfl
theorem Gk : aM Try.prog 84 = true := by kernel_rfl
theorem lq : aM Try.prog 85 = true := by kernel_rfl
theorem Jx : aM Try.prog 86 = true := by kernel_rfl
theorem Jy : aM Try.prog 87 = true := by kernel_rfl
theorem Gl : aM Try.prog 88 = true := by kernel_rfl
theorem CY : aM Try.prog 93 = true := by kernel_rfl
theorem iX : TY.jf Try.prog 100 = some [(0, 1), (1, 1), (2, 1), (3, 1), (4, 1), (5, 1)] := by kernel_rfl
theorem CZ : TY.jf Try.prog 73 = some [(0, 1), (1, 1), (2, 1), (3, 1), (4, 1), (5, 1)] := by kernel_rfl
theorem cu : TY.shape Try.prog 100 = some (some 6) := by kernel_rfl
theorem Gm : TY.shape Try.prog 128 = some (some 5) := by kernel_rfl
theorem BU : TY.shape Try.prog 130 = some (some 3) := by kernel_rfl
theorem cZ : TY.shape Try.prog 22 = some none := by kernel_rfl
theorem nW : TY.shape Try.prog 23 = some none := by kernel_rfl
theorem vN : TY.shape Try.prog 24 = some none := by kernel_rfl
theorem nX : TY.shape Try.prog 25 = some none := by kernel_rfl
theorem vO : TY.shape Try.prog 27 = some (some 11) := by kernel_rfl
theorem aZ : TY.shape Try.prog 3 = some none := by kernel_rfl
theorem xI : TY.shape Try.prog 4 = some none := by kernel_rfl
theorem gB : TY.shape Try.prog 66 = some none := by kernel_rfl
theorem rm : TY.shape Try.prog 73 = some (some 6) := by kernel_rfl
theorem Jz : TY.shape Try.prog 9 = some none := by kernel_rfl
theorem tU : TY.shape Try.prog 98 = some none := by kernel_rfl
theorem bo : TY.size Try.prog 100 = some 6 := by kernel_rfl
theorem Gn : TY.size Try.prog 128 = some 5 := by kernel_rfl
theorem BV : TY.size Try.prog 130 = some 3 := by kernel_rfl
theorem At : TY.size Try.prog 22 = some 1 := by kernel_rfl
theorem Da : TY.size Try.prog 23 = some 1 := by kernel_rfl
theorem cT : TY.size Try.prog 3 = some 1 := by kernel_rfl
theorem Mx : TY.size Try.prog 4 = some 1 := by kernel_rfl
theorem Au : TY.size Try.prog 73 = some 6 := by kernel_rfl
theorem J0 : TY.size Try.prog 98 = some 1 := by kernel_rfl
theorem iC : TY.slice Try.prog 105 = some (22, 1, 24) := by kernel_rfl
theorem a8 : TY.slice Try.prog 22 = some (3, 1, 8) := by kernel_rfl
theorem jz : TY.slice Try.prog 23 = some (73, 6, 64) := by kernel_rfl
theorem tV : TY.slice Try.prog 24 = some (128, 5, 48) := by kernel_rfl
theorem m7 : TY.slice Try.prog 25 = some (130, 3, 32) := by kernel_rfl
theorem sv : TY.slice Try.prog 62 = some (4, 1, 1) := by kernel_rfl
theorem OD : Try.prog.underlying 4 = some .bool := by kernel_rfl
theorem Ie : Try.prog.underlying 9 = some .string := by kernel_rfl
theorem eX : TY.zero Try.prog 100 = some [.int .i64 0, .int .i64 0, .int .i64 0, .int .i64 0, .int .i64 0, .int .i64 0] := by kernel_rfl
theorem Gp : TY.zero Try.prog 128 = some [.string ByteArray.empty, .int .i64 0, .int .i64 0, .int .i64 0, .int .i64 0] := by kernel_rfl
theorem BW : TY.zero Try.prog 130 = some [.string ByteArray.empty, .int .i64 0, .bool false] := by kernel_rfl
theorem Av : TY.zero Try.prog 22 = some [.slice none 0 0] := by kernel_rfl
theorem fv : TY.zero Try.prog 3 = some [.int .i64 0] := by kernel_rfl
theorem My : TY.zero Try.prog 4 = some [.bool false] := by kernel_rfl
theorem nh : TY.zero Try.prog 73 = some [.int .i64 0, .int .i64 0, .int .i64 0, .slice none 0 0, .int .u64 0, .int .i64 0] := by kernel_rfl
theorem J1 : TY.zero Try.prog 98 = some [.nilFunc] := by kernel_rfl
open Go Go.AW Go.Proofs
theorem Gq : TY.array Try.prog 81 = some (2, 5, 1) := by kernel_rfl
theorem dv : TY.iI Try.prog 114 0 = some (0, 3) := by kernel_rfl
theorem eQ : TY.iI Try.prog 114 1 = some (1, 3) := by kernel_rfl
theorem cS : TY.iI Try.prog 114 2 = some (2, 3) := by kernel_rfl
theorem ot : TY.iI Try.prog 159 0 = some (0, 85) := by kernel_rfl
theorem iY : TY.iI Try.prog 221 0 = some (0, 3) := by kernel_rfl
theorem ia : TY.iI Try.prog 221 1 = some (1, 3) := by kernel_rfl
theorem BX : aM Try.prog 124 = true := by kernel_rfl
theorem oY : aM Try.prog 125 = true := by kernel_rfl
theorem Gs : aM Try.prog 126 = true := by kernel_rfl
theorem Gt : aM Try.prog 127 = true := by kernel_rfl
theorem xJ : aM Try.prog 128 = true := by kernel_rfl
theorem xK : aM Try.prog 129 = true := by kernel_rfl
theorem BY : aM Try.prog 130 = true := by kernel_rfl
theorem uW : aM Try.prog 131 = true := by kernel_rfl
theorem Gu : aM Try.prog 132 = true := by kernel_rfl
theorem BZ : aM Try.prog 142 = true := by kernel_rfl
theorem sw : aM Try.prog 143 = true := by kernel_rfl
theorem qD : aM Try.prog 175 = true := by kernel_rfl
theorem Ca : aM Try.prog 176 = true := by kernel_rfl
theorem Gv : aM Try.prog 177 = true := by kernel_rfl
theorem xL : aM Try.prog 178 = true := by kernel_rfl
theorem Gw : aM Try.prog 195 = true := by kernel_rfl
theorem Cb : aM Try.prog 198 = true := by kernel_rfl
theorem J2 : aM Try.prog 30 = true := by kernel_rfl
theorem J3 : aM Try.prog 31 = true := by kernel_rfl
theorem Gx : aM Try.prog 32 = true := by kernel_rfl
theorem J4 : aM Try.prog 33 = true := by kernel_rfl
theorem J5 : aM Try.prog 34 = true := by kernel_rfl
theorem Gy : aM Try.prog 37 = true := by kernel_rfl
theorem J6 : aM Try.prog 41 = true := by kernel_rfl
theorem J7 : aM Try.prog 74 = true := by kernel_rfl
theorem J8 : aM Try.prog 75 = true := by kernel_rfl
theorem J9 : aM Try.prog 76 = true := by kernel_rfl
theorem JA : aM Try.prog 77 = true := by kernel_rfl
theorem JB : aM Try.prog 78 = true := by kernel_rfl
theorem JC : aM Try.prog 79 = true := by kernel_rfl
theorem rp : aM Try.prog 95 = true := by kernel_rfl
theorem pQ : aM Try.prog 96 = true := by kernel_rfl
theorem Db : aM Try.prog 97 = true := by kernel_rfl
theorem Gz : TY.jf Try.prog 114 = some [(0, 1), (1, 1), (2, 1)] := by kernel_rfl
theorem GA : TY.jf Try.prog 152 = some [(0, 11)] := by kernel_rfl
theorem GB : TY.jf Try.prog 159 = some [(0, 1)] := by kernel_rfl
theorem uX : TY.jf Try.prog 221 = some [(0, 1), (1, 1)] := by kernel_rfl
theorem Cc : TY.shape Try.prog 114 = some (some 3) := by kernel_rfl
theorem xM : TY.shape Try.prog 221 = some (some 2) := by kernel_rfl
theorem Mz : TY.shape Try.prog 5 = some none := by kernel_rfl
theorem JD : TY.shape Try.prog 81 = some (some 2) := by kernel_rfl
theorem Dc : TY.shape Try.prog 85 = some none := by kernel_rfl
theorem Cd : TY.size Try.prog 114 = some 3 := by kernel_rfl
theorem uY : TY.size Try.prog 221 = some 2 := by kernel_rfl
theorem JE : TY.size Try.prog 85 = some 1 := by kernel_rfl
theorem cK : TY.slice Try.prog 219 = some (221, 2, 16) := by kernel_rfl
theorem oZ : TY.slice Try.prog 85 = some (114, 3, 24) := by kernel_rfl
theorem sx : TY.zero Try.prog 114 = some [.int .i64 0, .int .i64 0, .int .i64 0] := by kernel_rfl
theorem GC : TY.zero Try.prog 152 = some [.string ByteArray.empty, .slice none 0 0, .slice none 0 0, .slice none 0 0, .slice none 0 0, .slice none 0 0, .slice none 0 0, .slice none 0 0, .int .i64 0, .int .i64 0, .slice none 0 0] := by kernel_rfl
theorem GD : TY.zero Try.prog 159 = some [.slice none 0 0] := by kernel_rfl
theorem fD : TY.zero Try.prog 221 = some [.int .i64 0, .int .i64 0] := by kernel_rfl
open Go Go.AW
structure Gate where
 kind : Int
 a : Int
 b : Int
instance : Inhabited Gate := ⟨⟨0, 0, 0⟩⟩
def Gate.row (g : Gate) : List X := [.v (.int .i64 g.kind), .v (.int .i64 g.a), .v (.int .i64 g.b)]
theorem Gate.cM (g : Gate) : X.bc g.row = true := rfl
def iD (i : Nat) (g : Gate) : Prop :=
 (1 ≤ g.kind ∧ g.kind ≤ 7) ∧ (if 4 ≤ g.kind then 0 ≤ g.a ∧ g.a < i else g.a = 0) ∧ (if 5 ≤ g.kind then 0 ≤ g.b ∧ g.b < i else g.b = 0)
def Good (l : List Gate) : Prop := ∀ i g, l[i]? = some g → iD i g
def fA (l : List Gate) : Nat := l.countP (fun g => decide (g.kind = 3))
theorem g6 (l e : List Gate) : fA (l ++ e) = fA l + fA e := List.countP_append
theorem kY (g : Gate) : fA [g] = if g.kind = 3 then 1 else 0 := by simp [fA, List.countP_cons]
theorem tW (l : List Gate) : fA l ≤ l.length := List.countP_le_length
theorem Good.nil : Good [] := fun i g h => by simp at h
theorem Good.snoc {l : List Gate} {g : Gate} (h : Good l) (hg : iD l.length g) : Good (l ++ [g]) := by
 intro i q hi
 rcases Nat.lt_or_ge i l.length with h1 | h1
 ·rw [List.getElem?_append_left h1] at hi; exact h i q hi
 ·rw [List.getElem?_append_right h1] at hi
  rcases Nat.eq_zero_or_pos (i - l.length) with h2 | h2
  ·rw [h2] at hi; simp at hi; subst hi
   rwa [show i = l.length by omega]
  ·rw [List.getElem?_eq_none (by simp; omega)] at hi; cases hi
theorem Good.left {l e : List Gate} (h : Good (l ++ e)) : Good l := fun i g hi => h i g (by
 have : i < l.length := (List.getElem?_eq_some_iff.1 hi).1
 rw [List.getElem?_append_left this]; exact hi)
def valOf (out ins : List Bool) (n : Nat) (g : Gate) : Bool :=
 if g.kind = 2 then true else if g.kind = 3 then ins.getD n false else if g.kind = 4 then !out.getD g.a.toNat false
 else if g.kind = 5 then out.getD g.a.toNat false && out.getD g.b.toNat false else if g.kind = 6 then out.getD g.a.toNat false || out.getD g.b.toNat false
 else if g.kind = 7 then out.getD g.a.toNat false != out.getD g.b.toNat false else false
def jI (out ins : List Int) (n : Nat) (g : Gate) : Int :=
 if g.kind = 3 then ins.getD n 0 else if g.kind = 4 then out.getD g.a.toNat 0 + 10 else if 5 ≤ g.kind ∧ g.kind ≤ 7 then max (out.getD g.a.toNat 0) (out.getD g.b.toNat 0) + 20 else 0
section
variable {α : Type} (f : List α → Nat → Gate → α)
def kf (l : List Gate) : Nat → List α
 | 0 => []
 | i + 1 => kf l i ++ (match l[i]? with | some g => [f (kf l i) (fA (l.take i)) g] | none => [])
theorem fE {l : List Gate} {i : Nat} {q : Gate} (hg : l[i]? = some q) : kf f l (i + 1) = kf f l i ++ [f (kf f l i) (fA (l.take i)) q] := by
 simp [kf, hg]
theorem fF {l : List Gate} : ∀ {i : Nat}, i ≤ l.length → (kf f l i).length = i
 | 0, _ => rfl
 | i + 1, h => by
  rw [fE f (List.getElem?_eq_getElem (show i < l.length by omega)), List.length_append, fF om]; rfl
theorem pa {l e : List Gate} : ∀ {i : Nat}, i ≤ l.length → kf f (l ++ e) i = kf f l i
 | 0, _ => rfl
 | i + 1, h => by
  have hg : l[i]? = some l[i] := List.getElem?_eq_getElem (show i < l.length by omega)
  have OE : (l ++ e)[i]? = some l[i] := by rw [List.getElem?_append_left om]; exact hg
  rw [fE f hg, fE f OE, pa om, List.take_append_of_le_length om]
theorem ni {l : List Gate} {g : Gate} : kf f (l ++ [g]) (l.length + 1) = kf f l l.length ++ [f (kf f l l.length) (fA l) g] := by
 rw [fE f (q := g) (by simp), pa f (Nat.le_refl _), List.take_append_of_le_length (Nat.le_refl _), List.take_length]
end
def outs (l : List Gate) (ins : List Bool) (i : Nat) : List Bool := kf (fun o n g => valOf o ins n g) l i
def dK (l : List Gate) (ins : List Int) (i : Nat) : List Int := kf (fun o n g => jI o ins n g) l i
def val (l : List Gate) (ins : List Bool) (i : Int) : Bool := (outs l ins l.length).getD i.toNat false
def rN (c : Int) (l : List Gate) (i : Int) : Int := (dK l (List.replicate (fA l) c) l.length).getD i.toNat 0
theorem vP {o ins sy : List Int} {n : Nat} {g : Gate} (h : g.kind = 3 → ins.getD n 0 = sy.getD n 0) : jI o ins n g = jI o sy n g := by
 unfold jI
 by_cases h3 : g.kind = 3
 ·rw [if_pos h3, if_pos h3, h h3]
 ·rw [if_neg h3, if_neg h3]
theorem GF {o ins sy : List Int} {n n' : Nat} {g : Gate} (h : g.kind ≠ 3) : jI o ins n g = jI o sy n' g := by
 unfold jI
 rw [if_neg h, if_neg h]
theorem nP {l : List Gate} {ins sy : List Int} (h : ∀ k, k < fA l → ins.getD k 0 = sy.getD k 0) : ∀ {i : Nat}, i ≤ l.length → dK l ins i = dK l sy i
 | 0, _ => rfl
 | i + 1, hi => by
  have hg : l[i]? = some l[i] := List.getElem?_eq_getElem (show i < l.length by omega)
  have ih := nP h (i := i) om
  unfold dK at ih ⊢
  rw [fE _ hg, fE _ hg, ih]
  congr 2
  refine vP fun h3 => h _ ?_
  have h1 : fA l = fA (l.take i) + fA (l.drop i) := by rw [← g6, List.take_append_drop]
  have h2 : 1 ≤ fA (l.drop i) := by
   have h4 : l.drop i = [l[i]] ++ l.drop (i + 1) := List.drop_eq_getElem_cons (show i < l.length by omega)
   rw [h4, g6, kY, if_pos h3]; omega
  omega
theorem pb {n k : Nat} {c : Int} (h : k < n) : (List.replicate n c).getD k 0 = c := by
 rw [List.getD_eq_getElem?_getD, List.getElem?_replicate, if_pos h]; rfl
theorem s0 {α : Type} {l : List Gate} {f : List α → Nat → Gate → α} {i j : Nat} (hi : i < j) : ∀ {m : Nat}, j ≤ m → m ≤ l.length → (kf f l m)[i]? = (kf f l j)[i]?
 | 0, h, _ => by omega
 | m + 1, h, hl => by
  rcases Nat.lt_or_ge m j with h1 | h1
  ·rw [show m + 1 = j by omega]
  ·rw [fE f (List.getElem?_eq_getElem (show m < l.length by omega)), List.getElem?_append_left (by rw [fF f om]; omega)]
   exact s0 hi h1 om
theorem qE {α : Type} {l : List Gate} {f : List α → Nat → Gate → α} {e : List Gate} {i : Nat} {d : α} (h : i < l.length) : (kf f (l ++ e) (l ++ e).length).getD i d = (kf f l l.length).getD i d := by
 rw [List.getD_eq_getElem?_getD, List.getD_eq_getElem?_getD, s0 (j := l.length) h (by simp) (Nat.le_refl _), pa f (Nat.le_refl _)]
theorem uZ {l e : List Gate} {ins : List Bool} {i : Int} (h0 : 0 ≤ i) (h : i < l.length) : val (l ++ e) ins i = val l ins i := qE om
theorem va {l e : List Gate} {c i : Int} (h0 : 0 ≤ i) (h : i < l.length) : rN c (l ++ e) i = rN c l i := by
 unfold rN
 have h1 : (dK (l ++ e) (List.replicate (fA (l ++ e)) c) (l ++ e).length).getD i.toNat 0 = (dK l (List.replicate (fA (l ++ e)) c) l.length).getD i.toNat 0 := qE om
 rw [h1, nP (sy := List.replicate (fA l) c) (fun k hk => by rw [pb (by rw [g6]; omega), pb hk]) (Nat.le_refl _)]
theorem ij {α : Type} {l : List α} {x d : α} {n : Nat} (h : n = l.length) : (l ++ [x]).getD n d = x := by subst h; simp
theorem val_last {l : List Gate} {g : Gate} {ins : List Bool} : val (l ++ [g]) ins (l.length : Int) = valOf (outs l ins l.length) ins (fA l) g := by
 unfold val outs
 rw [List.length_append, List.length_singleton, ni, Int.toNat_natCast]
 exact ij (fF _ (Nat.le_refl _)).symm
theorem xO {l : List Gate} {g : Gate} {c : Int} (h : g.kind ≠ 3) : rN c (l ++ [g]) (l.length : Int) = jI (dK l (List.replicate (fA l) c) l.length) [] 0 g := by
 have h1 : fA (l ++ [g]) = fA l := by rw [g6, kY, if_neg h]; omega
 unfold rN dK
 rw [h1, List.length_append, List.length_singleton, ni, Int.toNat_natCast, ij (fF _ (Nat.le_refl _)).symm]
 exact GF h
open Go Go.AW
structure Ext (l l' : List Gate) : Prop where
 ex : ∃ e, l' = l ++ e ∧ ∀ g ∈ e, g.kind ≠ 3
 dC : Good l'
theorem Ext.refl {l : List Gate} (h : Good l) : Ext l l := ⟨⟨[], by simp, by simp⟩, h⟩
theorem Ext.trans {l l' M0 : List Gate} (h : Ext l l') (h' : Ext l' M0) : Ext l M0 := by
 obtain ⟨e, he, hk⟩ := h.ex
 obtain ⟨e', OF, uQ⟩ := h'.ex
 refine ⟨⟨e ++ e', by rw [OF, he, List.append_assoc], fun g hg => ?_⟩, h'.dC⟩
 rcases List.mem_append.1 hg with h1 | h1
 ·exact hk g h1
 ·exact uQ g h1
theorem Ext.one {l : List Gate} {g : Gate} (h : Good l) (hg : iD l.length g) (hk : g.kind ≠ 3) : Ext l (l ++ [g]) :=
 ⟨⟨[g], rfl, fun x hx => by rw [List.mem_singleton.1 hx]; exact hk⟩, h.snoc hg⟩
theorem Ext.len {l l' : List Gate} (h : Ext l l') : l.length ≤ l'.length := by obtain ⟨e, rfl, _⟩ := h.ex; simp
theorem s4 : ∀ {e : List Gate}, (∀ g ∈ e, g.kind ≠ 3) → fA e = 0
 | [], _ => rfl
 | g :: e, h => by
  have h1 : fA (g :: e) = fA [g] + fA e := g6 [g] e
  rw [h1, kY, if_neg (h g (by simp)), s4 (fun x hx => h x (by simp [hx]))]
theorem Ext.fA {l l' : List Gate} (h : Ext l l') : fA l' = fA l := by
 obtain ⟨e, rfl, hk⟩ := h.ex
 rw [g6, s4 hk]; omega
structure Wr (c : Int) (l : List Gate) (i : Int) (f : List Bool → Bool) (t : Int) : Prop where
 lo : 0 ≤ i
 hi : i < l.length
 v : ∀ ins, val l ins i = f ins
 t : rN c l i ≤ t
theorem Wr.ext {c : Int} {l l' : List Gate} {i : Int} {f : List Bool → Bool} {t : Int} (h : Wr c l i f t) (he : Ext l l') : Wr c l' i f t := by
 have hl := he.len
 obtain ⟨e, rfl, _⟩ := he.ex
 exact ⟨h.lo, by have := h.hi; omega, fun ins => by rw [uZ h.lo h.hi]; exact h.v ins, by rw [va h.lo h.hi]; exact h.t⟩
theorem Wr.late {c : Int} {l : List Gate} {i : Int} {f : List Bool → Bool} {t t' : Int} (h : Wr c l i f t) (ht : t ≤ t') : Wr c l i f t' := ⟨h.lo, h.hi, h.v, by have := h.t; omega⟩
theorem Wr.as {c : Int} {l : List Gate} {i : Int} {f f' : List Bool → Bool} {t : Int} (h : Wr c l i f t) (hf : ∀ ins, f ins = f' ins) : Wr c l i f' t := ⟨h.lo, h.hi, fun ins => by rw [h.v, hf], h.t⟩
section
variable {c : Int} {l : List Gate} {a b : Int} {f g : List Bool → Bool} {s t u : Int}
theorem Wr.last {g : Gate} {h : List Bool → Bool} (hk : g.kind ≠ 3) (hv : ∀ ins, valOf (outs l ins l.length) ins (fA l) g = h ins) (ht : jI (dK l (List.replicate (fA l) c) l.length) [] 0 g ≤ u) : Wr c (l ++ [g]) (l.length : Int) h u :=
 ⟨om, by simp; omega, fun ins => by rw [val_last]; exact hv ins, by rw [xO hk]; exact ht⟩
theorem Wr.and (ha : Wr c l a f s) (hb : Wr c l b g t) (hs : s + 20 ≤ u) (ht : t + 20 ≤ u) : Wr c (l ++ [⟨5, a, b⟩]) (l.length : Int) (fun ins => f ins && g ins) u := by
 refine Wr.last (by simp) (fun ins => ?_) ?_
 ·have h1 := ha.v ins; have h2 := hb.v ins; unfold val at h1 h2
  simp only [valOf, h1, h2]; rfl
 ·have h1 := ha.t; have h2 := hb.t; unfold rN at h1 h2
  simp only [jI]; rw [if_neg ah, if_neg ah, if_pos ah]; omega
theorem Wr.or (ha : Wr c l a f s) (hb : Wr c l b g t) (hs : s + 20 ≤ u) (ht : t + 20 ≤ u) : Wr c (l ++ [⟨6, a, b⟩]) (l.length : Int) (fun ins => f ins || g ins) u := by
 refine Wr.last (by simp) (fun ins => ?_) ?_
 ·have h1 := ha.v ins; have h2 := hb.v ins; unfold val at h1 h2
  simp only [valOf, h1, h2]; rfl
 ·have h1 := ha.t; have h2 := hb.t; unfold rN at h1 h2
  simp only [jI]; rw [if_neg ah, if_neg ah, if_pos ah]; omega
theorem Wr.xor (ha : Wr c l a f s) (hb : Wr c l b g t) (hs : s + 20 ≤ u) (ht : t + 20 ≤ u) : Wr c (l ++ [⟨7, a, b⟩]) (l.length : Int) (fun ins => f ins ^^ g ins) u := by
 refine Wr.last (by simp) (fun ins => ?_) ?_
 ·have h1 := ha.v ins; have h2 := hb.v ins; unfold val at h1 h2
  simp only [valOf, h1, h2]
  cases f ins <;> cases g ins <;> rfl
 ·have h1 := ha.t; have h2 := hb.t; unfold rN at h1 h2
  simp only [jI]; rw [if_neg ah, if_neg ah, if_pos ah]; omega
theorem Wr.not (ha : Wr c l a f s) (hs : s + 10 ≤ u) : Wr c (l ++ [⟨4, a, 0⟩]) (l.length : Int) (fun ins => !f ins) u := by
 refine Wr.last (by simp) (fun ins => ?_) ?_
 ·have h1 := ha.v ins; unfold val at h1
  simp only [valOf, h1]; rfl
 ·have h1 := ha.t; unfold rN at h1
  simp only [jI]; rw [if_neg ah, if_pos ah]; omega
theorem Wr.zero (hu : 0 ≤ u) : Wr c (l ++ [⟨1, 0, 0⟩]) (l.length : Int) (fun _ => false) u := Wr.last ah (fun ins => rfl) (by simpa [jI] using hu)
theorem Wr.one (hu : 0 ≤ u) : Wr c (l ++ [⟨2, 0, 0⟩]) (l.length : Int) (fun _ => true) u := Wr.last ah (fun ins => rfl) (by simpa [jI] using hu)
theorem ok_two {k : Int} (hk : 5 ≤ k ∧ k ≤ 7) (ha : Wr c l a f s) (hb : Wr c l b g t) : iD l.length ⟨k, a, b⟩ :=
 ⟨⟨by show 1 ≤ k; omega, hk.2⟩, by rw [if_pos (by show 4 ≤ k; omega)]; exact ⟨ha.lo, ha.hi⟩, by rw [if_pos hk.1]; exact ⟨hb.lo, hb.hi⟩⟩
theorem Dd (ha : Wr c l a f s) : iD l.length ⟨4, a, 0⟩ := ⟨⟨by simp, by simp⟩, by rw [if_pos (by simp)]; exact ⟨ha.lo, ha.hi⟩, by rw [if_neg (by simp)]⟩
theorem xP {k : Int} {i : Nat} (hk : 1 ≤ k ∧ k ≤ 3) : iD i ⟨k, 0, 0⟩ := ⟨⟨hk.1, by show k ≤ 7; omega⟩, by rw [if_neg (by show ¬ 4 ≤ k; omega)], by rw [if_neg (by show ¬ 5 ≤ k; omega)]⟩
theorem Ext.two {k : Int} (hg : Good l) (hk : 5 ≤ k ∧ k ≤ 7) (ha : Wr c l a f s) (hb : Wr c l b g t) : Ext l (l ++ [⟨k, a, b⟩]) := Ext.one hg (ok_two hk ha hb) (by show k ≠ 3; omega)
theorem Ext.not (hg : Good l) (ha : Wr c l a f s) : Ext l (l ++ [⟨4, a, 0⟩]) := Ext.one hg (Dd ha) (by simp)
theorem Ext.JF {k : Int} (hg : Good l) (hk : 1 ≤ k ∧ k ≤ 2) : Ext l (l ++ [⟨k, 0, 0⟩]) := Ext.one hg (xP ⟨hk.1, om⟩) (by show k ≠ 3; omega)
end
structure Wd (c : Int) (l : List Gate) (a : List Int) (w : Nat) (N : List Bool → BitVec w) (t : Int) : Prop where
 len : a.length = w
 bit : ∀ k, k < w → Wr c l (a.getD k 0) (fun ins => (N ins).getLsbD k) t
theorem Wd.ext {c : Int} {l l' : List Gate} {a : List Int} {w : Nat} {N : List Bool → BitVec w} {t : Int} (h : Wd c l a w N t) (he : Ext l l') : Wd c l' a w N t := ⟨h.len, fun k hk => (h.bit k hk).ext he⟩
theorem Wd.late {c : Int} {l : List Gate} {a : List Int} {w : Nat} {N : List Bool → BitVec w} {t t' : Int} (h : Wd c l a w N t) (ht : t ≤ t') : Wd c l a w N t' := ⟨h.len, fun k hk => (h.bit k hk).late ht⟩
structure Ws (c : Int) (l : List Gate) (a : List Int) (f : Nat → List Bool → Bool) (t : Int) : Prop where
 bit : ∀ k, k < a.length → Wr c l (a.getD k 0) (f k) t
theorem Ws.nil {c : Int} {l : List Gate} {f : Nat → List Bool → Bool} {t : Int} : Ws c l [] f t := ⟨fun k hk => by simp at hk⟩
theorem Ws.ext {c : Int} {l l' : List Gate} {a : List Int} {f : Nat → List Bool → Bool} {t : Int} (h : Ws c l a f t) (he : Ext l l') : Ws c l' a f t := ⟨fun k hk => (h.bit k hk).ext he⟩
theorem Ws.snoc {c : Int} {l : List Gate} {a : List Int} {x : Int} {f : Nat → List Bool → Bool} {t : Int} (h : Ws c l a f t) (hx : Wr c l x (f a.length) t) : Ws c l (a ++ [x]) f t := ⟨fun k hk => by
 rcases Nat.lt_or_ge k a.length with h1 | h1
 ·rw [List.getD_eq_getElem?_getD, List.getElem?_append_left h1, ← List.getD_eq_getElem?_getD]; exact h.bit k h1
 ·have : k = a.length := by simp at hk; omega
  subst this; rw [ij rfl]; exact hx⟩
theorem Ws.late {c : Int} {l : List Gate} {a : List Int} {f : Nat → List Bool → Bool} {t t' : Int} (h : Ws c l a f t) (ht : t ≤ t') : Ws c l a f t' := ⟨fun k hk => (h.bit k hk).late ht⟩
theorem Ws.as {c : Int} {l : List Gate} {a : List Int} {f f' : Nat → List Bool → Bool} {t : Int} (h : Ws c l a f t) (hf : ∀ k, k < a.length → ∀ ins, f k ins = f' k ins) : Ws c l a f' t := ⟨fun k hk => (h.bit k hk).as (hf k hk)⟩
theorem Wd.ws {c : Int} {l : List Gate} {a : List Int} {w : Nat} {N : List Bool → BitVec w} {t : Int} (h : Wd c l a w N t) : Ws c l a (fun k ins => (N ins).getLsbD k) t := ⟨fun k hk => h.bit k (by have := h.len; omega)⟩
theorem Ws.wd {c : Int} {l : List Gate} {a : List Int} {w : Nat} {f : Nat → List Bool → Bool} {N : List Bool → BitVec w} {t : Int} (h : Ws c l a f t) (hl : a.length = w) (hf : ∀ k, k < w → ∀ ins, f k ins = (N ins).getLsbD k) : Wd c l a w N t :=
 ⟨hl, fun k hk => (h.bit k om).as (hf k hk)⟩
open Go Go.AW
def ca (G P : Nat → Bool) (j : Nat) : Nat → Bool → Bool
 | 0, z => z
 | k + 1, z => G (j + k) || (P (j + k) && ca G P j k z)
def pp (P : Nat → Bool) (j : Nat) : Nat → Bool
 | 0 => true
 | k + 1 => P (j + k) && pp P j k
theorem Ce {G P : Nat → Bool} {j : Nat} {z : Bool} : ∀ k, ca G P j k z = (ca G P j k false || (pp P j k && z))
 | 0 => by simp [ca, pp]
 | k + 1 => by
  simp only [ca, pp]
  rw [Ce k]
  cases G (j + k) <;> cases P (j + k) <;> cases pp P j k <;> cases ca G P j k false <;> cases z <;> rfl
theorem xQ {G P : Nat → Bool} {j k : Nat} {z : Bool} : ∀ m, ca G P j (k + m) z = ca G P (j + k) m (ca G P j k z)
 | 0 => rfl
 | m + 1 => by
  show (G (j + (k + m)) || (P (j + (k + m)) && ca G P j (k + m) z)) = _
  rw [xQ m, ← Nat.add_assoc]; rfl
theorem xR {P : Nat → Bool} {j k : Nat} : ∀ m, pp P j (k + m) = (pp P (j + k) m && pp P j k)
 | 0 => by simp [pp]
 | m + 1 => by
  show (P (j + (k + m)) && pp P j (k + m)) = _
  rw [xR m, ← Nat.add_assoc]
  simp only [pp, Bool.and_assoc]
theorem m8 {G P G' P' : Nat → Bool} {z : Bool} : ∀ {k}, (∀ i, i < k → G i = G' i) → (∀ i, i < k → P i = P' i) → ca G P 0 k z = ca G' P' 0 k z
 | 0, _, _ => rfl
 | k + 1, hg, hp => by
  simp only [ca, Nat.zero_add]
  rw [hg k om, hp k om, m8 (fun i hi => hg i om) (fun i hi => hp i om)]
def gen (G P : Nat → Bool) (d i : Nat) : Bool := ca G P (i + 1 - d) (i + 1 - (i + 1 - d)) false
theorem Aw {G P : Nat → Bool} {i : Nat} : gen G P 1 i = G i := by
 unfold gen
 rw [show i + 1 - 1 = i by omega, show i + 1 - i = 1 by omega]
 simp [ca]
theorem rq {G P : Nat → Bool} {d i : Nat} (h : i < d) : gen G P d i = ca G P 0 (i + 1) false := by
 unfold gen
 rw [show i + 1 - d = 0 by omega]; rfl
theorem vb {G P : Nat → Bool} {d i : Nat} (h : d ≤ i) : gen G P (2 * d) i = (gen G P d i || (pp P (i + 1 - d) d && gen G P d (i - d))) := by
 unfold gen
 rw [show i + 1 - (i + 1 - d) = d by omega, ← Ce]
 have h1 : i - d + 1 - d = i + 1 - 2 * d := by omega
 have h2 : i + 1 - (i + 1 - 2 * d) = (i - d + 1 - (i - d + 1 - d)) + d := by omega
 rw [h2, xQ, h1, show i + 1 - 2 * d + (i - d + 1 - (i + 1 - 2 * d)) = i + 1 - d by omega]
theorem xS {G P : Nat → Bool} {d i : Nat} (h : i < d) : gen G P (2 * d) i = gen G P d i := by
 rw [rq h, rq om]
theorem De {P : Nat → Bool} {d i : Nat} (h : 2 * d ≤ i + 1) : pp P (i + 1 - 2 * d) (2 * d) = (pp P (i + 1 - d) d && pp P (i - d + 1 - d) d) := by
 rw [Nat.two_mul, xR, show i + 1 - (d + d) + d = i + 1 - d by omega, show i - d + 1 - d = i + 1 - (d + d) by omega]
theorem pc {w : Nat} {x y : BitVec w} {z : Bool} : ∀ n, ca (fun i => x.getLsbD i && y.getLsbD i) (fun i => x.getLsbD i ^^ y.getLsbD i) 0 n z = BitVec.carry n x y z
 | 0 => by simp [ca, BitVec.carry_zero]
 | n + 1 => by
  simp only [ca, Nat.zero_add]
  rw [pc n, BitVec.carry_succ]
  cases x.getLsbD n <;> cases y.getLsbD n <;> cases BitVec.carry n x y z <;> rfl
theorem Ax {w : Nat} {x y : BitVec w} {i : Nat} (h : i < w) : (x + y).getLsbD i = ((x.getLsbD i ^^ y.getLsbD i) ^^ ca (fun i => x.getLsbD i && y.getLsbD i) (fun i => x.getLsbD i ^^ y.getLsbD i) 0 i false) := by
 rw [pc, BitVec.getLsbD_add h, Bool.xor_assoc]
def Ay {w : Nat} (x y : BitVec w) (i : Nat) : Bool := if i = 0 then x.getLsbD 0 || !y.getLsbD 0 else x.getLsbD i && !y.getLsbD i
theorem xT {w : Nat} {x y : BitVec w} : ∀ n, n + 1 ≤ w → ca (Ay x y) (fun i => x.getLsbD i ^^ !y.getLsbD i) 0 (n + 1) false = ca (fun i => x.getLsbD i && (~~~y).getLsbD i) (fun i => x.getLsbD i ^^ (~~~y).getLsbD i) 0 (n + 1) true
 | 0, hw => by
  simp only [ca, Ay, Nat.add_zero, if_true, BitVec.getLsbD_not, show 0 < w by omega, decide_true, Bool.true_and]
  cases x.getLsbD 0 <;> cases y.getLsbD 0 <;> rfl
 | n + 1, hw => by
  have h := xT (x := x) (y := y) n om
  rw [ca, h]
  conv => rhs; rw [ca]
  simp only [Nat.zero_add, Ay, Nat.add_one_ne_zero, if_false, BitVec.getLsbD_not, show n + 1 < w by omega, decide_true, Bool.true_and]
theorem Az {w : Nat} {x y : BitVec w} {i : Nat} (h : i < w) (h0 : 0 < i) : (x - y).getLsbD i = ((x.getLsbD i ^^ !y.getLsbD i) ^^ ca (Ay x y) (fun i => x.getLsbD i ^^ !y.getLsbD i) 0 i false) := by
 obtain ⟨i, rfl⟩ : ∃ j, i = j + 1 := ⟨i - 1, om⟩
 rw [xT i om, pc, BitVec.sub_eq_add_neg, BitVec.neg_eq_not_add, ← BitVec.add_assoc]
 have h1 := BitVec.getLsbD_add_add_bool h x (~~~y) true
 rw [show BitVec.setWidth w (BitVec.ofBool true) = 1#w by
  apply BitVec.eq_of_toNat_eq; simp] at h1
 rw [h1, BitVec.getLsbD_not]
 simp [show i + 1 < w by omega, Bool.xor_assoc]
theorem xU {w : Nat} {x y : BitVec w} (h : 0 < w) : (x - y).getLsbD 0 = (x.getLsbD 0 ^^ y.getLsbD 0) := by
 have h1 := BitVec.getLsbD_add_add_bool h x (~~~y) true
 rw [show BitVec.setWidth w (BitVec.ofBool true) = 1#w by
  apply BitVec.eq_of_toNat_eq; simp] at h1
 rw [BitVec.sub_eq_add_neg, BitVec.neg_eq_not_add, ← BitVec.add_assoc, h1, BitVec.getLsbD_not, BitVec.carry_zero]
 simp only [h, decide_true, Bool.true_and]
 cases x.getLsbD 0 <;> cases y.getLsbD 0 <;> rfl
open Go Go.AW
structure Ground (n : ab) : Prop where
 has : ∀ k, An n.ai (oT k)
 wide : ∀ w ∈ n.ai, cG w
 bs : ∀ m ∈ n.bs, ∃ k, m.width = oT k
 strs : ∀ s ∈ n.streams, ∃ k, s.width = oT k
 ins : ∀ w ∈ n.ins, ∃ k, w = oT k
def s5 (n : ab) (c : Cell) (w : Int) : Prop :=
 (c.kind = 1 ∧ ln w c.num = c.num) ∨
 (c.kind = 2 ∧ cv c.op (n.av c 0) (n.av c 1) (n.av c 2) w) ∨
 (c.kind = 3 ∧ ∀ k, k < c.args.length → (k % 2 = 0 ∧ n.av c k = 1) ∨ (k % 2 = 1 ∧ n.av c k = w)) ∨
 (c.kind = 4 ∧ n.av c 0 = 1 ∧ n.av c 1 = w ∧ ln w c.num = c.num) ∨
 (c.kind = 5 ∧ n.av c 0 = w ∧ n.av c 1 = w) ∨
 (c.kind = 6 ∧ n.av c 0 = 1 ∧ (n.bs.getD c.mem.toNat default).width = w) ∨
 (c.kind = 7 ∧ n.av c 0 = 1 ∧ (n.bs.getD c.mem.toNat default).width = n.av c 2) ∨
 (c.kind = 8 ∧ n.ins.getD c.num 0 = w) ∨
 (c.kind = 9 ∧ w = 1) ∨
 (c.kind = 10 ∧ (n.streams.getD c.mem.toNat default).width = w)
structure Df (n : ab) (c : Cell) (w : Int) : Prop where
 out : c.kind = 7 → c.out = -1
 args : ∀ x ∈ c.args, In x n.ai.length
 shaped : Shaped n c
 fits : s5 n c w
 wide : cG w
 num : c.num < 18446744073709551616
 len : c.args.length ≤ 4
theorem xV : cG 1 := by decide
theorem getD_in {α : Type} {d : α} {l : List α} {i : Nat} (h : i < l.length) : l.getD i d ∈ l := by
 rw [List.getD_eq_getElem?_getD, List.getElem?_eq_getElem h]; exact List.getElem_mem h
section
variable {n : ab} (hg : Ground n)
include hg
theorem Ground.one : An n.ai 1 := hg.has 0
theorem Ground.mem {i : Nat} (h : i < n.bs.length) : An n.ai (n.bs.getD i default).width ∧ cG (n.bs.getD i default).width := by
 obtain ⟨k, hk⟩ := hg.bs _ (getD_in h)
 rw [hk]; exact ⟨hg.has k, so k⟩
end
open Go Go.AW
structure vc (n : ab) : Prop where
 name : nO n.name
 ej : n.cells.length ≤ 65536
 dO : n.ai.length ≤ 65536
 ai : ∀ j, j < n.ai.length → cG (n.ai.getD j 0)
 ins : ∀ j, j < n.ins.length → cG (n.ins.getD j 0)
 iU : n.bs.length ≤ 64
 cJ : n.streams.length ≤ 64
 dX : n.bW.length = n.streams.length
 iA : n.data.length = n.streams.length
 bs : ∀ j, j < n.bs.length → l4 (n.bs.getD j default)
 strs : ∀ j, j < n.streams.length → iT n j
noncomputable instance (n : ab) : Decidable (vc n) := Classical.propDecidable _
theorem l8 {α : Type} {l m : List α} {j : Nat} {d : α} (h : j < l.length) : (l ++ m).getD j d = l.getD j d := by
 rw [List.getD_eq_getElem?_getD, List.getElem?_append_left h, List.getD_eq_getElem?_getD]
theorem l9 {α : Type} {l m : List α} {j : Nat} {d : α} (h : l.length ≤ j) : (l ++ m).getD j d = m.getD (j - l.length) d := by
 rw [List.getD_eq_getElem?_getD, List.getElem?_append_right h, List.getD_eq_getElem?_getD]
theorem bq.parts {n : ab} (h : bq n) : vc n where
 name := h.name
 ej := h.ej
 dO := h.dO
 ai := fun j hj => by have := h.wide j (by rw [List.length_append]; omega); rwa [l8 hj] at this
 ins := fun j hj => by have := h.wide (n.ai.length + j) (by rw [List.length_append]; omega); rwa [l9 om, show n.ai.length + j - n.ai.length = j by omega] at this
 iU := h.iU
 cJ := h.cJ
 dX := h.dX
 iA := h.iA
 bs := h.bs
 strs := h.strs
theorem vc.formed {n : ab} (h : vc n) (h1 : In n.freeze n.ai.length) (h2 : In n.done n.ai.length) (h3 : ∀ j, j < n.eu.length → In (n.eu.getD j 0) n.ai.length)
  (h4 : ∀ j, j < n.cells.length → iz n (n.cells.getD j default)) (h5 : ∀ w, w < n.ai.length → cg n.cells w = 1) : bq n where
 name := h.name
 ej := h.ej
 dO := h.dO
 iU := h.iU
 cJ := h.cJ
 dX := h.dX
 iA := h.iA
 wide := fun j hj => by
  rw [List.length_append] at hj
  by_cases IB : j < n.ai.length
  ·rw [l8 IB]; exact h.ai j IB
  ·rw [l9 om]; exact h.ins _ om
 bs := h.bs
 strs := h.strs
 freeze := h1
 done := h2
 eu := sj.1 h3
 cells := h4
 jG := h5
def zA (n : ab) (i : Nat) (d : List Int) : Prop := ∀ w, w < n.ai.length → d.getD w 0 = (cg (n.cells.take i) w : Int)
theorem zA.init (n : ab) : zA n 0 (List.replicate n.ai.length 0) := by
 intro w hw
 rw [List.getD_eq_getElem?_getD, List.getElem?_replicate, if_pos hw]; simp [cg]
theorem zA.skip {n : ab} {i : Nat} {d : List Int} (h : zA n i d) (hi : i < n.cells.length) (h7 : (n.cells.getD i default).kind = 7) : zA n (i + 1) d := by
 intro w hw
 rw [eg hi, if_neg (fun h => h.1 h7)]
 exact h w hw
theorem zA.step {n : ab} {i : Nat} {d : List Int} (h : zA n i d) (hi : i < n.cells.length) (h7 : (n.cells.getD i default).kind ≠ 7) (ho : In (n.cells.getD i default).out n.ai.length)
  (hl : d.length = n.ai.length) : zA n (i + 1) (d.set (n.cells.getD i default).out.toNat (d.getD (n.cells.getD i default).out.toNat 0 + 1)) := by
 intro w hw
 have hh := h w hw
 rw [eg hi, bJ]
 unfold In at ho
 by_cases e : (n.cells.getD i default).out = (w : Int)
 ·rw [if_pos ⟨om, om⟩, if_pos ⟨h7, e⟩]
  have e2 : (n.cells.getD i default).out.toNat = w := by omega
  rw [e2, hh]; omega
 ·rw [if_neg om, if_neg (fun h => e h.2), hh]; omega
theorem zA.le {n : ab} {i : Nat} {d : List Int} (h : zA n i d) {w : Nat} (hw : w < n.ai.length) : 0 ≤ d.getD w 0 ∧ d.getD w 0 ≤ i := by
 rw [h w hw]
 have : cg (n.cells.take i) w ≤ i := Nat.le_trans List.countP_le_length (by rw [List.length_take]; omega)
 omega
open Go Go.AW
def nB : ByteArray := ⟨#[110]⟩
def pn (ws : List Int) (cs : List Cell) (ins : List Int) (bs : List pF) (streams : List gZ) : ab := ⟨nB, ws, cs, ins, bs, streams, [], [], 0, 0, []⟩
structure Gr (n : ab) : Prop where
 ground : Ground n
 cells : ∀ c ∈ n.cells, iz n c ∧ Fits n c ∧ c.num < 18446744073709551616 ∧ c.args.length ≤ 4
 jG : ∀ w, w < n.ai.length → cg n.cells w = 1
 lp : ∀ i j, bf n i → bf n j → (n.cell j).out ∈ (n.cell i).args → j < i
theorem Fits.ext {n n' : ab} {c : Cell} (hm : n'.bs = n.bs) (hi : n'.ins = n.ins) (hs : n'.streams = n.streams) (ha : ∀ k, n'.av c k = n.av c k) (ho : n'.ow c = n.ow c) (h : Fits n c) : Fits n' c := by
 unfold Fits iy at *
 simp only [ha, ho, hm, hi, hs]; exact h
theorem s5.fits {n n' : ab} {c c' : Cell} {w : Int} (hm : n'.bs = n.bs) (hi : n'.ins = n.ins) (hs : n'.streams = n.streams) (hk : c'.kind = c.kind) (Et : c'.op = c.op) (hr : c'.args = c.args) (hn : c'.num = c.num) (OG : c'.mem = c.mem)
  (ha : ∀ k, n'.av c' k = n.av c k) (ho : c.kind ≠ 7 → n'.ow c' = w) (h : s5 n c w) : Fits n' c' := by
 unfold s5 at h
 unfold Fits iy
 simp only [ha, hm, hi, hs, hk, Et, hr, hn, OG]
 by_cases h7 : c.kind = 7
 ·rw [h7] at h ⊢
  simp only [Int.reduceEq, false_and, true_and, or_false, false_or] at h ⊢
  exact h
 ·rw [ho h7]; exact h
theorem vd {ws tX : List Int} {x : Int} (hs : ∀ x, x < ws.length → tX.getD x 0 = ws.getD x 0) (hx : In x ws.length) : tX.getD x.toNat 0 = ws.getD x.toNat 0 := hs _ (by unfold In at hx; omega)
theorem tY (l : List Cell) (c : Cell) (w : Nat) : cg (l ++ [c]) w = cg l w + cg [c] w := by simp only [cg, List.countP_append]
theorem s6 {l : List Cell} {w : Nat} (h : ∀ c ∈ l, ¬ (c.kind ≠ 7 ∧ c.out = (w : Int))) : cg l w = 0 := by
 unfold cg
 rw [List.countP_eq_zero]
 intro c hc
 simpa using h c hc
theorem eo {α : Type} {d : α} {l r : List α} {i : Nat} (h : i < l.length) : (l ++ r).getD i d = l.getD i d := by
 rw [List.getD_eq_getElem?_getD, List.getElem?_append_left h, ← List.getD_eq_getElem?_getD]
theorem gp {α : Type} {d c : α} {l : List α} {i : Nat} (h : i = l.length) : (l ++ [c]).getD i d = c := by
 subst h
 rw [List.getD_eq_getElem?_getD, List.getElem?_append_right (Nat.le_refl _), Nat.sub_self]; rfl
section
variable {ws tX : List Int} {cs : List Cell} {ins : List Int} {bs : List pF} {streams : List gZ} {c0 : Cell}
theorem Gr.push (h : Gr (pn ws cs ins bs streams)) (h0 : 0 < ws.length) (hw : ∀ w ∈ tX, cG w) (hs : ∀ x, x < ws.length → tX.getD x 0 = ws.getD x 0) (hle : ws.length ≤ tX.length)
  (hc : iz (pn tX cs ins bs streams) c0) (ha : ∀ x ∈ c0.args, In x ws.length) (hf : Fits (pn tX cs ins bs streams) c0) (JG : c0.num < 18446744073709551616) (hlen : c0.args.length ≤ 4)
  (OH : ∀ x, x < tX.length → cg [c0] x = if x < ws.length then 0 else 1) (mu : cH c0.kind → c0.out = ws.length) (Ig : tX.length ≤ ws.length + 1) : Gr (pn tX (cs ++ [c0]) ins bs streams) where
 ground := ⟨fun k => by
   obtain ⟨j, h1, h2⟩ := h.ground.has k
   exact ⟨j, Nat.lt_of_lt_of_le h1 hle, (hs j h1).trans h2⟩, hw, h.ground.bs, h.ground.strs, h.ground.ins⟩
 cells := by
  intro c wB
  rcases List.mem_append.1 wB with h1 | h1
  ·obtain ⟨a1, a2, a3, a4⟩ := h.cells c h1
   have b1 : ∀ x ∈ c.args, In x ws.length := a1.1
   refine ⟨⟨fun x hx => ?_, a1.2.1, a1.2.2.1, fun h7 => ?_⟩, ?_, a3, a4⟩
   ·have := b1 x hx; unfold In at *; exact ⟨this.1, by show x < (tX.length : Int); omega⟩
   ·have := a1.2.2.2 h7; unfold In at *; exact ⟨this.1, by have := this.2; show c.out < (tX.length : Int); change c.out < (ws.length : Int) at this; omega⟩
   ·refine Fits.ext (n := pn ws cs ins bs streams) rfl rfl rfl (fun k => ?_) ?_ a2
    ·refine vd hs ?_
     rcases Nat.lt_or_ge k c.args.length with hk | hk
     ·exact b1 _ (dr hk)
     ·rw [List.getD_eq_getElem?_getD, List.getElem?_eq_none hk]; exact ⟨Int.le_refl 0, by show (0 : Int) < (ws.length : Int); omega⟩
    ·unfold ab.ow
     split
     ·rename_i h2
      by_cases h7 : c.kind = 7
      ·have := a1.2.2.1 h7; omega
      ·exact vd hs (a1.2.2.2 h7)
     ·rfl
  ·rw [List.mem_singleton.1 h1]
   exact ⟨hc, hf, JG, hlen⟩
 jG := by
  intro w tf
  show cg (cs ++ [c0]) w = 1
  rw [tY, OH w tf]
  by_cases h1 : w < ws.length
  ·rw [if_pos h1]; have h2 := h.jG w h1; change cg cs w = 1 at h2; omega
  ·rw [if_neg h1, s6]
   rintro c wB ⟨h2, h3⟩
   have := (h.cells c wB).1.2.2.2 h2
   unfold In at this
   have h4 := this.2
   change c.out < (ws.length : Int) at h4
   omega
 lp := by
  intro i j hi hj ho
  have cl : ∀ {k : Int}, 0 ≤ k ∧ k < (cs.length : Int) → (pn tX (cs ++ [c0]) ins bs streams).cell k = (pn ws cs ins bs streams).cell k := fun hk => eo om
  have cr : ∀ {k : Int}, k = (cs.length : Int) → (pn tX (cs ++ [c0]) ins bs streams).cell k = c0 := fun hk => gp om
  have li : 0 ≤ i ∧ i < (cs.length : Int) + 1 := by have := hi.1; simp [pn] at this; omega
  have lj : 0 ≤ j ∧ j < (cs.length : Int) + 1 := by have := hj.1; simp [pn] at this; omega
  by_cases e1 : i = (cs.length : Int)
  ·by_cases e2 : j = (cs.length : Int)
   ·exfalso
    rw [cr e1, cr e2] at ho
    have h1 := ha _ ho
    have h2 := hj.2
    rw [cr e2] at h2
    rw [mu h2] at h1
    unfold In at h1; omega
   ·omega
  ·have fL : bf (pn ws cs ins bs streams) i := ⟨⟨li.1, by show i < (cs.length : Int); omega⟩, by have := hi.2; rwa [cl ⟨li.1, om⟩] at this⟩
   rw [cl (k := i) ⟨li.1, om⟩] at ho
   by_cases e2 : j = (cs.length : Int)
   ·exfalso
    have h2 := hj.2
    rw [cr e2] at h2 ho
    rw [mu h2] at ho
    have h3 : In (ws.length : Int) ws.length := (h.cells ((pn ws cs ins bs streams).cell i) (getD_in (l := cs) om)).1.1 _ ho
    unfold In at h3; omega
   ·have tG : bf (pn ws cs ins bs streams) j := ⟨⟨lj.1, by show j < (cs.length : Int); omega⟩, by have := hj.2; rwa [cl ⟨lj.1, om⟩] at this⟩
    rw [cl (k := j) ⟨lj.1, om⟩] at ho
    exact h.lp i j fL tG ho
theorem Dg {w : Int} {x : Int} (hx : In x ws.length) : (ws ++ [w]).getD x.toNat 0 = ws.getD x.toNat 0 := eo (by unfold In at hx; omega)
theorem Gr.add {c : Cell} {w : Int} (h : Gr (pn ws cs ins bs streams)) (h0 : 0 < ws.length) (hp : Df (pn ws cs ins bs streams) c w) (h7 : c.kind ≠ 7) :
  Gr (pn (ws ++ [w]) (cs ++ [⟨c.kind, c.op, (ws.length : Int), c.args, c.num, c.mem⟩]) ins bs streams) := by
 have ha : ∀ k, In (c.args.getD k 0) ws.length := fun k => by
  rcases Nat.lt_or_ge k c.args.length with hk | hk
  ·exact hp.args _ (dr hk)
  ·rw [List.getD_eq_getElem?_getD, List.getElem?_eq_none hk]; exact ⟨Int.le_refl 0, by show (0 : Int) < (ws.length : Int); omega⟩
 refine Gr.push h h0 (fun v hv => ?_) (fun x hx => eo hx) (by simp) ⟨fun x hx => ?_, hp.shaped, fun h => absurd h h7, fun _ => ⟨by show (0 : Int) ≤ (ws.length : Int); omega, by simp [pn]; omega⟩⟩ hp.args ?_ hp.num hp.len (fun x hx => ?_) (fun _ => rfl) (by simp)
 ·rcases List.mem_append.1 hv with h1 | h1
  ·exact h.ground.wide v h1
  ·rw [List.mem_singleton.1 h1]; exact hp.wide
 ·have := hp.args x hx
  unfold In at *
  exact ⟨this.1, by have := this.2; change x < (ws.length : Int) at this; simp [pn]; omega⟩
 ·refine s5.fits (n := pn ws cs ins bs streams) (c := c) (w := w) rfl rfl rfl rfl rfl rfl rfl rfl (fun k => Dg (ha k)) (fun _ => ?_) hp.fits
  show (if (0 : Int) ≤ (ws.length : Int) then (ws ++ [w]).getD ((ws.length : Int)).toNat 0 else 0) = w
  rw [if_pos om]
  exact gp (by simp)
 ·have iK : x < ws.length + 1 := by simpa using hx
  show List.countP _ _ = _
  rw [List.countP_singleton]
  by_cases e : x < ws.length
  ·rw [if_pos e, if_neg (by simp only [decide_eq_true_eq]; rintro ⟨_, h2⟩; omega)]
  ·rw [if_neg e, if_pos (by simp only [decide_eq_true_eq]; exact ⟨h7, by show (ws.length : Int) = (x : Int); omega⟩)]
theorem Gr.setArgs {k : Nat} {args : List Int} (h : Gr (pn ws cs ins bs streams)) (hk : k < cs.length) (h4 : (cs.getD k default).kind = 4) (ha : ∀ x ∈ args, In x ws.length)
  (hl : args.length = 2) (h1 : ws.getD (args.getD 0 0).toNat 0 = 1) (h2 : ws.getD (args.getD 1 0).toNat 0 = ws.getD (cs.getD k default).out.toNat 0) :
  Gr (pn ws (cs.set k ⟨(cs.getD k default).kind, (cs.getD k default).op, (cs.getD k default).out, args, (cs.getD k default).num, (cs.getD k default).mem⟩) ins bs streams) := by
 have wB : cs.getD k default ∈ cs := getD_in hk
 obtain ⟨a1, a2, a3, a4⟩ := h.cells _ wB
 have ho := a1.2.2.2 (by rw [h4]; decide)
 generalize hc : cs.getD k default = c at *
 have cell : ∀ i : Int, (pn ws (cs.set k ⟨c.kind, c.op, c.out, args, c.num, c.mem⟩) ins bs streams).cell i = if k = i.toNat ∧ k < cs.length then ⟨c.kind, c.op, c.out, args, c.num, c.mem⟩ else (pn ws cs ins bs streams).cell i := fun i => bJ ..
 refine ⟨⟨h.ground.has, h.ground.wide, h.ground.bs, h.ground.strs, h.ground.ins⟩, ?_, ?_, ?_⟩
 ·intro c' mo
  rcases List.mem_or_eq_of_mem_set mo with h5 | h5
  ·exact h.cells c' h5
  ·subst h5
   refine ⟨⟨ha, ?_, fun h7 => ?_, fun _ => ho⟩, ?_, a3, by simp only [hl]; decide⟩
   ·have := a1.2.1
    simp only [Shaped, h4, Int.reduceEq, false_and, true_and, false_or, or_false] at this
    exact .inr (.inr (.inr (.inl ⟨h4, hl, this.2.1, this.2.2⟩)))
   ·simp only [h4] at h7; exact absurd h7 ah
   ·simp only [Fits, h4, Int.reduceEq, false_and, true_and, false_or, or_false] at a2
    refine .inr (.inr (.inr (.inl ⟨h4, h1, ?_, a2.2.2⟩)))
    show ws.getD (args.getD 1 0).toNat 0 = if 0 ≤ c.out then ws.getD c.out.toNat 0 else 0
    unfold In at ho
    rw [if_pos ho.1]; exact h2
 ·intro w hw
  have := h.jG w hw
  rw [← this]
  show List.countP _ (cs.set k _) = List.countP _ cs
  have e : ∀ (l : List Cell) (f : Cell → Bool), List.countP f l = List.countP id (l.map f) := fun l f => by rw [List.countP_map]; rfl
  rw [e, e cs, List.map_set]
  congr 1
  have uQ : k < (cs.map (fun c => decide (c.kind ≠ 7 ∧ c.out = (w : Int)))).length := by simpa using hk
  have hg : (cs.map (fun c => decide (c.kind ≠ 7 ∧ c.out = (w : Int))))[k] = decide (c.kind ≠ 7 ∧ c.out = (w : Int)) := by
   rw [List.getElem_map]
   have : cs[k] = c := by rw [← hc, List.getD_eq_getElem?_getD, List.getElem?_eq_getElem hk]; rfl
   rw [this]
  rw [← hg, List.set_getElem_self]
 ·intro i j hi hj hm
  have key : ∀ {i : Int}, bf (pn ws (cs.set k ⟨c.kind, c.op, c.out, args, c.num, c.mem⟩) ins bs streams) i → (pn ws (cs.set k ⟨c.kind, c.op, c.out, args, c.num, c.mem⟩) ins bs streams).cell i = (pn ws cs ins bs streams).cell i ∧ bf (pn ws cs ins bs streams) i := by
   intro i hi
   have jT := hi.2
   have FJ : 0 ≤ i ∧ i < (cs.length : Int) := by have := hi.1; simp [pn] at this; omega
   rw [cell] at jT
   by_cases e : k = i.toNat ∧ k < cs.length
   ·rw [if_pos e] at jT
    simp only [h4] at jT
    exact absurd jT ah
   ·rw [if_neg e] at jT
    exact ⟨by rw [cell, if_neg e], FJ, jT⟩
  rw [(key hi).1, (key hj).1] at hm
  exact h.lp i j (key hi).2 (key hj).2 hm
end
open Go Go.AW
section
variable {ws : List Int} {cs : List Cell} {ins : List Int} {bs : List pF} {streams : List gZ}
theorem Gr.outs (h : Gr (pn ws cs ins bs streams)) {k : Nat} (hk : k < cs.length) (h4 : (cs.getD k default).kind = 4) : In (cs.getD k default).out ws.length := (h.cells (cs.getD k default) (getD_in hk)).1.2.2.2 (by rw [h4]; decide)
theorem Gr.late (h : Gr (pn ws cs ins bs streams)) {p : xB} {i : Nat} (hi : i < cs.length) : Gr (pn ws (BR ws cs p i) ins bs streams) := by
 unfold BR
 split
 ·rename_i h4
  have hk : (((cs.length : Int) - 1) - (i : Int)).toNat < cs.length := by omega
  have ho := h.outs hk h4
  have h1 := ss h.ground.one p.a
  have h2 := ss (ws := ws) (w := ws.getD (cs.getD (((cs.length : Int) - 1) - (i : Int)).toNat default).out.toNat 0) ⟨_, by unfold In at ho; omega, rfl⟩ p.d
  refine h.setArgs hk h4 ?_ rfl h1.2 h2.2
  intro x hx
  simp only [List.mem_cons, List.not_mem_nil, or_false] at hx
  rcases hx with rfl | rfl
  ·exact h1.1
  ·exact h2.1
 ·exact h
structure MA (n : ab) : Prop where
 formed : bq n
 fit : Fit n
 acyclic : Acyclic n
 small : n.Small
 ej : 8 ≤ n.cells.length ∧ n.cells.length ≤ 48
 dO : 8 ≤ n.ai.length ∧ n.ai.length ≤ 48
 xW : ∀ c ∈ n.cells, c.args.length ≤ 4
 ve : n.eu.length ≤ 3
 iU : n.bs.length ≤ 3
 cJ : n.streams.length ≤ 4
 GG : n.ins.length ≤ 4
end
structure CS.OI (p : CS) : Prop where
 bs : p.bs.length ≤ 3
 streams : p.streams.length ≤ 4
 ins : p.ins.length ≤ 4
 parts : p.parts.length ≤ 40
 eu : p.eu.length ≤ 3
structure CS.Ok (p : CS) : Prop where
 bs : ∀ m ∈ p.bs, m.a < 256 ∧ m.b < 256
 streams : ∀ m ∈ p.streams, m.a < 256 ∧ m.b < 256
 ins : ∀ k ∈ p.ins, k < 256
 parts : ∀ q ∈ p.parts, q.Ok
 eu : ∀ k ∈ p.eu, k < 256
open Go Go.AW
noncomputable instance (p : CS) : Decidable p.OI := Classical.propDecidable _
structure lA (n : ab) (cy : List Int) : Prop where
 len : cy.length = n.ai.length
 Dh : ∀ w : Int, In w n.ai.length → cw n (cy.getD w.toNat 0) w
def nQ (n : ab) (k : Nat) (cy : List Int) : Prop := cy.length = n.ai.length ∧ ∀ j w : Int, cw n j w → j < k → cy.getD w.toNat 0 = j
theorem nQ.done {n : ab} {cy : List Int} (hf : bq n) (h : nQ n n.cells.length cy) : lA n cy := by
 refine ⟨h.1, fun w hw => ?_⟩
 obtain ⟨i, hi⟩ := hf.kD hw
 rw [h.2 i w hi hi.1.2]; exact hi
theorem nQ.set {n : ab} {k : Nat} {cy : List Int} (hf : bq n) (h : nQ n k cy) (hk : k < n.cells.length) (h0 : (n.cells.getD k default).out ≥ 0) : nQ n (k + 1) (cy.set (n.cells.getD k default).out.toNat (k : Int)) := by
 refine ⟨by rw [List.length_set]; exact h.1, fun j w hd hj => ?_⟩
 have hc := hf.cells k hk
 have h7 : (n.cells.getD k default).kind ≠ 7 := fun e => by have := hc.2.2.1 e; omega
 have Eu : cw n (k : Int) (n.cells.getD k default).out := ⟨⟨om, om⟩, h7, rfl⟩
 have hw := hf.iV hd; have JH := hf.iV Eu
 unfold In at hw JH
 rw [bJ]
 by_cases e : (n.cells.getD k default).out.toNat = w.toNat ∧ (n.cells.getD k default).out.toNat < cy.length
 ·rw [if_pos e]
  have e2 : (n.cells.getD k default).out = w := by omega
  exact hf.unique (e2 ▸ Eu) hd
 ·rw [if_neg e]
  have eB : j ≠ (k : Int) := by
   rintro rfl
   apply e
   have e2 : (n.cells.getD k default).out = w := hd.2.2
   have := h.1
   omega
  exact h.2 j w hd om
theorem nQ.skip {n : ab} {k : Nat} {cy : List Int} (hf : bq n) (h : nQ n k cy) (h0 : ¬ (n.cells.getD k default).out ≥ 0) : nQ n (k + 1) cy := by
 refine ⟨h.1, fun j w hd hj => ?_⟩
 have hw := hf.iV hd
 unfold In at hw
 have eB : j ≠ (k : Int) := by
  rintro rfl
  have : (n.cells.getD k default).out = w := hd.2.2
  omega
 exact h.2 j w hd om
structure GH (n : ab) (l : List Int) (k : Nat) (pl : List Int) : Prop where
 len : pl.length = n.cells.length
 at_ : ∀ j, j < k → pl.getD (l.getD j 0).toNat 0 = (j : Int) + 1
 none_ : ∀ c : Int, In c n.cells.length → (∀ j, j < k → l.getD j 0 ≠ c) → pl.getD c.toNat 0 = 0
theorem pd {l : List Int} (h : l.Nodup) {i j : Nat} (hi : i < l.length) (hj : j < l.length) (e : l.getD i 0 = l.getD j 0) : i = j := by
 rw [List.getD_eq_getElem?_getD, List.getD_eq_getElem?_getD, List.getElem?_eq_getElem hi, List.getElem?_eq_getElem hj] at e
 simp only [Option.getD_some] at e
 rw [List.Nodup, List.pairwise_iff_getElem] at h
 rcases Nat.lt_trichotomy i j with h1 | h1 | h1
 ·exact absurd e (h i j hi hj h1)
 ·exact h1
 ·exact absurd e.symm (h j i hj hi h1)
theorem GH.init (n : ab) (l : List Int) : GH n l 0 (List.replicate n.cells.length 0) :=
 ⟨by simp, fun j hj => by omega, fun c hc _ => by
  unfold In at hc
  rw [List.getD_eq_getElem?_getD, List.getElem?_eq_getElem (by simp; omega)]; simp⟩
theorem GH.step {n : ab} {l pl : List Int} {k : Nat} (ho : Ord n l) (h : GH n l k pl) (hk : k < l.length) : GH n l (k + 1) (pl.set (l.getD k 0).toNat ((k : Int) + 1)) := by
 have hr := ho.ti _ (dr hk)
 have hl := h.len
 refine ⟨by rw [List.length_set]; exact hl, fun j hj => ?_, fun c hc eB => ?_⟩
 ·rw [bJ]
  rcases Nat.lt_or_ge j k with h1 | h1
  ·have Mf := ho.ti _ (dr (l := l) (i := j) om)
   rw [if_neg (fun e => by have := pd ho.nd hk (by omega : j < l.length) om; omega)]
   exact h.at_ j h1
  ·obtain rfl : j = k := by omega
   rw [if_pos ⟨rfl, om⟩]
 ·have h1 := eB k om
  unfold In at hc
  rw [bJ, if_neg (fun e => h1 om)]
  exact h.none_ c hc (fun j hj => eB j om)
theorem Ord.mem {n : ab} {l : List Int} (ho : Ord n l) {i : Int} (hi : 0 ≤ i ∧ i < n.cells.length) : i ∈ l := by
 refine Classical.byContradiction fun hn => ?_
 have h1 : ∀ x ∈ i :: l, x ∈ (List.range n.cells.length).map (fun (j : Nat) => (j : Int)) := by
  intro x hx
  have hr : 0 ≤ x ∧ x < n.cells.length := by
   rcases List.mem_cons.1 hx with rfl | hx
   ·exact hi
   ·exact ho.ti x hx
  exact List.mem_map.2 ⟨x.toNat, List.mem_range.2 om, om⟩
 have h2 := length_le_of_subset (List.nodup_cons.2 ⟨hn, ho.nd⟩) h1
 simp only [List.length_cons, List.length_map, List.length_range, ho.len] at h2
 omega
theorem kE.ok {n : ab} {l : List Int} {e : Int} (h : kE n l e) (hf : bq n) (ht : Fit n) (ha : Acyclic n) : Ord n l ∧ e = 0 := by
 rcases h with ⟨h1, _⟩ | ⟨_, h2, _⟩ | ⟨_, _, h3, _⟩ | ⟨_, _, _, h4, h5⟩
 ·exact absurd hf h1
 ·exact absurd ht h2
 ·exact absurd ha h3
 ·exact ⟨h4, h5⟩
theorem xX {n : ab} (hf : bq n) (ht : Fit n) (ha : Acyclic n) : m6 n = 0 := by unfold m6; rw [if_pos hf, if_pos ht, if_pos ha]
open Go Go.AW
inductive zB (n : ab) (ws : List Int) : Int → Prop where
 | root {w i : Int} (hw : w ∈ ws) (h : cw n i w) : zB n ws i
 | step {i x j : Int} (hi : zB n ws i) (hc : cH (n.cell i).kind) (hx : x ∈ (n.cell i).args) (h : cw n j x) : zB n ws j
def xY (l : List Bool) : Nat := l.countP (fun b => !b)
theorem vQ (l : List Bool) : xY l ≤ l.length := List.countP_le_length
structure rr (n : ab) (cy ws : List Int) (l : List Int) (seen : List Bool) : Prop where
 len : seen.length = n.cells.length
 ti : ∀ w ∈ l, In w n.ai.length
 snd : ∀ w ∈ l, ∀ i, cw n i w → zB n ws i
 AA : ∀ i : Nat, i < n.cells.length → seen.getD i false = true → zB n ws i
 root : ∀ w ∈ ws, seen.getD (cy.getD w.toNat 0).toNat false = true ∨ w ∈ l
 gd : ∀ i : Nat, i < n.cells.length → seen.getD i false = true → cH (n.cells.getD i default).kind → ∀ x ∈ (n.cells.getD i default).args, seen.getD (cy.getD x.toNat 0).toNat false = true ∨ x ∈ l
 sz : l.length + 4 * xY seen ≤ ws.length + 4 * n.cells.length
theorem mz {k i : Nat} : (List.replicate k false).getD i false = false := by
 rw [List.getD_eq_getElem?_getD]
 by_cases h : i < k
 ·rw [List.getElem?_eq_getElem (by simpa using h)]; simp
 ·rw [List.getElem?_eq_none (by simpa using h)]; rfl
theorem rr.init {n : ab} {cy ws : List Int} (hw : ∀ w ∈ ws, In w n.ai.length) : rr n cy ws ws (List.replicate n.cells.length false) where
 len := by simp
 ti := hw
 snd := fun w hw i hi => .root hw hi
 AA := fun i _ h => by rw [mz] at h; cases h
 root := fun w hw => .inr hw
 gd := fun i _ h => by rw [mz] at h; cases h
 sz := by have := vQ (List.replicate n.cells.length false); simp at this; omega
section
variable {n : ab} {cy ws l : List Int} {seen : List Bool}
theorem kZ {l : List Int} (h : 0 < l.length) {x : Int} (hx : x ∈ l) : x = l.getD (l.length - 1) 0 ∨ x ∈ l.take (l.length - 1) := by
 obtain ⟨i, hi, rfl⟩ := List.mem_iff_getElem.1 hx
 by_cases e : i = l.length - 1
 ·left; subst e; rw [List.getD_eq_getElem?_getD, List.getElem?_eq_getElem hi]; rfl
 ·right
  refine List.mem_iff_getElem.2 ⟨i, by simp; omega, by simp⟩
theorem rr.skip (h : rr n cy ws l seen) (h0 : 0 < l.length) (hs : seen.getD (cy.getD (l.getD (l.length - 1) 0).toNat 0).toNat false = true) : rr n cy ws (l.take (l.length - 1)) seen where
 len := h.len
 ti := fun w hw => h.ti w (List.mem_of_mem_take hw)
 snd := fun w hw => h.snd w (List.mem_of_mem_take hw)
 AA := h.AA
 root := fun w hw => by
  rcases h.root w hw with h1 | h1
  ·exact .inl h1
  ·rcases kZ h0 h1 with h2 | h2
   ·exact .inl (by rw [h2]; exact hs)
   ·exact .inr h2
 gd := fun i hi hm hc x hx => by
  rcases h.gd i hi hm hc x hx with h1 | h1
  ·exact .inl h1
  ·rcases kZ h0 h1 with h2 | h2
   ·exact .inl (by rw [h2]; exact hs)
   ·exact .inr h2
 sz := by have := h.sz; simp only [List.length_take]; omega
theorem rr.last (hb : lA n cy) (h : rr n cy ws l seen) (h0 : 0 < l.length) : (0 ≤ l.getD (l.length - 1) 0 ∧ l.getD (l.length - 1) 0 < n.ai.length) ∧ (0 ≤ cy.getD (l.getD (l.length - 1) 0).toNat 0 ∧ cy.getD (l.getD (l.length - 1) 0).toNat 0 < n.cells.length) := by
 have hw := h.ti _ (dr (l := l) (i := l.length - 1) om)
 exact ⟨hw, (hb.Dh _ hw).1⟩
theorem Di {a b : Nat} (h : b ≤ a ∧ a ≤ 4611686018427387904) : IntKind.i64.wrap ((a : Int) - (b : Int)) = ((a - b : Nat) : Int) := by
 rw [show ((a : Int) - (b : Int)) = ((a - b : Nat) : Int) by omega]
 exact IntWalk.i64_in _ om
theorem take_one {α : Type} {d : α} {l : List α} {k : Nat} (h : k < l.length) : l.take (k + 1) = l.take k ++ [l.getD k d] := by
 rw [List.take_add_one, List.getElem?_eq_getElem h, List.getD_eq_getElem?_getD, List.getElem?_eq_getElem h]; rfl
def qF (n : ab) (ws : List Int) (seen : List Bool) : Prop := seen.length = n.cells.length ∧ ∀ i : Nat, i < n.cells.length → (seen.getD i false = true ↔ zB n ws i)
theorem rr.done (hb : lA n cy) (hf : bq n) (h : rr n cy ws l seen) (h0 : l.length = 0) (hw : ∀ w ∈ ws, In w n.ai.length) : qF n ws seen := by
 have hl : l = [] := List.eq_nil_of_length_eq_zero h0
 subst hl
 refine ⟨h.len, fun i hi => ⟨h.AA i hi, fun hr => ?_⟩⟩
 have key : ∀ j : Int, zB n ws j → 0 ≤ j ∧ j < n.cells.length ∧ seen.getD j.toNat false = true := by
  intro j hj
  induction hj with
  | root nV hd =>
   rcases h.root _ nV with h1 | h1
   ·rw [hf.unique (hb.Dh _ (hw _ nV)) hd] at h1
    exact ⟨hd.1.1, hd.1.2, h1⟩
   ·cases h1
  | @step i x j hi hc hx hd ih =>
   rcases h.gd i.toNat om ih.2.2 hc x hx with h1 | h1
   ·rw [hf.unique (hb.Dh _ (hf.l5 ⟨ih.1, ih.2.1⟩ hx)) hd] at h1
    exact ⟨hd.1.1, hd.1.2, h1⟩
   ·cases h1
 exact (key _ hr).2.2
end
theorem qF.eq {n : ab} {ws : List Int} {s t : List Bool} (hs : qF n ws s) (ht : qF n ws t) : s = t := by
 refine List.ext_getElem (by rw [hs.1, ht.1]) fun i h1 h2 => ?_
 have e1 := hs.2 i (by have := hs.1; omega)
 have e2 := ht.2 i (by have := hs.1; omega)
 rw [List.getD_eq_getElem?_getD, List.getElem?_eq_getElem h1] at e1
 rw [List.getD_eq_getElem?_getD, List.getElem?_eq_getElem h2] at e2
 simp only [Option.getD_some] at e1 e2
 cases h3 : s[i] <;> cases h4 : t[i] <;> simp_all
open Go Go.AW
def zC (p : Nat → Bool) (k : Nat) : List Nat := (List.range k).filter p
theorem ru {p : Nat → Bool} {k : Nat} (h : p k = false) : zC p (k + 1) = zC p k := by
 simp only [zC, List.range_succ, List.filter_append, List.filter_cons, h, List.filter_nil, List.append_nil, Bool.false_eq_true, if_false]
theorem xZ (p : Nat → Bool) (k : Nat) : (zC p k).length ≤ k := by
 have := List.length_filter_le p (List.range k)
 rw [List.length_range] at this; exact this
def AB (p : Nat → Bool) (w : Nat) : Int := if p w then ((zC p w).length : Int) else -1
def Ev (p : Nat → Bool) (x : Int) : Int := if 0 ≤ x then AB p x.toNat else x
def Cf {α : Type} (p : Nat → Bool) (l : List α) (d : α) : List α := (zC p l.length).map (fun i => l.getD i d)
open Go Go.AW
def kc (n : ab) (s : List Bool) (i : Nat) : Bool := s.getD i false || !decide (cH (n.cells.getD i default).kind)
def kw (n : ab) (cy : List Int) (s : List Bool) (w : Nat) : Bool := kc n s (cy.getD w 0).toNat
def JI (p : Nat → Bool) (c : Cell) : Cell := ⟨c.kind, c.op, Ev p c.out, c.args.map (Ev p), c.num, c.mem⟩
structure GI (n : ab) (cy : List Int) (s : List Bool) : Prop where
 freeze : kw n cy s n.freeze.toNat = true
 done : kw n cy s n.done.toNat = true
 eu : ∀ r ∈ n.eu, kw n cy s r.toNat = true
 bW : ∀ r ∈ n.bW, kw n cy s r.toNat = true
 data : ∀ r ∈ n.data, 0 ≤ r → kw n cy s r.toNat = true
 gd : ∀ i, i < n.cells.length → kc n s i = true → ∀ x ∈ (n.cells.getD i default).args, kw n cy s x.toNat = true
section
variable {n : ab} {cy : List Int} {s : List Bool} (hf : bq n) (hb : lA n cy) (hk : GI n cy s)
end
open Go Go.AW
structure VP (n : ab) : Prop where
 formed : bq n
 fit : Fit n
 acyclic : Acyclic n
 small : n.Small
 ej : n.cells.length ≤ 48
 dO : n.ai.length ≤ 48
 xW : ∀ c ∈ n.cells, c.args.length ≤ 4
 ve : n.eu.length ≤ 3
 iU : n.bs.length ≤ 3
 cJ : n.streams.length ≤ 4
 GG : n.ins.length ≤ 4
section
variable {n : ab} {cy : List Int} {s : List Bool} (hv : VP n) (hb : lA n cy) (hk : GI n cy s)
end
open Go Go.AW
structure AD (n : ab) (w : Int) : Prop where
 is : w ∈ n.bW ∨ w ∈ n.eu ∨ w = n.freeze ∨ w = n.done ∨ (w ∈ n.data ∧ 0 ≤ w) ∨ ∃ i, i < n.cells.length ∧ ¬ cH (n.cells.getD i default).kind ∧ w ∈ (n.cells.getD i default).args
def m9 (n : ab) (l : List Int) : Prop := ∀ w, w ∈ l ↔ AD n w
theorem AD.ti {n : ab} (hf : bq n) {w : Int} (h : AD n w) : In w n.ai.length := by
 rcases h.is with h | h | h | h | ⟨h, h0⟩ | ⟨i, hi, _, h⟩
 ·obtain ⟨j, hj, rfl⟩ := List.mem_iff_getElem.1 h
  have h1 := (hf.strs j (by have := hf.dX; omega)).2.2.1
  rwa [List.getD_eq_getElem?_getD, List.getElem?_eq_getElem hj] at h1
 ·exact hf.eu w h
 ·rw [h]; exact hf.freeze
 ·rw [h]; exact hf.done
 ·obtain ⟨j, hj, rfl⟩ := List.mem_iff_getElem.1 h
  have h1 := (hf.strs j (by have := hf.iA; omega)).2.2.2
  have e : n.data.getD j 0 = n.data[j] := by rw [List.getD_eq_getElem?_getD, List.getElem?_eq_getElem hj]; rfl
  rw [← e] at h0 ⊢
  cases ho : (n.streams.getD j default).out with
  | true => exact h1.1 ho
  | false => have := h1.2 ho; omega
 ·exact (hf.cells i hi).1 w h
section
variable {n : ab} {cy l : List Int} {s : List Bool} (hf : bq n) (hb : lA n cy) (hl : m9 n l) (hc : qF n l s)
include hf hb hl hc
end
open Go Go.AW
structure Sn (n : ab) (cy rs : List Int) (l : List Int) (cR : List Bool) : Prop where
 len : cR.length = n.cells.length
 ti : ∀ w ∈ l, w < 0 ∨ In w n.ai.length
 snd : ∀ w ∈ l, ∀ i, cw n i w → zB n rs i
 seq : ∀ i : Nat, i < n.cells.length → ¬ cH (n.cells.getD i default).kind → cR.getD i false = true
 AA : ∀ i : Nat, i < n.cells.length → cR.getD i false = true → cH (n.cells.getD i default).kind → zB n rs i
 root : ∀ w ∈ rs, cR.getD (cy.getD w.toNat 0).toNat false = true ∨ w ∈ l
 gd : ∀ i : Nat, i < n.cells.length → cR.getD i false = true → cH (n.cells.getD i default).kind → ∀ x ∈ (n.cells.getD i default).args, cR.getD (cy.getD x.toNat 0).toNat false = true ∨ x ∈ l
section
variable {n : ab} {cy rs l : List Int} {cR : List Bool}
theorem Sn.skip (h : Sn n cy rs l cR) (hf : ∀ w ∈ rs, 0 ≤ w) (OJ : bq n) (h0 : 0 < l.length) (hs : l.getD (l.length - 1) 0 < 0 ∨ cR.getD (cy.getD (l.getD (l.length - 1) 0).toNat 0).toNat false = true) : Sn n cy rs (l.take (l.length - 1)) cR where
 len := h.len
 ti := fun w hw => h.ti w (List.mem_of_mem_take hw)
 snd := fun w hw => h.snd w (List.mem_of_mem_take hw)
 seq := h.seq
 AA := h.AA
 root := fun w hw => by
  rcases h.root w hw with h1 | h1
  ·exact .inl h1
  ·rcases kZ h0 h1 with h2 | h2
   ·rcases hs with hs | hs
    ·have := hf w hw; omega
    ·exact .inl (by rw [h2]; exact hs)
   ·exact .inr h2
 gd := fun i hi hm hc x hx => by
  rcases h.gd i hi hm hc x hx with h1 | h1
  ·exact .inl h1
  ·rcases kZ h0 h1 with h2 | h2
   ·rcases hs with hs | hs
    ·have h3 := (OJ.cells i hi).1 x hx
     unfold In at h3; omega
    ·exact .inl (by rw [h2]; exact hs)
   ·exact .inr h2
theorem Sn.done (hb : lA n cy) (hf : bq n) (Ih : ∀ w ∈ rs, In w n.ai.length) (h : Sn n cy rs l cR) (h0 : l.length = 0) {s : List Bool} (hc : qF n rs s) : ∀ i, i < n.cells.length → cR.getD i false = kc n s i := by
 have hl : l = [] := List.eq_nil_of_length_eq_zero h0
 subst hl
 have key : ∀ j : Int, zB n rs j → 0 ≤ j ∧ j < n.cells.length ∧ cR.getD j.toNat false = true := by
  intro j hj
  induction hj with
  | root nV hd =>
   rcases h.root _ nV with h1 | h1
   ·rw [hf.unique (hb.Dh _ (Ih _ nV)) hd] at h1
    exact ⟨hd.1.1, hd.1.2, h1⟩
   ·cases h1
  | @step i x j hi og hx hd ih =>
   rcases h.gd i.toNat om ih.2.2 og x hx with h1 | h1
   ·rw [hf.unique (hb.Dh _ (hf.l5 ⟨ih.1, ih.2.1⟩ hx)) hd] at h1
    exact ⟨hd.1.1, hd.1.2, h1⟩
   ·cases h1
 intro i hi
 unfold kc
 by_cases og : cH (n.cells.getD i default).kind
 ·rw [decide_eq_true og]
  simp only [Bool.not_true, Bool.or_false]
  have e := hc.2 i hi
  cases hn : cR.getD i false with
  | true => exact (e.2 (h.AA i hi hn og)).symm
  | false =>
   cases hs : s.getD i false with
   | false => rfl
   | true =>
    have := (key _ (e.1 hs)).2.2
    rw [Int.toNat_natCast, hn] at this; cases this
 ·rw [h.seq i hi og, decide_eq_false og]; simp
end
open Go Go.AW
def mA (n : ab) : List Int := (((([n.freeze, n.done] : List Int) ++ n.eu) ++ n.bW) ++ n.data)
structure Ew (n : ab) (k : Nat) (cR : List Bool) (O : List Int) : Prop where
 len : cR.length = n.cells.length
 nd : ∀ i, i < n.cells.length → (cR.getD i false = true ↔ i < k ∧ ¬ cH (n.cells.getD i default).kind)
 op : ∀ w, w ∈ O ↔ (w ∈ mA n ∨ ∃ i, i < k ∧ ¬ cH (n.cells.getD i default).kind ∧ w ∈ (n.cells.getD i default).args)
 sz : O.length ≤ 13 + 4 * k
theorem Ew.init {n : ab} (hM : VP n) : Ew n 0 (List.replicate n.cells.length false) (mA n) where
 len := by simp
 nd := fun i _ => by rw [mz]; simp
 op := fun w => by simp
 sz := by
  have h1 := hM.ve; have h2 := hM.cJ; have h3 := hM.formed.dX; have h4 := hM.formed.iA
  simp only [mA, List.length_append, List.length_cons, List.length_nil]; omega
theorem Ew.no {n : ab} {k : Nat} {cR : List Bool} {O : List Int} (h : Ew n k cR O) (hc : cH (n.cells.getD k default).kind) : Ew n (k + 1) cR O where
 len := h.len
 nd := fun i hi => by
  rw [h.nd i hi]
  constructor
  ·exact fun h1 => ⟨om, h1.2⟩
  ·rintro ⟨h1, h2⟩
   refine ⟨?_, h2⟩
   rcases Nat.lt_or_ge i k with h4 | h4
   ·exact h4
   ·obtain rfl : i = k := by omega
    exact absurd hc h2
 op := fun w => by
  rw [h.op w]
  constructor
  ·rintro (h1 | ⟨i, h1, h2, h3⟩)
   ·exact .inl h1
   ·exact .inr ⟨i, om, h2, h3⟩
  ·rintro (h1 | ⟨i, h1, h2, h3⟩)
   ·exact .inl h1
   ·rcases Nat.lt_or_ge i k with h4 | h4
    ·exact .inr ⟨i, h4, h2, h3⟩
    ·obtain rfl : i = k := by omega
     exact absurd hc h2
 sz := by have := h.sz; omega
theorem Sn.init {n : ab} {cy rs O : List Int} {cR : List Bool} (hf : bq n) (Ih : m9 n rs) (h : Ew n n.cells.length cR O) : Sn n cy rs O cR := by
 have root : ∀ w ∈ O, 0 ≤ w → AD n w := by
  intro w hw h0
  rcases (h.op w).1 hw with h1 | ⟨i, h1, h2, h3⟩
  ·simp only [mA, List.mem_append, List.mem_cons, List.not_mem_nil, or_false] at h1
   rcases h1 with (((h1 | h1) | h1) | h1) | h1
   ·exact ⟨.inr (.inr (.inl h1))⟩
   ·exact ⟨.inr (.inr (.inr (.inl h1)))⟩
   ·exact ⟨.inr (.inl h1)⟩
   ·exact ⟨.inl h1⟩
   ·exact ⟨.inr (.inr (.inr (.inr (.inl ⟨h1, h0⟩))))⟩
  ·exact ⟨.inr (.inr (.inr (.inr (.inr ⟨i, h1, h2, h3⟩))))⟩
 exact {
  len := h.len
  ti := fun w hw => by
   rcases Int.lt_or_le w 0 with h1 | h1
   ·exact .inl h1
   ·exact .inr ((root w hw h1).ti hf)
  snd := fun w hw i hd => .root ((Ih w).2 (root w hw (by have := hf.iV hd; unfold In at this; omega))) hd
  seq := fun i hi hc => (h.nd i hi).2 ⟨hi, hc⟩
  AA := fun i hi hm hc => absurd hc ((h.nd i hi).1 hm).2
  root := fun w hw => by
   right
   refine (h.op w).2 ?_
   rcases ((Ih w).1 hw).is with h1 | h1 | h1 | h1 | ⟨h1, _⟩ | ⟨i, h1, h2, h3⟩
   ·left; simp [mA, h1]
   ·left; simp [mA, h1]
   ·left; simp [mA, h1]
   ·left; simp [mA, h1]
   ·left; simp [mA, h1]
   ·exact .inr ⟨i, h1, h2, h3⟩
  gd := fun i hi hm hc => absurd hc ((h.nd i hi).1 hm).2 }
open Go Go.AW
structure zD (p : Nat → Bool) (l m : List Int) (i : Nat) : Prop where
 len : m.length = l.length
 lo : ∀ j, j < i → m.getD j 0 = Ev p (l.getD j 0)
 hi : ∀ j, i ≤ j → m.getD j 0 = l.getD j 0
theorem zD.init (p : Nat → Bool) (l : List Int) : zD p l l 0 := ⟨rfl, fun j hj => by omega, fun _ _ => rfl⟩
theorem zD.set {p : Nat → Bool} {l m : List Int} {i : Nat} {v : Int} (h : zD p l m i) (hi : i < m.length) (hv : v = Ev p (l.getD i 0)) : zD p l (m.set i v) (i + 1) where
 len := by rw [List.length_set]; exact h.len
 lo := fun j hj => by
  rw [bJ]
  by_cases e : i = j ∧ i < m.length
  ·rw [if_pos e, hv, e.1]
  ·rw [if_neg e]; exact h.lo j om
 hi := fun j hj => by rw [bJ, if_neg om]; exact h.hi j om
theorem zD.skip {p : Nat → Bool} {l m : List Int} {i : Nat} (h : zD p l m i) (hn : ¬ l.getD i 0 ≥ 0) : zD p l m (i + 1) where
 len := h.len
 lo := fun j hj => by
  rcases Nat.lt_or_ge j i with h1 | h1
  ·exact h.lo j h1
  ·obtain rfl : j = i := by omega
   rw [h.hi j (Nat.le_refl _)]
   unfold Ev; rw [if_neg om]
 hi := fun j hj => h.hi j om
theorem zD.done {p : Nat → Bool} {l m : List Int} (h : zD p l m l.length) : m = l.map (Ev p) := by
 refine List.ext_getElem (by rw [h.len]; simp) fun i h1 h2 => ?_
 have h3 : i < l.length := by rw [← h.len]; exact h1
 have := h.lo i h3
 rw [List.getD_eq_getElem?_getD, List.getElem?_eq_getElem h1, List.getD_eq_getElem?_getD, List.getElem?_eq_getElem h3] at this
 simpa using this
def AE (p : Nat → Bool) (k : Nat) (nb : List Int) : Prop := nb.length = k ∧ ∀ w, w < k → nb.getD w 0 = AB p w
open Go Go.AW Go.Proofs
structure Rt (n : ab) (k i : Nat) (O : List Int) : Prop where
 op : ∀ w, w ∈ O ↔ (w ∈ n.bW ∨ w ∈ n.eu ∨ w = n.freeze ∨ w = n.done) ∨ (∃ j, j < k ∧ 0 ≤ n.data.getD j 0 ∧ w = n.data.getD j 0) ∨ ∃ j, j < i ∧ ¬ cH (n.cells.getD j default).kind ∧ w ∈ (n.cells.getD j default).args
 sz : O.length ≤ 9 + k + 4 * i
theorem Rt.init {n : ab} (hM : VP n) : Rt n 0 0 ([n.bW, n.eu, [n.freeze, n.done]] : List (List Int)).flatten where
 op := fun w => by simp
 sz := by
  have h1 := hM.ve; have h2 := hM.cJ; have h3 := hM.formed.dX
  simp; omega
theorem Rt.no {n : ab} {d k : Nat} {O : List Int} (h : Rt n d k O) (hc : cH (n.cells.getD k default).kind) : Rt n d (k + 1) O where
 op := fun w => by
  rw [h.op w]
  constructor
  ·rintro (h1 | h1 | ⟨i, h1, h2, h3⟩)
   ·exact .inl h1
   ·exact .inr (.inl h1)
   ·exact .inr (.inr ⟨i, om, h2, h3⟩)
  ·rintro (h1 | h1 | ⟨i, h1, h2, h3⟩)
   ·exact .inl h1
   ·exact .inr (.inl h1)
   ·rcases Nat.lt_or_ge i k with h4 | h4
    ·exact .inr (.inr ⟨i, h4, h2, h3⟩)
    ·obtain rfl : i = k := by omega
     exact absurd hc h2
 sz := by have := h.sz; omega
theorem Rt.at {n : ab} {O : List Int} {k : Nat} (e : k = n.data.length) (h : Rt n k 0 O) : Rt n n.data.length 0 O := by subst e; exact h
theorem Rt.done {n : ab} {O : List Int} (h : Rt n n.data.length n.cells.length O) : m9 n O := by
 intro w
 rw [h.op w]
 constructor
 ·rintro ((h1 | h1 | h1 | h1) | ⟨j, h1, h2, rfl⟩ | h1)
  ·exact ⟨.inl h1⟩
  ·exact ⟨.inr (.inl h1)⟩
  ·exact ⟨.inr (.inr (.inl h1))⟩
  ·exact ⟨.inr (.inr (.inr (.inl h1)))⟩
  ·exact ⟨.inr (.inr (.inr (.inr (.inl ⟨dr h1, h2⟩))))⟩
  ·exact ⟨.inr (.inr (.inr (.inr (.inr h1))))⟩
 ·rintro ⟨h1 | h1 | h1 | h1 | ⟨h1, h2⟩ | h1⟩
  ·exact .inl (.inl h1)
  ·exact .inl (.inr (.inl h1))
  ·exact .inl (.inr (.inr (.inl h1)))
  ·exact .inl (.inr (.inr (.inr h1)))
  ·obtain ⟨j, hj, rfl⟩ := List.mem_iff_getElem.1 h1
   have e : n.data.getD j 0 = n.data[j] := by rw [List.getD_eq_getElem?_getD, List.getElem?_eq_getElem hj]; rfl
   exact .inr (.inl ⟨j, hj, by rw [e]; exact h2, e.symm⟩)
  ·exact .inr (.inr h1)
theorem m9.at {n : ab} {O : List Int} {k : Nat} (e : k = n.cells.length) (h : Rt n n.data.length k O) : m9 n O := by subst e; exact h.done
structure Wn (p : Nat → Bool) (ws : List Int) (k : Nat) (nb wl : List Int) : Prop where
 len : nb.length = ws.length
 num : ∀ w, w < k → nb.getD w 0 = AB p w
 ws : wl = (zC p k).map (fun i => ws.getD i 0)
theorem Wn.init {p : Nat → Bool} {ws : List Int} : Wn p ws 0 (List.replicate ws.length 0) [] := ⟨by simp, fun w h => by omega, rfl⟩
theorem Wn.no {p : Nat → Bool} {ws nb wl : List Int} {k : Nat} (h : Wn p ws k nb wl) (hk : k < ws.length) (hp : p k = false) : Wn p ws (k + 1) (nb.set k (-1)) wl where
 len := by rw [List.length_set]; exact h.len
 num := fun w hw => by
  have := h.len
  rcases Nat.lt_or_ge w k with h1 | h1
  ·rw [bJ, if_neg om]; exact h.num w h1
  ·obtain rfl : w = k := by omega
   rw [bJ, if_pos ⟨rfl, om⟩]
   unfold AB; rw [if_neg (by simp [hp])]
 ws := by rw [ru hp]; exact h.ws
theorem Wn.GJ {p : Nat → Bool} {ws nb wl : List Int} (h : Wn p ws ws.length nb wl) : AE p ws.length nb := ⟨h.len, h.num⟩
theorem Wn.ao {p : Nat → Bool} {ws nb wl : List Int} (h : Wn p ws ws.length nb wl) : wl = Cf p ws 0 := h.ws
theorem AE.at {p : Nat → Bool} {ws nb wl : List Int} {k : Nat} (e : k = ws.length) (h : Wn p ws k nb wl) : AE p ws.length nb := by subst e; exact h.GJ
theorem Wn.at {p : Nat → Bool} {ws nb wl : List Int} {k : Nat} (e : k = ws.length) (h : Wn p ws k nb wl) : wl = Cf p ws 0 := by subst e; exact h.ao
def Cn (n : ab) (cy : List Int) (s : List Bool) (i : Nat) : List Cell := ((zC (kc n s) i).map (fun i => n.cells.getD i default)).map (JI (kw n cy s))
theorem Wn.le {p : Nat → Bool} {ws nb wl : List Int} {k : Nat} (h : Wn p ws k nb wl) : wl.length ≤ k := by rw [h.ws, List.length_map]; exact xZ _ _
theorem Cn.no {n : ab} {cy : List Int} {s : List Bool} {i : Nat} (h : kc n s i = false) : Cn n cy s (i + 1) = Cn n cy s i := by unfold Cn; rw [ru h]
open Go Go.AW Go.Proofs
def pF.rX (a : pF) : List Value := [.string a.name, .int .i64 a.width, .int .i64 a.len, .int .i64 a.kind, .int .i64 a.oN]
def gZ.rX (a : gZ) : List Value := [.string a.name, .int .i64 a.width, .bool a.out]
def pF.JJ (a b : pF) : Bool := a.name.toList == b.name.toList && (a.width == b.width && (a.len == b.len && (a.kind == b.kind && a.oN == b.oN)))
def gZ.JJ (a b : gZ) : Bool := a.name.toList == b.name.toList && (a.width == b.width && a.out == b.out)
open Go Go.AW
def zE {α : Type} (e : α → α → Bool) (d : α) (l m : List α) : Prop := l.length = m.length ∧ ∀ j, j < l.length → e (l.getD j d) (m.getD j d) = true
noncomputable instance {α : Type} (e : α → α → Bool) (d : α) (l m : List α) : Decidable (zE e d l m) := Classical.propDecidable _
def vR (a b : Int) : Bool := decide (a = b)
noncomputable def GK (x y : Cell) : Bool := decide (x.kind = y.kind ∧ x.op = y.op ∧ x.out = y.out ∧ x.num = y.num ∧ x.mem = y.mem ∧ zE vR 0 x.args y.args)
structure GL (a b : ab) : Prop where
 name : a.name.toList = b.name.toList
 ai : zE vR 0 a.ai b.ai
 ins : zE vR 0 a.ins b.ins
 bs : zE pF.JJ default a.bs b.bs
 streams : zE gZ.JJ default a.streams b.streams
 bW : zE vR 0 a.bW b.bW
 data : zE vR 0 a.data b.data
 freeze : a.freeze = b.freeze
 done : a.done = b.done
 eu : zE vR 0 a.eu b.eu
 cells : zE GK default a.cells b.cells
noncomputable instance (a b : ab) : Decidable (GL a b) := Classical.propDecidable _
structure OK (n : ab) : Prop where
 ai : n.ai.length ≤ 35184372088832
 cells : n.cells.length ≤ 35184372088832
 args : ∀ c ∈ n.cells, c.args.length ≤ 35184372088832
 ins : n.ins.length ≤ 35184372088832
 bs : n.bs.length ≤ 35184372088832
 streams : n.streams.length ≤ 35184372088832
 bW : n.bW.length ≤ 35184372088832
 data : n.data.length ≤ 35184372088832
 eu : n.eu.length ≤ 35184372088832
open Go Go.AW Go.Proofs
theorem lA.eq {n : ab} {a b : List Int} (hf : bq n) (ha : lA n a) (hb : lA n b) : a = b := by
 refine List.ext_getElem (by rw [ha.len, hb.len]) fun i h1 h2 => ?_
 have hi : In (i : Int) n.ai.length := ⟨om, by have := ha.len; omega⟩
 have h := hf.unique (ha.Dh _ hi) (hb.Dh _ hi)
 rw [Int.toNat_natCast, List.getD_eq_getElem?_getD, List.getElem?_eq_getElem h1, List.getD_eq_getElem?_getD, List.getElem?_eq_getElem h2] at h
 exact h
structure Wg (p : Nat → Bool) (ws : List Int) (k : Nat) (nb : List Int) (v : Nat) : Prop where
 w : Wn p ws k nb ((zC p k).map (fun i => ws.getD i 0))
 v : v = (zC p k).length
theorem Wg.init {p : Nat → Bool} {ws : List Int} : Wg p ws 0 (List.replicate ws.length 0) 0 := ⟨Wn.init, rfl⟩
theorem Wg.no {p : Nat → Bool} {ws nb : List Int} {k v : Nat} (h : Wg p ws k nb v) (hk : k < ws.length) (hp : p k = false) : Wg p ws (k + 1) (nb.set k (-1)) v := by
 refine ⟨?_, by rw [ru hp]; exact h.v⟩
 rw [ru hp]; exact h.w.no hk hp
theorem Wg.le {p : Nat → Bool} {ws nb : List Int} {k v : Nat} (h : Wg p ws k nb v) : v ≤ k := by rw [h.v]; exact xZ _ _
theorem Wg.num {p : Nat → Bool} {ws nb : List Int} {k v : Nat} (e : k = ws.length) (h : Wg p ws k nb v) : AE p ws.length nb := by subst e; exact h.w.GJ
section
variable {n : ab} {cy : List Int} {s : List Bool}
end
open Go Go.AW Go.Proofs
def bH (n : Nat) : Nat := if n ≤ 1 then 0 else Nat.log2 (n - 1) + 1
theorem ya {n k : Nat} (h1 : n ≤ 2 ^ k) (h2 : k = 0 ∨ 2 ^ (k - 1) < n) : bH n = k := by
 unfold bH
 by_cases e : n ≤ 1
 ·rw [if_pos e]
  rcases h2 with h2 | h2
  ·exact h2.symm
  ·have := Nat.one_le_two_pow (n := k - 1); omega
 ·rw [if_neg e]
  rcases h2 with h2 | h2
  ·subst h2; simp at h1; omega
  ·have hk : 0 < k := by
    rcases Nat.eq_zero_or_pos k with h | h
    ·subst h; simp at h1; omega
    ·exact h
   have : Nat.log2 (n - 1) = k - 1 := by
    rw [Nat.log2_eq_iff om]
    rw [show k - 1 + 1 = k by omega]
    omega
   omega
theorem jJ {n k : Nat} (h : n ≤ 2 ^ k) : bH n ≤ k := by
 unfold bH
 by_cases e : n ≤ 1
 ·rw [if_pos e]; omega
 ·rw [if_neg e]
  have := (Nat.log2_lt (n := n - 1) (k := k) om).2 om
  omega
def az (op : Int) (w : Nat) : Int :=
 if op = 9 ∨ op = 10 ∨ op = 11 then 20 else if op = 2 then 40 + 40 * (bH w : Int) else if op = 3 then 50 + 40 * (bH w : Int) else if op = 15 ∨ op = 16 then 30 + 20 * (bH w : Int)
 else if op = 17 ∨ op = 18 then 40 + 40 * (bH (w + 1) : Int) else if op = 19 ∨ op = 20 then 50 + 40 * (bH (w + 1) : Int) else if op = 21 then 50 else if op = 12 ∨ op = 13 then 30 + 40 * (bH w : Int)
 else if op = 14 then 50 + 40 * (bH w : Int) else 0
theorem vS {op : Int} {w : Nat} (h : w ≤ 64) : 0 ≤ az op w ∧ az op w ≤ 400 := by
 have h1 : bH w ≤ 6 := jJ om
 have h2 : bH (w + 1) ≤ 7 := jJ om
 unfold az
 repeat' split
 all_goals omega
def pG (n : ab) (c : Cell) : Int :=
 if c.kind = 1 then 0 else if c.kind = 2 then az c.op (if fY c.op then n.av c 0 else n.wd c.out).toNat else if c.kind = 3 then 20 + 20 * (bH (c.args.length / 2) : Int) else 30
theorem Dj {n : ab} {c : Cell} (hw : ∀ w ∈ n.ai, cG w) (ha : c.args.length ≤ 200) : 0 ≤ pG n c ∧ pG n c ≤ 400 := by
 have vT : ∀ w, (n.wd w).toNat ≤ 64 := fun w => by
  unfold ab.wd
  rw [List.getD_eq_getElem?_getD]
  cases h : n.ai[w.toNat]? with
  | none => simp
  | some v =>
   have := hw v (List.mem_of_getElem? h)
   unfold cG at this
   simp only [Option.getD_some]; omega
 have hl : bH (c.args.length / 2) ≤ 7 := jJ om
 unfold pG
 split
 ·omega
 split
 ·refine vS ?_
  split
  ·exact vT _
  ·exact vT _
 split
 ·omega
 ·omega
open Go Go.AW
theorem nj : ∀ n : Nat, n ≤ 2 ^ bH n := fun n => by
 unfold bH
 by_cases h : n ≤ 1
 ·rw [if_pos h]; simpa using h
 ·rw [if_neg h]
  have := @Nat.lt_log2_self (n - 1)
  omega
theorem Dk {n : Nat} (h : 2 ≤ n) : 2 ^ (bH n - 1) < n ∧ 1 ≤ bH n := by
 unfold bH
 rw [if_neg om]
 have := Nat.log2_self_le (n := n - 1) om
 rw [Nat.add_sub_cancel]; omega
theorem mB {m : Nat} (h : 2 ≤ m) : bH ((m + 1) / 2) + 1 = bH m := by
 have h1 := nj m
 obtain ⟨h2, h3⟩ := Dk h
 obtain ⟨k, hk⟩ : ∃ k, bH m = k + 1 := ⟨bH m - 1, om⟩
 rw [hk] at h1 h2 ⊢
 rw [Nat.add_sub_cancel] at h2
 rw [Nat.pow_succ] at h1
 have : bH ((m + 1) / 2) = k := by
  refine ya om ?_
  rcases Nat.eq_zero_or_pos k with h4 | h4
  ·exact .inl h4
  ·refine .inr ?_
   obtain ⟨j, rfl⟩ : ∃ j, k = j + 1 := ⟨k - 1, om⟩
   rw [Nat.add_sub_cancel]
   rw [Nat.pow_succ] at h2
   omega
 omega
theorem kG {a b : Nat} (h : a ≤ b) : bH a ≤ bH b := jJ (Nat.le_trans h (nj b))
theorem vf {n : Nat} (h : n ≤ 1) : bH n = 0 := by unfold bH; rw [if_pos h]
def gR (f : Nat → Bool) : Nat → Bool
 | 0 => false
 | n + 1 => f n || gR f n
theorem j0 {f : Nat → Bool} : ∀ {n}, gR f n = true ↔ ∃ k, k < n ∧ f k = true
 | 0 => by simp [gR]
 | n + 1 => by
  simp only [gR, Bool.or_eq_true, j0 (n := n)]
  constructor
  ·rintro (h | ⟨k, hk, h⟩)
   ·exact ⟨n, om, h⟩
   ·exact ⟨k, om, h⟩
  ·rintro ⟨k, hk, h⟩
   rcases Nat.lt_or_ge k n with h1 | h1
   ·exact .inr ⟨k, h1, h⟩
   ·obtain rfl : k = n := by omega
    exact .inl h
def pe (f : Nat → Bool) (m k : Nat) : Bool := if 2 * k + 1 < m then f (2 * k) || f (2 * k + 1) else f (2 * k)
theorem qG {f : Nat → Bool} {m : Nat} : gR (pe f m) ((m + 1) / 2) = gR f m := by
 apply Bool.eq_iff_iff.2
 rw [j0, j0]
 constructor
 ·rintro ⟨k, hk, h⟩
  unfold pe at h
  by_cases h1 : 2 * k + 1 < m
  ·rw [if_pos h1, Bool.or_eq_true] at h
   rcases h with h | h
   ·exact ⟨_, om, h⟩
   ·exact ⟨_, h1, h⟩
  ·rw [if_neg h1] at h; exact ⟨_, om, h⟩
 ·rintro ⟨k, hk, h⟩
  refine ⟨k / 2, om, ?_⟩
  unfold pe
  by_cases h1 : 2 * (k / 2) + 1 < m
  ·rw [if_pos h1, Bool.or_eq_true]
   rcases (show 2 * (k / 2) = k ∨ 2 * (k / 2) + 1 = k by omega) with h2 | h2
   ·rw [h2]; exact .inl h
   ·rw [h2]; exact .inr h
  ·rw [if_neg h1, show 2 * (k / 2) = k by omega]; exact h
def pf (G P : Nat → Bool) (m k : Nat) : Bool := if 2 * k + 1 < m then G (2 * k + 1) || (P (2 * k + 1) && G (2 * k)) else G (2 * k)
def pg (P : Nat → Bool) (m k : Nat) : Bool := if 2 * k + 1 < m then P (2 * k + 1) && P (2 * k) else P (2 * k)
theorem nk {G P : Nat → Bool} {m : Nat} {z : Bool} : ∀ k, 2 * k ≤ m → ca (pf G P m) (pg P m) 0 k z = ca G P 0 (2 * k) z
 | 0, _ => rfl
 | k + 1, h => by
  rw [ca, nk k om, show 2 * (k + 1) = 2 * k + 1 + 1 by omega, ca, ca]
  simp only [Nat.zero_add, pf, pg]
  rw [if_pos om, if_pos om]
  cases G (2 * k + 1) <;> cases P (2 * k + 1) <;> cases G (2 * k) <;> cases P (2 * k) <;> cases ca G P 0 (2 * k) z <;> rfl
theorem vg {G P : Nat → Bool} {m : Nat} {z : Bool} : ca (pf G P m) (pg P m) 0 ((m + 1) / 2) z = ca G P 0 m z := by
 rcases (show 2 * ((m + 1) / 2) = m ∨ 2 * ((m + 1) / 2) = m + 1 by omega) with h | h
 ·rw [nk _ om, h]
 ·obtain ⟨k, hk⟩ : ∃ k, (m + 1) / 2 = k + 1 := ⟨(m + 1) / 2 - 1, om⟩
  rw [hk, ca, nk k om]
  have h1 : m = 2 * k + 1 := by omega
  subst h1
  rw [ca]
  simp only [Nat.zero_add, pf, pg]
  rw [if_neg om, if_neg om]
def Cg {w : Nat} (x y : BitVec w) (i : Nat) : Bool := !x.getLsbD i && y.getLsbD i
def Dl {w : Nat} (x y : BitVec w) (i : Nat) : Bool := !(x.getLsbD i ^^ y.getLsbD i)
theorem Ch {w : Nat} {x y : BitVec w} : ∀ n, ca (Cg x y) (Dl x y) 0 n false = decide (x.toNat % 2 ^ n < y.toNat % 2 ^ n)
 | 0 => by simp [ca, Nat.mod_one]
 | n + 1 => by
  rw [ca, Ch n, Nat.mod_pow_succ, Nat.mod_pow_succ]
  have h1 := Nat.mod_lt x.toNat (Nat.two_pow_pos n)
  have h2 := Nat.mod_lt y.toNat (Nat.two_pow_pos n)
  simp only [Nat.zero_add, Cg, Dl, BitVec.getLsbD, Nat.testBit_eq_decide_div_mod_eq]
  rcases Nat.mod_two_eq_zero_or_one (x.toNat / 2 ^ n) with h3 | h3 <;> rcases Nat.mod_two_eq_zero_or_one (y.toNat / 2 ^ n) with h4 | h4 <;> rw [h3, h4] <;> simp <;> omega
theorem yb {w : Nat} {x y : BitVec w} : ca (Cg x y) (Dl x y) 0 w false = x.ult y := by
 rw [Ch, Nat.mod_eq_of_lt x.isLt, Nat.mod_eq_of_lt y.isLt]; rfl
def yc {w : Nat} (x y : BitVec w) (i : Nat) : Bool := if i + 1 = w then !y.getLsbD i && x.getLsbD i else Cg x y i
theorem Dm {w : Nat} {x y : BitVec w} (h : 0 < w) : ca (yc x y) (Dl x y) 0 w false = x.slt y := by
 obtain ⟨n, rfl⟩ : ∃ n, w = n + 1 := ⟨w - 1, om⟩
 have h1 : ca (yc x y) (Dl x y) 0 n false = ca (Cg x y) (Dl x y) 0 n false := m8 (fun i hi => by unfold yc; rw [if_neg om]) (fun _ _ => rfl)
 have h2 := yb (x := x) (y := y)
 rw [ca] at h2 ⊢
 rw [h1, BitVec.slt_eq_ult, ← h2, BitVec.msb_eq_getLsbD_last, BitVec.msb_eq_getLsbD_last]
 simp only [Nat.zero_add, yc, if_true, Cg, Dl, Nat.add_sub_cancel]
 cases x.getLsbD n <;> cases y.getLsbD n <;> simp
theorem Dn {w : Nat} {x y : BitVec w} : gR (fun i => x.getLsbD i ^^ y.getLsbD i) w = decide (x ≠ y) := by
 apply Bool.eq_iff_iff.2
 rw [j0, decide_eq_true_iff]
 constructor
 ·rintro ⟨k, _, h⟩ rfl
  simp at h
 ·intro h
  apply Classical.byContradiction
  intro hn
  refine h (BitVec.eq_of_getLsbD_eq fun i hi => ?_)
  apply Classical.byContradiction
  intro h1
  refine hn ⟨i, hi, ?_⟩
  cases h2 : x.getLsbD i <;> cases h3 : y.getLsbD i <;> simp_all
open Go Go.AW
def ou (left : Bool) (w : Nat) (a : Nat → Bool) (fill : Bool) (s i : Nat) : Bool :=
 if left then (if s ≤ i then a (i - s) else fill) else (if i + s < w then a (i + s) else fill)
def GM (left : Bool) (k i : Nat) : Int := if left then (i : Int) - 2 ^ k else (i : Int) + 2 ^ k
theorem yd {left : Bool} {w : Nat} {a : Nat → Bool} {fill : Bool} {i : Nat} (h : i < w) : ou left w a fill 0 i = a i := by
 unfold ou
 cases left
 ·simp only [Bool.false_eq_true, if_false]; rw [if_pos om]; rfl
 ·simp only [if_true]; rw [if_pos om]; rfl
theorem ye {left : Bool} {w : Nat} {a : Nat → Bool} {fill : Bool} {s i p : Nat} (h : i < w) :
  ou left w a fill (s + p) i = (if left then (if p ≤ i then ou left w a fill s (i - p) else fill) else (if i + p < w then ou left w a fill s (i + p) else fill)) := by
 unfold ou
 cases left
 ·simp only [Bool.false_eq_true, if_false]
  by_cases h1 : i + p < w
  ·rw [if_pos h1]
   by_cases h2 : i + p + s < w
   ·rw [if_pos om, if_pos h2, show i + (s + p) = i + p + s by omega]
   ·rw [if_neg om, if_neg h2]
  ·rw [if_neg h1, if_neg om]
 ·simp only [if_true]
  by_cases h1 : p ≤ i
  ·rw [if_pos h1]
   by_cases h2 : s ≤ i - p
   ·rw [if_pos om, if_pos h2, show i - (s + p) = i - p - s by omega]
   ·rw [if_neg om, if_neg h2]
  ·rw [if_neg h1, if_neg om]
theorem yf {w : Nat} {b : BitVec w} {k : Nat} : b.toNat % 2 ^ (k + 1) = b.toNat % 2 ^ k + (if b.getLsbD k then 2 ^ k else 0) := by
 rw [Nat.mod_pow_succ, BitVec.getLsbD, Nat.testBit_eq_decide_div_mod_eq]
 rcases Nat.mod_two_eq_zero_or_one (b.toNat / 2 ^ k) with h | h <;> rw [h] <;> simp
theorem tZ {w st : Nat} {b : BitVec w} (h : gR (fun j => b.getLsbD (st + j)) (w - st) = false) : b.toNat % 2 ^ st = b.toNat := by
 refine Nat.mod_eq_of_lt (Nat.lt_pow_two_of_testBit _ fun i hi => ?_)
 rcases Nat.lt_or_ge i w with h1 | h1
 ·apply Classical.byContradiction
  intro hn
  have h2 : gR (fun j => b.getLsbD (st + j)) (w - st) = true := j0.2 ⟨i - st, om, by
   show b.getLsbD (st + (i - st)) = true
   rw [show st + (i - st) = i by omega]
   simpa [BitVec.getLsbD] using hn⟩
  rw [h] at h2; cases h2
 ·exact Nat.testBit_lt_two_pow (Nat.lt_of_lt_of_le b.isLt (Nat.pow_le_pow_right om h1))
theorem ry {w st : Nat} {b : BitVec w} (h : gR (fun j => b.getLsbD (st + j)) (w - st) = true) (hw : w ≤ 2 ^ st) : w ≤ b.toNat := by
 obtain ⟨k, _, hk⟩ := j0.1 h
 have h1 : 2 ^ (st + k) ≤ b.toNat := Nat.ge_two_pow_of_testBit hk
 have h2 : 2 ^ st ≤ 2 ^ (st + k) := Nat.pow_le_pow_right om om
 omega
theorem AF {w st i : Nat} {a b : BitVec w} (hw : w ≤ 2 ^ st) (h : i < w) :
  (a <<< b.toNat).getLsbD i = ((!gR (fun j => b.getLsbD (st + j)) (w - st)) && ou true w a.getLsbD false (b.toNat % 2 ^ st) i) := by
 cases hf : gR (fun j => b.getLsbD (st + j)) (w - st) with
 | true =>
  have := ry hf hw
  rw [BitVec.getLsbD_shiftLeft]
  simp; omega
 | false =>
  rw [tZ hf, BitVec.getLsbD_shiftLeft]
  unfold ou
  rw [if_pos rfl]
  by_cases h1 : b.toNat ≤ i
  ·rw [if_pos h1]; simp [h]; omega
  ·rw [if_neg h1]; simp; omega
theorem AG {w st i : Nat} {a b : BitVec w} (hw : w ≤ 2 ^ st) (_ : i < w) :
  (a >>> b.toNat).getLsbD i = ((!gR (fun j => b.getLsbD (st + j)) (w - st)) && ou false w a.getLsbD false (b.toNat % 2 ^ st) i) := by
 rw [BitVec.getLsbD_ushiftRight]
 cases hf : gR (fun j => b.getLsbD (st + j)) (w - st) with
 | true =>
  have := ry hf hw
  rw [BitVec.getLsbD_of_ge _ _ om]; rfl
 | false =>
  rw [tZ hf]
  unfold ou
  simp only [Bool.false_eq_true, if_false]
  by_cases h1 : i + b.toNat < w
  ·rw [if_pos h1, Nat.add_comm]; rfl
  ·rw [if_neg h1, BitVec.getLsbD_of_ge _ _ om]; rfl
theorem AH {w st i : Nat} {a b : BitVec w} (hw : w ≤ 2 ^ st) (h : i < w) :
  (a.sshiftRight b.toNat).getLsbD i = (if gR (fun j => b.getLsbD (st + j)) (w - st) then a.msb else ou false w a.getLsbD a.msb (b.toNat % 2 ^ st) i) := by
 rw [BitVec.getLsbD_sshiftRight]
 cases hf : gR (fun j => b.getLsbD (st + j)) (w - st) with
 | true =>
  have := ry hf hw
  rw [if_pos rfl, if_neg om]
  simp; omega
 | false =>
  rw [tZ hf]
  unfold ou
  simp only [Bool.false_eq_true, if_false]
  by_cases h1 : i + b.toNat < w
  ·rw [if_pos h1, if_pos om, Nat.add_comm]; simp; omega
  ·rw [if_neg h1, if_neg om]; simp; omega
open Go Go.AW
section
variable {c : Int} {g0 gl : List Gate} {a out : List Int} {f : Nat → List Bool → Bool} {t : Int} {i n : Nat}
structure s7 (c : Int) (g0 gl : List Gate) (out : List Int) (h : Nat → List Bool → Bool) (u : Int) (i : Nat) : Prop where
 ext : Ext g0 gl
 len : gl.length = g0.length + i
 ol : out.length = i
 ws : Ws c gl out h u
theorem s7.init {h : Nat → List Bool → Bool} {u : Int} (hg : Good g0) : s7 c g0 g0 [] h u 0 := ⟨.refl hg, rfl, rfl, .nil⟩
theorem s7.put {h : Nat → List Bool → Bool} {u : Int} {q : Gate} (k : s7 c g0 gl out h u i) (he : Ext gl (gl ++ [q])) (hw : Wr c (gl ++ [q]) (gl.length : Int) (h i) u) : s7 c g0 (gl ++ [q]) (out ++ [(gl.length : Int)]) h u (i + 1) :=
 ⟨k.ext.trans he, by rw [List.length_append, k.len]; rfl, by rw [List.length_append, k.ol]; rfl, (k.ws.ext he).snoc (by rw [k.ol]; exact hw)⟩
theorem s7.not (k : s7 c g0 gl out (fun k ins => !f k ins) (t + 10) i) (ha : Ws c g0 a f t) (hi : i < a.length) :
  s7 c g0 (gl ++ [⟨4, a.getD i 0, 0⟩]) (out ++ [(gl.length : Int)]) (fun k ins => !f k ins) (t + 10) (i + 1) := by
 have h1 := (ha.bit i hi).ext k.ext
 exact k.put (Ext.not k.ext.dC h1) (h1.not (Int.le_refl _))
theorem s7.two {k : Int} {b : List Int} {h : Nat → List Bool → Bool} {e : Nat → List Bool → Bool} {u : Int} (m : s7 c g0 gl out e u i) (hk : 5 ≤ k ∧ k ≤ 7) (ha : Wr c g0 (a.getD i 0) (f i) t) (hb : Wr c g0 (b.getD i 0) (h i) t) (hu : t + 20 ≤ u)
  (he : ∀ ins, e i ins = if k = 5 then (f i ins && h i ins) else if k = 6 then (f i ins || h i ins) else (f i ins ^^ h i ins)) :
  s7 c g0 (gl ++ [⟨k, a.getD i 0, b.getD i 0⟩]) (out ++ [(gl.length : Int)]) e u (i + 1) := by
 have h1 := ha.ext m.ext
 have h2 := hb.ext m.ext
 refine m.put (Ext.two m.ext.dC hk h1 h2) ?_
 rcases (show k = 5 ∨ k = 6 ∨ k = 7 by omega) with rfl | rfl | rfl
 ·exact (h1.and h2 hu hu).as fun ins => by rw [he]; rfl
 ·exact (h1.or h2 hu hu).as fun ins => by rw [he]; rfl
 ·exact (h1.xor h2 hu hu).as fun ins => by rw [he]; rfl
structure nn (c : Int) (g0 : List Gate) (f : Nat → List Bool → Bool) (n : Nat) (t : Int) (gl : List Gate) (l : List Int) : Prop where
 ext : Ext g0 gl
 len : gl.length + l.length ≤ g0.length + n
 lo : 1 ≤ l.length
 ex : ∃ (f' : Nat → List Bool → Bool) (t' : Int), Ws c gl l f' t' ∧ (∀ ins, gR (fun k => f' k ins) l.length = gR (fun k => f k ins) n) ∧ t' + 20 * (bH l.length : Int) ≤ t + 20 * (bH n : Int)
theorem nn.init (hg : Good g0) (ha : Ws c g0 a f t) (h : 1 ≤ a.length) : nn c g0 f a.length t g0 a := ⟨.refl hg, Nat.le_refl _, h, f, t, ha, fun _ => rfl, Int.le_refl _⟩
theorem nn.done {l : List Int} (h : nn c g0 f n t gl l) (h1 : l.length ≤ 1) : Wr c gl (l.getD 0 0) (fun ins => gR (fun k => f k ins) n) (t + 20 * (bH n : Int)) := by
 obtain ⟨f', t', hw, he, ht⟩ := h.ex
 have hl : l.length = 1 := by have := h.lo; omega
 rw [vf h1] at ht
 refine ((hw.bit 0 om).late om).as fun ins => ?_
 rw [← he ins, hl]; simp [gR]
structure ph (c : Int) (g1 : List Gate) (l : List Int) (gl : List Gate) (next : List Int) (i : Nat) : Prop where
 ext : Ext g1 gl
 even : i % 2 = 0
 hi : i ≤ l.length
 nl : next.length = i / 2
 len : gl.length = g1.length + i / 2
 ws : ∀ f t, Ws c g1 l f t → Ws c gl next (fun k ins => pe (fun k => f k ins) l.length k) (t + 20)
theorem ph.init {g1 : List Gate} {l : List Int} (hg : Good g1) : ph c g1 l g1 [] 0 := ⟨.refl hg, rfl, om, rfl, rfl, fun _ _ _ => .nil⟩
theorem ph.step {g1 : List Gate} {l next : List Int} (h : ph c g1 l gl next i) (hl : i + 1 < l.length) (hw : ∃ f t, Ws c g1 l f t) :
  ph c g1 l (gl ++ [⟨6, l.getD i 0, l.getD (i + 1) 0⟩]) (next ++ [(gl.length : Int)]) (i + 2) := by
 have he := h.even
 obtain ⟨f0, t0, h0⟩ := hw
 have hx : Ext gl (gl ++ [⟨6, l.getD i 0, l.getD (i + 1) 0⟩]) := Ext.two h.ext.dC ah ((h0.bit i om).ext h.ext) ((h0.bit (i + 1) hl).ext h.ext)
 refine ⟨h.ext.trans hx, om, om, by rw [List.length_append, h.nl, List.length_singleton]; omega, by rw [List.length_append, h.len, List.length_singleton]; omega, fun f t hf => ?_⟩
 refine ((h.ws f t hf).ext hx).snoc ?_
 refine (((hf.bit i om).ext h.ext).or ((hf.bit (i + 1) hl).ext h.ext) (Int.le_refl _) (Int.le_refl _)).as fun ins => ?_
 rw [h.nl]; unfold pe
 rw [show 2 * (i / 2) = i by omega, if_pos hl]
theorem ph.OL {g1 : List Gate} {l next : List Int} (h : ph c g1 l gl next i) (hl : ¬ i + 1 < l.length) (ho : l.length % 2 = 1) (f : Nat → List Bool → Bool) (t : Int) (hf : Ws c g1 l f t) :
  Ws c gl (next ++ [l.getD (l.length - 1) 0]) (fun k ins => pe (fun k => f k ins) l.length k) (t + 20) := by
 have he := h.even; have hh := h.hi
 refine (h.ws f t hf).snoc ?_
 refine (((hf.bit (l.length - 1) om).ext h.ext).late om).as fun ins => ?_
 rw [h.nl]; unfold pe
 rw [show 2 * (i / 2) = l.length - 1 by omega, if_neg om]
theorem nn.next {l next : List Int} {g1 : List Gate} (h : nn c g0 f n t g1 l) (hj : ph c g1 l gl next i) (hl : ¬ i + 1 < l.length) (h2 : 1 < l.length) (ho : ¬ l.length % 2 = 1) : nn c g0 f n t gl next := by
 have he := hj.even; have hh := hj.hi; have hn := hj.nl; have hg := hj.len; have GN := h.len
 obtain ⟨f', t', hw, hv, ht⟩ := h.ex
 have ua : next.length = (l.length + 1) / 2 := by omega
 have rW := mB (m := l.length) om
 refine ⟨h.ext.trans hj.ext, om, om, _, _, hj.ws f' t' hw, fun ins => ?_, ?_⟩
 ·rw [ua, qG]; exact hv ins
 ·rw [ua]; omega
theorem nn.GO {l next : List Int} {g1 : List Gate} (h : nn c g0 f n t g1 l) (hj : ph c g1 l gl next i) (hl : ¬ i + 1 < l.length) (h2 : 1 < l.length) (ho : l.length % 2 = 1) : nn c g0 f n t gl (next ++ [l.getD (l.length - 1) 0]) := by
 have he := hj.even; have hh := hj.hi; have hn := hj.nl; have hg := hj.len; have GN := h.len
 obtain ⟨f', t', hw, hv, ht⟩ := h.ex
 have ua : (next ++ [l.getD (l.length - 1) 0]).length = (l.length + 1) / 2 := by rw [List.length_append, hn]; simp; omega
 have rW := mB (m := l.length) om
 refine ⟨h.ext.trans hj.ext, by rw [ua]; omega, by rw [ua]; omega, _, _, hj.OL hl ho f' t' hw, fun ins => ?_, ?_⟩
 ·rw [ua, qG]; exact hv ins
 ·rw [ua]; omega
end
def ub (l : List Gate) (s v y n : Int) : List Gate := l ++ [⟨5, s, y⟩, ⟨5, v, n⟩, ⟨6, (l.length : Int), (l.length : Int) + 1⟩]
theorem Dp {l : List Gate} {s v y n : Int} : ub l s v y n = ((l ++ [⟨5, s, y⟩]) ++ [⟨5, v, n⟩]) ++ [⟨6, (l.length : Int), (l.length : Int) + 1⟩] := by simp [ub]
theorem AI {l : List Gate} {s v y n : Int} : ((l ++ [⟨5, s, y⟩]) ++ [⟨5, v, n⟩]) ++ [⟨6, (l.length : Int), (((l ++ [(⟨5, s, y⟩ : Gate)]).length : Nat) : Int)⟩] = ub l s v y n := by simp [ub]
theorem vh {l : List Gate} {s v y n : Int} : (ub l s v y n).length = l.length + 3 := by simp [ub]
section
variable {c : Int} {l : List Gate} {s v y n : Int} {fs fy fn : List Bool → Bool} {ts tv ty tn u : Int}
theorem yg (hg : Good l) (hs : Wr c l s fs ts) (hv : Wr c l v (fun ins => !fs ins) tv) (hy : Wr c l y fy ty) (hn : Wr c l n fn tn) (h1 : ts + 40 ≤ u) (h2 : tv + 40 ≤ u) (h3 : ty + 40 ≤ u) (h4 : tn + 40 ≤ u) :
  Ext l (ub l s v y n) ∧ Wr c (ub l s v y n) ((l.length : Int) + 2) (fun ins => if fs ins then fy ins else fn ins) u := by
 have e1 : Ext l (l ++ [⟨5, s, y⟩]) := Ext.two hg ah hs hy
 have w1 : Wr c (l ++ [⟨5, s, y⟩]) (l.length : Int) (fun ins => fs ins && fy ins) (u - 20) := hs.and hy om om
 have e2 : Ext (l ++ [⟨5, s, y⟩]) ((l ++ [⟨5, s, y⟩]) ++ [⟨5, v, n⟩]) := Ext.two e1.dC ah (hv.ext e1) (hn.ext e1)
 have w2 : Wr c ((l ++ [⟨5, s, y⟩]) ++ [⟨5, v, n⟩]) (((l ++ [(⟨5, s, y⟩ : Gate)]).length : Nat) : Int) (fun ins => !fs ins && fn ins) (u - 20) := (hv.ext e1).and (hn.ext e1) om om
 have MB := w1.ext e2
 rw [List.length_append, List.length_singleton, Int.natCast_add, Int.natCast_one] at w2
 have e3 : Ext ((l ++ [⟨5, s, y⟩]) ++ [⟨5, v, n⟩]) (((l ++ [⟨5, s, y⟩]) ++ [⟨5, v, n⟩]) ++ [⟨6, (l.length : Int), (l.length : Int) + 1⟩]) := Ext.two e2.dC ah MB w2
 have w3 := MB.or (u := u) w2 om om
 rw [← Dp] at e3 w3
 refine ⟨(e1.trans e2).trans e3, ?_⟩
 have hl : ((((l ++ [(⟨5, s, y⟩ : Gate)]) ++ [(⟨5, v, n⟩ : Gate)]).length : Nat) : Int) = (l.length : Int) + 2 := by simp [Int.add_assoc]
 rw [hl] at w3
 exact w3.as fun ins => by cases fs ins <;> simp
end
open Go Go.AW
structure aN where
 g : Int
 p : Int
instance : Inhabited aN := ⟨⟨0, 0⟩⟩
def aN.row (x : aN) : List X := [.v (.int .i64 x.g), .v (.int .i64 x.p)]
theorem aN.cM (x : aN) : X.bc x.row = true := rfl
structure Wp (c : Int) (l : List Gate) (ps : List aN) (G P : Nat → List Bool → Bool) (t : Int) : Prop where
 bit : ∀ k, k < ps.length → Wr c l (ps.getD k default).g (G k) t ∧ Wr c l (ps.getD k default).p (P k) t
section
variable {c : Int} {g0 g1 gl : List Gate} {ps out next : List aN} {G P : Nat → List Bool → Bool} {t : Int} {i j n d : Nat}
theorem Wp.nil : Wp c gl [] G P t := ⟨fun k hk => by simp at hk⟩
theorem Wp.ext {l' : List Gate} (h : Wp c gl ps G P t) (he : Ext gl l') : Wp c l' ps G P t := ⟨fun k hk => ⟨(h.bit k hk).1.ext he, (h.bit k hk).2.ext he⟩⟩
theorem Wp.snoc {x y : Int} (h : Wp c gl ps G P t) (hx : Wr c gl x (G ps.length) t) (hy : Wr c gl y (P ps.length) t) : Wp c gl (ps ++ [⟨x, y⟩]) G P t := ⟨fun k hk => by
 rcases Nat.lt_or_ge k ps.length with h1 | h1
 ·rw [List.getD_eq_getElem?_getD, List.getElem?_append_left h1, ← List.getD_eq_getElem?_getD]; exact h.bit k h1
 ·have : k = ps.length := by simp at hk; omega
  subst this; rw [ij rfl]; exact ⟨hx, hy⟩⟩
theorem Wp.take {k : Nat} (h : Wp c gl ps G P t) : Wp c gl (ps.take k) G P t := ⟨fun i hi => by
 rw [List.length_take] at hi
 rw [List.getD_eq_getElem?_getD, List.getElem?_take_of_lt om, ← List.getD_eq_getElem?_getD]; exact h.bit i om⟩
structure mC (c : Int) (g0 : List Gate) (G P : Nat → List Bool → Bool) (t : Int) (n : Nat) (gl : List Gate) (out : List aN) (d j : Nat) : Prop where
 ext : Ext g0 gl
 len : gl.length ≤ g0.length + 3 * n * j
 ol : out.length = n
 dj : d = 2 ^ j
 jl : j ≤ bH n
 gn : ∀ i, i < n → Wr c gl (out.getD i default).g (fun ins => gen (fun k => G k ins) (fun k => P k ins) d i) (t + 40 * (j : Int))
 pr : ∀ i, i < n → d ≤ i → Wr c gl (out.getD i default).p (fun ins => pp (fun k => P k ins) (i + 1 - d) d) (t + 40 * (j : Int))
theorem mC.init (hg : Good g0) (h : Wp c g0 ps G P t) : mC c g0 G P t ps.length g0 ps 1 0 :=
 ⟨.refl hg, om, rfl, rfl, om, fun i hi => ((h.bit i hi).1.late om).as fun ins => (Aw (G := fun k => G k ins) (P := fun k => P k ins)).symm, fun i hi _ => ((h.bit i hi).2.late om).as fun ins => by simp [pp]⟩
theorem mC.done (h : mC c g0 G P t n gl out d j) (hd : ¬ d < n) {i : Nat} (hi : i < n) : Wr c gl (out.getD i default).g (fun ins => ca (fun k => G k ins) (fun k => P k ins) 0 (i + 1) false) (t + 40 * (bH n : Int)) := by
 have := h.jl
 exact ((h.gn i hi).late om).as fun ins => rq om
theorem mC.Dq (h : mC c g0 G P t n gl out d j) : 1 ≤ d := by rw [h.dj]; exact Nat.one_le_two_pow
structure mD (c : Int) (g1 : List Gate) (G P : Nat → List Bool → Bool) (t : Int) (n : Nat) (out : List aN) (d j : Nat) (gl : List Gate) (next : List aN) (i : Nat) : Prop where
 ext : Ext g1 gl
 lo : d ≤ i
 hi : i ≤ n ∨ i = d
 len : gl.length ≤ g1.length + 3 * (i - d)
 nl : next.length = n
 gn : ∀ k, k < n → k < i → Wr c gl (next.getD k default).g (fun ins => gen (fun k => G k ins) (fun k => P k ins) (2 * d) k) (t + 40 * ((j : Int) + 1))
 pr : ∀ k, k < n → k < i → 2 * d ≤ k → Wr c gl (next.getD k default).p (fun ins => pp (fun k => P k ins) (k + 1 - 2 * d) (2 * d)) (t + 40 * ((j : Int) + 1))
 rest : ∀ k, k < n → i ≤ k → next.getD k default = out.getD k default
theorem mD.init (h : mC c g0 G P t n g1 out d j) : mD c g1 G P t n out d j g1 out d :=
 ⟨.refl h.ext.dC, Nat.le_refl _, .inr rfl, om, h.ol, fun k hk hd => ((h.gn k hk).late om).as fun ins => (xS hd).symm, fun k _ h1 h2 => by omega, fun _ _ _ => rfl⟩
theorem getD_set_ne {α : Type} {l : List α} {i k : Nat} {x e : α} (h : i ≠ k) : (l.set i x).getD k e = l.getD k e := by
 rw [List.getD_eq_getElem?_getD, List.getElem?_set_ne h, ← List.getD_eq_getElem?_getD]
theorem gC {α : Type} {l : List α} {i : Nat} {x e : α} (h : i < l.length) : (l.set i x).getD i e = x := by
 rw [List.getD_eq_getElem?_getD, List.getElem?_set_self h]; rfl
theorem mD.JK (hI : mC c g0 G P t n g1 out d j) (h : mD c g1 G P t n out d j gl next i) (hi : i < n) (hn : ¬ d ≤ i - d) {q : Int} :
  mD c g1 G P t n out d j ((gl ++ [⟨5, (out.getD i default).p, (out.getD (i - d) default).g⟩]) ++ [⟨6, (out.getD i default).g, (gl.length : Int)⟩]) (next.set i ⟨((gl ++ [(⟨5, (out.getD i default).p, (out.getD (i - d) default).g⟩ : Gate)]).length : Int), q⟩) (i + 1) := by
 have v7 := h.lo; have lH := h.len; have uK := h.nl; have hd := hI.Dq
 have wp := (hI.pr i hi v7).ext h.ext
 have wg := (hI.gn i hi).ext h.ext
 have wd := (hI.gn (i - d) om).ext h.ext
 have e1 : Ext gl (gl ++ [⟨5, (out.getD i default).p, (out.getD (i - d) default).g⟩]) := Ext.two h.ext.dC ah wp wd
 have w1 := wp.and (u := t + 40 * (j : Int) + 20) wd om om
 have e2 := Ext.two (k := 6) e1.dC ah (wg.ext e1) w1
 have w2 := (wg.ext e1).or (u := t + 40 * ((j : Int) + 1)) w1 om om
 have ex := e1.trans e2
 refine ⟨h.ext.trans ex, om, om, by simp only [List.length_append, List.length_singleton]; omega, by rw [List.length_set]; exact uK, fun k hk pE => ?_, fun k hk pE h2 => ?_, fun k hk pE => ?_⟩
 ·rcases Nat.lt_or_ge k i with h1 | h1
  ·rw [getD_set_ne om]; exact (h.gn k hk h1).ext ex
  ·obtain rfl : k = i := by omega
   rw [gC om]
   exact w2.as fun ins => (vb v7).symm
 ·rcases Nat.lt_or_ge k i with h1 | h1
  ·rw [getD_set_ne om]; exact (h.pr k hk h1 h2).ext ex
  ·omega
 ·rw [getD_set_ne om]; exact h.rest k hk om
theorem mD.OM (hI : mC c g0 G P t n g1 out d j) (h : mD c g1 G P t n out d j gl next i) (hi : i < n) (hn : d ≤ i - d) {g2 : List Gate}
  (MC : g2 = (gl ++ [⟨5, (out.getD i default).p, (out.getD (i - d) default).g⟩]) ++ [⟨6, (out.getD i default).g, (gl.length : Int)⟩]) :
  mD c g1 G P t n out d j (g2 ++ [⟨5, (out.getD i default).p, (out.getD (i - d) default).p⟩]) (next.set i ⟨((gl ++ [(⟨5, (out.getD i default).p, (out.getD (i - d) default).g⟩ : Gate)]).length : Int), (g2.length : Int)⟩) (i + 1) := by
 have v7 := h.lo; have lH := h.len; have uK := h.nl; have hd := hI.Dq
 have wp := (hI.pr i hi v7).ext h.ext
 have wg := (hI.gn i hi).ext h.ext
 have wd := (hI.gn (i - d) om).ext h.ext
 have wq := (hI.pr (i - d) om hn).ext h.ext
 have e1 : Ext gl (gl ++ [⟨5, (out.getD i default).p, (out.getD (i - d) default).g⟩]) := Ext.two h.ext.dC ah wp wd
 have w1 := wp.and (u := t + 40 * (j : Int) + 20) wd om om
 have e2 := Ext.two (k := 6) e1.dC ah (wg.ext e1) w1
 have w2 := (wg.ext e1).or (u := t + 40 * ((j : Int) + 1)) w1 om om
 have ex := e1.trans e2
 rw [← MC] at e2 w2 ex
 have e3 := Ext.two (k := 5) ex.dC ah (wp.ext ex) (wq.ext ex)
 have w3 := (wp.ext ex).and (u := t + 40 * ((j : Int) + 1)) (wq.ext ex) om om
 have ey := ex.trans e3
 refine ⟨h.ext.trans ey, om, om, by rw [MC]; simp only [List.length_append, List.length_singleton]; omega, by rw [List.length_set]; exact uK, fun k hk pE => ?_, fun k hk pE h2 => ?_, fun k hk pE => ?_⟩
 ·rcases Nat.lt_or_ge k i with h1 | h1
  ·rw [getD_set_ne om]; exact (h.gn k hk h1).ext ey
  ·obtain rfl : k = i := by omega
   rw [gC om]
   exact (w2.ext e3).as fun ins => (vb v7).symm
 ·rcases Nat.lt_or_ge k i with h1 | h1
  ·rw [getD_set_ne om]; exact (h.pr k hk h1 h2).ext ey
  ·obtain rfl : k = i := by omega
   rw [gC om]
   exact w3.as fun ins => (De om).symm
 ·rw [getD_set_ne om]; exact h.rest k hk om
theorem mC.pass (hI : mC c g0 G P t n g1 out d j) (hd : d < n) (h : mD c g1 G P t n out d j gl next i) (hi : ¬ i < n) : mC c g0 G P t n gl next (d * 2) (j + 1) := by
 have v7 := h.lo; have lH := h.len; have hg := hI.len; have hh := h.hi
 have hj : j + 1 ≤ bH n := by
  have h1 := nj n
  have h2 := hI.dj
  apply Classical.byContradiction
  intro h3
  have h4 : 2 ^ bH n ≤ 2 ^ j := Nat.pow_le_pow_right om om
  omega
 refine ⟨hI.ext.trans h.ext, ?_, h.nl, by rw [hI.dj, Nat.pow_succ], hj, fun k hk => ?_, fun k hk h2 => ?_⟩
 ·rw [Nat.mul_add]; omega
 ·have := h.gn k hk om
  rw [Nat.mul_comm, Int.natCast_add, Int.natCast_one]; exact this
 ·have := h.pr k hk om om
  rw [Nat.mul_comm, Int.natCast_add, Int.natCast_one]; exact this
end
open Go Go.AW
section
variable {c : Int} {g0 g1 gl : List Gate} {ps out next : List aN} {G P : Nat → List Bool → Bool} {a b r : List Int} {A B : Nat → List Bool → Bool} {t u : Int} {i j n d : Nat}
def uc (F0 : List Bool → Bool) (G P : Nat → List Bool → Bool) (k : Nat) (ins : List Bool) : Bool := if k = 0 then F0 ins else (P k ins ^^ ca (fun k => G k ins) (fun k => P k ins) 0 k false)
structure ud (c : Int) (g0 gl : List Gate) (F0 : List Bool → Bool) (G P : Nat → List Bool → Bool) (u : Int) (r : List Int) (i : Nat) : Prop where
 ext : Ext g0 gl
 lo : 1 ≤ i
 len : gl.length + 1 = g0.length + i
 ol : r.length = i
 ws : Ws c gl r (uc F0 G P) u
theorem ud.init {x : Int} {F0 : List Bool → Bool} (hg : Good g0) (h : Wr c g0 x F0 u) : ud c g0 g0 F0 G P u [x] 1 :=
 ⟨.refl hg, om, rfl, rfl, Ws.snoc (a := []) .nil (by exact h.as fun ins => rfl)⟩
theorem ud.step {x y : Int} {F0 : List Bool → Bool} (h : ud c g0 gl F0 G P u r i) (hx : Wr c g0 x (P i) t) (hy : Wr c g0 y (fun ins => ca (fun k => G k ins) (fun k => P k ins) 0 i false) t) (hu : t + 20 ≤ u) :
  ud c g0 (gl ++ [⟨7, x, y⟩]) F0 G P u (r ++ [(gl.length : Int)]) (i + 1) := by
 have h1 := hx.ext h.ext
 have h2 := hy.ext h.ext
 have e := Ext.two (k := 7) h.ext.dC ah h1 h2
 have hl := h.len; have v7 := h.lo
 refine ⟨h.ext.trans e, om, by simp only [List.length_append, List.length_singleton]; omega, by rw [List.length_append, h.ol]; rfl, (h.ws.ext e).snoc ?_⟩
 refine (h1.xor h2 hu hu).as fun ins => ?_
 rw [h.ol]; unfold uc; rw [if_neg om]
structure rz (c : Int) (g0 gl : List Gate) (A B : Nat → List Bool → Bool) (u : Int) (ps : List aN) (i : Nat) : Prop where
 ext : Ext g0 gl
 len : gl.length = g0.length + 2 * i
 pl : ps.length = i
 wp : Wp c gl ps (fun k ins => A k ins && B k ins) (fun k ins => A k ins ^^ B k ins) u
theorem rz.init (hg : Good g0) : rz c g0 g0 A B u [] 0 := ⟨.refl hg, rfl, rfl, .nil⟩
theorem rz.step {x y : Int} {s : Int} (h : rz c g0 gl A B u ps i) (hx : Wr c g0 x (A i) s) (hy : Wr c g0 y (B i) t) (h1 : s + 20 ≤ u) (h2 : t + 20 ≤ u) :
  rz c g0 ((gl ++ [⟨5, x, y⟩]) ++ [⟨7, x, y⟩]) A B u (ps ++ [⟨(gl.length : Int), ((gl ++ [(⟨5, x, y⟩ : Gate)]).length : Int)⟩]) (i + 1) := by
 have w1 := hx.ext h.ext
 have w2 := hy.ext h.ext
 have e1 := Ext.two (k := 5) h.ext.dC ah w1 w2
 have e2 := Ext.two (k := 7) e1.dC ah (w1.ext e1) (w2.ext e1)
 have hl := h.len
 refine ⟨h.ext.trans (e1.trans e2), by simp only [List.length_append, List.length_singleton]; omega, by rw [List.length_append, h.pl]; rfl, (h.wp.ext (e1.trans e2)).snoc ?_ ?_⟩
 ·rw [h.pl]; exact (w1.and w2 h1 h2).ext e2
 ·rw [h.pl]; exact (w1.ext e1).xor (w2.ext e1) h1 h2
theorem Wp.JL {y : Int} (h : Wp c gl ps (fun k ins => A k ins && B k ins) P u) (hn : 0 < ps.length) (hy : Wr c gl y (fun ins => A 0 ins || B 0 ins) u) :
  Wp c gl (ps.set 0 ⟨y, (ps.getD 0 default).p⟩) (fun k ins => if k = 0 then A 0 ins || B 0 ins else A k ins && B k ins) P u := ⟨fun k hk => by
 rw [List.length_set] at hk
 rcases Nat.eq_zero_or_pos k with h1 | h1
 ·subst h1; rw [gC hn]; exact ⟨hy.as fun ins => by simp, (h.bit 0 hn).2⟩
 ·rw [getD_set_ne om]; exact ⟨(h.bit k hk).1.as fun ins => by rw [if_neg om], (h.bit k hk).2⟩⟩
structure pR (c : Int) (g0 gl : List Gate) (A B : Nat → List Bool → Bool) (s : Bool) (n : Nat) (u : Int) (ps : List aN) (i : Nat) : Prop where
 ext : Ext g0 gl
 len : gl.length = g0.length + 4 * i
 pl : ps.length = i
 wp : Wp c gl ps (fun k ins => if s = true ∧ k + 1 = n then !B k ins && A k ins else !A k ins && B k ins) (fun k ins => !(A k ins ^^ B k ins)) u
theorem pR.init {s : Bool} (hg : Good g0) : pR c g0 g0 A B s n u [] 0 := ⟨.refl hg, rfl, rfl, .nil⟩
def JM (gl : List Gate) (x : Int) : List Gate := gl ++ [⟨4, x, 0⟩]
def JN (gl : List Gate) (x y : Int) : List Gate := JM gl x ++ [⟨5, (gl.length : Int), y⟩]
def JO (gl : List Gate) (x y : Int) : List Gate := JN gl x y ++ [⟨7, x, y⟩]
def GP (gl : List Gate) (x y : Int) : List Gate := JO gl x y ++ [⟨4, ((JN gl x y).length : Int), 0⟩]
theorem pR.step {x y : Int} {s : Bool} {f h : List Bool → Bool} (k : pR c g0 gl A B s n u ps i) (hx : Wr c g0 x f t) (hy : Wr c g0 y h t) (hu : t + 30 ≤ u)
  (hf : ∀ ins, (f ins = if s = true ∧ i + 1 = n then B i ins else A i ins) ∧ (h ins = if s = true ∧ i + 1 = n then A i ins else B i ins)) :
  pR c g0 (GP gl x y) A B s n u (ps ++ [⟨((JM gl x).length : Int), ((JO gl x y).length : Int)⟩]) (i + 1) := by
 have w1 := hx.ext k.ext
 have w2 := hy.ext k.ext
 have e1 := Ext.not k.ext.dC w1
 have n1 := w1.not (u := t + 10) (Int.le_refl _)
 have e2 := Ext.two (k := 5) e1.dC ah n1 (w2.ext e1)
 have n2 := n1.and (u := u) (w2.ext e1) om om
 have yh := e1.trans e2
 have e3 := Ext.two (k := 7) e2.dC ah (w1.ext yh) (w2.ext yh)
 have n3 := (w1.ext yh).xor (u := t + 20) (w2.ext yh) om om
 have e4 := Ext.not e3.dC n3
 have n4 := n3.not (u := u) om
 have hl := k.len
 have ex := yh.trans (e3.trans e4)
 refine ⟨k.ext.trans ex, by unfold GP JO JN JM; simp only [List.length_append, List.length_singleton]; omega, by rw [List.length_append, k.pl]; rfl, (k.wp.ext ex).snoc ?_ ?_⟩
 ·rw [k.pl]
  refine (n2.ext (e3.trans e4)).as fun ins => ?_
  rw [(hf ins).1, (hf ins).2]
  by_cases q : s = true ∧ i + 1 = n
  ·rw [if_pos q, if_pos q, if_pos q]
  ·rw [if_neg q, if_neg q, if_neg q]
 ·rw [k.pl]
  refine n4.as fun ins => ?_
  rw [(hf ins).1, (hf ins).2]
  by_cases q : s = true ∧ i + 1 = n
  ·rw [if_pos q, if_pos q, Bool.xor_comm]
  ·rw [if_neg q, if_neg q]
structure vj (c : Int) (g0 : List Gate) (F : List Bool → Bool) (n : Nat) (t : Int) (gl : List Gate) (ps : List aN) : Prop where
 ext : Ext g0 gl
 len : gl.length + 3 * ps.length ≤ g0.length + 3 * n
 lo : 1 ≤ ps.length
 ex : ∃ (G P : Nat → List Bool → Bool) (t' : Int), Wp c gl ps G P t' ∧ (∀ ins, ca (fun k => G k ins) (fun k => P k ins) 0 ps.length false = F ins) ∧ t' + 40 * (bH ps.length : Int) ≤ t + 40 * (bH n : Int)
theorem vj.init (hg : Good g0) (h : Wp c g0 ps G P t) (h1 : 1 ≤ ps.length) : vj c g0 (fun ins => ca (fun k => G k ins) (fun k => P k ins) 0 ps.length false) ps.length t g0 ps :=
 ⟨.refl hg, Nat.le_refl _, h1, G, P, t, h, fun _ => rfl, Int.le_refl _⟩
theorem vj.done {F : List Bool → Bool} (h : vj c g0 F n t gl ps) (h1 : ps.length ≤ 1) : Wr c gl (ps.getD 0 default).g F (t + 40 * (bH n : Int)) := by
 obtain ⟨G, P, t', hw, he, ht⟩ := h.ex
 have hl : ps.length = 1 := by have := h.lo; omega
 rw [vf h1] at ht
 refine ((hw.bit 0 om).1.late om).as fun ins => ?_
 rw [← he ins, hl]; simp [ca]
structure AJ (c : Int) (g1 : List Gate) (ps : List aN) (gl : List Gate) (next : List aN) (i : Nat) : Prop where
 ext : Ext g1 gl
 even : i % 2 = 0
 hi : i ≤ ps.length
 nl : next.length = i / 2
 len : gl.length = g1.length + 3 * (i / 2)
 wp : ∀ G P t, Wp c g1 ps G P t → Wp c gl next (fun k ins => pf (fun k => G k ins) (fun k => P k ins) ps.length k) (fun k ins => pg (fun k => P k ins) ps.length k) (t + 40)
theorem AJ.init (hg : Good g1) : AJ c g1 ps g1 [] 0 := ⟨.refl hg, rfl, om, rfl, rfl, fun _ _ _ _ => .nil⟩
def Ii (gl : List Gate) (l h : aN) : List Gate := gl ++ [⟨5, h.p, l.g⟩]
def Ij (gl : List Gate) (l h : aN) : List Gate := Ii gl l h ++ [⟨6, h.g, (gl.length : Int)⟩]
def GQ (gl : List Gate) (l h : aN) : List Gate := Ij gl l h ++ [⟨5, h.p, l.p⟩]
theorem AJ.step (h : AJ c g1 ps gl next i) (hl : i + 1 < ps.length) (hw : ∃ G P t, Wp c g1 ps G P t) :
  AJ c g1 ps (GQ gl (ps.getD i default) (ps.getD (i + 1) default)) (next ++ [⟨((Ii gl (ps.getD i default) (ps.getD (i + 1) default)).length : Int), ((Ij gl (ps.getD i default) (ps.getD (i + 1) default)).length : Int)⟩]) (i + 2) := by
 have he := h.even; have lH := h.len
 have key : ∀ G P t, Wp c g1 ps G P t → Ext gl (GQ gl (ps.getD i default) (ps.getD (i + 1) default)) ∧
   Wr c (GQ gl (ps.getD i default) (ps.getD (i + 1) default)) ((Ii gl (ps.getD i default) (ps.getD (i + 1) default)).length : Int) (fun ins => G (i + 1) ins || (P (i + 1) ins && G i ins)) (t + 40) ∧
   Wr c (GQ gl (ps.getD i default) (ps.getD (i + 1) default)) ((Ij gl (ps.getD i default) (ps.getD (i + 1) default)).length : Int) (fun ins => P (i + 1) ins && P i ins) (t + 40) := by
  intro G P t hf
  have l1 := (hf.bit i om).1.ext h.ext
  have l2 := (hf.bit i om).2.ext h.ext
  have h1 := (hf.bit (i + 1) hl).1.ext h.ext
  have h2 := (hf.bit (i + 1) hl).2.ext h.ext
  have e1 := Ext.two (k := 5) h.ext.dC ah h2 l1
  have n1 := h2.and (u := t + 20) l1 om om
  have e2 := Ext.two (k := 6) e1.dC ah (h1.ext e1) n1
  have n2 := (h1.ext e1).or (u := t + 40) n1 om om
  have yh := e1.trans e2
  have e3 := Ext.two (k := 5) e2.dC ah (h2.ext yh) (l2.ext yh)
  have n3 := (h2.ext yh).and (u := t + 40) (l2.ext yh) om om
  exact ⟨yh.trans e3, n2.ext e3, n3⟩
 obtain ⟨G0, P0, t0, h0⟩ := hw
 have hx := (key G0 P0 t0 h0).1
 refine ⟨h.ext.trans hx, om, om, by rw [List.length_append, h.nl, List.length_singleton]; omega, by unfold GQ Ij Ii; simp only [List.length_append, List.length_singleton]; omega, fun G P t hf => ?_⟩
 obtain ⟨_, k1, k2⟩ := key G P t hf
 refine ((h.wp G P t hf).ext hx).snoc (k1.as fun ins => ?_) (k2.as fun ins => ?_)
 ·rw [h.nl]; unfold pf
  rw [show 2 * (i / 2) = i by omega, if_pos hl]
 ·rw [h.nl]; unfold pg
  rw [show 2 * (i / 2) = i by omega, if_pos hl]
theorem vj.pass {F : List Bool → Bool} (h : vj c g0 F n t g1 ps) (hj : AJ c g1 ps gl next i) (hl : ¬ i + 1 < ps.length) (h2 : 1 < ps.length) (ho : ¬ ps.length % 2 = 1) : vj c g0 F n t gl next := by
 have he := hj.even; have hh := hj.hi; have hn := hj.nl; have hg := hj.len; have GN := h.len
 obtain ⟨G, P, t', hw, hv, ht⟩ := h.ex
 have ua : next.length = (ps.length + 1) / 2 := by omega
 have rW := mB (m := ps.length) om
 refine ⟨h.ext.trans hj.ext, om, om, _, _, _, hj.wp G P t' hw, fun ins => ?_, ?_⟩
 ·rw [ua, vg]; exact hv ins
 ·rw [ua]; omega
theorem vj.GR {F : List Bool → Bool} (h : vj c g0 F n t g1 ps) (hj : AJ c g1 ps gl next i) (hl : ¬ i + 1 < ps.length) (h2 : 1 < ps.length) (ho : ps.length % 2 = 1) : vj c g0 F n t gl (next ++ [ps.getD (ps.length - 1) default]) := by
 have he := hj.even; have hh := hj.hi; have hn := hj.nl; have hg := hj.len; have GN := h.len
 obtain ⟨G, P, t', hw, hv, ht⟩ := h.ex
 have ua : (next ++ [ps.getD (ps.length - 1) default]).length = (ps.length + 1) / 2 := by rw [List.length_append, hn]; simp; omega
 have rW := mB (m := ps.length) om
 have hb := hw.bit (ps.length - 1) om
 refine ⟨h.ext.trans hj.ext, by rw [ua]; omega, by rw [ua]; omega, _, _, _, (hj.wp G P t' hw).snoc (((hb.1.ext hj.ext).late om).as fun ins => ?_) (((hb.2.ext hj.ext).late om).as fun ins => ?_), fun ins => ?_, ?_⟩
 ·rw [hn]; unfold pf
  rw [show 2 * (i / 2) = ps.length - 1 by omega, if_neg om]
 ·rw [hn]; unfold pg
  rw [show 2 * (i / 2) = ps.length - 1 by omega, if_neg om]
 ·rw [ua, vg]; exact hv ins
 ·rw [ua]; omega
end
open Go Go.AW
section
variable {c : Int} {g0 g1 gl : List Gate} {a b r x next : List Int} {A B : Nat → List Bool → Bool} {t u : Int} {i k w : Nat}
structure zF (c : Int) (g0 gl : List Gate) (out : List Int) (h : Nat → List Bool → Bool) (u : Int) (i : Nat) : Prop where
 ext : Ext g0 gl
 len : gl.length = g0.length + 3 * i
 ol : out.length = i
 ws : Ws c gl out h u
theorem zF.init {h : Nat → List Bool → Bool} {u : Int} (hg : Good g0) : zF c g0 g0 [] h u 0 := ⟨.refl hg, rfl, rfl, .nil⟩
theorem zF.step {h : Nat → List Bool → Bool} {s v y n : Int} {fs fy fn : List Bool → Bool} {ts tv ty tn : Int} (k : zF c g0 gl r h u i) (hs : Wr c g0 s fs ts) (hv : Wr c g0 v (fun ins => !fs ins) tv) (hy : Wr c g0 y fy ty) (hn : Wr c g0 n fn tn)
  (h1 : ts + 40 ≤ u) (h2 : tv + 40 ≤ u) (h3 : ty + 40 ≤ u) (h4 : tn + 40 ≤ u) (hh : ∀ ins, h i ins = if fs ins then fy ins else fn ins) : zF c g0 (ub gl s v y n) (r ++ [(gl.length : Int) + 2]) h u (i + 1) := by
 obtain ⟨e, wv⟩ := yg k.ext.dC (hs.ext k.ext) (hv.ext k.ext) (hy.ext k.ext) (hn.ext k.ext) h1 h2 h3 h4
 have hl := k.len
 exact ⟨k.ext.trans e, by rw [vh]; omega, by rw [List.length_append, k.ol]; rfl, (k.ws.ext e).snoc (by rw [k.ol]; exact wv.as fun ins => (hh ins).symm)⟩
structure AK (c : Int) (g0 : List Gate) (left : Bool) (w : Nat) (A : List Bool → BitVec w) (B : List Bool → BitVec w) (fl : List Bool → Bool) (t : Int) (gl : List Gate) (x : List Int) (k : Nat) : Prop where
 ext : Ext g0 gl
 len : gl.length = g0.length + (3 * w + 1) * k
 xl : x.length = w
 ws : Ws c gl x (fun i ins => ou left w (A ins).getLsbD (fl ins) ((B ins).toNat % 2 ^ k) i) (t + 10 + 40 * (k : Int))
theorem AK.init {left : Bool} {A B : List Bool → BitVec w} {fl : List Bool → Bool} (hg : Good g0) (ha : Wd c g0 a w A t) : AK c g0 left w A B fl t g0 a 0 :=
 ⟨.refl hg, rfl, ha.len, ⟨fun k hk => ((ha.bit k (by rw [← ha.len]; exact hk)).late om).as fun ins => by rw [Nat.pow_zero, Nat.mod_one, yd (by rw [← ha.len]; exact hk)]⟩⟩
theorem AK.pick {left : Bool} {A B : List Bool → BitVec w} {fl : List Bool → Bool} {f y : Int} {k : Nat} (h : AK c g0 left w A B fl t g1 x k) (hf : Wr c g0 f fl t) {i : Nat} (_ : i < w) (fr : Int) (oc : fr = GM left k i)
  (hy : y = if 0 ≤ fr ∧ fr < (w : Int) then x.getD fr.toNat 0 else f) :
  Wr c g1 y (fun ins => if left then (if 2 ^ k ≤ i then ou left w (A ins).getLsbD (fl ins) ((B ins).toNat % 2 ^ k) (i - 2 ^ k) else fl ins) else (if i + 2 ^ k < w then ou left w (A ins).getLsbD (fl ins) ((B ins).toNat % 2 ^ k) (i + 2 ^ k) else fl ins)) (t + 10 + 40 * (k : Int)) := by
 subst hy oc
 have uO := h.xl
 have hp : ((2 ^ k : Nat) : Int) = (2 : Int) ^ k := by simp
 have zW := Nat.two_pow_pos k
 unfold GM
 cases left
 ·simp only [Bool.false_eq_true, if_false]
  by_cases h1 : i + 2 ^ k < w
  ·rw [if_pos om]
   have := h.ws.bit (i + 2 ^ k) om
   rw [show ((i : Int) + 2 ^ k).toNat = i + 2 ^ k by omega]
   exact this.as fun ins => by rw [if_pos h1]
  ·rw [if_neg om]
   exact ((hf.ext h.ext).late om).as fun ins => by rw [if_neg h1]
 ·simp only [if_true]
  by_cases h1 : 2 ^ k ≤ i
  ·rw [if_pos om]
   have := h.ws.bit (i - 2 ^ k) om
   rw [show ((i : Int) - 2 ^ k).toNat = i - 2 ^ k by omega]
   exact this.as fun ins => by rw [if_pos h1]
  ·rw [if_neg om]
   exact ((hf.ext h.ext).late om).as fun ins => by rw [if_neg h1]
def Ik (left : Bool) (w : Nat) (A B : List Bool → BitVec w) (fl : List Bool → Bool) (k i : Nat) (ins : List Bool) : Bool := ou left w (A ins).getLsbD (fl ins) ((B ins).toNat % 2 ^ (k + 1)) i
theorem Dr {left : Bool} {A B : List Bool → BitVec w} {fl : List Bool → Bool} {k i : Nat} (hi : i < w) (ins : List Bool) :
  Ik left w A B fl k i ins = if (B ins).getLsbD k then (if left then (if 2 ^ k ≤ i then ou left w (A ins).getLsbD (fl ins) ((B ins).toNat % 2 ^ k) (i - 2 ^ k) else fl ins) else (if i + 2 ^ k < w then ou left w (A ins).getLsbD (fl ins) ((B ins).toNat % 2 ^ k) (i + 2 ^ k) else fl ins)) else ou left w (A ins).getLsbD (fl ins) ((B ins).toNat % 2 ^ k) i := by
 unfold Ik
 rw [yf]
 cases (B ins).getLsbD k
 ·simp
 ·simp only [if_true]
  exact ye hi
theorem AK.pass {left : Bool} {A B : List Bool → BitVec w} {fl : List Bool → Bool} {q : Gate} (h : AK c g0 left w A B fl t g1 x k) (he : Ext g1 (g1 ++ [q])) (hj : zF c (g1 ++ [q]) gl next (Ik left w A B fl k) (t + 10 + 40 * ((k : Int) + 1)) i) (hi : i = w) : AK c g0 left w A B fl t gl next (k + 1) := by
 subst hi
 have h1 := h.len; have h2 := hj.len
 rw [List.length_append, List.length_singleton] at h2
 refine ⟨h.ext.trans (he.trans hj.ext), by rw [h2, h1, Nat.mul_add]; omega, hj.ol, ?_⟩
 have := hj.ws
 rw [Int.natCast_add, Int.natCast_one]
 exact this
theorem Ds {B : List Bool → BitVec w} (hb : Wd c gl b w B t) (st : Nat) (hs : st ≤ w) : Ws c gl (b.drop st) (fun k ins => (B ins).getLsbD (st + k)) t := ⟨fun k hk => by
 have hl := hb.len
 rw [List.length_drop] at hk
 rw [List.getD_eq_getElem?_getD, List.getElem?_drop, ← List.getD_eq_getElem?_getD]
 exact hb.bit (st + k) om⟩
end
end Go.Proofs.Ytlimckldnjmabaa
