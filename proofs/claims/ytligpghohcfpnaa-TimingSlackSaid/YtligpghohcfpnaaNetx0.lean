/- Netlists as the walk sees them. -/
import Derived.Test.YtligpghohcfpnaaAWx1
import Derived.Test.YtligpghohcfpnaaAWx2
import Derived.Test.YtligpghohcfpnaaProg
import Derived.KernelRfl
import Derived.Test.YtligpghohcfpnaaRows
set_option linter.unusedSimpArgs false
set_option linter.unusedVariables false
set_option linter.unusedSectionVars false
set_option maxRecDepth 4000
set_option maxHeartbeats 8000000
namespace Go.Proofs.Ytligpghohcfpnaa
open Go Go.AW

abbrev vi (z : Int) : X := .v (.int .i64 z)
abbrev vn : X := .v (.slice none 0 0)
theorem aH {a b : Nat} (h : Nat.ble a b = true) : a ≤ b := Nat.le_of_ble_eq_true h
def ah (z : Int) : List X := [.v (.int .i64 z)]
theorem kP {p : Prop} (h : p := by first | rfl | (simp only [List.cons.injEq, X.v.injEq, X.aY.injEq, Value.int.injEq, and_true, true_and]; omega) | simp_all) : p := h
theorem v3 {p : Prop} (h : p := by first | rfl | exact IntWalk.i64_in _ (by omega)) : p := h
theorem aD (z : Int) : X.bC (ah z) = true := rfl
theorem k0 (z : Int) : X.gV (ah z) := ⟨trivial, trivial⟩
def ik (b : Bool) : List X := [.v (.bool b)]
theorem v5 (b : Bool) : X.bC (ik b) = true := rfl
def qL (n : Nat) : List X := [.v (.int .u8 (n : Int))]
def Eg (n : Nat) : List X := [.v (.int .u64 (n : Int))]
def nC (l : List Int) : List X := [.fz 1 (l.map ah)]
def mw (l : List Int) : List X := [.ep 1 (l.map ah)]
theorem qM (l : List Int) : X.bC (nC l) = true := rfl

theorem zx (l : List Int) : X.iS (mw l) = nC l := by
 show [X.fz 1 (X.mM (l.map ah))] = _
 rw [X.qJ (g := ah) (fun _ => rfl)]; rfl

structure Cell where
 kind : Int
 op : Int
 out : Int
 args : List Int
 num : Nat
 mem : Int
instance : Inhabited Cell := ⟨⟨0, 0, 0, [], 0, 0⟩⟩
def Cell.row (c : Cell) : List X := [.v (.int .i64 c.kind), .v (.int .i64 c.op), .v (.int .i64 c.out), .fz 1 (c.args.map ah), .v (.int .u64 (c.num : Int)), .v (.int .i64 c.mem)]
theorem Cell.cy (c : Cell) : X.bC c.row = true := rfl
structure dV where
 name : ByteArray
 width : Int
 len : Int
 kind : Int
 qN : Int
instance : Inhabited dV := ⟨⟨ByteArray.empty, 0, 0, 0, 0⟩⟩
def dV.row (a : dV) : List X := [.v (.string a.name), .v (.int .i64 a.width), .v (.int .i64 a.len), .v (.int .i64 a.kind), .v (.int .i64 a.qN)]
theorem dV.cy (c : dV) : X.bC c.row = true := rfl
structure bE where
 name : ByteArray
 width : Int
 out : Bool
instance : Inhabited bE := ⟨⟨ByteArray.empty, 0, false⟩⟩
def bE.row (a : bE) : List X := [.v (.string a.name), .v (.int .i64 a.width), .v (.bool a.out)]
theorem bE.cy (c : bE) : X.bC c.row = true := rfl
structure ab where
 name : ByteArray
 aa : List Int
 cells : List Cell
 ins : List Int
 aw : List dV
 streams : List bE
 aX : List Int
 data : List Int
 freeze : Int
 done : Int
 bI : List Int
def ab.row (n : ab) : List X := [.v (.string n.name), .fz 1 (n.aa.map ah), .fz 6 (n.cells.map Cell.row), .fz 1 (n.ins.map ah), .fz 5 (n.aw.map dV.row), .fz 3 (n.streams.map bE.row),
 .fz 1 (n.aX.map ah), .fz 1 (n.data.map ah), .v (.int .i64 n.freeze), .v (.int .i64 n.done), .fz 1 (n.bI.map ah)]

structure ab.Small (n : ab) : Prop where
 name : n.name.size ≤ 140737488351232
 aa : n.aa.length ≤ 17592186043904
 cells : n.cells.length ≤ 2199023255488
 args : ∀ c ∈ n.cells, c.args.length ≤ 17592186043904
 zy : (n.cells.map (fun c => c.args.length)).sum ≤ 8796093022208
 zz : ∀ c ∈ n.cells, c.num < 18446744073709551616
 mS : ∀ m ∈ n.aw, m.name.size ≤ 140737488351232
 mT : ∀ m ∈ n.streams, m.name.size ≤ 140737488351232
 ins : n.ins.length ≤ 17592186043904
 aw : n.aw.length ≤ 2932031007317
 streams : n.streams.length ≤ 4398046510976
 aX : n.aX.length ≤ 17592186043904
 data : n.data.length ≤ 17592186043904
 bI : n.bI.length ≤ 17592186043904
end Go.Proofs.Ytligpghohcfpnaa
/- How netlists are read. -/
namespace Go.Proofs.Ytligpghohcfpnaa
open Go Go.AW Go.Proofs

section
variable {H : Type} {enc : TypeId × Value → H} {W : World} {base : Nat}
theorem BR : Reads enc Try.prog W base 37 Eg (fun z => z < 18446744073709551616) (fun _ => 1) := Reads.HA Try.underlying37
theorem pq : Reads enc Try.prog W base 5 qL (fun z => z < 256) (fun _ => 1) := Reads.KT Try.underlying5
theorem HF : Try.prog.cellsOf 37 = 1 := by kernel_rfl
structure ab.Oy (n : ab) : Prop where
 name : n.name.size ≤ 140737488351232
 aa : n.aa.length ≤ 17592186043904
 cells : n.cells.length ≤ 2199023255488
 args : ∀ c ∈ n.cells, c.args.length ≤ 17592186043904
 zz : ∀ c ∈ n.cells, c.num < 18446744073709551616
 mS : ∀ m ∈ n.aw, m.name.size ≤ 140737488351232
 mT : ∀ m ∈ n.streams, m.name.size ≤ 140737488351232
 ins : n.ins.length ≤ 17592186043904
 aw : n.aw.length ≤ 2932031007317
 streams : n.streams.length ≤ 4398046510976
 aX : n.aX.length ≤ 17592186043904
 data : n.data.length ≤ 17592186043904
 bI : n.bI.length ≤ 17592186043904
theorem ab.Oy.small {n : ab} (h : n.Oy) (ht : (n.cells.map (fun c => c.args.length)).sum ≤ 8796093022208) : n.Small := ⟨h.name, h.aa, h.cells, h.args, ht, h.zz, h.mS, h.mT, h.ins, h.aw, h.streams, h.aX, h.data, h.bI⟩
end
end Go.Proofs.Ytligpghohcfpnaa
/- When a netlist is well formed and its aa fit, in plain Lean. -/
namespace Go.Proofs.Ytligpghohcfpnaa
open Go Go.AW

def g8 (x : Nat) : Prop := (97 ≤ x ∧ x ≤ 122) ∨ (65 ≤ x ∧ x ≤ 90) ∨ (48 ≤ x ∧ x ≤ 57) ∨ x = 95
def jr (s : ByteArray) : Prop := (∀ i, i < s.size → g8 (bj s i)) ∧ s.size ≤ 64
def fj (w : Int) : Prop := 1 ≤ w ∧ w ≤ 64
def dq (op : Int) : Int := if (2 ≤ op ∧ op ≤ 3) ∨ (9 ≤ op ∧ op ≤ 20) then 2 else if op = 21 then 3 else if 22 ≤ op ∧ op ≤ 24 then 1 else 0
theorem R6 {p : Prop} (h : p := by ((simp only [Shaped, dq, Int.reduceEq, Bool.not_eq_true, false_and, true_and, and_true, and_false, or_false, false_or, ne_eq]) <;> (first | omega | grind))) : p := h
def Shaped (n : ab) (c : Cell) : Prop :=
 (c.kind = 1 ∧ c.args.length = 0 ∧ c.op = 0 ∧ c.mem = 0) ∨
 (c.kind = 2 ∧ dq c.op ≠ 0 ∧ (c.args.length : Int) = dq c.op ∧ c.num = 0 ∧ c.mem = 0) ∨
 (c.kind = 3 ∧ 2 ≤ c.args.length ∧ c.args.length % 2 = 0 ∧ c.op = 0 ∧ c.num = 0 ∧ c.mem = 0) ∨
 (c.kind = 4 ∧ c.args.length = 2 ∧ c.op = 0 ∧ c.mem = 0) ∨
 (c.kind = 5 ∧ c.args.length = 2 ∧ (4 ≤ c.op ∧ c.op ≤ 8) ∧ (1 ≤ c.num ∧ c.num ≤ 4096) ∧ c.mem = 0) ∨
 (c.kind = 6 ∧ c.args.length = 2 ∧ c.op = 0 ∧ c.num = 0 ∧ 0 ≤ c.mem ∧ c.mem < n.aw.length) ∨
 (c.kind = 7 ∧ c.args.length = 3 ∧ c.op = 0 ∧ c.num = 0 ∧ 0 ≤ c.mem ∧ c.mem < n.aw.length) ∨
 (c.kind = 8 ∧ c.args.length = 0 ∧ c.op = 0 ∧ c.num < n.ins.length ∧ c.mem = 0) ∨
 (c.kind = 9 ∧ c.args.length = 0 ∧ c.op = 0 ∧ c.num = 0 ∧ 0 ≤ c.mem ∧ c.mem < n.streams.length) ∨
 (c.kind = 10 ∧ c.args.length = 0 ∧ c.op = 0 ∧ c.num = 0 ∧ (0 ≤ c.mem ∧ c.mem < n.streams.length) ∧ (n.streams.getD c.mem.toNat default).out = false)
theorem R7 {p : Prop} (h : p := by ((simp only [Shaped, Int.reduceEq, Bool.not_eq_true, false_and, true_and, and_true, and_false, or_false, false_or, ne_eq]) <;> (first | omega | grind))) : p := h
theorem fU {p : Prop} (h : p := by ((simp only [Shaped, *, Int.reduceEq, Bool.not_eq_true, false_and, true_and, and_true, and_false, or_false, false_or, ne_eq]) <;> (first | omega | grind))) : p := h
noncomputable instance (s : ByteArray) : Decidable (jr s) := Classical.propDecidable _
instance (w : Int) : Decidable (fj w) := by unfold fj; infer_instance
noncomputable instance (n : ab) (c : Cell) : Decidable (Shaped n c) := Classical.propDecidable _
theorem dt {p : Prop} [Decidable p] (h : p) : true = decide p := (decide_eq_true h).symm
theorem df {p : Prop} [Decidable p] (h : ¬ p) : false = decide p := (decide_eq_false h).symm
theorem dd {p q : Prop} [Decidable p] [Decidable q] (h : p ↔ q) : decide p = decide q := by
 by_cases hq : q
 ·rw [decide_eq_true hq, decide_eq_true (h.2 hq)]
 ·rw [decide_eq_false hq, decide_eq_false (fun hp => hq (h.1 hp))]
theorem db {b : Bool} {q : Prop} [Decidable q] (h : b = true ↔ q) : b = decide q := by
 cases b
 ·exact df (fun hq => by have := h.2 hq; cases this)
 ·exact dt (h.1 rfl)
end Go.Proofs.Ytligpghohcfpnaa
/- Words and operators, in plain Lean. -/
namespace Go.Proofs.Ytligpghohcfpnaa
open Go Go.AW

def gO (w : Int) : Nat := if w < 0 then 0 else if 64 < w then 64 else w.toNat
theorem lH (w : Int) : gO w ≤ 64 := by unfold gO; (repeat' split) <;> omega
def kE (w : Int) (x : Nat) : Nat := x % 2 ^ gO w
theorem v7 : ∀ k : Nat, k < 65 → 18446744073709551615 / 2 ^ (64 - k) = 2 ^ k - 1 := by decide +kernel
theorem oA : ∀ k : Nat, k < 65 → 1 ≤ 2 ^ k ∧ 2 ^ k ≤ 18446744073709551616 := by decide +kernel
theorem BS (w : Int) : 18446744073709551615 / 2 ^ (64 - gO w) = 2 ^ gO w - 1 := v7 _ (by have := lH w; omega)
theorem BT (w : Int) : 2 ^ gO w - 1 < 18446744073709551616 := by have := oA (gO w) (by have := lH w; omega); omega
theorem z2 (w : Int) (x : Nat) : x &&& (2 ^ gO w - 1) = kE w x := Nat.and_two_pow_sub_one_eq_mod x (gO w)
theorem BU (w : Int) (x : Nat) : kE w x < 2 ^ gO w := Nat.mod_lt _ (by have := oA (gO w) (by have := lH w; omega); omega)
theorem sj (w : Int) (x : Nat) : kE w x < 18446744073709551616 := by have := BU w x; have := oA (gO w) (by have := lH w; omega); omega

def im (k x : Nat) : List Int := (List.range k).map fun i => ((x / 2 ^ i % 2 : Nat) : Int)
theorem xB (k x : Nat) : (im k x).length = k := by simp [im]
theorem v8 (k x : Nat) : im (k + 1) x = im k x ++ [((x / 2 ^ k % 2 : Nat) : Int)] := by
 simp [im, List.range_succ]
def me (l : List Int) : Nat := l.foldr (fun b a => 2 * a + b.toNat) 0
theorem v9 (l : List Int) (i : Nat) (h : i < l.length) : me (l.drop i) = 2 * me (l.drop (i + 1)) + (l.getD i 0).toNat := by
 rw [List.drop_eq_getElem_cons h, List.getD_eq_getElem?_getD, List.getElem?_eq_getElem h]; rfl
theorem z3 (l : List Int) (h : ∀ b ∈ l, b.toNat ≤ 1) : me l < 2 ^ l.length := by
 induction l with
 | nil => simp [me]
 | cons b r ih =>
  have h1 := ih (fun x hx => h x (List.mem_cons_of_mem _ hx)); have h2 := h b (List.mem_cons_self ..)
  show 2 * me r + b.toNat < 2 ^ (r.length + 1)
  rw [Nat.pow_succ]; omega
theorem xC {l : List Int} {i : Int} {x : Nat} (h1 : ∀ b ∈ l, 0 ≤ b ∧ b ≤ 1) (h2 : l.length ≤ 64) (hi : 0 ≤ i ∧ i < (l.length : Int)) (hx : x = me (l.drop (i + 1).toNat)) :
  ((2 * x % 18446744073709551616) + (l.getD i.toNat 0).toNat) % 18446744073709551616 = me (l.drop (i - 1 + 1).toNat) := by
 have hs := v9 l i.toNat om
 have hl := z3 (l.drop i.toNat) (fun b hb => by have := h1 b (List.mem_of_mem_drop hb); omega)
 have hp := oA (l.drop i.toNat).length (by rw [List.length_drop]; omega)
 rw [show (i + 1).toNat = i.toNat + 1 by omega] at hx
 rw [show i - 1 + 1 = i by omega, hs, ← hx]
 rw [hs, ← hx] at hl
 omega
theorem bm {l : List Int} {i : Nat} (h : i < l.length) : l.getD i 0 ∈ l := by
 rw [List.getD_eq_getElem?_getD, List.getElem?_eq_getElem h]; exact List.getElem_mem h
theorem z4 (k x : Nat) : ∀ b ∈ im k x, 0 ≤ b ∧ b ≤ 1 := by
 intro b hb
 obtain ⟨i, _, rfl⟩ := List.mem_map.1 hb
 omega
theorem vA (k x : Nat) : me (im k x) = x % 2 ^ k := by
 induction k generalizing x with
 | zero => simp [me, im, Nat.mod_one]
 | succ k ih =>
  have e : im (k + 1) x = ((x % 2 : Nat) : Int) :: im k (x / 2) := by
   unfold im
   rw [List.range_succ_eq_map, List.map_cons, List.map_map]
   congr 1
   ·simp
   ·apply List.map_congr_left
    intro i _
    show (((x / 2 ^ (i + 1) % 2 : Nat)) : Int) = _
    rw [Nat.pow_succ, Nat.mul_comm, ← Nat.div_div_eq_div_mul]
  rw [e]
  show 2 * me (im k (x / 2)) + (((x % 2 : Nat) : Int)).toNat = _
  rw [ih, Int.toNat_natCast, Nat.pow_succ, Nat.mul_comm (2 ^ k) 2, Nat.mod_mul]; omega

def oB (op : Int) : Prop := 15 ≤ op ∧ op ≤ 20
def Gg (op : Int) : Prop := 2 ≤ op ∧ op ≤ 20
def Seq (op : Int) : Prop := 4 ≤ op ∧ op ≤ 8
def Unary (op : Int) : Prop := op = 22 ∨ op = 23 ∨ op = 24
def Plain (op : Int) : Prop := (Gg op ∧ ¬ Seq op) ∨ op = 21 ∨ Unary op
def b7 (k : Int) : Prop := k = 1 ∨ k = 2 ∨ k = 3
def In (i n : Int) : Prop := 0 ≤ i ∧ i < n
theorem ig {p : Prop} (h : p := by first | omega | (simp [-List.getD_eq_getElem?_getD]; done) | (simp [-List.getD_eq_getElem?_getD]; omega) | (unfold In at *; omega)) : p := h
instance (w : Int) : Decidable (oB w) := by unfold oB; infer_instance
instance (w : Int) : Decidable (Gg w) := by unfold Gg; infer_instance
instance (w : Int) : Decidable (Seq w) := by unfold Seq; infer_instance
instance (w : Int) : Decidable (Unary w) := by unfold Unary; infer_instance
instance (w : Int) : Decidable (Plain w) := by unfold Plain; infer_instance
instance (w : Int) : Decidable (b7 w) := by unfold b7; infer_instance
instance (i n : Int) : Decidable (In i n) := by unfold In; infer_instance
theorem vB (op : Int) : dq op ≠ 0 ↔ Plain op := by unfold dq Plain Gg Seq Unary; (repeat' split) <;> omega
end Go.Proofs.Ytligpghohcfpnaa
/- When the aa of a cell fit, in plain Lean. -/
namespace Go.Proofs.Ytligpghohcfpnaa
open Go Go.AW

def ab.wd (n : ab) (x : Int) : Int := n.aa.getD x.toNat 0
def ab.ow (n : ab) (c : Cell) : Int := if 0 ≤ c.out then n.wd c.out else 0
def ab.av (n : ab) (c : Cell) (k : Nat) : Int := n.wd (c.args.getD k 0)
def fH (op a b d w : Int) : Prop :=
 (op = 21 ∧ a = 1 ∧ b = w ∧ d = w) ∨ ((op = 22 ∨ op = 23) ∧ a ≤ w) ∨ (op = 24 ∧ w ≤ a) ∨ (oB op ∧ w = 1 ∧ a = b) ∨ (¬ oB op ∧ (op < 21 ∨ 24 < op) ∧ a = w ∧ b = w)
def jN (n : ab) (c : Cell) (k : Nat) : Prop := (k % 2 = 0 ∧ n.av c k = 1) ∨ (k % 2 = 1 ∧ n.av c k = n.ow c)
def Fits (n : ab) (c : Cell) : Prop :=
 (c.kind = 1 ∧ kE (n.ow c) c.num = c.num) ∨
 (c.kind = 2 ∧ fH c.op (n.av c 0) (n.av c 1) (n.av c 2) (n.ow c)) ∨
 (c.kind = 3 ∧ ∀ k, k < c.args.length → jN n c k) ∨
 (c.kind = 4 ∧ n.av c 0 = 1 ∧ n.av c 1 = n.ow c ∧ kE (n.ow c) c.num = c.num) ∨
 (c.kind = 5 ∧ n.av c 0 = n.ow c ∧ n.av c 1 = n.ow c) ∨
 (c.kind = 6 ∧ n.av c 0 = 1 ∧ (n.aw.getD c.mem.toNat default).width = n.ow c) ∨
 (c.kind = 7 ∧ n.av c 0 = 1 ∧ (n.aw.getD c.mem.toNat default).width = n.av c 2) ∨
 (c.kind = 8 ∧ n.ins.getD c.num 0 = n.ow c) ∨
 (c.kind = 9 ∧ n.ow c = 1) ∨
 (c.kind = 10 ∧ (n.streams.getD c.mem.toNat default).width = n.ow c)
theorem uW {p : Prop} (h : p := by ((simp only [Fits, fH, oB, *, Int.reduceEq, Bool.not_eq_true, false_and, true_and, and_true, and_false, or_false, false_or, ne_eq]) <;> omega)) : p := h
instance (op a b d w : Int) : Decidable (fH op a b d w) := by unfold fH; infer_instance
noncomputable instance (n : ab) (c : Cell) : Decidable (Fits n c) := Classical.propDecidable _
structure wS (n : ab) (c : Cell) : Prop where
 out : c.out = -1 ∧ c.kind = 7 ∨ (0 ≤ c.out ∧ c.out < n.aa.length) ∧ c.kind ≠ 7
 args : ∀ x ∈ c.args, 0 ≤ x ∧ x < n.aa.length
theorem wS.arg {n : ab} {c : Cell} (h : wS n c) {k : Nat} (hk : k < c.args.length) : 0 ≤ c.args.getD k 0 ∧ c.args.getD k 0 < n.aa.length := h.args _ (bm hk)
section
variable {n : ab} {c : Cell} (h : Shaped n c)
include h
theorem Shaped.k2 (k : c.kind = 2) : ((2 ≤ c.op ∧ c.op ≤ 3 ∨ 9 ≤ c.op ∧ c.op ≤ 20) ∧ c.args.length = 2) ∨ (c.op = 21 ∧ c.args.length = 3) ∨ (22 ≤ c.op ∧ c.op ≤ 24 ∧ c.args.length = 1) := by
 simp only [Shaped, k, Int.reduceEq, false_and, true_and, false_or, or_false] at h
 obtain ⟨h1, h2, _⟩ := h
 unfold dq at h1 h2
 split at h2
 ·omega
 ·split at h2
  ·omega
  ·split at h2 <;> omega
theorem Shaped.k3 (k : c.kind = 3) : 2 ≤ c.args.length ∧ c.args.length % 2 = 0 := by simp only [Shaped, k, Int.reduceEq, false_and, true_and, false_or, or_false] at h; omega
theorem Shaped.k4 (k : c.kind = 4) : c.args.length = 2 := by simp only [Shaped, k, Int.reduceEq, false_and, true_and, false_or, or_false] at h; omega
theorem Shaped.k5 (k : c.kind = 5) : c.args.length = 2 ∧ 4 ≤ c.op ∧ c.op ≤ 8 ∧ 1 ≤ c.num ∧ c.num ≤ 4096 := by simp only [Shaped, k, Int.reduceEq, false_and, true_and, false_or, or_false] at h; omega
theorem Shaped.k6 (k : c.kind = 6) : c.args.length = 2 ∧ 0 ≤ c.mem ∧ c.mem < n.aw.length := by simp only [Shaped, k, Int.reduceEq, false_and, true_and, false_or, or_false] at h; omega
theorem Shaped.k7 (k : c.kind = 7) : c.args.length = 3 ∧ 0 ≤ c.mem ∧ c.mem < n.aw.length := by simp only [Shaped, k, Int.reduceEq, false_and, true_and, false_or, or_false] at h; omega
theorem Shaped.k8 (k : c.kind = 8) : c.num < n.ins.length := by simp only [Shaped, k, Int.reduceEq, false_and, true_and, false_or, or_false] at h; omega
theorem Shaped.JQ (k : c.kind = 10) : 0 ≤ c.mem ∧ c.mem < n.streams.length := by simp only [Shaped, k, Int.reduceEq, false_and, true_and, false_or, or_false] at h; omega
theorem Shaped.kind : 1 ≤ c.kind ∧ c.kind ≤ 10 := by unfold Shaped at h; omega
end
theorem bo {α : Type} (l : List α) (i j : Nat) (v d : α) : (l.set i v).getD j d = if i = j ∧ i < l.length then v else l.getD j d := by
 rw [List.getD_eq_getElem?_getD, List.getD_eq_getElem?_getD, List.getElem?_set]
 by_cases h : i = j
 ·subst h
  by_cases h2 : i < l.length
  ·simp [h2]
  ·simp [h2]
 ·simp [h]
theorem xD {α : Type} {l : List α} {i : Nat} {d v : α} {f : Nat → α} (h : ∀ j, j < i → l.getD j d = f j) (hv : v = f i) (hi : i < l.length) : ∀ j, j < i + 1 → (l.set i v).getD j d = f j := by
 intro j hj
 rw [bo]
 split
 ·next e => rw [← e.1]; exact hv
 ·exact h j om
theorem z5 {n : ab} {c : Cell} {i : Nat} (h : ∀ k, k < i → jN n c k) (hi : jN n c i) : ∀ k, k < i + 1 → jN n c k := by
 intro k hk
 rcases Nat.lt_succ_iff_lt_or_eq.1 hk with h1 | h1
 ·exact h k h1
 ·exact h1 ▸ hi
end Go.Proofs.Ytligpghohcfpnaa
/- Searching in lists, in plain Lean. -/
namespace Go.Proofs.Ytligpghohcfpnaa
open Go Go.AW

section
variable {α : Type} {d : α} {p : α → Bool} {l : List α}
def sQ (p : α → Bool) (l : List α) : Int := if l.any p then (l.findIdx p : Int) else -1
theorem nX {i : Nat} (h0 : ∀ j, j < i → p (l.getD j d) = false) (hi : i < l.length) (h : p (l.getD i d) = true) : (i : Int) = sQ p l := by
 have e : l.findIdx p = i := by
  rw [List.findIdx_eq hi]
  rw [List.getD_eq_getElem?_getD, List.getElem?_eq_getElem hi] at h
  refine ⟨h, fun j hj => ?_⟩
  have := h0 j hj
  rw [List.getD_eq_getElem?_getD, List.getElem?_eq_getElem om] at this
  exact this
 have ha : l.any p = true := by
  rw [List.any_eq_true]
  refine ⟨l.getD i d, ?_, h⟩
  rw [List.getD_eq_getElem?_getD, List.getElem?_eq_getElem hi]; exact List.getElem_mem hi
 unfold sQ; rw [if_pos ha, e]
theorem pt (h0 : ∀ j, j < l.length → p (l.getD j d) = false) : -1 = sQ p l := by
 have ha : ¬ (l.any p = true) := by
  rw [List.any_eq_true]
  rintro ⟨x, hx, hp⟩
  obtain ⟨i, hi, rfl⟩ := List.mem_iff_getElem.1 hx
  have := h0 i hi
  rw [List.getD_eq_getElem?_getD, List.getElem?_eq_getElem hi] at this
  exact absurd (hp.symm.trans this) ae
 unfold sQ; rw [if_neg ha]
theorem qO : decide (0 ≤ sQ p l) = l.any p := by
 unfold sQ
 by_cases h : l.any p = true
 ·rw [if_pos h, h]; simp
 ·rw [if_neg h]; simp only [Bool.not_eq_true] at h; rw [h]; rfl
theorem mU {i : Nat} (h : ∀ j, j < i → p (l.getD j d) = false) (hi : p (l.getD i d) = false) : ∀ j, j < i + 1 → p (l.getD j d) = false := by
 intro k hk
 rcases Nat.lt_succ_iff_lt_or_eq.1 hk with h1 | h1
 ·exact h k h1
 ·exact h1 ▸ hi
theorem fX {i : Nat} (h : i < l.length) : l.getD i d ∈ l := by
 rw [List.getD_eq_getElem?_getD, List.getElem?_eq_getElem h]; exact List.getElem_mem h
theorem sm {ls : List (List α)} {i : Nat} (hi : i < ls.length) : (ls.take (i + 1)).flatten = (ls.take i).flatten ++ ls.getD i [] := by
 rw [List.take_add_one, List.flatten_append, List.getD_eq_getElem?_getD, List.getElem?_eq_getElem hi]; simp
theorem oC (ls : List (List α)) (i : Nat) : (ls.take i).flatten.length ≤ ls.flatten.length := by
 conv => rhs; rw [← List.take_append_drop i ls, List.flatten_append, List.length_append]
 omega
end
end Go.Proofs.Ytligpghohcfpnaa
/- When a netlist is well formed, in plain Lean. -/
namespace Go.Proofs.Ytligpghohcfpnaa
open Go Go.AW

def kY (m : dV) : Prop := jr m.name ∧ fj m.width ∧ 1 ≤ m.len ∧ m.len ≤ 4096 ∧ m.kind = 0 ∧ m.qN = 0
def k9 (n : ab) (i : Nat) : Prop :=
 jr (n.streams.getD i default).name ∧ fj (n.streams.getD i default).width ∧ In (n.aX.getD i 0) n.aa.length ∧
 ((n.streams.getD i default).out = true → In (n.data.getD i 0) n.aa.length) ∧ ((n.streams.getD i default).out = false → n.data.getD i 0 = -1)
def iA (n : ab) (c : Cell) : Prop := (∀ x ∈ c.args, In x n.aa.length) ∧ Shaped n c ∧ (c.kind = 7 → c.out = -1) ∧ (c.kind ≠ 7 → In c.out n.aa.length)
def di (l : List Cell) (w : Nat) : Nat := l.countP (fun c => decide (c.kind ≠ 7 ∧ c.out = (w : Int)))
structure aW (n : ab) : Prop where
 name : jr n.name
 cK : n.cells.length ≤ 65536
 cv : n.aa.length ≤ 65536
 iq : n.aw.length ≤ 64
 bO : n.streams.length ≤ 64
 cP : n.aX.length = n.streams.length
 eY : n.data.length = n.streams.length
 wide : ∀ j, j < (n.aa ++ n.ins).length → fj ((n.aa ++ n.ins).getD j 0)
 aw : ∀ j, j < n.aw.length → kY (n.aw.getD j default)
 strs : ∀ j, j < n.streams.length → k9 n j
 freeze : In n.freeze n.aa.length
 done : In n.done n.aa.length
 bI : ∀ r ∈ n.bI, In r n.aa.length
 cells : ∀ j, j < n.cells.length → iA n (n.cells.getD j default)
 iB : ∀ w, w < n.aa.length → di n.cells w = 1
noncomputable instance (n : ab) : Decidable (aW n) := Classical.propDecidable _
theorem iU {p : Nat → Prop} {i : Nat} (h : ∀ j, j < i → p j) (hi : p i) : ∀ j, j < i + 1 → p j := by
 intro k hk
 rcases Nat.lt_succ_iff_lt_or_eq.1 hk with h1 | h1
 ·exact h k h1
 ·exact h1 ▸ hi
theorem fI {l : List Cell} {i : Nat} (hi : i < l.length) (w : Nat) : di (l.take (i + 1)) w = di (l.take i) w + if (l.getD i default).kind ≠ 7 ∧ (l.getD i default).out = (w : Int) then 1 else 0 := by
 rw [List.take_add_one, List.getElem?_eq_getElem hi, List.getD_eq_getElem?_getD, List.getElem?_eq_getElem hi]
 simp only [di, List.countP_append, Option.toList_some, List.countP_cons, List.countP_nil, Option.getD_some, Nat.zero_add, decide_eq_true_eq]
theorem pv (l : List Cell) (i w : Nat) : di (l.take i) w ≤ di l w := by
 conv => rhs; rw [← List.take_append_drop i l]
 simp only [di, List.countP_append]; omega
def tH (n : ab) (i : Nat) (d : List Bool) : Prop := ∀ w, w < n.aa.length → di (n.cells.take i) w ≤ 1 ∧ (d.getD w false = true ↔ di (n.cells.take i) w = 1)
theorem tH.init (n : ab) : tH n 0 (List.replicate n.aa.length false) := by
 intro w hw
 refine ⟨by simp [di], ?_⟩
 rw [List.getD_eq_getElem?_getD, List.getElem?_replicate, if_pos hw]; simp [di]
theorem tH.skip {n : ab} {i : Nat} {d : List Bool} (h : tH n i d) (hi : i < n.cells.length) (h7 : (n.cells.getD i default).kind = 7) : tH n (i + 1) d := by
 intro w hw
 rw [fI hi, if_neg (fun h => h.1 h7)]
 exact h w hw
theorem tH.step {n : ab} {i : Nat} {d : List Bool} (h : tH n i d) (hi : i < n.cells.length) (h7 : (n.cells.getD i default).kind ≠ 7) (ho : In (n.cells.getD i default).out n.aa.length)
  (hl : d.length = n.aa.length) (hn : d.getD (n.cells.getD i default).out.toNat false = false) : tH n (i + 1) (d.set (n.cells.getD i default).out.toNat true) := by
 intro w hw
 have hh := h w hw
 rw [fI hi, bo]
 unfold In at ho
 by_cases e : (n.cells.getD i default).out = (w : Int)
 ·rw [if_pos ⟨h7, e⟩, if_pos ⟨om, om⟩]
  have e2 : (n.cells.getD i default).out.toNat = w := by omega
  rw [e2] at hn
  have h0 : di (n.cells.take i) w ≠ 1 := fun h1 => by have := hh.2.2 h1; rw [hn] at this; cases this
  have HG := hh.1
  exact ⟨om, by simp; omega⟩
 ·rw [if_neg (fun h => e h.2), if_neg om]
  exact hh
theorem tH.dup {n : ab} {i : Nat} {d : List Bool} (h : tH n i d) (hi : i < n.cells.length) (h7 : (n.cells.getD i default).kind ≠ 7) (ho : In (n.cells.getD i default).out n.aa.length)
  (hn : d.getD (n.cells.getD i default).out.toNat false = true) (hf : aW n) : False := by
 unfold In at ho
 have hh := h (n.cells.getD i default).out.toNat om
 have h1 := hh.2.1 hn
 have h2 := fI hi (n.cells.getD i default).out.toNat
 rw [if_pos ⟨h7, om⟩, h1] at h2
 have h3 := pv n.cells (i + 1) (n.cells.getD i default).out.toNat
 have h4 := hf.iB (n.cells.getD i default).out.toNat om
 omega
theorem tH.all {n : ab} {d : List Bool} (h : tH n n.cells.length d) (hl : d.length = n.aa.length) : (!(d.any (fun x => false == x))) = true ↔ ∀ w, w < n.aa.length → di n.cells w = 1 := by
 unfold tH at h
 rw [List.take_length] at h
 rw [Bool.not_eq_true', List.any_eq_false]
 constructor
 ·intro ha w hw
  refine (h w hw).2.1 ?_
  have := ha (d.getD w false) (fX om)
  cases hd : d.getD w false
  ·rw [hd] at this; exact absurd rfl this
  ·rfl
 ·intro ha x hx
  obtain ⟨w, hw, rfl⟩ := List.mem_iff_getElem.1 hx
  have := (h w om).2.2 (ha w om)
  rw [List.getD_eq_getElem?_getD, List.getElem?_eq_getElem hw] at this
  have t : d[w] = true := this
  rw [t]; decide
theorem nw {l : List Int} {p : Int → Prop} [DecidablePred p] : (l.any (fun z => !decide (p z))) = true ↔ ¬ ∀ z ∈ l, p z := by
 rw [List.any_eq_true]
 constructor
 ·rintro ⟨x, hx, hp⟩ h
  simp [h x hx] at hp
 ·intro h
  refine Classical.byContradiction fun hh => h fun z hz => Classical.byContradiction fun hp => hh ⟨z, hz, by simp [hp]⟩
theorem kF {l : List Int} {p : Int → Prop} [DecidablePred p] (h : (l.any (fun z => !decide (p z))) = false) : ∀ z ∈ l, p z := by
 refine Classical.byContradiction fun hh => ?_
 rw [nw.2 hh] at h; cases h
end Go.Proofs.Ytligpghohcfpnaa
/- When the aa of a netlist fit, in plain Lean. -/
namespace Go.Proofs.Ytligpghohcfpnaa
open Go Go.AW

def mV (n : ab) (i : Nat) : Prop := n.wd (n.aX.getD i 0) = 1 ∧ ((n.streams.getD i default).out = true → n.wd (n.data.getD i 0) = (n.streams.getD i default).width)
structure Fit (n : ab) : Prop where
 freeze : n.wd n.freeze = 1
 done : n.wd n.done = 1
 strs : ∀ j, j < n.streams.length → mV n j
 cells : ∀ j, j < n.cells.length → Fits n (n.cells.getD j default)
noncomputable instance (n : ab) : Decidable (Fit n) := Classical.propDecidable _
theorem iA.HH {n : ab} {c : Cell} (h : iA n c) : wS n c := by
 obtain ⟨h1, h2, h3, h4⟩ := h
 refine ⟨?_, h1⟩
 by_cases h7 : c.kind = 7
 ·exact .inl ⟨h3 h7, h7⟩
 ·exact .inr ⟨h4 h7, h7⟩
theorem aW.cell {n : ab} (h : aW n) {c : Cell} (hc : c ∈ n.cells) : iA n c := by
 obtain ⟨i, hi, rfl⟩ := List.mem_iff_getElem.1 hc
 have := h.cells i hi
 rw [List.getD_eq_getElem?_getD, List.getElem?_eq_getElem hi] at this
 exact this
theorem z6 {α : Type} {l : List α} {p : α → Prop} [DecidablePred p] : (l.any (fun z => !decide (p z))) = true ↔ ¬ ∀ z ∈ l, p z := by
 rw [List.any_eq_true]
 constructor
 ·rintro ⟨x, hx, hp⟩ h
  simp [h x hx] at hp
 ·intro h
  refine Classical.byContradiction fun hh => h fun z hz => Classical.byContradiction fun hp => hh ⟨z, hz, by simp [hp]⟩
theorem uf {α : Type} {l : List α} {p : α → Prop} {d : α} : (∀ j, j < l.length → p (l.getD j d)) ↔ ∀ z ∈ l, p z := by
 constructor
 ·intro h z hz
  obtain ⟨i, hi, rfl⟩ := List.mem_iff_getElem.1 hz
  have := h i hi
  rw [List.getD_eq_getElem?_getD, List.getElem?_eq_getElem hi] at this
  exact this
 ·exact fun h j hj => h _ (fX hj)
theorem ug {n : ab} (h1 : n.wd n.freeze = 1) (h2 : n.wd n.done = 1) (h3 : ∀ j, j < n.streams.length → mV n j) : (!(n.cells.any (fun z => !decide (Fits n z)))) = true ↔ Fit n := by
 rw [Bool.not_eq_true', ← Bool.not_eq_true, z6, Classical.not_not, ← uf (d := default)]
 exact ⟨fun h => ⟨h1, h2, h3, h⟩, fun h => h.cells⟩
end Go.Proofs.Ytligpghohcfpnaa
/- Orders of cells, in plain Lean. -/
namespace Go.Proofs.Ytligpghohcfpnaa
open Go Go.AW

theorem length_le_of_subset {α : Type} [DecidableEq α] : ∀ {l m : List α}, l.Nodup → (∀ x ∈ l, x ∈ m) → l.length ≤ m.length
 | [], _, _, _ => Nat.zero_le _
 | a :: t, m, hn, hs => by
  have ha := hs a (List.mem_cons_self ..)
  obtain ⟨h1, h2⟩ := List.nodup_cons.1 hn
  have := length_le_of_subset (l := t) (m := m.erase a) h2 (fun x hx => (List.mem_erase_of_ne (by rintro rfl; exact h1 hx)).2 (hs x (List.mem_cons_of_mem _ hx)))
  have hm : 0 < m.length := List.length_pos_of_mem ha
  rw [List.length_erase_of_mem ha] at this
  simp only [List.length_cons]; omega

def ab.cell (n : ab) (i : Int) : Cell := n.cells.getD i.toNat default
def bA (n : ab) (i w : Int) : Prop := (0 ≤ i ∧ i < n.cells.length) ∧ (n.cell i).kind ≠ 7 ∧ (n.cell i).out = w
def bB (n : ab) (i : Int) : Prop := (0 ≤ i ∧ i < n.cells.length) ∧ b7 (n.cell i).kind
def wT (n : ab) (w : Int) : Prop := ∃ j, bB n j ∧ (n.cell j).out = w
noncomputable instance (n : ab) : DecidablePred (wT n) := fun _ => Classical.propDecidable _
noncomputable instance (n : ab) (i : Int) : Decidable (bB n i) := Classical.propDecidable _
theorem bB.jl {n : ab} {i : Int} (h : bB n i) : bA n i (n.cell i).out := ⟨h.1, fun h7 => by have := h.2; rw [h7] at this; revert this; unfold b7; omega, rfl⟩
theorem mW (n : ab) (i : Nat) : n.cell (i : Int) = n.cells.getD i default := rfl

theorem uh {l : List Cell} {i j w : Nat} (h : i ≤ j) : di (l.take i) w ≤ di (l.take j) w := by
 have := pv (l.take j) i w
 rwa [List.take_take, Nat.min_eq_left h] at this

section
variable {n : ab} (hf : aW n)
include hf
theorem aW.cellAt {i : Int} (h : 0 ≤ i ∧ i < n.cells.length) : iA n (n.cell i) := hf.cells i.toNat om
theorem aW.eG {i w : Int} (h : bA n i w) : In w n.aa.length := h.2.2 ▸ (hf.cellAt h.1).2.2.2 h.2.1
theorem aW.gY {i x : Int} (h : 0 ≤ i ∧ i < n.cells.length) (hx : x ∈ (n.cell i).args) : In x n.aa.length := (hf.cellAt h).1 x hx
theorem aW.unique {i j w : Int} (h1 : bA n i w) (h2 : bA n j w) : i = j := by
 have key : ∀ {i j : Int}, bA n i w → bA n j w → i < j → False := by
  intro i j h1 h2 iv
  have hw := hf.eG h1
  unfold In at hw
  obtain ⟨a1, a2, a3⟩ := h1
  obtain ⟨b1, b2, b3⟩ := h2
  have e1 := fI (l := n.cells) (i := i.toNat) om w.toNat
  have e2 := fI (l := n.cells) (i := j.toNat) om w.toNat
  rw [if_pos ⟨a2, by show (n.cell i).out = _; omega⟩] at e1
  rw [if_pos ⟨b2, by show (n.cell j).out = _; omega⟩] at e2
  have e3 := uh (l := n.cells) (i := i.toNat + 1) (j := j.toNat) (w := w.toNat) om
  have e4 := pv n.cells (j.toNat + 1) w.toNat
  have e5 := hf.iB w.toNat om
  omega
 rcases Int.lt_trichotomy i j with h | h | h
 ·exact (key h1 h2 h).elim
 ·exact h
 ·exact (key h2 h1 h).elim
theorem aW.g9 {w : Int} (hw : In w n.aa.length) : ∃ i, bA n i w := by
 unfold In at hw
 have h := hf.iB w.toNat om
 have hp : 0 < di n.cells w.toNat := by omega
 unfold di at hp
 obtain ⟨c, hc, hp⟩ := List.countP_pos_iff.1 hp
 obtain ⟨i, hi, rfl⟩ := List.mem_iff_getElem.1 hc
 simp only [decide_eq_true_eq] at hp
 have e : n.cell (i : Int) = n.cells[i] := by rw [mW, List.getD_eq_getElem?_getD, List.getElem?_eq_getElem hi]; rfl
 refine ⟨(i : Int), ⟨om, om⟩, ?_⟩
 rw [e]; exact ⟨hp.1, om⟩
end

def eQ (n : ab) (k : Nat) (l : List Bool) : Prop := ∀ w : Int, In w n.aa.length → (l.getD w.toNat false = true ↔ ∃ j, bB n j ∧ j < k ∧ (n.cell j).out = w)
theorem eQ.init (n : ab) : eQ n 0 (List.replicate n.aa.length false) := by
 intro w hw
 unfold In at hw
 rw [List.getD_eq_getElem?_getD, List.getElem?_replicate, if_pos om]
 exact ⟨fun h => (by cases h), fun ⟨j, h1, h2, _⟩ => (by have := h1.1; omega)⟩
theorem eQ.skip {n : ab} {k : Nat} {l : List Bool} (h : eQ n k l) (hc : ¬ b7 (n.cells.getD k default).kind) : eQ n (k + 1) l := by
 intro w hw
 rw [h w hw]
 constructor
 ·rintro ⟨j, h1, h2, h3⟩; exact ⟨j, h1, om, h3⟩
 ·rintro ⟨j, h1, h2, h3⟩
  refine ⟨j, h1, ?_, h3⟩
  rcases Int.lt_or_eq_of_le (show j ≤ k by omega) with h' | h'
  ·exact h'
  ·subst h'; exact absurd h1.2 hc
theorem eQ.step {n : ab} {k : Nat} {l : List Bool} (h : eQ n k l) (hk : k < n.cells.length) (hl : l.length = n.aa.length) (hc : b7 (n.cells.getD k default).kind) (ho : In (n.cells.getD k default).out n.aa.length) :
  eQ n (k + 1) (l.set (n.cells.getD k default).out.toNat true) := by
 intro w hw
 unfold In at ho
 have pP := hw
 unfold In at pP
 rw [bo]
 by_cases e : (n.cells.getD k default).out = w
 ·rw [if_pos ⟨om, om⟩]
  exact ⟨fun _ => ⟨(k : Int), ⟨⟨om, om⟩, hc⟩, om, e⟩, fun _ => rfl⟩
 ·rw [if_neg om, h w hw]
  constructor
  ·rintro ⟨j, h1, h2, h3⟩; exact ⟨j, h1, om, h3⟩
  ·rintro ⟨j, h1, h2, h3⟩
   refine ⟨j, h1, ?_, h3⟩
   rcases Int.lt_or_eq_of_le (show j ≤ k by omega) with h' | h'
   ·exact h'
   ·subst h'; exact absurd h3 e
theorem eQ.all {n : ab} {l : List Bool} (h : eQ n n.cells.length l) {w : Int} (hw : In w n.aa.length) : l.getD w.toNat false = true ↔ wT n w := by
 rw [h w hw]
 exact ⟨fun ⟨j, h1, _, h3⟩ => ⟨j, h1, h3⟩, fun ⟨j, h1, h3⟩ => ⟨j, h1, by have := h1.1; omega, h3⟩⟩

def gP (n : ab) (k : Nat) : List Int := ((List.range k).filter (fun i => !decide (b7 (n.cells.getD i default).kind))).map (fun (i : Nat) => (i : Int))
theorem sn (n : ab) (k : Nat) : gP n (k + 1) = gP n k ++ if b7 (n.cells.getD k default).kind then [] else [(k : Int)] := by
 unfold gP
 rw [List.range_succ, List.filter_append, List.map_append]
 congr 1
 by_cases h : b7 (n.cells.getD k default).kind
 ·rw [if_pos h]; simp [-List.getD_eq_getElem?_getD, h]
 ·rw [if_neg h]; simp [-List.getD_eq_getElem?_getD, h]
theorem iV {n : ab} {k : Nat} {x : Int} : x ∈ gP n k ↔ (0 ≤ x ∧ x < k) ∧ ¬ b7 (n.cell x).kind := by
 unfold gP
 rw [List.mem_map]
 constructor
 ·rintro ⟨i, h, rfl⟩
  rw [List.mem_filter, List.mem_range] at h
  exact ⟨⟨om, om⟩, by rw [mW]; simpa [-List.getD_eq_getElem?_getD] using h.2⟩
 ·rintro ⟨h1, h2⟩
  refine ⟨x.toNat, ?_, om⟩
  rw [List.mem_filter, List.mem_range]
  have h3 : ¬ b7 (n.cells.getD x.toNat default).kind := h2
  exact ⟨om, by simpa [-List.getD_eq_getElem?_getD] using h3⟩
theorem qP (n : ab) (k : Nat) : (gP n k).Nodup := by
 unfold gP
 rw [List.Nodup, List.pairwise_map]
 refine List.Pairwise.imp (fun {a b} h => ?_) (List.Pairwise.filter _ List.nodup_range)
 omega
theorem z7 (n : ab) (k : Nat) : (gP n k).length ≤ k := by
 unfold gP
 rw [List.length_map]
 exact Nat.le_trans (List.length_filter_le ..) (by simp)

def Open (n : ab) (done : List Int) (x : Int) : Prop := wT n x ∧ ∀ j ∈ done, (n.cell j).out ≠ x
noncomputable instance (n : ab) (done : List Int) : DecidablePred (Open n done) := fun _ => Classical.propDecidable _
noncomputable def cY (n : ab) (done : List Int) (i : Int) : Nat := (n.cell i).args.countP (fun x => decide (Open n done x))
theorem z8 (n : ab) (i : Int) : cY n [] i = (n.cell i).args.countP (fun x => decide (wT n x)) := by
 unfold cY
 apply List.countP_congr
 intro x _
 simp [Open]
theorem ny {n : ab} {done : List Int} {i : Int} : cY n done i = 0 ↔ ∀ x ∈ (n.cell i).args, wT n x → ∃ j ∈ done, (n.cell j).out = x := by
 unfold cY
 rw [List.countP_eq_zero]
 constructor
 ·intro h x hx hc
  refine Classical.byContradiction fun hh => h x hx (decide_eq_true ?_)
  exact ⟨hc, fun j hj e => hh ⟨j, hj, e⟩⟩
 ·intro h x hx hh
  have hh := of_decide_eq_true hh
  obtain ⟨j, hj, e⟩ := h x hx hh.1
  exact hh.2 j hj e
theorem xE {n : ab} (hf : aW n) {done : List Int} {i0 : Int} (h0 : bB n i0) (hd : ∀ j ∈ done, bB n j) (hn : i0 ∉ done) (i : Int) : cY n done i = cY n (done ++ [i0]) i + (n.cell i).args.count (n.cell i0).out := by
 unfold cY
 generalize (n.cell i).args = l
 induction l with
 | nil => rfl
 | cons x r ih =>
  rw [List.countP_cons, List.countP_cons, List.count_cons, ih]
  simp only [decide_eq_true_eq, beq_iff_eq]
  by_cases e : x = (n.cell i0).out
  ·have h1 : Open n done x := by
    refine ⟨⟨i0, h0, e.symm⟩, fun j hj e' => hn ?_⟩
    have := hf.unique (hd j hj).jl (by rw [e', e]; exact h0.jl)
    exact this ▸ hj
   have h2 : ¬ Open n (done ++ [i0]) x := fun h => h.2 i0 (by simp) e.symm
   rw [if_pos h1, if_neg h2, if_pos e]; omega
  ·have h1 : Open n done x ↔ Open n (done ++ [i0]) x := by
    constructor
    ·rintro ⟨a, b⟩
     refine ⟨a, fun j hj => ?_⟩
     rcases List.mem_append.1 hj with h | h
     ·exact b j h
     ·rw [List.mem_singleton.1 h]; exact fun h => e h.symm
    ·rintro ⟨a, b⟩
     exact ⟨a, fun j hj => b j (List.mem_append.2 (.inl hj))⟩
   rw [if_neg e]
   by_cases hh : Open n done x
   ·rw [if_pos hh, if_pos (h1.1 hh)]; omega
   ·rw [if_neg hh, if_neg (fun h => hh (h1.2 h))]; omega
end Go.Proofs.Ytligpghohcfpnaa
/- Taking away cells whose arguments are done, in plain Lean. -/
namespace Go.Proofs.Ytligpghohcfpnaa
open Go Go.AW

theorem iC {α : Type} {l : List α} {q : Nat} {d : α} (h : q < l.length) : l.take (q + 1) = l.take q ++ [l.getD q d] := by
 rw [List.take_add_one, List.getElem?_eq_getElem h, List.getD_eq_getElem?_getD, List.getElem?_eq_getElem h]; rfl

def zy (n : ab) (k : Nat) : Nat := ((n.cells.take k).map (fun c => c.args.length)).sum
theorem qQ {n : ab} {k : Nat} (h : k < n.cells.length) : zy n (k + 1) = zy n k + (n.cells.getD k default).args.length := by
 unfold zy
 rw [iC (d := default) h, List.map_append, List.sum_append]; simp
theorem z9 {n : ab} (hs : n.Small) (k : Nat) : zy n k ≤ 8796093022208 := by
 refine Nat.le_trans ?_ hs.zy
 conv => rhs; rw [← List.take_append_drop k n.cells, List.map_append, List.sum_append]
 exact Nat.le_add_right ..
structure BI (n : ab) (k : Nat) (rem : List Int) (eu : List (List Int)) (ready : List Int) : Prop where
 kZ : ∀ i, bB n i → i < k → rem.getD i.toNat 0 = (cY n [] i : Int)
 zero : ∀ i : Int, (k : Int) ≤ i → i < n.cells.length → rem.getD i.toNat 0 = 0
 Da : ∀ w x, In w n.aa.length → x ∈ eu.getD w.toNat [] → bB n x ∧ x < k
 HJ : ∀ w x, In w n.aa.length → wT n w → bB n x → x < k → (eu.getD w.toNat []).count x = (n.cell x).args.count w
 nd : ready.Nodup
 rd : ∀ x, x ∈ ready ↔ bB n x ∧ x < k ∧ cY n [] x = 0
 ul : ∀ w, In w n.aa.length → (eu.getD w.toNat []).length ≤ zy n k
 rl : ready.length ≤ k
theorem BI.init (n : ab) : BI n 0 (List.replicate n.cells.length 0) (List.replicate n.aa.length []) [] where
 kZ := fun i h h0 => by have := h.1; omega
 zero := fun i h1 h2 => by rw [List.getD_eq_getElem?_getD, List.getElem?_replicate]; split <;> rfl
 Da := fun w x hw hx => by
  rw [List.getD_eq_getElem?_getD, List.getElem?_replicate] at hx
  split at hx <;> cases hx
 HJ := fun w x hw _ h h0 => by have := h.1; omega
 nd := List.nodup_nil
 rd := fun x => ⟨fun h => (by cases h), fun ⟨h, h0, _⟩ => by have := h.1; omega⟩
 ul := fun w hw => by rw [List.getD_eq_getElem?_getD, List.getElem?_replicate]; split <;> exact Nat.zero_le _
 rl := Nat.le_refl _
theorem lI {n : ab} {k : Nat} {x : Int} (hc : ¬ b7 (n.cells.getD k default).kind) (h : bB n x) (hx : x < ((k + 1 : Nat) : Int)) : x < k := by
 rcases Int.lt_or_eq_of_le (show x ≤ k by omega) with h' | h'
 ·exact h'
 ·subst h'; exact absurd h.2 hc
theorem BI.skip {n : ab} {k : Nat} {rem : List Int} {eu : List (List Int)} {ready : List Int} (h : BI n k rem eu ready) (hk : k < n.cells.length) (hc : ¬ b7 (n.cells.getD k default).kind) : BI n (k + 1) rem eu ready where
 kZ := fun i hi h0 => h.kZ i hi (lI hc hi h0)
 zero := fun i h1 h2 => h.zero i om h2
 Da := fun w x hw hx => ⟨(h.Da w x hw hx).1, by have := (h.Da w x hw hx).2; omega⟩
 HJ := fun w x hw hC hx h0 => h.HJ w x hw hC hx (lI hc hx h0)
 nd := h.nd
 rd := fun x => by
  rw [h.rd x]
  exact ⟨fun ⟨a, b, c⟩ => ⟨a, om, c⟩, fun ⟨a, b, c⟩ => ⟨a, lI hc a b, c⟩⟩
 ul := fun w hw => by have := h.ul w hw; rw [qQ hk]; omega
 rl := by have := h.rl; omega
structure BJ (n : ab) (k q : Nat) (rem : List Int) (eu : List (List Int)) (jO : List Int) (fJ : List (List Int)) : Prop where
 Eh : ∀ i : Int, 0 ≤ i → i ≠ k → jO.getD i.toNat 0 = rem.getD i.toNat 0
 own : jO.getD k 0 = ((((n.cells.getD k default).args.take q).countP (fun x => decide (wT n x)) : Nat) : Int)
 us : ∀ w, In w n.aa.length → fJ.getD w.toNat [] = eu.getD w.toNat [] ++ List.replicate (if wT n w then ((n.cells.getD k default).args.take q).count w else 0) (k : Int)
theorem BJ.init {n : ab} {k : Nat} {rem : List Int} {eu : List (List Int)} {ready : List Int} (h : BI n k rem eu ready) (hk : k < n.cells.length) : BJ n k 0 rem eu rem eu where
 Eh := fun _ _ _ => rfl
 own := h.zero k (Int.le_refl _) om
 us := fun w _ => by simp
section
variable {n : ab} {k q : Nat} {rem jO : List Int} {eu fJ : List (List Int)}
theorem BJ.skip (h : BJ n k q rem eu jO fJ) (hq : q < (n.cells.getD k default).args.length) (hx : ¬ wT n ((n.cells.getD k default).args.getD q 0)) : BJ n k (q + 1) rem eu jO fJ where
 Eh := h.Eh
 own := by rw [h.own, iC (d := 0) hq, List.countP_append, List.countP_cons, decide_eq_false hx]; simp
 us := fun w hw => by
  rw [h.us w hw]
  by_cases hC : wT n w
  ·rw [if_pos hC, if_pos hC, iC (d := 0) hq, List.count_append, List.count_cons]
   have : ((n.cells.getD k default).args.getD q 0 == w) = false := by
    rw [beq_eq_false_iff_ne]; rintro rfl; exact hx hC
   rw [this]; simp
  ·rw [if_neg hC, if_neg hC]
theorem BJ.step (h : BJ n k q rem eu jO fJ) (hk : k < n.cells.length) (hl : jO.length = n.cells.length) (R8 : fJ.length = n.aa.length) (hq : q < (n.cells.getD k default).args.length)
  (hi : In ((n.cells.getD k default).args.getD q 0) n.aa.length) (hx : wT n ((n.cells.getD k default).args.getD q 0)) :
  BJ n k (q + 1) rem eu (jO.set k (jO.getD k 0 + 1)) (fJ.set ((n.cells.getD k default).args.getD q 0).toNat (fJ.getD ((n.cells.getD k default).args.getD q 0).toNat [] ++ [(k : Int)])) where
 Eh := fun i h0 h1 => by rw [bo, if_neg om]; exact h.Eh i h0 h1
 own := by
  rw [bo, if_pos ⟨rfl, om⟩, h.own, iC (d := 0) hq, List.countP_append, List.countP_cons, decide_eq_true hx]; simp
 us := fun w hw => by
  unfold In at hi
  have pP := hw
  unfold In at pP
  rw [bo, iC (d := 0) hq, List.count_append, List.count_cons]
  by_cases e : (n.cells.getD k default).args.getD q 0 = w
  ·rw [e] at hx hi ⊢
   rw [if_pos ⟨rfl, om⟩, h.us w hw, if_pos hx, if_pos hx, List.append_assoc]
   congr 1
   rw [beq_self_eq_true, if_pos rfl]
   show _ = List.replicate (_ + 1) _
   rw [List.replicate_succ']
  ·have : ((n.cells.getD k default).args.getD q 0 == w) = false := by rw [beq_eq_false_iff_ne]; exact e
   rw [if_neg om, h.us w hw, this]; simp
theorem BJ.Ei (h : BJ n k q rem eu jO fJ) : 0 ≤ jO.getD k 0 ∧ jO.getD k 0 ≤ (q : Int) := by
 rw [h.own]
 have := Nat.le_trans (List.countP_le_length (p := fun x => decide (wT n x)) (l := (n.cells.getD k default).args.take q)) (List.length_take_le ..)
 omega
variable {ready : List Int}
theorem BJ.len (hb : BI n k rem eu ready) (h : BJ n k q rem eu jO fJ) {w : Int} (hw : In w n.aa.length) : (fJ.getD w.toNat []).length ≤ zy n k + q := by
 rw [h.us w hw, List.length_append, List.length_replicate]
 have := hb.ul w hw
 have h2 : ((n.cells.getD k default).args.take q).count w ≤ q := Nat.le_trans List.count_le_length (by rw [List.length_take]; omega)
 split <;> omega
theorem BJ.fin (hb : BI n k rem eu ready) (hk : k < n.cells.length) (hc : b7 (n.cells.getD k default).kind) (h : BJ n k (n.cells.getD k default).args.length rem eu jO fJ) :
  (jO.getD k 0 = 0 → BI n (k + 1) jO fJ (ready ++ [(k : Int)])) ∧ (jO.getD k 0 ≠ 0 → BI n (k + 1) jO fJ ready) := by
 have hn : jO.getD k 0 = (cY n [] (k : Int) : Int) := by rw [h.own, List.take_length, z8]; rfl
 have yG : bB n (k : Int) := ⟨⟨om, om⟩, hc⟩
 have kZ : ∀ i, bB n i → i < ((k + 1 : Nat) : Int) → jO.getD i.toNat 0 = (cY n [] i : Int) := by
  intro i hi h0
  by_cases e : i = k
  ·subst e; exact hn
  ·rw [h.Eh i hi.1.1 e]; exact hb.kZ i hi om
 have hzero : ∀ i : Int, (((k + 1 : Nat)) : Int) ≤ i → i < n.cells.length → jO.getD i.toNat 0 = 0 := by
  intro i h1 h2
  rw [h.Eh i om om]; exact hb.zero i om h2
 have HK : ∀ w x, In w n.aa.length → x ∈ fJ.getD w.toNat [] → bB n x ∧ x < ((k + 1 : Nat) : Int) := by
  intro w x hw hx
  rw [h.us w hw] at hx
  rcases List.mem_append.1 hx with hx | hx
  ·exact ⟨(hb.Da w x hw hx).1, by have := (hb.Da w x hw hx).2; omega⟩
  ·rw [List.eq_of_mem_replicate hx]; exact ⟨yG, om⟩
 have HL : ∀ w x, In w n.aa.length → wT n w → bB n x → x < ((k + 1 : Nat) : Int) → (fJ.getD w.toNat []).count x = (n.cell x).args.count w := by
  intro w x hw hC hx h0
  rw [h.us w hw, if_pos hC, List.take_length, List.count_append]
  by_cases e : x = k
  ·subst e
   have h0 : (eu.getD w.toNat []).count (k : Int) = 0 := List.count_eq_zero.2 (fun hm => by have := (hb.Da w _ hw hm).2; omega)
   rw [h0, List.count_replicate_self, Nat.zero_add]; rfl
  ·rw [hb.HJ w x hw hC hx om, List.count_replicate, if_neg (by simpa using fun h => e h.symm)]; rfl
 have Oz : ∀ w, In w n.aa.length → (fJ.getD w.toNat []).length ≤ zy n (k + 1) := fun w hw => by rw [qQ hk]; exact BJ.len hb h hw
 have CK := hb.rl
 constructor
 ·intro h0
  refine ⟨kZ, hzero, HK, HL, ?_, fun x => ?_, Oz, by rw [List.length_append]; exact Nat.succ_le_succ CK⟩
  ·rw [List.nodup_append]
   refine ⟨hb.nd, by simp, fun a ha b fV => ?_⟩
   rw [List.mem_singleton.1 fV]
   have := ((hb.rd a).1 ha).2.1; omega
  ·rw [List.mem_append, hb.rd x, List.mem_singleton]
   constructor
   ·rintro (⟨a, b, c⟩ | rfl)
    ·exact ⟨a, om, c⟩
    ·exact ⟨yG, om, om⟩
   ·rintro ⟨a, b, c⟩
    by_cases e : x = k
    ·exact .inr e
    ·exact .inl ⟨a, om, c⟩
 ·intro h0
  refine ⟨kZ, hzero, HK, HL, hb.nd, fun x => ?_, Oz, om⟩
  rw [hb.rd x]
  constructor
  ·rintro ⟨a, b, c⟩; exact ⟨a, om, c⟩
  ·rintro ⟨a, b, c⟩
   refine ⟨a, ?_, c⟩
   by_cases e : x = k
   ·subst e; omega
   ·omega
end

structure KI (n : ab) (done ready rem : List Int) : Prop where
 nd : (done ++ ready).Nodup
 cm : ∀ x ∈ done ++ ready, bB n x
 kZ : ∀ i, bB n i → rem.getD i.toNat 0 = (cY n done i : Int)
 full : ∀ i, bB n i → (i ∈ done ++ ready ↔ cY n done i = 0)
 mx : ∀ p i s, done = p ++ i :: s → cY n p i = 0
structure US (n : ab) (eu : List (List Int)) : Prop where
 mem : ∀ w x, In w n.aa.length → x ∈ eu.getD w.toNat [] → bB n x
 AZ : ∀ w x, In w n.aa.length → wT n w → bB n x → (eu.getD w.toNat []).count x = (n.cell x).args.count w
theorem BI.us {n : ab} {rem : List Int} {eu : List (List Int)} {ready : List Int} (h : BI n n.cells.length rem eu ready) : US n eu :=
 ⟨fun w x hw hx => (h.Da w x hw hx).1, fun w x hw hC hx => h.HJ w x hw hC hx (by have := hx.1; omega)⟩
theorem BI.ki {n : ab} {rem : List Int} {eu : List (List Int)} {ready : List Int} (h : BI n n.cells.length rem eu ready) : KI n [] ready rem where
 nd := h.nd
 cm := fun x hx => ((h.rd x).1 hx).1
 kZ := fun i hi => h.kZ i hi (by have := hi.1; omega)
 full := fun i hi => by
  show i ∈ ready ↔ _
  rw [h.rd i]
  exact ⟨fun h => h.2.2, fun h => ⟨hi, by have := hi.1; omega, h⟩⟩
 mx := fun p i s h => by simp at h
structure KJ (n : ab) (done : List Int) (i0 : Int) (u : List Int) (q : Nat) (ready rem : List Int) : Prop where
 nd : (done ++ [i0] ++ ready).Nodup
 cm : ∀ x ∈ done ++ [i0] ++ ready, bB n x
 kZ : ∀ i, bB n i → rem.getD i.toNat 0 = (cY n done i : Int) - ((u.take q).count i : Int)
 full : ∀ i, bB n i → (i ∈ done ++ [i0] ++ ready ↔ cY n done i ≤ (u.take q).count i)
theorem KJ.init {n : ab} {done ready rem u : List Int} (h : KI n done ready rem) (h0 : 0 < ready.length) : KJ n done (ready.getD 0 0) u 0 (ready.drop 1) rem := by
 have e : done ++ [ready.getD 0 0] ++ ready.drop 1 = done ++ ready := by
  cases ready with
  | nil => simp at h0
  | cons a r => simp
 refine ⟨by rw [e]; exact h.nd, by rw [e]; exact h.cm, fun i hi => by rw [h.kZ i hi]; simp, fun i hi => by rw [e, h.full i hi]; simp⟩
section
variable {n : ab} (hf : aW n) {done ready rem u zA jO : List Int} {i0 : Int} {q : Nat}
include hf
theorem KJ.count (h : KJ n done i0 u q ready rem) (hu : ∀ x, bB n x → u.count x = (n.cell x).args.count (n.cell i0).out) {x : Int} (hx : bB n x) : cY n done x = cY n (done ++ [i0]) x + u.count x := by
 have iw := (List.nodup_append.1 h.nd).1
 have Gh : i0 ∉ done := fun hm => (List.nodup_append.1 iw).2.2 i0 hm i0 (by simp) rfl
 rw [hu x hx]
 exact xE hf (h.cm i0 (by simp)) (fun j hj => h.cm j (by simp [hj])) Gh x
theorem KJ.step (h : KJ n done i0 u q ready rem) (hl : rem.length = n.cells.length) (hq : q < u.length) (hu : ∀ x, bB n x → u.count x = (n.cell x).args.count (n.cell i0).out) (hm : ∀ x ∈ u, bB n x) :
  (rem.getD (u.getD q 0).toNat 0 - 1 = 0 → KJ n done i0 u (q + 1) (ready ++ [u.getD q 0]) (rem.set (u.getD q 0).toNat (rem.getD (u.getD q 0).toNat 0 - 1))) ∧
  (rem.getD (u.getD q 0).toNat 0 - 1 ≠ 0 → KJ n done i0 u (q + 1) ready (rem.set (u.getD q 0).toNat (rem.getD (u.getD q 0).toNat 0 - 1))) := by
 have hk : bB n (u.getD q 0) := hm _ (bm hq)
 have KZ := hk.1
 have ht := iC (d := 0) hq
 have HM : ∀ i, (u.take (q + 1)).count i = (u.take q).count i + if u.getD q 0 = i then 1 else 0 := by
  intro i
  rw [ht, List.count_append, List.count_cons]; simp
 have hle : (u.take (q + 1)).count (u.getD q 0) ≤ u.count (u.getD q 0) := by
  have e := congrArg (List.count (u.getD q 0)) (List.take_append_drop (q + 1) u)
  rw [List.count_append] at e; omega
 have hc := KJ.count hf h hu hk
 have PA := HM (u.getD q 0)
 rw [if_pos rfl] at PA
 have O0 := h.kZ _ hk
 have kZ : ∀ i, bB n i → (rem.set (u.getD q 0).toNat (rem.getD (u.getD q 0).toNat 0 - 1)).getD i.toNat 0 = (cY n done i : Int) - ((u.take (q + 1)).count i : Int) := by
  intro i hi
  have PC := hi.1
  rw [bo, HM i]
  by_cases e : u.getD q 0 = i
  ·rw [if_pos ⟨om, om⟩, if_pos e, O0, e]; omega
  ·rw [if_neg om, if_neg e, h.kZ i hi]; omega
 have tU : u.getD q 0 ∉ done ++ [i0] ++ ready := fun pQ => by
  have := (h.full _ hk).1 pQ; omega
 constructor
 ·intro h0
  refine ⟨?_, ?_, kZ, fun i hi => ?_⟩
  ·rw [← List.append_assoc, List.nodup_append]
   refine ⟨h.nd, by simp, fun a ha b hb e => tU ?_⟩
   rw [← List.mem_singleton.1 hb, ← e]; exact ha
  ·intro x hx
   rw [← List.append_assoc] at hx
   rcases List.mem_append.1 hx with hx | hx
   ·exact h.cm x hx
   ·rw [List.mem_singleton.1 hx]; exact hk
  ·rw [← List.append_assoc, List.mem_append, h.full i hi, List.mem_singleton, HM i]
   by_cases e : u.getD q 0 = i
   ·rw [if_pos e]
    subst e
    exact ⟨fun _ => by omega, fun _ => .inr rfl⟩
   ·rw [if_neg e]
    exact ⟨fun h => by rcases h with h | h; omega; exact absurd h.symm e, fun h => .inl om⟩
 ·intro h0
  refine ⟨h.nd, h.cm, kZ, fun i hi => ?_⟩
  rw [h.full i hi, HM i]
  by_cases e : u.getD q 0 = i
  ·rw [if_pos e]
   subst e
   omega
  ·rw [if_neg e]; rfl
theorem KJ.bound (hs : n.Small) (h : KJ n done i0 u q ready rem) (hq : q < u.length) (hu : ∀ x, bB n x → u.count x = (n.cell x).args.count (n.cell i0).out) (hm : ∀ x ∈ u, bB n x) :
  1 ≤ rem.getD (u.getD q 0).toNat 0 ∧ rem.getD (u.getD q 0).toNat 0 ≤ 17592186043904 ∧ ready.length < n.cells.length := by
 have hk : bB n (u.getD q 0) := hm _ (bm hq)
 have ht := iC (d := 0) hq
 have HM : (u.take (q + 1)).count (u.getD q 0) = (u.take q).count (u.getD q 0) + 1 := by
  rw [ht, List.count_append, List.count_cons]; simp
 have e := congrArg (List.count (u.getD q 0)) (List.take_append_drop (q + 1) u)
 rw [List.count_append] at e
 have hc := KJ.count hf h hu hk
 have O0 := h.kZ _ hk
 have hn : cY n done (u.getD q 0) ≤ (n.cell (u.getD q 0)).args.length := List.countP_le_length
 have ha : (n.cell (u.getD q 0)).args.length ≤ 17592186043904 := hs.args _ (fX (by have := hk.1; omega))
 refine ⟨om, om, ?_⟩
 have := length_le_of_subset (m := (List.range n.cells.length).map (fun (i : Nat) => (i : Int))) h.nd (fun x hx => by
  have := (h.cm x hx).1
  exact List.mem_map.2 ⟨x.toNat, List.mem_range.2 om, om⟩)
 rw [List.length_append, List.length_append, List.length_map, List.length_range] at this
 simp only [List.length_cons, List.length_nil] at this
 omega
theorem KJ.fin (hk : KI n done zA jO) (h0 : i0 ∈ zA) (h : KJ n done i0 u u.length ready rem) (hu : ∀ x, bB n x → u.count x = (n.cell x).args.count (n.cell i0).out) : KI n (done ++ [i0]) ready rem := by
 have hc : ∀ {x}, bB n x → cY n done x = cY n (done ++ [i0]) x + u.count x := fun hx => KJ.count hf h hu hx
 refine ⟨h.nd, h.cm, fun i hi => ?_, fun i hi => ?_, fun p i s e => ?_⟩
 ·rw [h.kZ i hi, List.take_length, hc hi]; omega
 ·rw [h.full i hi, List.take_length, hc hi]; omega
 ·rcases List.eq_nil_or_concat s with rfl | ⟨s', x, rfl⟩
  ·have e2 := List.append_inj' (t₁ := [i0]) (t₂ := [i]) e rfl
   obtain ⟨rfl, e3⟩ := e2
   cases e3
   have oy : bB n i0 := hk.cm i0 (List.mem_append.2 (.inr h0))
   exact (hk.full i0 oy).1 (List.mem_append.2 (.inr h0))
  ·have e2 := List.append_inj' (s₁ := done) (s₂ := p ++ i :: s') (t₁ := [i0]) (t₂ := [x]) (by rw [e]; simp) rfl
   exact hk.mx p i s' e2.1
end

def Acyclic (n : ab) : Prop := ∃ r : Int → Nat, ∀ i j, bB n i → bB n j → (n.cell j).out ∈ (n.cell i).args → r j < r i
noncomputable instance (n : ab) : Decidable (Acyclic n) := Classical.propDecidable _
structure Ord (n : ab) (l : List Int) : Prop where
 len : l.length = n.cells.length
 nd : l.Nodup
 nz : ∀ x ∈ l, 0 ≤ x ∧ x < n.cells.length
 mx : ∀ p i s, l = p ++ i :: s → b7 (n.cell i).kind → ∀ x ∈ (n.cell i).args, ∃ j ∈ p, bA n j x
theorem KI.all {n : ab} {done ready rem : List Int} (h : KI n done ready rem) : (gP n n.cells.length ++ done ++ ready).Nodup ∧ ∀ x ∈ gP n n.cells.length ++ done ++ ready, 0 ≤ x ∧ x < n.cells.length := by
 rw [List.append_assoc]
 refine ⟨?_, fun x hx => ?_⟩
 ·rw [List.nodup_append]
  refine ⟨qP _ _, h.nd, fun a ha b hb e => ?_⟩
  subst e
  exact (iV.1 ha).2 (h.cm a hb).2
 ·rcases List.mem_append.1 hx with h' | h'
  ·have := (iV.1 h').1; omega
  ·exact (h.cm x h').1
theorem KI.len {n : ab} {done ready rem : List Int} (h : KI n done ready rem) : (gP n n.cells.length ++ done).length + ready.length ≤ n.cells.length := by
 obtain ⟨h1, h2⟩ := h.all
 have := length_le_of_subset (m := (List.range n.cells.length).map (fun (i : Nat) => (i : Int))) h1 (fun x hx => by
  have := h2 x hx
  exact List.mem_map.2 ⟨x.toNat, List.mem_range.2 om, om⟩)
 rw [List.length_append, List.length_map, List.length_range] at this
 exact this
theorem KI.mem {n : ab} {done rem : List Int} (h : KI n done [] rem) {r : Int → Nat} (hr : ∀ i j, bB n i → bB n j → (n.cell j).out ∈ (n.cell i).args → r j < r i) : ∀ (m : Nat) (i : Int), bB n i → r i < m → i ∈ done
 | 0, _, _, hm => by omega
 | m + 1, i, hi, hm => by
  have hz : cY n done i = 0 := by
   rw [ny]
   rintro x hx ⟨j, hj, rfl⟩
   exact ⟨j, KI.mem h hr m j hj (by have := hr i j hi hj hx; omega), rfl⟩
  have := (h.full i hi).2 hz
  simpa using this
theorem xF (M : Nat) : ((List.range M).map (fun (i : Nat) => (i : Int))).Nodup := by
 rw [List.Nodup, List.pairwise_map]
 exact List.Pairwise.imp (fun {a b} h => by omega) List.nodup_range
theorem KI.HN {n : ab} {done rem : List Int} (h : KI n done [] rem) (hl : (gP n n.cells.length ++ done).length < n.cells.length) : ¬ Acyclic n := by
 rintro ⟨r, hr⟩
 have := length_le_of_subset (m := gP n n.cells.length ++ done) (xF n.cells.length) (fun x hx => by
  obtain ⟨i, hi, rfl⟩ := List.mem_map.1 hx
  rw [List.mem_range] at hi
  by_cases hc : b7 (n.cell (i : Int)).kind
  ·exact List.mem_append.2 (.inr (KI.mem h hr _ (i : Int) ⟨⟨om, om⟩, hc⟩ (Nat.lt_succ_self _)))
  ·exact List.mem_append.2 (.inl (iV.2 ⟨⟨om, om⟩, hc⟩)))
 rw [List.length_map, List.length_range] at this
 omega
theorem oD {l p s : List Int} {i j : Int} (hn : l.Nodup) (e : l = p ++ i :: s) (hj : j ∈ p) : l.idxOf j < l.idxOf i := by
 subst e
 have hi : i ∉ p := fun h => (List.nodup_append.1 hn).2.2 i h i (by simp) rfl
 rw [List.idxOf_append, if_pos hj, List.idxOf_append, if_neg hi]
 have := List.idxOf_lt_length_of_mem hj
 omega
theorem KI.ok {n : ab} (hf : aW n) {done rem : List Int} (h : KI n done [] rem) (hl : ¬ (gP n n.cells.length ++ done).length < n.cells.length) : Acyclic n ∧ Ord n (gP n n.cells.length ++ done) := by
 obtain ⟨h1, h2⟩ := h.all
 rw [List.append_nil] at h1 h2
 have hle := h.len
 simp only [List.length_nil, Nat.add_zero] at hle
 have HO : ∀ i : Int, (0 ≤ i ∧ i < n.cells.length) → i ∈ gP n n.cells.length ++ done := by
  intro i hi
  refine Classical.byContradiction fun hn => ?_
  have := length_le_of_subset (l := i :: (gP n n.cells.length ++ done)) (m := (List.range n.cells.length).map (fun (i : Nat) => (i : Int))) (List.nodup_cons.2 ⟨hn, h1⟩) (fun x hx => by
   have gR : 0 ≤ x ∧ x < n.cells.length := by
    rcases List.mem_cons.1 hx with rfl | hx
    ·exact hi
    ·exact h2 x hx
   exact List.mem_map.2 ⟨x.toNat, List.mem_range.2 om, om⟩)
  rw [List.length_cons, List.length_map, List.length_range] at this
  omega
 have DH : ∀ i, bB n i → i ∈ done := by
  intro i hi
  rcases List.mem_append.1 (HO i hi.1) with h' | h'
  ·exact absurd hi.2 (iV.1 h').2
  ·exact h'
 have JR : done.Nodup := (List.nodup_append.1 h1).2.1
 refine ⟨⟨fun i => done.idxOf i, fun i j hi hj hx => ?_⟩, om, h1, h2, fun p i s e hc x hx => ?_⟩
 ·obtain ⟨p, s, e⟩ := List.append_of_mem (DH i hi)
  obtain ⟨j', o6, e'⟩ := ny.1 (h.mx p i s e) _ hx ⟨j, hj, rfl⟩
  have Ej : bB n j' := h.cm j' (by rw [e]; simp [o6])
  have := hf.unique Ej.jl (e' ▸ hj.jl)
  subst this
  exact oD JR e o6
 ·have hi : bB n i := ⟨h2 i (by rw [e]; simp), hc⟩
  obtain ⟨j, hj⟩ := hf.g9 (hf.gY hi.1 hx)
  by_cases O1 : b7 (n.cell j).kind
  ·-- the g9 is combinational
   obtain ⟨p', s', e'⟩ := List.append_of_mem (DH i hi)
   obtain ⟨j', o6, e2⟩ := ny.1 (h.mx p' i s' e') x hx ⟨j, ⟨hj.1, O1⟩, hj.2.2⟩
   have Ej : bB n j' := h.cm j' (by rw [e']; simp [o6])
   have e3 : p ++ i :: s = (gP n n.cells.length ++ p') ++ i :: s' := by rw [← e, e', List.append_assoc]
   have hp : p = gP n n.cells.length ++ p' := by
    have HP : i ∉ p := by
     rw [e] at h1
     exact fun h => (List.nodup_append.1 h1).2.2 i h i (by simp) rfl
    have l3 : i ∉ gP n n.cells.length ++ p' := by
     rw [e, e3] at h1
     exact fun h => (List.nodup_append.1 h1).2.2 i h i (by simp) rfl
    have := congrArg (fun l => l.idxOf i) e3
    simp only [List.idxOf_append, if_neg HP, if_neg l3, List.idxOf_cons_self, Nat.add_zero] at this
    exact (List.append_inj e3 om).1
   exact ⟨j', by rw [hp]; exact List.mem_append.2 (.inr o6), e2 ▸ Ej.jl⟩
  ·-- it comes first
   refine ⟨j, ?_, hj⟩
   have FZ : j ∈ gP n n.cells.length := iV.2 ⟨hj.1, O1⟩
   have JK : i ∉ gP n n.cells.length := fun h => (iV.1 h).2 hc
   have : gP n n.cells.length ++ done = p ++ i :: s := e
   rcases List.append_eq_append_iff.1 this with ⟨a, ha, hb⟩ | ⟨a, ha, hb⟩
   ·rw [ha]; exact List.mem_append.2 (.inl FZ)
   ·cases a with
    | nil => rw [List.append_nil] at ha; rw [← ha]; exact FZ
    | cons b t =>
     rw [List.cons_append] at hb
     cases hb
     exact absurd (by rw [ha]; simp) JK
def qR (n : ab) (l : List Int) (e : Int) : Prop :=
 (¬ aW n ∧ l = [] ∧ e = 3) ∨ (aW n ∧ ¬ Fit n ∧ l = [] ∧ e = 13) ∨ (aW n ∧ Fit n ∧ ¬ Acyclic n ∧ l = [] ∧ e = 12) ∨ (aW n ∧ Fit n ∧ Acyclic n ∧ Ord n l ∧ e = 0)
end Go.Proofs.Ytligpghohcfpnaa
/- Plans of netlists, in plain Lean. -/
namespace Go.Proofs.Ytligpghohcfpnaa
open Go Go.AW

structure U2 where
 a : Nat
 b : Nat
instance : Inhabited U2 := ⟨⟨0, 0⟩⟩
def U2.row (x : U2) : List X := [.v (.int .u8 (x.a : Int)), .v (.int .u8 (x.b : Int))]
theorem U2.cy (c : U2) : X.bC c.row = true := rfl
structure pb where
 kind : Nat
 op : Nat
 width : Nat
 a : Nat
 b : Nat
 d : Nat
 num : Nat
instance : Inhabited pb := ⟨⟨0, 0, 0, 0, 0, 0, 0⟩⟩
def pb.row (x : pb) : List X := [.v (.int .u8 (x.kind : Int)), .v (.int .u8 (x.op : Int)), .v (.int .u8 (x.width : Int)), .v (.int .u8 (x.a : Int)), .v (.int .u8 (x.b : Int)), .v (.int .u8 (x.d : Int)), .v (.int .u64 (x.num : Int))]
theorem pb.cy (c : pb) : X.bC c.row = true := rfl
structure l4 where
 aw : List U2
 streams : List U2
 ins : List Nat
 parts : List pb
 bI : List Nat
def l4.row (n : l4) : List X := [.fz 2 (n.aw.map U2.row), .fz 2 (n.streams.map U2.row), .fz 1 (n.ins.map qL), .fz 7 (n.parts.map pb.row), .fz 1 (n.bI.map qL)]
def ab.oE (n : ab) : List X := [.v (.string n.name), .fz 1 (n.aa.map ah), .fz 6 (n.cells.map Cell.row), .fz 1 (n.ins.map ah), .fz 5 (n.aw.map dV.row), .fz 3 (n.streams.map bE.row),
 .v (.slice none 0 0), .v (.slice none 0 0), .v (.int .i64 n.freeze), .v (.int .i64 n.done), .v (.slice none 0 0)]

def Cell.mw (c : Cell) : List X := [.v (.int .i64 c.kind), .v (.int .i64 c.op), .v (.int .i64 c.out), .ep 1 (c.args.map ah), .v (.int .u64 (c.num : Int)), .v (.int .i64 c.mem)]
def ab.mw (n : ab) : List X := [.v (.string n.name), .ep 1 (n.aa.map ah), .ep 6 (n.cells.map Cell.row), .fz 1 (n.ins.map ah), .fz 5 (n.aw.map dV.row), .fz 3 (n.streams.map bE.row),
 .fz 1 (n.aX.map ah), .fz 1 (n.data.map ah), .v (.int .i64 n.freeze), .v (.int .i64 n.done), .fz 1 (n.bI.map ah)]
def al (k : Nat) : Int := ([1, 2, 4, 7, 8, 13, 33, 64] : List Int).getD (k % 8) 0
def opsL : List Int := [2, 3, 9, 10, 11, 12, 13, 14, 15, 16, 17, 18, 19, 20, 21, 22, 23, 24]
theorem du (k : Nat) : fj (al k) := by
 have h : ∀ j, j < 8 → fj (([1, 2, 4, 7, 8, 13, 33, 64] : List Int).getD j 0) := by decide
 exact h _ (Nat.mod_lt _ ae)
def gH (ws : List Int) (w : Int) (i : Nat) : List Int := ((List.range i).filter (fun j => decide (ws.getD j 0 = w))).map (fun (j : Nat) => (j : Int))
theorem n4 {ws : List Int} {w : Int} {i : Nat} (h : ws.getD i 0 = w) : gH ws w (i + 1) = gH ws w i ++ [(i : Int)] := by
 simp only [gH, List.range_succ, List.filter_append, List.map_append, List.filter_cons, h, decide_true, if_true, List.filter_nil, List.map_cons, List.map_nil]
theorem oF {ws : List Int} {w : Int} {i : Nat} (h : ws.getD i 0 ≠ w) : gH ws w (i + 1) = gH ws w i := by
 simp only [gH, List.range_succ, List.filter_append, List.filter_cons, h, decide_false, List.filter_nil, List.append_nil, Bool.false_eq_true, if_false]
theorem so (ws : List Int) (w : Int) (i : Nat) : (gH ws w i).length ≤ i := by
 have := List.length_filter_le (fun j => decide (ws.getD j 0 = w)) (List.range i)
 simp only [gH, List.length_map]; rw [List.length_range] at this; exact this
def au (ws : List Int) (w : Int) (k : Nat) : Int := if (gH ws w ws.length).length = 0 then -1 else (gH ws w ws.length).getD (k % (gH ws w ws.length).length) 0
def zB (ws : List Int) (w : Int) : Prop := ∃ j, j < ws.length ∧ ws.getD j 0 = w
theorem cR {ws : List Int} {w : Int} (h : zB ws w) (k : Nat) : In (au ws w k) ws.length ∧ ws.getD (au ws w k).toNat 0 = w := by
 obtain ⟨j, hj, hw⟩ := h
 have h0 : (j : Int) ∈ gH ws w ws.length := List.mem_map.2 ⟨j, List.mem_filter.2 ⟨List.mem_range.2 hj, decide_eq_true hw⟩, rfl⟩
 have hp := List.length_pos_of_mem h0
 unfold au
 rw [if_neg om]
 have hm := bm (l := gH ws w ws.length) (i := k % (gH ws w ws.length).length) (Nat.mod_lt _ hp)
 obtain ⟨i, hi, he⟩ := List.mem_map.1 hm
 obtain ⟨h1, h2⟩ := List.mem_filter.1 hi
 rw [← he]
 have := List.mem_range.1 h1
 exact ⟨⟨om, om⟩, by simpa using h2⟩
def pV (ws : List Int) (cs : List Cell) (p : pb) (i : Nat) : List Cell :=
 if (cs.getD ((((cs.length : Int) - 1) - (i : Int)).toNat) default).kind = 4 then
  cs.set ((((cs.length : Int) - 1) - (i : Int)).toNat) ⟨(cs.getD ((((cs.length : Int) - 1) - (i : Int)).toNat) default).kind, (cs.getD ((((cs.length : Int) - 1) - (i : Int)).toNat) default).op, (cs.getD ((((cs.length : Int) - 1) - (i : Int)).toNat) default).out,
   [au ws 1 p.a, au ws (ws.getD (cs.getD ((((cs.length : Int) - 1) - (i : Int)).toNat) default).out.toNat 0) p.d], (cs.getD ((((cs.length : Int) - 1) - (i : Int)).toNat) default).num, (cs.getD ((((cs.length : Int) - 1) - (i : Int)).toNat) default).mem⟩
 else cs
structure pb.Ok (p : pb) : Prop where
 kind : p.kind < 256
 op : p.op < 256
 width : p.width < 256
 a : p.a < 256
 b : p.b < 256
 d : p.d < 256
 num : p.num < 18446744073709551616
end Go.Proofs.Ytligpghohcfpnaa
/- What the parts of a plan may be, in plain Lean. -/
namespace Go.Proofs.Ytligpghohcfpnaa
open Go Go.AW

structure Ground (n : ab) : Prop where
 has : ∀ k, zB n.aa (al k)
 wide : ∀ w ∈ n.aa, fj w
 aw : ∀ m ∈ n.aw, ∃ k, m.width = al k
 strs : ∀ s ∈ n.streams, ∃ k, s.width = al k
 ins : ∀ w ∈ n.ins, ∃ k, w = al k
def sq (n : ab) (c : Cell) (w : Int) : Prop :=
 (c.kind = 1 ∧ kE w c.num = c.num) ∨
 (c.kind = 2 ∧ fH c.op (n.av c 0) (n.av c 1) (n.av c 2) w) ∨
 (c.kind = 3 ∧ ∀ k, k < c.args.length → (k % 2 = 0 ∧ n.av c k = 1) ∨ (k % 2 = 1 ∧ n.av c k = w)) ∨
 (c.kind = 4 ∧ n.av c 0 = 1 ∧ n.av c 1 = w ∧ kE w c.num = c.num) ∨
 (c.kind = 5 ∧ n.av c 0 = w ∧ n.av c 1 = w) ∨
 (c.kind = 6 ∧ n.av c 0 = 1 ∧ (n.aw.getD c.mem.toNat default).width = w) ∨
 (c.kind = 7 ∧ n.av c 0 = 1 ∧ (n.aw.getD c.mem.toNat default).width = n.av c 2) ∨
 (c.kind = 8 ∧ n.ins.getD c.num 0 = w) ∨
 (c.kind = 9 ∧ w = 1) ∨
 (c.kind = 10 ∧ (n.streams.getD c.mem.toNat default).width = w)
structure vC (n : ab) (c : Cell) (w : Int) : Prop where
 out : c.kind = 7 → c.out = -1
 args : ∀ x ∈ c.args, In x n.aa.length
 shaped : Shaped n c
 fits : sq n c w
 wide : fj w
 num : c.num < 18446744073709551616
 len : c.args.length ≤ 4
def jP (n : ab) (c : Cell) (w : Int) : Prop := c.kind = 0 ∨ vC n c w

theorem ui (w : Int) (x : Nat) : kE w (kE w x) = kE w x := Nat.mod_mod _ _
theorem uj : fj 1 := by decide
theorem zC (i : Nat) : (2 ≤ opsL.getD (i % opsL.length) 0 ∧ opsL.getD (i % opsL.length) 0 ≤ 3) ∨ (9 ≤ opsL.getD (i % opsL.length) 0 ∧ opsL.getD (i % opsL.length) 0 ≤ 24) := by
 have h : ∀ j, j < 18 → (2 ≤ opsL.getD j 0 ∧ opsL.getD j 0 ≤ 3) ∨ (9 ≤ opsL.getD j 0 ∧ opsL.getD j 0 ≤ 24) := by decide
 exact h _ (Nat.mod_lt _ ae)
theorem getD_in {α : Type} {d : α} {l : List α} {i : Nat} (h : i < l.length) : l.getD i d ∈ l := by
 rw [List.getD_eq_getElem?_getD, List.getElem?_eq_getElem h]; exact List.getElem_mem h

section
variable {n : ab} (hg : Ground n)
include hg
theorem Ground.one : zB n.aa 1 := hg.has 0
theorem Ground.mem {i : Nat} (h : i < n.aw.length) : zB n.aa (n.aw.getD i default).width ∧ fj (n.aw.getD i default).width := by
 obtain ⟨k, hk⟩ := hg.aw _ (getD_in h)
 rw [hk]; exact ⟨hg.has k, du k⟩
theorem Ground.str {i : Nat} (h : i < n.streams.length) : zB n.aa (n.streams.getD i default).width ∧ fj (n.streams.getD i default).width := by
 obtain ⟨k, hk⟩ := hg.strs _ (getD_in h)
 rw [hk]; exact ⟨hg.has k, du k⟩
theorem Ground.PE {i : Nat} (h : i < n.ins.length) : fj (n.ins.getD i 0) := by
 obtain ⟨k, hk⟩ := hg.ins _ (getD_in h)
 rw [hk]; exact du k
theorem sR {x : Nat} (h : 0 < n.aa.length) : In ((x : Int) % (n.aa.length : Int)) n.aa.length := by
 have h1 := Int.emod_nonneg (x : Int) (b := (n.aa.length : Int)) om
 have h2 := Int.emod_lt_of_pos (x : Int) (b := (n.aa.length : Int)) om
 exact ⟨h1, h2⟩

theorem Ek {op : Int} {j a b d : Nat} (h : op = 21) : jP n ⟨2, op, 0, [au n.aa 1 a, au n.aa (al j) b, au n.aa (al j) d], 0, 0⟩ (al j) := by
 have h1 := cR hg.one a; have h2 := cR (hg.has j) b; have h3 := cR (hg.has j) d
 subst h
 refine .inr ⟨fun h => by simp at h, ?_, .inr (.inl ⟨rfl, (by show dq 21 ≠ 0; decide), rfl, rfl, rfl⟩), .inr (.inl ⟨rfl, .inl ⟨rfl, h1.2, h2.2, h3.2⟩⟩), du j, by simp, by simp⟩
 intro x hx
 simp only [List.mem_cons, List.not_mem_nil, or_false] at hx
 rcases hx with rfl | rfl | rfl
 ·exact h1.1
 ·exact h2.1
 ·exact h3.1
theorem HQ {op w : Int} {j a : Nat} (h0 : 0 < n.aa.length) (hu : Unary op) (hw : (op = 24 ∧ w = if n.aa.getD (a % n.aa.length) 0 < al j then n.aa.getD (a % n.aa.length) 0 else al j) ∨ (¬ op = 24 ∧ w = if n.aa.getD (a % n.aa.length) 0 > al j then n.aa.getD (a % n.aa.length) 0 else al j)) :
  jP n ⟨2, op, 0, [(a : Int) % (n.aa.length : Int)], 0, 0⟩ w := by
 have h1 := sR (x := a) hg h0
 have hv : n.wd ((a : Int) % (n.aa.length : Int)) = n.aa.getD (a % n.aa.length) 0 := by
  unfold ab.wd; congr 1
 have h2 := hg.wide _ (getD_in (d := (0 : Int)) (Nat.mod_lt a h0))
 have h3 := du j
 have xu := hu
 unfold Unary at hu
 generalize n.aa.getD (a % n.aa.length) 0 = v at *
 generalize al j = W at *
 have Gi : fj w := by
  unfold fj at *
  rcases hw with ⟨_, h⟩ | ⟨_, h⟩ <;> (split at h <;> omega)
 refine .inr ⟨fun h => by simp at h, ?_, .inr (.inl ⟨rfl, ?_, ?_, rfl, rfl⟩), .inr (.inl ⟨rfl, ?_⟩), Gi, by simp, by simp⟩
 ·intro x hx
  simp only [List.mem_cons, List.not_mem_nil, or_false] at hx
  subst hx; exact h1
 ·rcases hu with h | h | h <;> (simp only [h]; decide)
 ·rcases hu with h | h | h <;> (simp only [h]; rfl)
 ·unfold fH
  simp only [ab.av, List.getD_cons_zero, hv]
  rcases hw with ⟨h, hw⟩ | ⟨h, hw⟩
  ·right; right; left
   refine ⟨h, ?_⟩
   split at hw <;> omega
  ·right; left
   refine ⟨om, ?_⟩
   split at hw <;> omega
theorem zD {op w : Int} {j a b : Nat} (El : (2 ≤ op ∧ op ≤ 3) ∨ (9 ≤ op ∧ op ≤ 24)) (JS : ¬ op = 21) (hu : ¬ Unary op) (hw : (oB op ∧ w = 1) ∨ (¬ oB op ∧ w = al j)) :
  jP n ⟨2, op, 0, [au n.aa (al j) a, au n.aa (al j) b], 0, 0⟩ w := by
 have h1 := cR (hg.has j) a; have h2 := cR (hg.has j) b
 unfold Unary at hu
 have h3 := du j
 have Gi : fj w := by
  rcases hw with ⟨_, rfl⟩ | ⟨_, rfl⟩
  ·exact uj
  ·exact h3
 have O2 : dq op = 2 := by unfold dq; rw [if_pos om]
 refine .inr ⟨fun h => by simp at h, ?_, .inr (.inl ⟨rfl, by simp only [O2]; decide, by simp only [O2]; rfl, rfl, rfl⟩), .inr (.inl ⟨rfl, ?_⟩), Gi, by simp, by simp⟩
 ·intro x hx
  simp only [List.mem_cons, List.not_mem_nil, or_false] at hx
  rcases hx with rfl | rfl
  ·exact h1.1
  ·exact h2.1
 ·have e1 : n.wd (au n.aa (al j) a) = al j := h1.2
  have e2 : n.wd (au n.aa (al j) b) = al j := h2.2
  rcases hw with ⟨hc, rfl⟩ | ⟨hc, rfl⟩
  ·exact .inr (.inr (.inr (.inl ⟨hc, rfl, e1.trans e2.symm⟩)))
  ·exact .inr (.inr (.inr (.inr ⟨hc, by show op < 21 ∨ 24 < op; omega, e1, e2⟩)))
theorem qu {o m : Int} {q : Int} {l : List Int} {nm : Nat} {w : Int} : jP n ⟨0, o, m, l, nm, q⟩ w := .inl rfl
theorem zE {k : Int} {j x : Nat} (hk : k = 1) : jP n ⟨k, 0, -1, [], kE (al j) x, 0⟩ (al j) := by
 subst hk
 exact .inr ⟨fun _ => rfl, fun x hx => (by cases hx), .inl ⟨rfl, rfl, rfl, rfl⟩, .inl ⟨rfl, ui _ _⟩, du j, sj _ _, by simp⟩
theorem Em {k : Int} {j a b d e : Nat} (hk : k = 3) : jP n ⟨k, 0, -1, [au n.aa 1 a, au n.aa (al j) b, au n.aa 1 d, au n.aa (al j) e], 0, 0⟩ (al j) := by
 have h1 := cR hg.one a; have h2 := cR (hg.has j) b; have h3 := cR hg.one d; have h4 := cR (hg.has j) e
 subst hk
 refine .inr ⟨fun _ => rfl, ?_, .inr (.inr (.inl ⟨rfl, (by simp), (by simp), rfl, rfl, rfl⟩)), .inr (.inr (.inl ⟨rfl, ?_⟩)), du j, by simp, by simp⟩
 ·intro x hx
  simp only [List.mem_cons, List.not_mem_nil, or_false] at hx
  rcases hx with rfl | rfl | rfl | rfl
  ·exact h1.1
  ·exact h2.1
  ·exact h3.1
  ·exact h4.1
 ·intro i hi
  have gQ : i < 4 := hi
  match i, gQ with
  | 0, _ => exact .inl ⟨rfl, h1.2⟩
  | 1, _ => exact .inr ⟨rfl, h2.2⟩
  | 2, _ => exact .inl ⟨rfl, h3.2⟩
  | 3, _ => exact .inr ⟨rfl, h4.2⟩
theorem En {k : Int} {j a b x : Nat} (hk : k = 4) : jP n ⟨k, 0, -1, [au n.aa 1 a, au n.aa (al j) b], kE (al j) x, 0⟩ (al j) := by
 have h1 := cR hg.one a; have h2 := cR (hg.has j) b
 subst hk
 refine .inr ⟨fun _ => rfl, ?_, .inr (.inr (.inr (.inl ⟨rfl, rfl, rfl, rfl⟩))), .inr (.inr (.inr (.inl ⟨rfl, h1.2, h2.2, ui _ _⟩))), du j, sj _ _, by simp⟩
 intro x hx
 simp only [List.mem_cons, List.not_mem_nil, or_false] at hx
 rcases hx with rfl | rfl
 ·exact h1.1
 ·exact h2.1
theorem BV {k o : Int} {j a b x : Nat} (hk : k = 5) (ho : 4 ≤ o ∧ o ≤ 8) (hx : 1 ≤ x ∧ x ≤ 4096) : jP n ⟨k, o, -1, [au n.aa (al j) a, au n.aa (al j) b], x, 0⟩ (al j) := by
 have h1 := cR (hg.has j) a; have h2 := cR (hg.has j) b
 subst hk
 refine .inr ⟨fun _ => rfl, ?_, .inr (.inr (.inr (.inr (.inl ⟨rfl, rfl, ho, hx, rfl⟩)))), .inr (.inr (.inr (.inr (.inl ⟨rfl, h1.2, h2.2⟩)))), du j, ?_, by simp⟩
 ·intro x hx
  simp only [List.mem_cons, List.not_mem_nil, or_false] at hx
  rcases hx with rfl | rfl
  ·exact h1.1
  ·exact h2.1
 ·show x < _; omega
theorem qS {x m : Nat} : ((x : Int) % (m : Int)).toNat = x % m := by rw [← Int.natCast_emod, Int.toNat_natCast]
theorem qv {x m : Nat} (h : 0 < m) : 0 ≤ (x : Int) % (m : Int) ∧ (x : Int) % (m : Int) < (m : Int) := by
 rw [← Int.natCast_emod]
 have := Nat.mod_lt x h
 omega
theorem wU {k : Int} {a b x : Nat} (h0 : 0 < n.aa.length) (hk : k = 6) (hm : 0 < n.aw.length) :
  jP n ⟨k, 0, -1, [au n.aa 1 a, (b : Int) % (n.aa.length : Int)], 0, (x : Int) % (n.aw.length : Int)⟩ (n.aw.getD (x % n.aw.length) default).width := by
 have h1 := cR hg.one a; have h2 := sR (x := b) hg h0; have h3 := qv (x := x) hg hm; have h4 := qS (x := x) (m := n.aw.length) hg
 have h5 := hg.mem (Nat.mod_lt x hm)
 subst hk
 refine .inr ⟨fun _ => rfl, ?_, .inr (.inr (.inr (.inr (.inr (.inl ⟨rfl, rfl, rfl, rfl, h3.1, h3.2⟩))))), .inr (.inr (.inr (.inr (.inr (.inl ⟨rfl, h1.2, by simp only [h4]⟩))))), h5.2, by simp, by simp⟩
 intro x hx
 simp only [List.mem_cons, List.not_mem_nil, or_false] at hx
 rcases hx with rfl | rfl
 ·exact h1.1
 ·exact h2
theorem uk {k : Int} {a b d x : Nat} (h0 : 0 < n.aa.length) (hk : k = 7) (hm : 0 < n.aw.length) :
  jP n ⟨k, 0, -1, ([au n.aa 1 a, (b : Int) % (n.aa.length : Int)] : List Int) ++ ([au n.aa ((n.aw.getD (x % n.aw.length) default).width) d] : List Int), 0, (x : Int) % (n.aw.length : Int)⟩ (n.aw.getD (x % n.aw.length) default).width := by
 have h5 := hg.mem (Nat.mod_lt x hm)
 have h1 := cR hg.one a; have h2 := sR (x := b) hg h0; have h3 := qv (x := x) hg hm; have h4 := qS (x := x) (m := n.aw.length) hg
 have h6 := cR h5.1 d
 subst hk
 refine .inr ⟨fun _ => rfl, ?_, .inr (.inr (.inr (.inr (.inr (.inr (.inl ⟨rfl, rfl, rfl, rfl, h3.1, h3.2⟩)))))), .inr (.inr (.inr (.inr (.inr (.inr (.inl ⟨rfl, h1.2, ?_⟩)))))), h5.2, by simp, by simp⟩
 ·intro x hx
  simp only [List.cons_append, List.nil_append, List.mem_cons, List.not_mem_nil, or_false] at hx
  rcases hx with rfl | rfl | rfl
  ·exact h1.1
  ·exact h2
  ·exact h6.1
 ·simp only [h4]; exact h6.2.symm
theorem zF {k : Int} {x : Nat} (hk : k = 8) (hm : 0 < n.ins.length) (hl : n.ins.length ≤ 1048576) : jP n ⟨k, 0, -1, [], x % n.ins.length, 0⟩ (n.ins.getD (x % n.ins.length) 0) := by
 have h1 := Nat.mod_lt x hm
 subst hk
 exact .inr ⟨fun _ => rfl, fun x hx => (by cases hx), .inr (.inr (.inr (.inr (.inr (.inr (.inr (.inl ⟨rfl, rfl, rfl, h1, rfl⟩))))))), .inr (.inr (.inr (.inr (.inr (.inr (.inr (.inl ⟨rfl, rfl⟩))))))), hg.PE h1, by show x % _ < _; omega, by simp⟩
theorem BW {k : Int} {x : Nat} (hk : k = 9) (hm : 0 < n.streams.length) : jP n ⟨k, 0, -1, [], 0, (x : Int) % (n.streams.length : Int)⟩ 1 := by
 have h3 := qv (x := x) hg hm
 subst hk
 exact .inr ⟨fun _ => rfl, fun x hx => (by cases hx), .inr (.inr (.inr (.inr (.inr (.inr (.inr (.inr (.inl ⟨rfl, rfl, rfl, rfl, h3.1, h3.2⟩)))))))), .inr (.inr (.inr (.inr (.inr (.inr (.inr (.inr (.inl ⟨rfl, rfl⟩)))))))), uj, by simp, by simp⟩
theorem BX {k : Int} {x : Nat} (hk : k = 10) (hm : 0 < n.streams.length) (ho : (n.streams.getD (x % n.streams.length) default).out = false) : jP n ⟨k, 0, -1, [], 0, (x : Int) % (n.streams.length : Int)⟩ (n.streams.getD (x % n.streams.length) default).width := by
 have h3 := qv (x := x) hg hm; have h4 := qS (x := x) (m := n.streams.length) hg
 have h5 := hg.str (Nat.mod_lt x hm)
 subst hk
 exact .inr ⟨fun _ => rfl, fun x hx => (by cases hx), .inr (.inr (.inr (.inr (.inr (.inr (.inr (.inr (.inr ⟨rfl, rfl, rfl, rfl, ⟨h3.1, h3.2⟩, by simp only [h4]; exact ho⟩)))))))), .inr (.inr (.inr (.inr (.inr (.inr (.inr (.inr (.inr ⟨rfl, by simp only [h4]⟩)))))))), h5.2, by simp, by simp⟩
end
end Go.Proofs.Ytligpghohcfpnaa
/- The parts of a well-formed netlist, in plain Lean. -/
namespace Go.Proofs.Ytligpghohcfpnaa
open Go Go.AW

structure wV (n : ab) : Prop where
 name : jr n.name
 cK : n.cells.length ≤ 65536
 cv : n.aa.length ≤ 65536
 aa : ∀ j, j < n.aa.length → fj (n.aa.getD j 0)
 ins : ∀ j, j < n.ins.length → fj (n.ins.getD j 0)
 iq : n.aw.length ≤ 64
 bO : n.streams.length ≤ 64
 cP : n.aX.length = n.streams.length
 eY : n.data.length = n.streams.length
 aw : ∀ j, j < n.aw.length → kY (n.aw.getD j default)
 strs : ∀ j, j < n.streams.length → k9 n j
noncomputable instance (n : ab) : Decidable (wV n) := Classical.propDecidable _
theorem nH {α : Type} {l m : List α} {j : Nat} {d : α} (h : j < l.length) : (l ++ m).getD j d = l.getD j d := by
 rw [List.getD_eq_getElem?_getD, List.getElem?_append_left h, List.getD_eq_getElem?_getD]
theorem nI {α : Type} {l m : List α} {j : Nat} {d : α} (h : l.length ≤ j) : (l ++ m).getD j d = m.getD (j - l.length) d := by
 rw [List.getD_eq_getElem?_getD, List.getElem?_append_right h, List.getD_eq_getElem?_getD]
theorem aW.parts {n : ab} (h : aW n) : wV n where
 name := h.name
 cK := h.cK
 cv := h.cv
 aa := fun j hj => by have := h.wide j (by rw [List.length_append]; omega); rwa [nH hj] at this
 ins := fun j hj => by have := h.wide (n.aa.length + j) (by rw [List.length_append]; omega); rwa [nI om, show n.aa.length + j - n.aa.length = j by omega] at this
 iq := h.iq
 bO := h.bO
 cP := h.cP
 eY := h.eY
 aw := h.aw
 strs := h.strs
theorem wV.formed {n : ab} (h : wV n) (h1 : In n.freeze n.aa.length) (h2 : In n.done n.aa.length) (h3 : ∀ j, j < n.bI.length → In (n.bI.getD j 0) n.aa.length)
  (h4 : ∀ j, j < n.cells.length → iA n (n.cells.getD j default)) (h5 : ∀ w, w < n.aa.length → di n.cells w = 1) : aW n where
 name := h.name
 cK := h.cK
 cv := h.cv
 iq := h.iq
 bO := h.bO
 cP := h.cP
 eY := h.eY
 wide := fun j hj => by
  rw [List.length_append] at hj
  by_cases DL : j < n.aa.length
  ·rw [nH DL]; exact h.aa j DL
  ·rw [nI om]; exact h.ins _ om
 aw := h.aw
 strs := h.strs
 freeze := h1
 done := h2
 bI := uf.1 h3
 cells := h4
 iB := h5
def Ba (n : ab) (i : Nat) (d : List Int) : Prop := ∀ w, w < n.aa.length → d.getD w 0 = (di (n.cells.take i) w : Int)
theorem Ba.init (n : ab) : Ba n 0 (List.replicate n.aa.length 0) := by
 intro w hw
 rw [List.getD_eq_getElem?_getD, List.getElem?_replicate, if_pos hw]; simp [di]
theorem Ba.skip {n : ab} {i : Nat} {d : List Int} (h : Ba n i d) (hi : i < n.cells.length) (h7 : (n.cells.getD i default).kind = 7) : Ba n (i + 1) d := by
 intro w hw
 rw [fI hi, if_neg (fun h => h.1 h7)]
 exact h w hw
theorem Ba.step {n : ab} {i : Nat} {d : List Int} (h : Ba n i d) (hi : i < n.cells.length) (h7 : (n.cells.getD i default).kind ≠ 7) (ho : In (n.cells.getD i default).out n.aa.length)
  (hl : d.length = n.aa.length) : Ba n (i + 1) (d.set (n.cells.getD i default).out.toNat (d.getD (n.cells.getD i default).out.toNat 0 + 1)) := by
 intro w hw
 have hh := h w hw
 rw [fI hi, bo]
 unfold In at ho
 by_cases e : (n.cells.getD i default).out = (w : Int)
 ·rw [if_pos ⟨om, om⟩, if_pos ⟨h7, e⟩]
  have e2 : (n.cells.getD i default).out.toNat = w := by omega
  rw [e2, hh]; omega
 ·rw [if_neg om, if_neg (fun h => e h.2), hh]; omega
theorem Ba.le {n : ab} {i : Nat} {d : List Int} (h : Ba n i d) {w : Nat} (hw : w < n.aa.length) : 0 ≤ d.getD w 0 ∧ d.getD w 0 ≤ i := by
 rw [h w hw]
 have : di (n.cells.take i) w ≤ i := Nat.le_trans List.countP_le_length (by rw [List.length_take]; omega)
 omega
end Go.Proofs.Ytligpghohcfpnaa
/- Netlists that grow, in plain Lean. -/
namespace Go.Proofs.Ytligpghohcfpnaa
open Go Go.AW

def nB : ByteArray := ⟨#[110]⟩
def mB : ByteArray := ⟨#[109]⟩
def sB : ByteArray := ⟨#[115]⟩
theorem pw (b : UInt8) (h : g8 b.toNat) : jr ⟨#[b]⟩ := by
 refine ⟨fun i hi => ?_, by show 1 ≤ 64; decide⟩
 have gQ : i < 1 := hi
 obtain rfl : i = 0 := by omega
 exact h
def pn (ws : List Int) (cs : List Cell) (ins : List Int) (aw : List dV) (streams : List bE) : ab := ⟨nB, ws, cs, ins, aw, streams, [], [], 0, 0, []⟩
structure Gr (n : ab) : Prop where
 ground : Ground n
 cells : ∀ c ∈ n.cells, iA n c ∧ Fits n c ∧ c.num < 18446744073709551616 ∧ c.args.length ≤ 4
 iB : ∀ w, w < n.aa.length → di n.cells w = 1
 mx : ∀ i j, bB n i → bB n j → (n.cell j).out ∈ (n.cell i).args → j < i

theorem Fits.ext {n n' : ab} {c : Cell} (hm : n'.aw = n.aw) (hi : n'.ins = n.ins) (hs : n'.streams = n.streams) (ha : ∀ k, n'.av c k = n.av c k) (ho : n'.ow c = n.ow c) (h : Fits n c) : Fits n' c := by
 unfold Fits jN at *
 simp only [ha, ho, hm, hi, hs]; exact h
theorem sq.fits {n n' : ab} {c c' : Cell} {w : Int} (hm : n'.aw = n.aw) (hi : n'.ins = n.ins) (hs : n'.streams = n.streams) (hk : c'.kind = c.kind) (El : c'.op = c.op) (hr : c'.args = c.args) (hn : c'.num = c.num) (PF : c'.mem = c.mem)
  (ha : ∀ k, n'.av c' k = n.av c k) (ho : c.kind ≠ 7 → n'.ow c' = w) (h : sq n c w) : Fits n' c' := by
 unfold sq at h
 unfold Fits jN
 simp only [ha, hm, hi, hs, hk, El, hr, hn, PF]
 by_cases h7 : c.kind = 7
 ·rw [h7] at h ⊢
  simp only [Int.reduceEq, false_and, true_and, or_false, false_or] at h ⊢
  exact h
 ·rw [ho h7]; exact h
theorem wW {ws vD : List Int} {x : Int} (hs : ∀ x, x < ws.length → vD.getD x 0 = ws.getD x 0) (hx : In x ws.length) : vD.getD x.toNat 0 = ws.getD x.toNat 0 := hs _ (by unfold In at hx; omega)
theorem vE (l : List Cell) (c : Cell) (w : Nat) : di (l ++ [c]) w = di l w + di [c] w := by simp only [di, List.countP_append]
theorem um {l : List Cell} {w : Nat} (h : ∀ c ∈ l, ¬ (c.kind ≠ 7 ∧ c.out = (w : Int))) : di l w = 0 := by
 unfold di
 rw [List.countP_eq_zero]
 intro c hc
 simpa using h c hc
theorem iD {α : Type} {d : α} {l r : List α} {i : Nat} (h : i < l.length) : (l ++ r).getD i d = l.getD i d := by
 rw [List.getD_eq_getElem?_getD, List.getElem?_append_left h, ← List.getD_eq_getElem?_getD]
theorem lJ {α : Type} {d c : α} {l : List α} {i : Nat} (h : i = l.length) : (l ++ [c]).getD i d = c := by
 subst h
 rw [List.getD_eq_getElem?_getD, List.getElem?_append_right (Nat.le_refl _), Nat.sub_self]; rfl

section
variable {ws vD : List Int} {cs : List Cell} {ins : List Int} {aw : List dV} {streams : List bE} {c0 : Cell}
theorem Gr.push (h : Gr (pn ws cs ins aw streams)) (h0 : 0 < ws.length) (hw : ∀ w ∈ vD, fj w) (hs : ∀ x, x < ws.length → vD.getD x 0 = ws.getD x 0) (hle : ws.length ≤ vD.length)
  (hc : iA (pn vD cs ins aw streams) c0) (ha : ∀ x ∈ c0.args, In x ws.length) (hf : Fits (pn vD cs ins aw streams) c0) (Lj : c0.num < 18446744073709551616) (hlen : c0.args.length ≤ 4)
  (PG : ∀ x, x < vD.length → di [c0] x = if x < ws.length then 0 else 1) (mu : b7 c0.kind → c0.out = ws.length) (O3 : vD.length ≤ ws.length + 1) : Gr (pn vD (cs ++ [c0]) ins aw streams) where
 ground := ⟨fun k => by
   obtain ⟨j, h1, h2⟩ := h.ground.has k
   exact ⟨j, Nat.lt_of_lt_of_le h1 hle, (hs j h1).trans h2⟩, hw, h.ground.aw, h.ground.strs, h.ground.ins⟩
 cells := by
  intro c yG
  rcases List.mem_append.1 yG with h1 | h1
  ·obtain ⟨a1, a2, a3, a4⟩ := h.cells c h1
   have b1 : ∀ x ∈ c.args, In x ws.length := a1.1
   refine ⟨⟨fun x hx => ?_, a1.2.1, a1.2.2.1, fun h7 => ?_⟩, ?_, a3, a4⟩
   ·have := b1 x hx; unfold In at *; exact ⟨this.1, by show x < (vD.length : Int); omega⟩
   ·have := a1.2.2.2 h7; unfold In at *; exact ⟨this.1, by have := this.2; show c.out < (vD.length : Int); change c.out < (ws.length : Int) at this; omega⟩
   ·refine Fits.ext (n := pn ws cs ins aw streams) rfl rfl rfl (fun k => ?_) ?_ a2
    ·refine wW hs ?_
     rcases Nat.lt_or_ge k c.args.length with hk | hk
     ·exact b1 _ (bm hk)
     ·rw [List.getD_eq_getElem?_getD, List.getElem?_eq_none hk]; exact ⟨Int.le_refl 0, by show (0 : Int) < (ws.length : Int); omega⟩
    ·unfold ab.ow
     split
     ·rename_i h2
      by_cases h7 : c.kind = 7
      ·have := a1.2.2.1 h7; omega
      ·exact wW hs (a1.2.2.2 h7)
     ·rfl
  ·rw [List.mem_singleton.1 h1]
   exact ⟨hc, hf, Lj, hlen⟩
 iB := by
  intro w wJ
  show di (cs ++ [c0]) w = 1
  rw [vE, PG w wJ]
  by_cases h1 : w < ws.length
  ·rw [if_pos h1]; have h2 := h.iB w h1; change di cs w = 1 at h2; omega
  ·rw [if_neg h1, um]
   rintro c yG ⟨h2, h3⟩
   have := (h.cells c yG).1.2.2.2 h2
   unfold In at this
   have h4 := this.2
   change c.out < (ws.length : Int) at h4
   omega
 mx := by
  intro i j hi hj ho
  have cl : ∀ {k : Int}, 0 ≤ k ∧ k < (cs.length : Int) → (pn vD (cs ++ [c0]) ins aw streams).cell k = (pn ws cs ins aw streams).cell k := fun hk => iD om
  have cr : ∀ {k : Int}, k = (cs.length : Int) → (pn vD (cs ++ [c0]) ins aw streams).cell k = c0 := fun hk => lJ om
  have li : 0 ≤ i ∧ i < (cs.length : Int) + 1 := by have := hi.1; simp [pn] at this; omega
  have lj : 0 ≤ j ∧ j < (cs.length : Int) + 1 := by have := hj.1; simp [pn] at this; omega
  by_cases e1 : i = (cs.length : Int)
  ·by_cases e2 : j = (cs.length : Int)
   ·exfalso
    rw [cr e1, cr e2] at ho
    have h1 := ha _ ho
    have h2 := hj.2
    rw [cr e2] at h2
    rw [mu h2] at h1
    unfold In at h1; omega
   ·omega
  ·have gQ : bB (pn ws cs ins aw streams) i := ⟨⟨li.1, by show i < (cs.length : Int); omega⟩, by have := hi.2; rwa [cl ⟨li.1, om⟩] at this⟩
   rw [cl (k := i) ⟨li.1, om⟩] at ho
   by_cases e2 : j = (cs.length : Int)
   ·exfalso
    have h2 := hj.2
    rw [cr e2] at h2 ho
    rw [mu h2] at ho
    have h3 : In (ws.length : Int) ws.length := (h.cells ((pn ws cs ins aw streams).cell i) (getD_in (l := cs) om)).1.1 _ ho
    unfold In at h3; omega
   ·have o6 : bB (pn ws cs ins aw streams) j := ⟨⟨lj.1, by show j < (cs.length : Int); omega⟩, by have := hj.2; rwa [cl ⟨lj.1, om⟩] at this⟩
    rw [cl (k := j) ⟨lj.1, om⟩] at ho
    exact h.mx i j gQ o6 ho
theorem Eo {w : Int} {x : Int} (hx : In x ws.length) : (ws ++ [w]).getD x.toNat 0 = ws.getD x.toNat 0 := iD (by unfold In at hx; omega)
theorem Gr.add {c : Cell} {w : Int} (h : Gr (pn ws cs ins aw streams)) (h0 : 0 < ws.length) (hp : vC (pn ws cs ins aw streams) c w) (h7 : c.kind ≠ 7) :
  Gr (pn (ws ++ [w]) (cs ++ [⟨c.kind, c.op, (ws.length : Int), c.args, c.num, c.mem⟩]) ins aw streams) := by
 have ha : ∀ k, In (c.args.getD k 0) ws.length := fun k => by
  rcases Nat.lt_or_ge k c.args.length with hk | hk
  ·exact hp.args _ (bm hk)
  ·rw [List.getD_eq_getElem?_getD, List.getElem?_eq_none hk]; exact ⟨Int.le_refl 0, by show (0 : Int) < (ws.length : Int); omega⟩
 refine Gr.push h h0 (fun v hv => ?_) (fun x hx => iD hx) (by simp) ⟨fun x hx => ?_, hp.shaped, fun h => absurd h h7, fun _ => ⟨by show (0 : Int) ≤ (ws.length : Int); omega, by simp [pn]; omega⟩⟩ hp.args ?_ hp.num hp.len (fun x hx => ?_) (fun _ => rfl) (by simp)
 ·rcases List.mem_append.1 hv with h1 | h1
  ·exact h.ground.wide v h1
  ·rw [List.mem_singleton.1 h1]; exact hp.wide
 ·have := hp.args x hx
  unfold In at *
  exact ⟨this.1, by have := this.2; change x < (ws.length : Int) at this; simp [pn]; omega⟩
 ·refine sq.fits (n := pn ws cs ins aw streams) (c := c) (w := w) rfl rfl rfl rfl rfl rfl rfl rfl (fun k => Eo (ha k)) (fun _ => ?_) hp.fits
  show (if (0 : Int) ≤ (ws.length : Int) then (ws ++ [w]).getD ((ws.length : Int)).toNat 0 else 0) = w
  rw [if_pos om]
  exact lJ (by simp)
 ·have gR : x < ws.length + 1 := by simpa using hx
  show List.countP _ _ = _
  rw [List.countP_singleton]
  by_cases e : x < ws.length
  ·rw [if_pos e, if_neg (by simp only [decide_eq_true_eq]; rintro ⟨_, h2⟩; omega)]
  ·rw [if_neg e, if_pos (by simp only [decide_eq_true_eq]; exact ⟨h7, by show (ws.length : Int) = (x : Int); omega⟩)]
theorem Gr.qh {c : Cell} {w : Int} (h : Gr (pn ws cs ins aw streams)) (h0 : 0 < ws.length) (hp : vC (pn ws cs ins aw streams) c w) (h7 : c.kind = 7) :
  Gr (pn ws (cs ++ [c]) ins aw streams) := by
 refine Gr.push h h0 h.ground.wide (fun _ _ => rfl) (Nat.le_refl _) ⟨hp.args, hp.shaped, hp.out, fun h => absurd h7 h⟩ hp.args ?_ hp.num hp.len (fun x hx => ?_) (fun hc => ?_) om
 ·exact sq.fits (n := pn ws cs ins aw streams) (c := c) (w := w) rfl rfl rfl rfl rfl rfl rfl rfl (fun k => rfl) (fun h => absurd h7 h) hp.fits
 ·show List.countP _ _ = _
  rw [List.countP_singleton, if_pos hx, if_neg (by simp only [decide_eq_true_eq]; rintro ⟨h2, _⟩; exact h2 h7)]
 ·rw [h7] at hc; exact absurd hc ae
theorem Gr.setArgs {k : Nat} {args : List Int} (h : Gr (pn ws cs ins aw streams)) (hk : k < cs.length) (h4 : (cs.getD k default).kind = 4) (ha : ∀ x ∈ args, In x ws.length)
  (hl : args.length = 2) (h1 : ws.getD (args.getD 0 0).toNat 0 = 1) (h2 : ws.getD (args.getD 1 0).toNat 0 = ws.getD (cs.getD k default).out.toNat 0) :
  Gr (pn ws (cs.set k ⟨(cs.getD k default).kind, (cs.getD k default).op, (cs.getD k default).out, args, (cs.getD k default).num, (cs.getD k default).mem⟩) ins aw streams) := by
 have yG : cs.getD k default ∈ cs := getD_in hk
 obtain ⟨a1, a2, a3, a4⟩ := h.cells _ yG
 have ho := a1.2.2.2 (by rw [h4]; decide)
 generalize hc : cs.getD k default = c at *
 have cell : ∀ i : Int, (pn ws (cs.set k ⟨c.kind, c.op, c.out, args, c.num, c.mem⟩) ins aw streams).cell i = if k = i.toNat ∧ k < cs.length then ⟨c.kind, c.op, c.out, args, c.num, c.mem⟩ else (pn ws cs ins aw streams).cell i := fun i => bo ..
 refine ⟨⟨h.ground.has, h.ground.wide, h.ground.aw, h.ground.strs, h.ground.ins⟩, ?_, ?_, ?_⟩
 ·intro c' nN
  rcases List.mem_or_eq_of_mem_set nN with h5 | h5
  ·exact h.cells c' h5
  ·subst h5
   refine ⟨⟨ha, ?_, fun h7 => ?_, fun _ => ho⟩, ?_, a3, by simp only [hl]; decide⟩
   ·have := a1.2.1
    simp only [Shaped, h4, Int.reduceEq, false_and, true_and, false_or, or_false] at this
    exact .inr (.inr (.inr (.inl ⟨h4, hl, this.2.1, this.2.2⟩)))
   ·simp only [h4] at h7; exact absurd h7 ae
   ·simp only [Fits, h4, Int.reduceEq, false_and, true_and, false_or, or_false] at a2
    refine .inr (.inr (.inr (.inl ⟨h4, h1, ?_, a2.2.2⟩)))
    show ws.getD (args.getD 1 0).toNat 0 = if 0 ≤ c.out then ws.getD c.out.toNat 0 else 0
    unfold In at ho
    rw [if_pos ho.1]; exact h2
 ·intro w hw
  have := h.iB w hw
  rw [← this]
  show List.countP _ (cs.set k _) = List.countP _ cs
  have e : ∀ (l : List Cell) (f : Cell → Bool), List.countP f l = List.countP id (l.map f) := fun l f => by rw [List.countP_map]; rfl
  rw [e, e cs, List.map_set]
  congr 1
  have yE : k < (cs.map (fun c => decide (c.kind ≠ 7 ∧ c.out = (w : Int)))).length := by simpa using hk
  have hg : (cs.map (fun c => decide (c.kind ≠ 7 ∧ c.out = (w : Int))))[k] = decide (c.kind ≠ 7 ∧ c.out = (w : Int)) := by
   rw [List.getElem_map]
   have : cs[k] = c := by rw [← hc, List.getD_eq_getElem?_getD, List.getElem?_eq_getElem hk]; rfl
   rw [this]
  rw [← hg, List.set_getElem_self]
 ·intro i j hi hj hm
  have key : ∀ {i : Int}, bB (pn ws (cs.set k ⟨c.kind, c.op, c.out, args, c.num, c.mem⟩) ins aw streams) i → (pn ws (cs.set k ⟨c.kind, c.op, c.out, args, c.num, c.mem⟩) ins aw streams).cell i = (pn ws cs ins aw streams).cell i ∧ bB (pn ws cs ins aw streams) i := by
   intro i hi
   have l3 := hi.2
   have HP : 0 ≤ i ∧ i < (cs.length : Int) := by have := hi.1; simp [pn] at this; omega
   rw [cell] at l3
   by_cases e : k = i.toNat ∧ k < cs.length
   ·rw [if_pos e] at l3
    simp only [h4] at l3
    exact absurd l3 ae
   ·rw [if_neg e] at l3
    exact ⟨by rw [cell, if_neg e], HP, l3⟩
  rw [(key hi).1, (key hj).1] at hm
  exact h.mx i j (key hi).2 (key hj).2 hm
end
end Go.Proofs.Ytligpghohcfpnaa
/- Netlists that are made of plans, in plain Lean. -/
namespace Go.Proofs.Ytligpghohcfpnaa
open Go Go.AW

def uX (i : Nat) : List Int := (List.range i).map al
def yH (i : Nat) : List Cell := (List.range i).map (fun (j : Nat) => (⟨1, 0, (j : Int), [], j % 2, 0⟩ : Cell))
theorem zG (i : Nat) : uX (i + 1) = uX i ++ [al i] := by simp [uX, List.range_succ]
theorem zH (i : Nat) : yH (i + 1) = yH i ++ [(⟨1, 0, (i : Int), [], i % 2, 0⟩ : Cell)] := by simp [yH, List.range_succ]
theorem oG (i : Nat) : (uX i).length = i := by simp [uX]
theorem BY (i : Nat) : (yH i).length = i := by simp [yH]
theorem wX {i j : Nat} (h : j < i) : (uX i).getD j 0 = al j := by
 rw [List.getD_eq_getElem?_getD, List.getElem?_eq_getElem (by rw [oG]; exact h)]; simp [uX]

theorem PH {ins : List Int} {aw : List dV} {streams : List bE} (hm : ∀ m ∈ aw, ∃ k, m.width = al k) (hs : ∀ s ∈ streams, ∃ k, s.width = al k) (hi : ∀ w ∈ ins, ∃ k, w = al k) : Gr (pn (uX 8) (yH 8) ins aw streams) where
 ground := ⟨fun k => ⟨k % 8, by show k % 8 < (uX 8).length; rw [oG]; omega, by show (uX 8).getD (k % 8) 0 = _; rw [wX om]; simp only [al, Nat.mod_mod]⟩, fun w hw => by
  obtain ⟨k, _, rfl⟩ := List.mem_map.1 hw
  exact du k, hm, hs, hi⟩
 cells := by
  intro c hc
  obtain ⟨j, hj, rfl⟩ := List.mem_map.1 hc
  have o6 : j < 8 := List.mem_range.1 hj
  have h8 : (uX 8).length = 8 := oG 8
  refine ⟨⟨fun x hx => (by cases hx), .inl ⟨rfl, rfl, rfl, rfl⟩, fun h => by simp at h, fun _ => ⟨by show (0 : Int) ≤ (j : Int); omega, by show (j : Int) < ((uX 8).length : Int); omega⟩⟩, .inl ⟨rfl, ?_⟩, by show j % 2 < _; omega, by simp⟩
  show kE (if (0 : Int) ≤ (j : Int) then (uX 8).getD ((j : Int)).toNat 0 else 0) (j % 2) = j % 2
  rw [if_pos om, Int.toNat_natCast, wX o6]
  have : ∀ j, j < 8 → kE (al j) (j % 2) = j % 2 := by decide
  exact this j o6
 iB := by
  have : ∀ w, w < 8 → di (yH 8) w = 1 := by decide
  intro w hw
  have pP : w < (uX 8).length := hw
  rw [oG] at pP
  exact this w pP
 mx := by
  intro i j hi _ ho
  exfalso
  have h1 := hi.1
  have h2 : 0 ≤ i ∧ i < ((yH 8).length : Int) := h1
  have h3 : (pn (uX 8) (yH 8) ins aw streams).cell i ∈ yH 8 := getD_in (l := yH 8) om
  obtain ⟨k, _, hk⟩ := List.mem_map.1 h3
  rw [← hk] at ho
  cases ho
section
variable {ws : List Int} {cs : List Cell} {ins : List Int} {aw : List dV} {streams : List bE}
theorem ss (p : pb) (i : Nat) : (pV ws cs p i).length = cs.length := by
 unfold pV; split
 ·rw [List.length_set]
 ·rfl
theorem bH {p : Prop} (h : p := by first | omega | (simp only [ss]; omega) | (simp [-List.getD_eq_getElem?_getD]; done) | (simp [-List.getD_eq_getElem?_getD]; omega)) : p := h
theorem Gr.outs (h : Gr (pn ws cs ins aw streams)) {k : Nat} (hk : k < cs.length) (h4 : (cs.getD k default).kind = 4) : In (cs.getD k default).out ws.length := (h.cells (cs.getD k default) (getD_in hk)).1.2.2.2 (by rw [h4]; decide)
theorem Gr.late (h : Gr (pn ws cs ins aw streams)) {p : pb} {i : Nat} (hi : i < cs.length) : Gr (pn ws (pV ws cs p i) ins aw streams) := by
 unfold pV
 split
 ·rename_i h4
  have hk : (((cs.length : Int) - 1) - (i : Int)).toNat < cs.length := by omega
  have ho := h.outs hk h4
  have h1 := cR h.ground.one p.a
  have h2 := cR (ws := ws) (w := ws.getD (cs.getD (((cs.length : Int) - 1) - (i : Int)).toNat default).out.toNat 0) ⟨_, by unfold In at ho; omega, rfl⟩ p.d
  refine h.setArgs hk h4 ?_ rfl h1.2 h2.2
  intro x hx
  simp only [List.mem_cons, List.not_mem_nil, or_false] at hx
  rcases hx with rfl | rfl
  ·exact h1.1
  ·exact h2.1
 ·exact h
def su (ws : List Int) (streams : List bE) (aX data : List Int) (j : Nat) : Prop :=
 (In (aX.getD j 0) ws.length ∧ ws.getD (aX.getD j 0).toNat 0 = 1) ∧ ((streams.getD j default).out = true → In (data.getD j 0) ws.length ∧ ws.getD (data.getD j 0).toNat 0 = (streams.getD j default).width) ∧
  ((streams.getD j default).out = false → data.getD j 0 = -1)
structure wY (n : ab) : Prop where
 formed : aW n
 fit : Fit n
 acyclic : Acyclic n
 small : n.Small
 cK : 8 ≤ n.cells.length ∧ n.cells.length ≤ 48
 cv : 8 ≤ n.aa.length ∧ n.aa.length ≤ 48
 ir : ∀ c ∈ n.cells, c.args.length ≤ 4
 iW : n.bI.length ≤ 3
 iq : n.aw.length ≤ 3
 bO : n.streams.length ≤ 4
 sS : n.ins.length ≤ 4
theorem wZ : ∀ {l : List Cell}, (∀ c ∈ l, c.args.length ≤ 4) → (l.map (fun c => c.args.length)).sum ≤ 4 * l.length
 | [], _ => by simp
 | c :: r, h => by
  have h1 := h c (by simp)
  have h2 := wZ (l := r) (fun c hc => h c (List.mem_cons_of_mem _ hc))
  simp only [List.map_cons, List.sum_cons, List.length_cons]; omega
theorem Gr.made (h : Gr (pn ws cs ins aw streams)) {aX data bI : List Int} {f d : Int} (rI : 8 ≤ cs.length ∧ cs.length ≤ 48) (O3 : 8 ≤ ws.length ∧ ws.length ≤ 48) (HR : aw.length ≤ 3) (Lk : streams.length ≤ 4) (Ll : ins.length ≤ 4) (HS : bI.length ≤ 3)
  (hm : ∀ m ∈ aw, kY m) (hs : ∀ s ∈ streams, jr s.name) (ha : aX.length = streams.length) (hd : data.length = streams.length) (he : ∀ j, j < streams.length → su ws streams aX data j)
  (hr : ∀ r ∈ bI, In r ws.length) (hf : In f ws.length ∧ ws.getD f.toNat 0 = 1) (JR : In d ws.length ∧ ws.getD d.toNat 0 = 1) : wY ⟨nB, ws, cs, ins, aw, streams, aX, data, f, d, bI⟩ where
 formed := {
  name := pw 110 (by unfold g8; decide)
  cK := by show cs.length ≤ _; omega
  cv := by show ws.length ≤ _; omega
  iq := by show aw.length ≤ _; omega
  bO := by show streams.length ≤ _; omega
  cP := ha
  eY := hd
  wide := fun j hj => by
   have o6 : j < (ws ++ ins).length := hj
   have h1 : (ws ++ ins).getD j 0 ∈ ws ++ ins := getD_in o6
   rcases List.mem_append.1 h1 with h2 | h2
   ·exact h.ground.wide _ h2
   ·obtain ⟨k, hk⟩ := h.ground.ins _ h2
    show fj ((ws ++ ins).getD j 0)
    rw [hk]; exact du k
  aw := fun j hj => hm _ (getD_in hj)
  strs := fun j hj => by
   have h1 := he j hj
   exact ⟨hs _ (getD_in hj), (h.ground.str hj).2, h1.1.1, fun ho => (h1.2.1 ho).1, h1.2.2⟩
  freeze := hf.1
  done := JR.1
  bI := hr
  cells := fun j hj => (h.cells _ (getD_in hj)).1
  iB := h.iB }
 fit := {
  freeze := hf.2
  done := JR.2
  strs := fun j hj => ⟨(he j hj).1.2, fun ho => ((he j hj).2.1 ho).2⟩
  cells := fun j hj => (h.cells _ (getD_in hj)).2.1 }
 acyclic := ⟨fun i => i.toNat, fun i j hi hj ho => by
  have h1 := h.mx i j hi hj ho
  have h2 := hi.1.1; have h3 := hj.1.1
  show j.toNat < i.toNat
  omega⟩
 small := {
  name := by show nB.size ≤ _; decide
  aa := by show ws.length ≤ _; omega
  cells := by show cs.length ≤ _; omega
  args := fun c hc => by have := (h.cells c hc).2.2.2; omega
  zy := by
   have := wZ (l := cs) (fun c hc => (h.cells c hc).2.2.2)
   show (cs.map (fun c => c.args.length)).sum ≤ _
   omega
  zz := fun c hc => (h.cells c hc).2.2.1
  mS := fun m GX => by have := (hm m GX).1.2; omega
  mT := fun m GX => by have := (hs m GX).2; omega
  ins := by show ins.length ≤ _; omega
  aw := by show aw.length ≤ _; omega
  streams := by show streams.length ≤ _; omega
  aX := by show aX.length ≤ _; omega
  data := by show data.length ≤ _; omega
  bI := by show bI.length ≤ _; omega }
 cK := rI
 cv := O3
 ir := fun c hc => (h.cells c hc).2.2.2
 iW := HS
 iq := HR
 bO := Lk
 sS := Ll
end
structure l4.Gj (p : l4) : Prop where
 aw : p.aw.length ≤ 3
 streams : p.streams.length ≤ 4
 ins : p.ins.length ≤ 4
 parts : p.parts.length ≤ 40
 bI : p.bI.length ≤ 3
structure l4.Ok (p : l4) : Prop where
 aw : ∀ m ∈ p.aw, m.a < 256 ∧ m.b < 256
 streams : ∀ m ∈ p.streams, m.a < 256 ∧ m.b < 256
 ins : ∀ k ∈ p.ins, k < 256
 parts : ∀ q ∈ p.parts, q.Ok
 bI : ∀ k ∈ p.bI, k < 256
theorem qw {α : Type} {P : α → Prop} {l : List α} {c : α} (h : ∀ m ∈ l, P m) (hc : P c) : ∀ m ∈ l ++ [c], P m := by
 intro m hm
 rcases List.mem_append.1 hm with h1 | h1
 ·exact h m h1
 ·rw [List.mem_singleton.1 h1]; exact hc
theorem vF {x : Nat} {l : Int} (h : 1 ≤ l ∧ l ≤ 4096) : kY ⟨mB, al x, l, 0, 0⟩ ∧ ∃ k, (⟨mB, al x, l, 0, 0⟩ : dV).width = al k :=
 ⟨⟨pw 109 (by unfold g8; decide), du x, h.1, h.2, rfl, rfl⟩, x, rfl⟩
theorem vG {x : Nat} {o : Bool} : jr (⟨sB, al x, o⟩ : bE).name ∧ ∃ k, (⟨sB, al x, o⟩ : bE).width = al k := ⟨pw 115 (by unfold g8; decide), x, rfl⟩
theorem Gr.Ep {ws : List Int} {cs : List Cell} {ins : List Int} {aw : List dV} {streams : List bE} (h : Gr (pn ws cs ins aw streams)) {i : Nat} (hi : i < cs.length) :
  In (cs.getD ((((cs.length : Int) - 1) - (i : Int)).toNat) default).out ws.length ∨ (cs.getD ((((cs.length : Int) - 1) - (i : Int)).toNat) default).kind ≠ 4 := by
 by_cases h4 : (cs.getD ((((cs.length : Int) - 1) - (i : Int)).toNat) default).kind = 4
 ·exact .inl (h.outs om h4)
 ·exact .inr h4
def xa (ws : List Int) (streams : List bE) (i : Nat) (d0 d : List Int) : Prop :=
 d.length = i + 1 ∧ (∀ j, j < i → d.getD j 0 = d0.getD j 0) ∧ ((streams.getD i default).out = true → In (d.getD i 0) ws.length ∧ ws.getD (d.getD i 0).toNat 0 = (streams.getD i default).width) ∧ ((streams.getD i default).out = false → d.getD i 0 = -1)
theorem uo {ws : List Int} {streams : List bE} {i : Nat} {d0 : List Int} {x : Int} (hl : d0.length = i) (hx : In x ws.length ∧ ws.getD x.toNat 0 = (streams.getD i default).width) (ho : (streams.getD i default).out = true) :
  xa ws streams i d0 ((d0 ++ ([-1] : List Int)).set i x) := by
 have e : ((d0 ++ ([-1] : List Int)).set i x).getD i 0 = x := by rw [bo, if_pos ⟨rfl, by simp; omega⟩]
 refine ⟨by simp [hl], fun j hj => ?_, fun _ => by rw [e]; exact hx, fun h => by rw [ho] at h; cases h⟩
 rw [bo, if_neg om, iD om]
theorem uq {ws : List Int} {streams : List bE} {i : Nat} {d0 : List Int} (hl : d0.length = i) (ho : (streams.getD i default).out = false) : xa ws streams i d0 (d0 ++ ([-1] : List Int)) :=
 ⟨by simp [hl], fun j hj => iD om, fun h => (by rw [ho] at h; cases h), fun _ => lJ hl.symm⟩
theorem xG {ws : List Int} {streams : List bE} {i : Nat} {a d0 d : List Int} {x : Int} (Db : a.length = i) (h : ∀ j, j < i → su ws streams a d0 j) (hx : In x ws.length ∧ ws.getD x.toNat 0 = 1) (hd : xa ws streams i d0 d) :
  ∀ j, j < i + 1 → su ws streams (a ++ [x]) d j := by
 intro j hj
 rcases Nat.lt_or_ge j i with h1 | h1
 ·have h2 := h j h1
  unfold su at *
  rw [iD om, hd.2.1 j h1]; exact h2
 ·obtain rfl : j = i := by omega
  unfold su
  rw [lJ Db.symm]
  exact ⟨hx, hd.2.2.1, hd.2.2.2⟩
end Go.Proofs.Ytligpghohcfpnaa
/- How plans are read. -/
namespace Go.Proofs.Ytligpghohcfpnaa
open Go Go.AW Go.Proofs

section
variable {H : Type} {enc : TypeId × Value → H} {W : World} {base : Nat}
theorem zI : Try.prog.cellsOf 5 = 1 := by kernel_rfl
theorem HT : Try.prog.cellsOf 86 = 3 := by kernel_rfl
theorem Lm : Reads enc Try.prog W base 81 U2.row (fun m => m.a < 256 ∧ m.b < 256) (fun _ => 0) :=
 (Reads.KV Try.underlying81 zI aq pq).map (fun x => (⟨x.1, x.2⟩ : U2)) (fun _ => rfl) (fun _ h => h) (fun _ => Nat.zero_le _)
theorem Ln : Reads enc Try.prog W base 86 (fun x : Nat × Nat × Nat => qL x.1 ++ (qL x.2.1 ++ qL x.2.2)) (fun x => x.1 < 256 ∧ x.2.1 < 256 ∧ x.2.2 < 256) (fun _ => 0) := Reads.KW Try.underlying86 zI aq pq
theorem HU : Reads enc Try.prog W base 88 pb.row pb.Ok (fun _ => 0) :=
 (Reads.struct Try.underlying88 aq (fx.cons rfl zI pq (fx.cons rfl zI pq (fx.cons rfl zI pq (fx.cons rfl HT Ln (fx.cons rfl HF BR fx.nil)))))).map
  (fun x => (⟨x.1, x.2.1, x.2.2.1, x.2.2.2.1.1, x.2.2.2.1.2.1, x.2.2.2.1.2.2, x.2.2.2.2.1⟩ : pb)) (fun _ => rfl) (fun x h => ⟨h.1, h.2.1, h.2.2.1, h.2.2.2.1.1, h.2.2.2.1.2.1, h.2.2.2.1.2.2, h.2.2.2.2.1⟩) (fun _ => Nat.zero_le _)
theorem Dc : Reads enc Try.prog W base 32 (fun l : List U2 => [.fz 2 (l.map U2.row)]) (fun l => l.length * 2 ≤ 140737488351232 ∧ ∀ a ∈ l, a.a < 256 ∧ a.b < 256) (fun l => (l.map (fun _ => 0)).sum) := Reads.slice Try.underlying32 aq ae aq Lm
theorem Dd : Reads enc Try.prog W base 33 (fun l : List Nat => [.fz 1 (l.map qL)]) (fun l => l.length * 1 ≤ 140737488351232 ∧ ∀ a ∈ l, a < 256) (fun l => (l.map (fun _ => 1)).sum) := Reads.slice Try.underlying33 aq ae aq pq
theorem Es : Reads enc Try.prog W base 34 (fun l : List pb => [.fz 7 (l.map pb.row)]) (fun l => l.length * 16 ≤ 140737488351232 ∧ ∀ a ∈ l, a.Ok) (fun l => (l.map (fun _ => 0)).sum) := Reads.slice Try.underlying34 aq ae aq HU
theorem De : Try.prog.cellsOf 32 = 1 := by kernel_rfl
theorem Df : Try.prog.cellsOf 33 = 1 := by kernel_rfl
theorem HV : Try.prog.cellsOf 34 = 1 := by kernel_rfl
theorem HW : Reads enc Try.prog W base 36 l4.row l4.Ok (fun _ => 0) :=
 (Reads.struct Try.underlying36 aq (fx.cons rfl De Dc (fx.cons rfl De Dc (fx.cons rfl Df Dd (fx.cons rfl HV Es (fx.cons rfl Df Dd fx.nil)))))).map
  (fun x => (⟨x.1, x.2.1, x.2.2.1, x.2.2.2.1, x.2.2.2.2.1⟩ : l4)) (fun _ => rfl) (fun x h => ⟨h.1.2, h.2.1.2, h.2.2.1.2, h.2.2.2.1.2, h.2.2.2.2.1.2⟩) (fun _ => Nat.zero_le _)
end
end Go.Proofs.Ytligpghohcfpnaa
/- The bulk of what is read. -/
namespace Go.Proofs.Ytligpghohcfpnaa
open Go Go.AW Go.Proofs
end Go.Proofs.Ytligpghohcfpnaa
/- Facts on the types of the program. -/
namespace Go.Proofs.Ytligpghohcfpnaa
open Go Go.AW Go.Proofs
theorem BZ : TY.array Try.prog 81 = some (2, 5, 1) := by kernel_rfl
theorem qT : TY.array Try.prog 86 = some (3, 5, 1) := by kernel_rfl
theorem oH : TY.jq Try.prog 106 0 = some (0, 3) := by kernel_rfl
theorem eH : TY.jq Try.prog 106 2 = some (2, 3) := by kernel_rfl
theorem oI : TY.jq Try.prog 106 3 = some (3, 3) := by kernel_rfl
theorem oJ : TY.jq Try.prog 106 4 = some (4, 3) := by kernel_rfl
theorem dW : TY.jq Try.prog 106 5 = some (5, 3) := by kernel_rfl
theorem Et : TY.jq Try.prog 27 0 = some (0, 9) := by kernel_rfl
theorem bN : TY.jq Try.prog 27 1 = some (1, 22) := by kernel_rfl
theorem jy : TY.jq Try.prog 27 10 = some (10, 22) := by kernel_rfl
theorem cb : TY.jq Try.prog 27 2 = some (2, 23) := by kernel_rfl
theorem kG : TY.jq Try.prog 27 3 = some (3, 22) := by kernel_rfl
theorem fK : TY.jq Try.prog 27 4 = some (4, 24) := by kernel_rfl
theorem ef : TY.jq Try.prog 27 5 = some (5, 25) := by kernel_rfl
theorem jQ : TY.jq Try.prog 27 6 = some (6, 22) := by kernel_rfl
theorem kH : TY.jq Try.prog 27 7 = some (7, 22) := by kernel_rfl
theorem nY : TY.jq Try.prog 27 8 = some (8, 3) := by kernel_rfl
theorem qU : TY.jq Try.prog 27 9 = some (9, 3) := by kernel_rfl
theorem sT : TY.jq Try.prog 36 0 = some (0, 32) := by kernel_rfl
theorem sU : TY.jq Try.prog 36 1 = some (1, 32) := by kernel_rfl
theorem vH : TY.jq Try.prog 36 2 = some (2, 33) := by kernel_rfl
theorem nZ : TY.jq Try.prog 36 3 = some (3, 34) := by kernel_rfl
theorem vI : TY.jq Try.prog 36 4 = some (4, 33) := by kernel_rfl
theorem cL : TY.jq Try.prog 39 0 = some (0, 3) := by kernel_rfl
theorem eg : TY.jq Try.prog 39 1 = some (1, 3) := by kernel_rfl
theorem dx : TY.jq Try.prog 39 2 = some (2, 3) := by kernel_rfl
theorem bF : TY.jq Try.prog 39 3 = some (3, 22) := by kernel_rfl
theorem dX : TY.jq Try.prog 39 4 = some (4, 37) := by kernel_rfl
theorem cV : TY.jq Try.prog 39 5 = some (5, 3) := by kernel_rfl
theorem Eu : TY.jq Try.prog 48 0 = some (0, 9) := by kernel_rfl
theorem qV : TY.jq Try.prog 48 1 = some (1, 3) := by kernel_rfl
theorem zJ : TY.jq Try.prog 48 2 = some (2, 3) := by kernel_rfl
theorem Ev : TY.jq Try.prog 48 3 = some (3, 3) := by kernel_rfl
theorem Ew : TY.jq Try.prog 48 4 = some (4, 3) := by kernel_rfl
theorem sV : TY.jq Try.prog 71 0 = some (0, 3) := by kernel_rfl
theorem sW : TY.jq Try.prog 71 1 = some (1, 22) := by kernel_rfl
theorem Ex : TY.jq Try.prog 83 0 = some (0, 9) := by kernel_rfl
theorem qW : TY.jq Try.prog 83 1 = some (1, 3) := by kernel_rfl
theorem kI : TY.jq Try.prog 83 2 = some (2, 4) := by kernel_rfl
theorem Ey : TY.jq Try.prog 88 0 = some (0, 5) := by kernel_rfl
theorem px : TY.jq Try.prog 88 1 = some (1, 5) := by kernel_rfl
theorem zK : TY.jq Try.prog 88 2 = some (2, 5) := by kernel_rfl
theorem jR : TY.jq Try.prog 88 3 = some (3, 86) := by kernel_rfl
theorem sX : TY.jq Try.prog 88 4 = some (6, 37) := by kernel_rfl
theorem HX : TY.isInt Try.prog 130 = some .u64 := by kernel_rfl
theorem py : TY.isInt Try.prog 3 = some .i64 := by kernel_rfl
theorem xH : TY.isInt Try.prog 37 = some .u64 := by kernel_rfl
theorem sY : TY.isInt Try.prog 5 = some .u8 := by kernel_rfl
theorem HY : aU Try.prog 100 = true := by kernel_rfl
theorem HZ : aU Try.prog 101 = true := by kernel_rfl
theorem Ia : aU Try.prog 102 = true := by kernel_rfl
theorem Ib : aU Try.prog 103 = true := by kernel_rfl
theorem Ic : aU Try.prog 104 = true := by kernel_rfl
theorem Ie : aU Try.prog 108 = true := by kernel_rfl
theorem Ig : aU Try.prog 109 = true := by kernel_rfl
theorem js : aU Try.prog 110 = true := by kernel_rfl
theorem Dg : aU Try.prog 111 = true := by kernel_rfl
theorem Ih : aU Try.prog 112 = true := by kernel_rfl
theorem Ii : aU Try.prog 118 = true := by kernel_rfl
theorem Ij : aU Try.prog 123 = true := by kernel_rfl
theorem zL : aU Try.prog 124 = true := by kernel_rfl
theorem Ik : aU Try.prog 125 = true := by kernel_rfl
theorem Il : aU Try.prog 126 = true := by kernel_rfl
theorem Im : aU Try.prog 127 = true := by kernel_rfl
theorem Io : aU Try.prog 129 = true := by kernel_rfl
theorem Ip : aU Try.prog 130 = true := by kernel_rfl
theorem Iq : aU Try.prog 131 = true := by kernel_rfl
theorem Lo : aU Try.prog 18 = true := by kernel_rfl
theorem Lp : aU Try.prog 19 = true := by kernel_rfl
theorem Ir : aU Try.prog 20 = true := by kernel_rfl
theorem xI : aU Try.prog 21 = true := by kernel_rfl
theorem Ez : aU Try.prog 22 = true := by kernel_rfl
theorem Is : aU Try.prog 26 = true := by kernel_rfl
theorem It : aU Try.prog 40 = true := by kernel_rfl
theorem xJ : aU Try.prog 41 = true := by kernel_rfl
theorem Ca : aU Try.prog 42 = true := by kernel_rfl
theorem Lq : aU Try.prog 43 = true := by kernel_rfl
theorem Iu : aU Try.prog 46 = true := by kernel_rfl
theorem rN : aU Try.prog 53 = true := by kernel_rfl
theorem Iv : aU Try.prog 54 = true := by kernel_rfl
theorem Lr : aU Try.prog 55 = true := by kernel_rfl
theorem gA : aU Try.prog 56 = true := by kernel_rfl
theorem Ls : aU Try.prog 57 = true := by kernel_rfl
theorem Lt : aU Try.prog 58 = true := by kernel_rfl
theorem xK : aU Try.prog 65 = true := by kernel_rfl
theorem Lu : aU Try.prog 66 = true := by kernel_rfl
theorem Lv : aU Try.prog 67 = true := by kernel_rfl
theorem Iw : aU Try.prog 72 = true := by kernel_rfl
theorem Ix : aU Try.prog 74 = true := by kernel_rfl
theorem Lw : aU Try.prog 75 = true := by kernel_rfl
theorem E5 : aU Try.prog 76 = true := by kernel_rfl
theorem Iy : aU Try.prog 77 = true := by kernel_rfl
theorem Lx : aU Try.prog 78 = true := by kernel_rfl
theorem E6 : aU Try.prog 79 = true := by kernel_rfl
theorem Iz : aU Try.prog 80 = true := by kernel_rfl
theorem Ly : aU Try.prog 81 = true := by kernel_rfl
theorem Lz : aU Try.prog 82 = true := by kernel_rfl
theorem L0 : aU Try.prog 85 = true := by kernel_rfl
theorem L1 : aU Try.prog 91 = true := by kernel_rfl
theorem E7 : aU Try.prog 92 = true := by kernel_rfl
theorem E8 : aU Try.prog 93 = true := by kernel_rfl
theorem vJ : aU Try.prog 94 = true := by kernel_rfl
theorem I0 : aU Try.prog 95 = true := by kernel_rfl
theorem L2 : aU Try.prog 96 = true := by kernel_rfl
theorem L3 : aU Try.prog 97 = true := by kernel_rfl
theorem L4 : aU Try.prog 98 = true := by kernel_rfl
theorem L5 : aU Try.prog 99 = true := by kernel_rfl
theorem mX : TY.l7 Try.prog 106 = some [(0, 1), (1, 1), (2, 1), (3, 1), (4, 1), (5, 1)] := by kernel_rfl
theorem I1 : TY.l7 Try.prog 27 = some [(0, 1), (1, 1), (2, 1), (3, 1), (4, 1), (5, 1), (6, 1), (7, 1), (8, 1), (9, 1), (10, 1)] := by kernel_rfl
theorem sZ : TY.l7 Try.prog 39 = some [(0, 1), (1, 1), (2, 1), (3, 1), (4, 1), (5, 1)] := by kernel_rfl
theorem E9 : TY.l7 Try.prog 48 = some [(0, 1), (1, 1), (2, 1), (3, 1), (4, 1)] := by kernel_rfl
theorem L6 : TY.l7 Try.prog 71 = some [(0, 1), (1, 1)] := by kernel_rfl
theorem EA : TY.l7 Try.prog 83 = some [(0, 1), (1, 1), (2, 1)] := by kernel_rfl
theorem gq : TY.shape Try.prog 106 = some (some 6) := by kernel_rfl
theorem bh : TY.shape Try.prog 22 = some none := by kernel_rfl
theorem fD : TY.shape Try.prog 23 = some none := by kernel_rfl
theorem nD : TY.shape Try.prog 24 = some none := by kernel_rfl
theorem jS : TY.shape Try.prog 25 = some none := by kernel_rfl
theorem eh : TY.shape Try.prog 27 = some (some 11) := by kernel_rfl
theorem br : TY.shape Try.prog 3 = some none := by kernel_rfl
theorem ur : TY.shape Try.prog 32 = some none := by kernel_rfl
theorem xL : TY.shape Try.prog 33 = some none := by kernel_rfl
theorem vK : TY.shape Try.prog 34 = some none := by kernel_rfl
theorem I2 : TY.shape Try.prog 36 = some (some 5) := by kernel_rfl
theorem gB : TY.shape Try.prog 37 = some none := by kernel_rfl
theorem eb : TY.shape Try.prog 39 = some (some 6) := by kernel_rfl
theorem vL : TY.shape Try.prog 4 = some none := by kernel_rfl
theorem vM : TY.shape Try.prog 45 = some none := by kernel_rfl
theorem L7 : TY.shape Try.prog 48 = some (some 5) := by kernel_rfl
theorem pW : TY.shape Try.prog 5 = some none := by kernel_rfl
theorem L8 : TY.shape Try.prog 71 = some (some 2) := by kernel_rfl
theorem I3 : TY.shape Try.prog 83 = some (some 3) := by kernel_rfl
theorem EB : TY.shape Try.prog 88 = some (some 7) := by kernel_rfl
theorem L9 : TY.shape Try.prog 9 = some none := by kernel_rfl
theorem cJ : TY.size Try.prog 106 = some 6 := by kernel_rfl
theorem fg : TY.size Try.prog 22 = some 1 := by kernel_rfl
theorem ta : TY.size Try.prog 23 = some 1 := by kernel_rfl
theorem Cb : TY.size Try.prog 24 = some 1 := by kernel_rfl
theorem Cc : TY.size Try.prog 25 = some 1 := by kernel_rfl
theorem Cd : TY.size Try.prog 27 = some 11 := by kernel_rfl
theorem e8 : TY.size Try.prog 3 = some 1 := by kernel_rfl
theorem Ce : TY.size Try.prog 37 = some 1 := by kernel_rfl
theorem eI : TY.size Try.prog 39 = some 6 := by kernel_rfl
theorem JT : TY.size Try.prog 4 = some 1 := by kernel_rfl
theorem LA : TY.size Try.prog 45 = some 1 := by kernel_rfl
theorem LC : TY.size Try.prog 48 = some 5 := by kernel_rfl
theorem EC : TY.size Try.prog 71 = some 2 := by kernel_rfl
theorem I4 : TY.size Try.prog 83 = some 3 := by kernel_rfl
theorem a7 : TY.slice Try.prog 22 = some (3, 1, 8) := by kernel_rfl
theorem dD : TY.slice Try.prog 23 = some (39, 6, 64) := by kernel_rfl
theorem kJ : TY.slice Try.prog 24 = some (48, 5, 48) := by kernel_rfl
theorem gZ : TY.slice Try.prog 25 = some (83, 3, 32) := by kernel_rfl
theorem uu : TY.slice Try.prog 32 = some (81, 2, 2) := by kernel_rfl
theorem xM : TY.slice Try.prog 33 = some (5, 1, 1) := by kernel_rfl
theorem vN : TY.slice Try.prog 34 = some (88, 7, 16) := by kernel_rfl
theorem pz : TY.slice Try.prog 63 = some (4, 1, 1) := by kernel_rfl
theorem rO : TY.slice Try.prog 92 = some (22, 1, 24) := by kernel_rfl
theorem PI : Try.prog.underlying 4 = some .bool := by kernel_rfl
theorem JU : Try.prog.underlying 9 = some .string := by kernel_rfl
theorem jt : TY.zero Try.prog 106 = some [.int .i64 0, .int .i64 0, .int .i64 0, .int .i64 0, .int .i64 0, .int .i64 0] := by kernel_rfl
theorem zM : TY.zero Try.prog 22 = some [.slice none 0 0] := by kernel_rfl
theorem xN : TY.zero Try.prog 27 = some [.string ByteArray.empty, .slice none 0 0, .slice none 0 0, .slice none 0 0, .slice none 0 0, .slice none 0 0, .slice none 0 0, .slice none 0 0, .int .i64 0, .int .i64 0, .slice none 0 0] := by kernel_rfl
theorem e0 : TY.zero Try.prog 3 = some [.int .i64 0] := by kernel_rfl
theorem dN : TY.zero Try.prog 39 = some [.int .i64 0, .int .i64 0, .int .i64 0, .slice none 0 0, .int .u64 0, .int .i64 0] := by kernel_rfl
theorem LF : TY.zero Try.prog 4 = some [.bool false] := by kernel_rfl
theorem LG : TY.zero Try.prog 45 = some [.nilFunc] := by kernel_rfl
theorem qi : TY.zero Try.prog 48 = some [.string ByteArray.empty, .int .i64 0, .int .i64 0, .int .i64 0, .int .i64 0] := by kernel_rfl
theorem Cf : TY.zero Try.prog 71 = some [.int .i64 0, .slice none 0 0] := by kernel_rfl
theorem p3 : TY.zero Try.prog 83 = some [.string ByteArray.empty, .int .i64 0, .bool false] := by kernel_rfl
end Go.Proofs.Ytligpghohcfpnaa
/- More facts on the types of the program. -/
namespace Go.Proofs.Ytligpghohcfpnaa
open Go Go.AW Go.Proofs
theorem I5 : TY.isInt Try.prog 78 = some .i16 := by kernel_rfl
theorem oK : aU Try.prog 113 = true := by kernel_rfl
theorem I6 : aU Try.prog 114 = true := by kernel_rfl
theorem LH : aU Try.prog 47 = true := by kernel_rfl
theorem LI : aU Try.prog 48 = true := by kernel_rfl
theorem LJ : aU Try.prog 49 = true := by kernel_rfl
theorem LL : aU Try.prog 84 = true := by kernel_rfl
theorem LM : aU Try.prog 86 = true := by kernel_rfl
end Go.Proofs.Ytligpghohcfpnaa
/- Drivers of wires, and l7 in an order, in plain Lean. -/
namespace Go.Proofs.Ytligpghohcfpnaa
open Go Go.AW

noncomputable instance (p : l4) : Decidable p.Gj := Classical.propDecidable _
structure mh (n : ab) (cZ : List Int) : Prop where
 len : cZ.length = n.aa.length
 Cg : ∀ w : Int, In w n.aa.length → bA n (cZ.getD w.toNat 0) w
def pX (n : ab) (k : Nat) (cZ : List Int) : Prop := cZ.length = n.aa.length ∧ ∀ j w : Int, bA n j w → j < k → cZ.getD w.toNat 0 = j
theorem pX.done {n : ab} {cZ : List Int} (hf : aW n) (h : pX n n.cells.length cZ) : mh n cZ := by
 refine ⟨h.1, fun w hw => ?_⟩
 obtain ⟨i, hi⟩ := hf.g9 hw
 rw [h.2 i w hi hi.1.2]; exact hi
theorem pX.set {n : ab} {k : Nat} {cZ : List Int} (hf : aW n) (h : pX n k cZ) (hk : k < n.cells.length) (h0 : (n.cells.getD k default).out ≥ 0) : pX n (k + 1) (cZ.set (n.cells.getD k default).out.toNat (k : Int)) := by
 refine ⟨by rw [List.length_set]; exact h.1, fun j w hd hj => ?_⟩
 have hc := hf.cells k hk
 have h7 : (n.cells.getD k default).kind ≠ 7 := fun e => by have := hc.2.2.1 e; omega
 have tc : bA n (k : Int) (n.cells.getD k default).out := ⟨⟨om, om⟩, h7, rfl⟩
 have hw := hf.eG hd; have xb := hf.eG tc
 unfold In at hw xb
 rw [bo]
 by_cases e : (n.cells.getD k default).out.toNat = w.toNat ∧ (n.cells.getD k default).out.toNat < cZ.length
 ·rw [if_pos e]
  have e2 : (n.cells.getD k default).out = w := by omega
  exact hf.unique (e2 ▸ tc) hd
 ·rw [if_neg e]
  have e7 : j ≠ (k : Int) := by
   rintro rfl
   apply e
   have e2 : (n.cells.getD k default).out = w := hd.2.2
   have := h.1
   omega
  exact h.2 j w hd om
theorem pX.skip {n : ab} {k : Nat} {cZ : List Int} (hf : aW n) (h : pX n k cZ) (h0 : ¬ (n.cells.getD k default).out ≥ 0) : pX n (k + 1) cZ := by
 refine ⟨h.1, fun j w hd hj => ?_⟩
 have hw := hf.eG hd
 unfold In at hw
 have e7 : j ≠ (k : Int) := by
  rintro rfl
  have : (n.cells.getD k default).out = w := hd.2.2
  omega
 exact h.2 j w hd om
structure I7 (n : ab) (l : List Int) (k : Nat) (pl : List Int) : Prop where
 len : pl.length = n.cells.length
 at_ : ∀ j, j < k → pl.getD (l.getD j 0).toNat 0 = (j : Int) + 1
 none_ : ∀ c : Int, In c n.cells.length → (∀ j, j < k → l.getD j 0 ≠ c) → pl.getD c.toNat 0 = 0
theorem qX {l : List Int} (h : l.Nodup) {i j : Nat} (hi : i < l.length) (hj : j < l.length) (e : l.getD i 0 = l.getD j 0) : i = j := by
 rw [List.getD_eq_getElem?_getD, List.getD_eq_getElem?_getD, List.getElem?_eq_getElem hi, List.getElem?_eq_getElem hj] at e
 simp only [Option.getD_some] at e
 rw [List.Nodup, List.pairwise_iff_getElem] at h
 rcases Nat.lt_trichotomy i j with h1 | h1 | h1
 ·exact absurd e (h i j hi hj h1)
 ·exact h1
 ·exact absurd e.symm (h j i hj hi h1)
theorem I7.init (n : ab) (l : List Int) : I7 n l 0 (List.replicate n.cells.length 0) :=
 ⟨by simp, fun j hj => by omega, fun c hc _ => by
  unfold In at hc
  rw [List.getD_eq_getElem?_getD, List.getElem?_eq_getElem (by simp; omega)]; simp⟩
theorem I7.step {n : ab} {l pl : List Int} {k : Nat} (ho : Ord n l) (h : I7 n l k pl) (hk : k < l.length) : I7 n l (k + 1) (pl.set (l.getD k 0).toNat ((k : Int) + 1)) := by
 have hr := ho.nz _ (bm hk)
 have hl := h.len
 refine ⟨by rw [List.length_set]; exact hl, fun j hj => ?_, fun c hc e7 => ?_⟩
 ·rw [bo]
  rcases Nat.lt_or_ge j k with h1 | h1
  ·have Gc := ho.nz _ (bm (l := l) (i := j) om)
   rw [if_neg (fun e => by have := qX ho.nd hk (by omega : j < l.length) om; omega)]
   exact h.at_ j h1
  ·obtain rfl : j = k := by omega
   rw [if_pos ⟨rfl, om⟩]
 ·have h1 := e7 k om
  unfold In at hc
  rw [bo, if_neg (fun e => h1 om)]
  exact h.none_ c hc (fun j hj => e7 j om)
theorem Ord.mem {n : ab} {l : List Int} (ho : Ord n l) {i : Int} (hi : 0 ≤ i ∧ i < n.cells.length) : i ∈ l := by
 refine Classical.byContradiction fun hn => ?_
 have h1 : ∀ x ∈ i :: l, x ∈ (List.range n.cells.length).map (fun (j : Nat) => (j : Int)) := by
  intro x hx
  have hr : 0 ≤ x ∧ x < n.cells.length := by
   rcases List.mem_cons.1 hx with rfl | hx
   ·exact hi
   ·exact ho.nz x hx
  exact List.mem_map.2 ⟨x.toNat, List.mem_range.2 om, om⟩
 have h2 := length_le_of_subset (List.nodup_cons.2 ⟨hn, ho.nd⟩) h1
 simp only [List.length_cons, List.length_map, List.length_range, ho.len] at h2
 omega
theorem qR.ok {n : ab} {l : List Int} {e : Int} (h : qR n l e) (hf : aW n) (ht : Fit n) (ha : Acyclic n) : Ord n l ∧ e = 0 := by
 rcases h with ⟨h1, _⟩ | ⟨_, h2, _⟩ | ⟨_, _, h3, _⟩ | ⟨_, _, _, h4, h5⟩
 ·exact absurd hf h1
 ·exact absurd ht h2
 ·exact absurd ha h3
 ·exact ⟨h4, h5⟩
end Go.Proofs.Ytligpghohcfpnaa
/- Cones: what a search marks, in plain Lean. -/
namespace Go.Proofs.Ytligpghohcfpnaa
open Go Go.AW

inductive Bb (n : ab) (ws : List Int) : Int → Prop where
 | root {w i : Int} (hw : w ∈ ws) (h : bA n i w) : Bb n ws i
 | step {i x j : Int} (hi : Bb n ws i) (hc : b7 (n.cell i).kind) (hx : x ∈ (n.cell i).args) (h : bA n j x) : Bb n ws j
def fL (l : List Bool) : Nat := l.countP (fun b => !b)
theorem n5 (l : List Bool) : fL l ≤ l.length := List.countP_le_length
theorem jT : ∀ {l : List Bool} {i : Nat}, i < l.length → l.getD i false = false → fL (l.set i true) + 1 = fL l
 | [], _, h, _ => by simp at h
 | b :: r, 0, _, hb => by
  simp only [List.getD_cons_zero] at hb
  subst hb
  simp [fL]
 | b :: r, i + 1, h, hb => by
  have := jT (l := r) (i := i) (by simpa using h) (by simpa using hb)
  unfold fL at this ⊢
  simp only [List.set_cons_succ, List.countP_cons]
  omega
structure qj (n : ab) (cZ ws : List Int) (l : List Int) (seen : List Bool) : Prop where
 len : seen.length = n.cells.length
 nz : ∀ w ∈ l, In w n.aa.length
 snd : ∀ w ∈ l, ∀ i, bA n i w → Bb n ws i
 xO : ∀ i : Nat, i < n.cells.length → seen.getD i false = true → Bb n ws i
 root : ∀ w ∈ ws, seen.getD (cZ.getD w.toNat 0).toNat false = true ∨ w ∈ l
 gl : ∀ i : Nat, i < n.cells.length → seen.getD i false = true → b7 (n.cells.getD i default).kind → ∀ x ∈ (n.cells.getD i default).args, seen.getD (cZ.getD x.toNat 0).toNat false = true ∨ x ∈ l
 sz : l.length + 4 * fL seen ≤ ws.length + 4 * n.cells.length
theorem kW {k i : Nat} : (List.replicate k false).getD i false = false := by
 rw [List.getD_eq_getElem?_getD]
 by_cases h : i < k
 ·rw [List.getElem?_eq_getElem (by simpa using h)]; simp
 ·rw [List.getElem?_eq_none (by simpa using h)]; rfl
theorem qj.init {n : ab} {cZ ws : List Int} (hw : ∀ w ∈ ws, In w n.aa.length) : qj n cZ ws ws (List.replicate n.cells.length false) where
 len := by simp
 nz := hw
 snd := fun w hw i hi => .root hw hi
 xO := fun i _ h => by rw [kW] at h; cases h
 root := fun w hw => .inr hw
 gl := fun i _ h => by rw [kW] at h; cases h
 sz := by have := n5 (List.replicate n.cells.length false); simp at this; omega
section
variable {n : ab} {cZ ws l : List Int} {seen : List Bool}
theorem gI {l : List Int} (h : 0 < l.length) {x : Int} (hx : x ∈ l) : x = l.getD (l.length - 1) 0 ∨ x ∈ l.take (l.length - 1) := by
 obtain ⟨i, hi, rfl⟩ := List.mem_iff_getElem.1 hx
 by_cases e : i = l.length - 1
 ·left; subst e; rw [List.getD_eq_getElem?_getD, List.getElem?_eq_getElem hi]; rfl
 ·right
  refine List.mem_iff_getElem.2 ⟨i, by simp; omega, by simp⟩
theorem qj.skip (h : qj n cZ ws l seen) (h0 : 0 < l.length) (hs : seen.getD (cZ.getD (l.getD (l.length - 1) 0).toNat 0).toNat false = true) : qj n cZ ws (l.take (l.length - 1)) seen where
 len := h.len
 nz := fun w hw => h.nz w (List.mem_of_mem_take hw)
 snd := fun w hw => h.snd w (List.mem_of_mem_take hw)
 xO := h.xO
 root := fun w hw => by
  rcases h.root w hw with h1 | h1
  ·exact .inl h1
  ·rcases gI h0 h1 with h2 | h2
   ·exact .inl (by rw [h2]; exact hs)
   ·exact .inr h2
 gl := fun i hi hm hc x hx => by
  rcases h.gl i hi hm hc x hx with h1 | h1
  ·exact .inl h1
  ·rcases gI h0 h1 with h2 | h2
   ·exact .inl (by rw [h2]; exact hs)
   ·exact .inr h2
 sz := by have := h.sz; simp only [List.length_take]; omega
theorem qj.mark (hb : mh n cZ) (o9 : ∀ c ∈ n.cells, c.args.length ≤ 4) (hf : aW n) (h : qj n cZ ws l seen) (h0 : 0 < l.length) (hs : seen.getD (cZ.getD (l.getD (l.length - 1) 0).toNat 0).toNat false = false) {more : List Int}
  (hm : (b7 (n.cells.getD (cZ.getD (l.getD (l.length - 1) 0).toNat 0).toNat default).kind ∧ more = (n.cells.getD (cZ.getD (l.getD (l.length - 1) 0).toNat 0).toNat default).args) ∨ (¬ b7 (n.cells.getD (cZ.getD (l.getD (l.length - 1) 0).toNat 0).toNat default).kind ∧ more = [])) :
  qj n cZ ws (l.take (l.length - 1) ++ more) (seen.set (cZ.getD (l.getD (l.length - 1) 0).toNat 0).toNat true) ∧ fL (seen.set (cZ.getD (l.getD (l.length - 1) 0).toNat 0).toNat true) + 1 = fL seen ∧ more.length ≤ 4 := by
 have hw := h.nz _ (bm (l := l) (i := l.length - 1) om)
 have hd := hb.Cg _ hw
 have hr := h.snd _ (bm (l := l) (i := l.length - 1) om) _ hd
 generalize I8 : l.getD (l.length - 1) 0 = w at *
 generalize I9 : cZ.getD w.toNat 0 = i at *
 have hi := hd.1
 have hc : n.cell i = n.cells.getD i.toNat default := rfl
 have hl := h.len
 have get : ∀ k, (seen.set i.toNat true).getD k false = if i.toNat = k ∧ i.toNat < seen.length then true else seen.getD k false := fun k => bo ..
 have ai : ∀ k, seen.getD k false = true → (seen.set i.toNat true).getD k false = true := fun k hk => by rw [get]; split <;> simp_all
 have LN : more.length ≤ 4 := by
  rcases hm with ⟨_, rfl⟩ | ⟨_, rfl⟩
  ·exact o9 _ (getD_in om)
  ·simp
 have hu := jT (l := seen) (i := i.toNat) om hs
 refine ⟨?_, hu, LN⟩
 exact {
  len := by rw [List.length_set]; exact hl
  nz := fun x hx => by
   rcases List.mem_append.1 hx with h1 | h1
   ·exact h.nz x (List.mem_of_mem_take h1)
   ·rcases hm with ⟨_, rfl⟩ | ⟨_, rfl⟩
    ·exact hf.gY hi h1
    ·cases h1
  snd := fun x hx j hj => by
   rcases List.mem_append.1 hx with h1 | h1
   ·exact h.snd x (List.mem_of_mem_take h1) j hj
   ·rcases hm with ⟨h2, rfl⟩ | ⟨_, rfl⟩
    ·exact .step hr h2 h1 hj
    ·cases h1
  xO := fun k hk tG => by
   rw [get] at tG
   by_cases e : i.toNat = k ∧ i.toNat < seen.length
   ·rw [show (k : Int) = i by omega]; exact hr
   ·rw [if_neg e] at tG; exact h.xO k hk tG
  root := fun x hx => by
   rcases h.root x hx with h1 | h1
   ·exact .inl (ai _ h1)
   ·rcases gI h0 h1 with h2 | h2
    ·left
     rw [I8] at h2
     rw [h2, I9, get, if_pos ⟨rfl, om⟩]
    ·exact .inr (List.mem_append.2 (.inl h2))
  gl := fun k hk tG Ch x hx => by
   rw [get] at tG
   by_cases e : i.toNat = k ∧ i.toNat < seen.length
   ·rcases hm with ⟨_, rfl⟩ | ⟨h2, _⟩
    ·right
     rw [← e.1] at hx
     exact List.mem_append.2 (.inr hx)
    ·rw [← e.1] at Ch; exact absurd Ch h2
   ·rw [if_neg e] at tG
    rcases h.gl k hk tG Ch x hx with h1 | h1
    ·exact .inl (ai _ h1)
    ·rcases gI h0 h1 with h2 | h2
     ·left
      rw [I8] at h2
      rw [h2, I9, get, if_pos ⟨rfl, om⟩]
     ·exact .inr (List.mem_append.2 (.inl h2))
  sz := by
   have h1 := h.sz
   simp only [List.length_append, List.length_take]
   omega }
theorem qj.last (hb : mh n cZ) (h : qj n cZ ws l seen) (h0 : 0 < l.length) : (0 ≤ l.getD (l.length - 1) 0 ∧ l.getD (l.length - 1) 0 < n.aa.length) ∧ (0 ≤ cZ.getD (l.getD (l.length - 1) 0).toNat 0 ∧ cZ.getD (l.getD (l.length - 1) 0).toNat 0 < n.cells.length) := by
 have hw := h.nz _ (bm (l := l) (i := l.length - 1) om)
 exact ⟨hw, (hb.Cg _ hw).1⟩
theorem take_one {α : Type} {d : α} {l : List α} {k : Nat} (h : k < l.length) : l.take (k + 1) = l.take k ++ [l.getD k d] := by
 rw [List.take_add_one, List.getElem?_eq_getElem h, List.getD_eq_getElem?_getD, List.getElem?_eq_getElem h]; rfl
def sv (n : ab) (ws : List Int) (seen : List Bool) : Prop := seen.length = n.cells.length ∧ ∀ i : Nat, i < n.cells.length → (seen.getD i false = true ↔ Bb n ws i)
theorem qj.done (hb : mh n cZ) (hf : aW n) (h : qj n cZ ws l seen) (h0 : l.length = 0) (hw : ∀ w ∈ ws, In w n.aa.length) : sv n ws seen := by
 have hl : l = [] := List.eq_nil_of_length_eq_zero h0
 subst hl
 refine ⟨h.len, fun i hi => ⟨h.xO i hi, fun hr => ?_⟩⟩
 have key : ∀ j : Int, Bb n ws j → 0 ≤ j ∧ j < n.cells.length ∧ seen.getD j.toNat false = true := by
  intro j hj
  induction hj with
  | root pP hd =>
   rcases h.root _ pP with h1 | h1
   ·rw [hf.unique (hb.Cg _ (hw _ pP)) hd] at h1
    exact ⟨hd.1.1, hd.1.2, h1⟩
   ·cases h1
  | @step i x j hi hc hx hd ih =>
   rcases h.gl i.toNat om ih.2.2 hc x hx with h1 | h1
   ·rw [hf.unique (hb.Cg _ (hf.gY ⟨ih.1, ih.2.1⟩ hx)) hd] at h1
    exact ⟨hd.1.1, hd.1.2, h1⟩
   ·cases h1
 exact (key _ hr).2.2
end
theorem sv.eq {n : ab} {ws : List Int} {s t : List Bool} (hs : sv n ws s) (ht : sv n ws t) : s = t := by
 refine List.ext_getElem (by rw [hs.1, ht.1]) fun i h1 h2 => ?_
 have e1 := hs.2 i (by have := hs.1; omega)
 have e2 := ht.2 i (by have := hs.1; omega)
 rw [List.getD_eq_getElem?_getD, List.getElem?_eq_getElem h1] at e1
 rw [List.getD_eq_getElem?_getD, List.getElem?_eq_getElem h2] at e2
 simp only [Option.getD_some] at e1 e2
 cases h3 : s[i] <;> cases h4 : t[i] <;> simp_all
end Go.Proofs.Ytligpghohcfpnaa
/- Keeping some of a list, in plain Lean. -/
namespace Go.Proofs.Ytligpghohcfpnaa
open Go Go.AW

def Bc (p : Nat → Bool) (k : Nat) : List Nat := (List.range k).filter p
theorem td {p : Nat → Bool} {k : Nat} (h : p k = false) : Bc p (k + 1) = Bc p k := by
 simp only [Bc, List.range_succ, List.filter_append, List.filter_cons, h, List.filter_nil, List.append_nil, Bool.false_eq_true, if_false]
theorem zN (p : Nat → Bool) (k : Nat) : (Bc p k).length ≤ k := by
 have := List.length_filter_le p (List.range k)
 rw [List.length_range] at this; exact this
def Ci (p : Nat → Bool) (w : Nat) : Int := if p w then ((Bc p w).length : Int) else -1
def Gk (p : Nat → Bool) (x : Int) : Int := if 0 ≤ x then Ci p x.toNat else x
def Dh {α : Type} (p : Nat → Bool) (l : List α) (d : α) : List α := (Bc p l.length).map (fun i => l.getD i d)
end Go.Proofs.Ytligpghohcfpnaa
/- Pruned netlists, in plain Lean. -/
namespace Go.Proofs.Ytligpghohcfpnaa
open Go Go.AW

def kc (n : ab) (s : List Bool) (i : Nat) : Bool := s.getD i false || !decide (b7 (n.cells.getD i default).kind)
def kw (n : ab) (cZ : List Int) (s : List Bool) (w : Nat) : Bool := kc n s (cZ.getD w 0).toNat
def LO (p : Nat → Bool) (c : Cell) : Cell := ⟨c.kind, c.op, Gk p c.out, c.args.map (Gk p), c.num, c.mem⟩
structure IA (n : ab) (cZ : List Int) (s : List Bool) : Prop where
 freeze : kw n cZ s n.freeze.toNat = true
 done : kw n cZ s n.done.toNat = true
 bI : ∀ r ∈ n.bI, kw n cZ s r.toNat = true
 aX : ∀ r ∈ n.aX, kw n cZ s r.toNat = true
 data : ∀ r ∈ n.data, 0 ≤ r → kw n cZ s r.toNat = true
 gl : ∀ i, i < n.cells.length → kc n s i = true → ∀ x ∈ (n.cells.getD i default).args, kw n cZ s x.toNat = true
section
variable {n : ab} {cZ : List Int} {s : List Bool} (hf : aW n) (hb : mh n cZ) (hk : IA n cZ s)
end
end Go.Proofs.Ytligpghohcfpnaa
/- Pruned netlists are valid, in plain Lean. -/
namespace Go.Proofs.Ytligpghohcfpnaa
open Go Go.AW

structure VP (n : ab) : Prop where
 formed : aW n
 fit : Fit n
 acyclic : Acyclic n
 small : n.Small
 cK : n.cells.length ≤ 48
 cv : n.aa.length ≤ 48
 ir : ∀ c ∈ n.cells, c.args.length ≤ 4
 iW : n.bI.length ≤ 3
 iq : n.aw.length ≤ 3
 bO : n.streams.length ≤ 4
 sS : n.ins.length ≤ 4
theorem wY.vp {n : ab} (h : wY n) : VP n := ⟨h.formed, h.fit, h.acyclic, h.small, h.cK.2, h.cv.2, h.ir, h.iW, h.iq, h.bO, h.sS⟩
section
variable {n : ab} {cZ : List Int} {s : List Bool} (hv : VP n) (hb : mh n cZ) (hk : IA n cZ s)
end
end Go.Proofs.Ytligpghohcfpnaa
/- What is marked is kept; pruned twice is pruned once, in plain Lean. -/
namespace Go.Proofs.Ytligpghohcfpnaa
open Go Go.AW

structure vO (n : ab) (w : Int) : Prop where
 is : w ∈ n.aX ∨ w ∈ n.bI ∨ w = n.freeze ∨ w = n.done ∨ (w ∈ n.data ∧ 0 ≤ w) ∨ ∃ i, i < n.cells.length ∧ ¬ b7 (n.cells.getD i default).kind ∧ w ∈ (n.cells.getD i default).args
def oL (n : ab) (l : List Int) : Prop := ∀ w, w ∈ l ↔ vO n w
theorem vO.nz {n : ab} (hf : aW n) {w : Int} (h : vO n w) : In w n.aa.length := by
 rcases h.is with h | h | h | h | ⟨h, h0⟩ | ⟨i, hi, _, h⟩
 ·obtain ⟨j, hj, rfl⟩ := List.mem_iff_getElem.1 h
  have h1 := (hf.strs j (by have := hf.cP; omega)).2.2.1
  rwa [List.getD_eq_getElem?_getD, List.getElem?_eq_getElem hj] at h1
 ·exact hf.bI w h
 ·rw [h]; exact hf.freeze
 ·rw [h]; exact hf.done
 ·obtain ⟨j, hj, rfl⟩ := List.mem_iff_getElem.1 h
  have h1 := (hf.strs j (by have := hf.eY; omega)).2.2.2
  have e : n.data.getD j 0 = n.data[j] := by rw [List.getD_eq_getElem?_getD, List.getElem?_eq_getElem hj]; rfl
  rw [← e] at h0 ⊢
  cases ho : (n.streams.getD j default).out with
  | true => exact h1.1 ho
  | false => have := h1.2 ho; omega
 ·exact (hf.cells i hi).1 w h
section
variable {n : ab} {cZ l : List Int} {s : List Bool} (hf : aW n) (hb : mh n cZ) (hl : oL n l) (hc : sv n l s)
include hf hb hl hc
end
end Go.Proofs.Ytligpghohcfpnaa
/- What the specification finds needed, in plain Lean. -/
namespace Go.Proofs.Ytligpghohcfpnaa
open Go Go.AW

structure Sn (n : ab) (cZ rs : List Int) (l : List Int) (cY : List Bool) : Prop where
 len : cY.length = n.cells.length
 nz : ∀ w ∈ l, w < 0 ∨ In w n.aa.length
 snd : ∀ w ∈ l, ∀ i, bA n i w → Bb n rs i
 seq : ∀ i : Nat, i < n.cells.length → ¬ b7 (n.cells.getD i default).kind → cY.getD i false = true
 xO : ∀ i : Nat, i < n.cells.length → cY.getD i false = true → b7 (n.cells.getD i default).kind → Bb n rs i
 root : ∀ w ∈ rs, cY.getD (cZ.getD w.toNat 0).toNat false = true ∨ w ∈ l
 gl : ∀ i : Nat, i < n.cells.length → cY.getD i false = true → b7 (n.cells.getD i default).kind → ∀ x ∈ (n.cells.getD i default).args, cY.getD (cZ.getD x.toNat 0).toNat false = true ∨ x ∈ l
section
variable {n : ab} {cZ rs l : List Int} {cY : List Bool}
theorem Sn.skip (h : Sn n cZ rs l cY) (hf : ∀ w ∈ rs, 0 ≤ w) (PJ : aW n) (h0 : 0 < l.length) (hs : l.getD (l.length - 1) 0 < 0 ∨ cY.getD (cZ.getD (l.getD (l.length - 1) 0).toNat 0).toNat false = true) : Sn n cZ rs (l.take (l.length - 1)) cY where
 len := h.len
 nz := fun w hw => h.nz w (List.mem_of_mem_take hw)
 snd := fun w hw => h.snd w (List.mem_of_mem_take hw)
 seq := h.seq
 xO := h.xO
 root := fun w hw => by
  rcases h.root w hw with h1 | h1
  ·exact .inl h1
  ·rcases gI h0 h1 with h2 | h2
   ·rcases hs with hs | hs
    ·have := hf w hw; omega
    ·exact .inl (by rw [h2]; exact hs)
   ·exact .inr h2
 gl := fun i hi hm hc x hx => by
  rcases h.gl i hi hm hc x hx with h1 | h1
  ·exact .inl h1
  ·rcases gI h0 h1 with h2 | h2
   ·rcases hs with hs | hs
    ·have h3 := (PJ.cells i hi).1 x hx
     unfold In at h3; omega
    ·exact .inl (by rw [h2]; exact hs)
   ·exact .inr h2
theorem Sn.mark (hb : mh n cZ) (hf : aW n) (h : Sn n cZ rs l cY) (h0 : 0 < l.length) (JV : 0 ≤ l.getD (l.length - 1) 0) (hs : cY.getD (cZ.getD (l.getD (l.length - 1) 0).toNat 0).toNat false = false) :
  Sn n cZ rs (l.take (l.length - 1) ++ (n.cells.getD (cZ.getD (l.getD (l.length - 1) 0).toNat 0).toNat default).args) (cY.set (cZ.getD (l.getD (l.length - 1) 0).toNat 0).toNat true) ∧
   fL (cY.set (cZ.getD (l.getD (l.length - 1) 0).toNat 0).toNat true) + 1 = fL cY := by
 have hw : In (l.getD (l.length - 1) 0) n.aa.length := (h.nz _ (bm (l := l) (i := l.length - 1) om)).resolve_left om
 have hd := hb.Cg _ hw
 have hr := h.snd _ (bm (l := l) (i := l.length - 1) om) _ hd
 generalize I8 : l.getD (l.length - 1) 0 = w at *
 generalize I9 : cZ.getD w.toNat 0 = i at *
 have hi := hd.1
 have hl := h.len
 have fT : b7 (n.cells.getD i.toNat default).kind := by
  refine Classical.byContradiction fun hn => ?_
  have := h.seq i.toNat om hn
  rw [hs] at this; cases this
 have get : ∀ k, (cY.set i.toNat true).getD k false = if i.toNat = k ∧ i.toNat < cY.length then true else cY.getD k false := fun k => bo ..
 have ai : ∀ k, cY.getD k false = true → (cY.set i.toNat true).getD k false = true := fun k hk => by rw [get]; split <;> simp_all
 refine ⟨?_, jT (l := cY) (i := i.toNat) om hs⟩
 exact {
  len := by rw [List.length_set]; exact hl
  nz := fun x hx => by
   rcases List.mem_append.1 hx with h1 | h1
   ·exact h.nz x (List.mem_of_mem_take h1)
   ·exact .inr (hf.gY hi h1)
  snd := fun x hx j hj => by
   rcases List.mem_append.1 hx with h1 | h1
   ·exact h.snd x (List.mem_of_mem_take h1) j hj
   ·exact .step hr fT h1 hj
  seq := fun k hk Ch => ai _ (h.seq k hk Ch)
  xO := fun k hk tG Ch => by
   rw [get] at tG
   by_cases e : i.toNat = k ∧ i.toNat < cY.length
   ·rw [show (k : Int) = i by omega]; exact hr
   ·rw [if_neg e] at tG; exact h.xO k hk tG Ch
  root := fun x hx => by
   rcases h.root x hx with h1 | h1
   ·exact .inl (ai _ h1)
   ·rcases gI h0 h1 with h2 | h2
    ·left
     rw [I8] at h2
     rw [h2, I9, get, if_pos ⟨rfl, om⟩]
    ·exact .inr (List.mem_append.2 (.inl h2))
  gl := fun k hk tG Ch x hx => by
   rw [get] at tG
   by_cases e : i.toNat = k ∧ i.toNat < cY.length
   ·right
    rw [← e.1] at hx
    exact List.mem_append.2 (.inr hx)
   ·rw [if_neg e] at tG
    rcases h.gl k hk tG Ch x hx with h1 | h1
    ·exact .inl (ai _ h1)
    ·rcases gI h0 h1 with h2 | h2
     ·left
      rw [I8] at h2
      rw [h2, I9, get, if_pos ⟨rfl, om⟩]
     ·exact .inr (List.mem_append.2 (.inl h2)) }
theorem Sn.done (hb : mh n cZ) (hf : aW n) (JW : ∀ w ∈ rs, In w n.aa.length) (h : Sn n cZ rs l cY) (h0 : l.length = 0) {s : List Bool} (hc : sv n rs s) : ∀ i, i < n.cells.length → cY.getD i false = kc n s i := by
 have hl : l = [] := List.eq_nil_of_length_eq_zero h0
 subst hl
 have key : ∀ j : Int, Bb n rs j → 0 ≤ j ∧ j < n.cells.length ∧ cY.getD j.toNat false = true := by
  intro j hj
  induction hj with
  | root pP hd =>
   rcases h.root _ pP with h1 | h1
   ·rw [hf.unique (hb.Cg _ (JW _ pP)) hd] at h1
    exact ⟨hd.1.1, hd.1.2, h1⟩
   ·cases h1
  | @step i x j hi fT hx hd ih =>
   rcases h.gl i.toNat om ih.2.2 fT x hx with h1 | h1
   ·rw [hf.unique (hb.Cg _ (hf.gY ⟨ih.1, ih.2.1⟩ hx)) hd] at h1
    exact ⟨hd.1.1, hd.1.2, h1⟩
   ·cases h1
 intro i hi
 unfold kc
 by_cases fT : b7 (n.cells.getD i default).kind
 ·rw [decide_eq_true fT]
  simp only [Bool.not_true, Bool.or_false]
  have e := hc.2 i hi
  cases hn : cY.getD i false with
  | true => exact (e.2 (h.xO i hi hn fT)).symm
  | false =>
   cases hs : s.getD i false with
   | false => rfl
   | true =>
    have := (key _ (e.1 hs)).2.2
    rw [Int.toNat_natCast, hn] at this; cases this
 ·rw [h.seq i hi fT, decide_eq_false fT]; simp
end
end Go.Proofs.Ytligpghohcfpnaa
/- The beginning of the specification's search, in plain Lean. -/
namespace Go.Proofs.Ytligpghohcfpnaa
open Go Go.AW

def oM (n : ab) : List Int := (((([n.freeze, n.done] : List Int) ++ n.bI) ++ n.aX) ++ n.data)
structure Gl (n : ab) (k : Nat) (cY : List Bool) (O : List Int) : Prop where
 len : cY.length = n.cells.length
 nd : ∀ i, i < n.cells.length → (cY.getD i false = true ↔ i < k ∧ ¬ b7 (n.cells.getD i default).kind)
 op : ∀ w, w ∈ O ↔ (w ∈ oM n ∨ ∃ i, i < k ∧ ¬ b7 (n.cells.getD i default).kind ∧ w ∈ (n.cells.getD i default).args)
 sz : O.length ≤ 13 + 4 * k
theorem Gl.init {n : ab} (hM : VP n) : Gl n 0 (List.replicate n.cells.length false) (oM n) where
 len := by simp
 nd := fun i _ => by rw [kW]; simp
 op := fun w => by simp
 sz := by
  have h1 := hM.iW; have h2 := hM.bO; have h3 := hM.formed.cP; have h4 := hM.formed.eY
  simp only [oM, List.length_append, List.length_cons, List.length_nil]; omega
theorem Gl.no {n : ab} {k : Nat} {cY : List Bool} {O : List Int} (h : Gl n k cY O) (hc : b7 (n.cells.getD k default).kind) : Gl n (k + 1) cY O where
 len := h.len
 nd := fun i hi => by
  rw [h.nd i hi]
  constructor
  ·exact fun h1 => ⟨om, h1.2⟩
  ·rintro ⟨h1, h2⟩
   refine ⟨?_, h2⟩
   rcases Nat.lt_or_ge i k with h4 | h4
   ·exact h4
   ·obtain rfl : i = k := by omega
    exact absurd hc h2
 op := fun w => by
  rw [h.op w]
  constructor
  ·rintro (h1 | ⟨i, h1, h2, h3⟩)
   ·exact .inl h1
   ·exact .inr ⟨i, om, h2, h3⟩
  ·rintro (h1 | ⟨i, h1, h2, h3⟩)
   ·exact .inl h1
   ·rcases Nat.lt_or_ge i k with h4 | h4
    ·exact .inr ⟨i, h4, h2, h3⟩
    ·obtain rfl : i = k := by omega
     exact absurd hc h2
 sz := by have := h.sz; omega
theorem Sn.init {n : ab} {cZ rs O : List Int} {cY : List Bool} (hf : aW n) (JW : oL n rs) (h : Gl n n.cells.length cY O) : Sn n cZ rs O cY := by
 have root : ∀ w ∈ O, 0 ≤ w → vO n w := by
  intro w hw h0
  rcases (h.op w).1 hw with h1 | ⟨i, h1, h2, h3⟩
  ·simp only [oM, List.mem_append, List.mem_cons, List.not_mem_nil, or_false] at h1
   rcases h1 with (((h1 | h1) | h1) | h1) | h1
   ·exact ⟨.inr (.inr (.inl h1))⟩
   ·exact ⟨.inr (.inr (.inr (.inl h1)))⟩
   ·exact ⟨.inr (.inl h1)⟩
   ·exact ⟨.inl h1⟩
   ·exact ⟨.inr (.inr (.inr (.inr (.inl ⟨h1, h0⟩))))⟩
  ·exact ⟨.inr (.inr (.inr (.inr (.inr ⟨i, h1, h2, h3⟩))))⟩
 exact {
  len := h.len
  nz := fun w hw => by
   rcases Int.lt_or_le w 0 with h1 | h1
   ·exact .inl h1
   ·exact .inr ((root w hw h1).nz hf)
  snd := fun w hw i hd => .root ((JW w).2 (root w hw (by have := hf.eG hd; unfold In at this; omega))) hd
  seq := fun i hi hc => (h.nd i hi).2 ⟨hi, hc⟩
  xO := fun i hi hm hc => absurd hc ((h.nd i hi).1 hm).2
  root := fun w hw => by
   right
   refine (h.op w).2 ?_
   rcases ((JW w).1 hw).is with h1 | h1 | h1 | h1 | ⟨h1, _⟩ | ⟨i, h1, h2, h3⟩
   ·left; simp [oM, h1]
   ·left; simp [oM, h1]
   ·left; simp [oM, h1]
   ·left; simp [oM, h1]
   ·left; simp [oM, h1]
   ·exact .inr ⟨i, h1, h2, h3⟩
  gl := fun i hi hm hc => absurd hc ((h.nd i hi).1 hm).2 }
end Go.Proofs.Ytligpghohcfpnaa
/- Renumbering a list in place, in plain Lean. -/
namespace Go.Proofs.Ytligpghohcfpnaa
open Go Go.AW

structure Be (p : Nat → Bool) (l m : List Int) (i : Nat) : Prop where
 len : m.length = l.length
 lo : ∀ j, j < i → m.getD j 0 = Gk p (l.getD j 0)
 hi : ∀ j, i ≤ j → m.getD j 0 = l.getD j 0
theorem Be.init (p : Nat → Bool) (l : List Int) : Be p l l 0 := ⟨rfl, fun j hj => by omega, fun _ _ => rfl⟩
theorem Be.set {p : Nat → Bool} {l m : List Int} {i : Nat} {v : Int} (h : Be p l m i) (hi : i < m.length) (hv : v = Gk p (l.getD i 0)) : Be p l (m.set i v) (i + 1) where
 len := by rw [List.length_set]; exact h.len
 lo := fun j hj => by
  rw [bo]
  by_cases e : i = j ∧ i < m.length
  ·rw [if_pos e, hv, e.1]
  ·rw [if_neg e]; exact h.lo j om
 hi := fun j hj => by rw [bo, if_neg om]; exact h.hi j om
theorem Be.skip {p : Nat → Bool} {l m : List Int} {i : Nat} (h : Be p l m i) (hn : ¬ l.getD i 0 ≥ 0) : Be p l m (i + 1) where
 len := h.len
 lo := fun j hj => by
  rcases Nat.lt_or_ge j i with h1 | h1
  ·exact h.lo j h1
  ·obtain rfl : j = i := by omega
   rw [h.hi j (Nat.le_refl _)]
   unfold Gk; rw [if_neg om]
 hi := fun j hj => h.hi j om
theorem Be.done {p : Nat → Bool} {l m : List Int} (h : Be p l m l.length) : m = l.map (Gk p) := by
 refine List.ext_getElem (by rw [h.len]; simp) fun i h1 h2 => ?_
 have h3 : i < l.length := by rw [← h.len]; exact h1
 have := h.lo i h3
 rw [List.getD_eq_getElem?_getD, List.getElem?_eq_getElem h1, List.getD_eq_getElem?_getD, List.getElem?_eq_getElem h3] at this
 simpa using this
def Cj (p : Nat → Bool) (k : Nat) (nb : List Int) : Prop := nb.length = k ∧ ∀ w, w < k → nb.getD w 0 = Ci p w
end Go.Proofs.Ytligpghohcfpnaa
/- Small things on lists for pruning. -/
namespace Go.Proofs.Ytligpghohcfpnaa
open Go Go.AW Go.Proofs

structure Rt (n : ab) (k i : Nat) (O : List Int) : Prop where
 op : ∀ w, w ∈ O ↔ (w ∈ n.aX ∨ w ∈ n.bI ∨ w = n.freeze ∨ w = n.done) ∨ (∃ j, j < k ∧ 0 ≤ n.data.getD j 0 ∧ w = n.data.getD j 0) ∨ ∃ j, j < i ∧ ¬ b7 (n.cells.getD j default).kind ∧ w ∈ (n.cells.getD j default).args
 sz : O.length ≤ 9 + k + 4 * i
theorem Rt.init {n : ab} (hM : VP n) : Rt n 0 0 ([n.aX, n.bI, [n.freeze, n.done]] : List (List Int)).flatten where
 op := fun w => by simp
 sz := by
  have h1 := hM.iW; have h2 := hM.bO; have h3 := hM.formed.cP
  simp; omega
theorem Rt.no {n : ab} {d k : Nat} {O : List Int} (h : Rt n d k O) (hc : b7 (n.cells.getD k default).kind) : Rt n d (k + 1) O where
 op := fun w => by
  rw [h.op w]
  constructor
  ·rintro (h1 | h1 | ⟨i, h1, h2, h3⟩)
   ·exact .inl h1
   ·exact .inr (.inl h1)
   ·exact .inr (.inr ⟨i, om, h2, h3⟩)
  ·rintro (h1 | h1 | ⟨i, h1, h2, h3⟩)
   ·exact .inl h1
   ·exact .inr (.inl h1)
   ·rcases Nat.lt_or_ge i k with h4 | h4
    ·exact .inr (.inr ⟨i, h4, h2, h3⟩)
    ·obtain rfl : i = k := by omega
     exact absurd hc h2
 sz := by have := h.sz; omega
theorem Rt.at {n : ab} {O : List Int} {k : Nat} (e : k = n.data.length) (h : Rt n k 0 O) : Rt n n.data.length 0 O := by subst e; exact h
theorem Rt.done {n : ab} {O : List Int} (h : Rt n n.data.length n.cells.length O) : oL n O := by
 intro w
 rw [h.op w]
 constructor
 ·rintro ((h1 | h1 | h1 | h1) | ⟨j, h1, h2, rfl⟩ | h1)
  ·exact ⟨.inl h1⟩
  ·exact ⟨.inr (.inl h1)⟩
  ·exact ⟨.inr (.inr (.inl h1))⟩
  ·exact ⟨.inr (.inr (.inr (.inl h1)))⟩
  ·exact ⟨.inr (.inr (.inr (.inr (.inl ⟨bm h1, h2⟩))))⟩
  ·exact ⟨.inr (.inr (.inr (.inr (.inr h1))))⟩
 ·rintro ⟨h1 | h1 | h1 | h1 | ⟨h1, h2⟩ | h1⟩
  ·exact .inl (.inl h1)
  ·exact .inl (.inr (.inl h1))
  ·exact .inl (.inr (.inr (.inl h1)))
  ·exact .inl (.inr (.inr (.inr h1)))
  ·obtain ⟨j, hj, rfl⟩ := List.mem_iff_getElem.1 h1
   have e : n.data.getD j 0 = n.data[j] := by rw [List.getD_eq_getElem?_getD, List.getElem?_eq_getElem hj]; rfl
   exact .inr (.inl ⟨j, hj, by rw [e]; exact h2, e.symm⟩)
  ·exact .inr (.inr h1)
theorem oL.at {n : ab} {O : List Int} {k : Nat} (e : k = n.cells.length) (h : Rt n n.data.length k O) : oL n O := by subst e; exact h.done

structure Wn (p : Nat → Bool) (ws : List Int) (k : Nat) (nb wl : List Int) : Prop where
 len : nb.length = ws.length
 num : ∀ w, w < k → nb.getD w 0 = Ci p w
 ws : wl = (Bc p k).map (fun i => ws.getD i 0)
theorem Wn.init {p : Nat → Bool} {ws : List Int} : Wn p ws 0 (List.replicate ws.length 0) [] := ⟨by simp, fun w h => by omega, rfl⟩
theorem Wn.no {p : Nat → Bool} {ws nb wl : List Int} {k : Nat} (h : Wn p ws k nb wl) (hk : k < ws.length) (hp : p k = false) : Wn p ws (k + 1) (nb.set k (-1)) wl where
 len := by rw [List.length_set]; exact h.len
 num := fun w hw => by
  have := h.len
  rcases Nat.lt_or_ge w k with h1 | h1
  ·rw [bo, if_neg om]; exact h.num w h1
  ·obtain rfl : w = k := by omega
   rw [bo, if_pos ⟨rfl, om⟩]
   unfold Ci; rw [if_neg (by simp [hp])]
 ws := by rw [td hp]; exact h.ws
theorem Wn.IB {p : Nat → Bool} {ws nb wl : List Int} (h : Wn p ws ws.length nb wl) : Cj p ws.length nb := ⟨h.len, h.num⟩
theorem Wn.ai {p : Nat → Bool} {ws nb wl : List Int} (h : Wn p ws ws.length nb wl) : wl = Dh p ws 0 := h.ws
theorem vP {n : ab} {j : Nat} (hf : aW n) (hj : j < n.cells.length) : (n.cells.getD j default).out = -1 ∨ (0 ≤ (n.cells.getD j default).out ∧ (n.cells.getD j default).out < n.aa.length) := by
 have h := hf.cells j hj
 by_cases e : (n.cells.getD j default).kind = 7
 ·exact .inl (h.2.2.1 e)
 ·exact .inr (h.2.2.2 e)
theorem Cj.at {p : Nat → Bool} {ws nb wl : List Int} {k : Nat} (e : k = ws.length) (h : Wn p ws k nb wl) : Cj p ws.length nb := by subst e; exact h.IB
theorem Wn.at {p : Nat → Bool} {ws nb wl : List Int} {k : Nat} (e : k = ws.length) (h : Wn p ws k nb wl) : wl = Dh p ws 0 := by subst e; exact h.ai

def Cn (n : ab) (cZ : List Int) (s : List Bool) (i : Nat) : List Cell := ((Bc (kc n s) i).map (fun i => n.cells.getD i default)).map (LO (kw n cZ s))
theorem Wn.le {p : Nat → Bool} {ws nb wl : List Int} {k : Nat} (h : Wn p ws k nb wl) : wl.length ≤ k := by rw [h.ws, List.length_map]; exact zN _ _
theorem Cn.no {n : ab} {cZ : List Int} {s : List Bool} {i : Nat} (h : kc n s i = false) : Cn n cZ s (i + 1) = Cn n cZ s i := by unfold Cn; rw [td h]
end Go.Proofs.Ytligpghohcfpnaa
/- When arrays and streams are equal. -/
namespace Go.Proofs.Ytligpghohcfpnaa
open Go Go.AW Go.Proofs
def dV.tT (a : dV) : List Value := [.string a.name, .int .i64 a.width, .int .i64 a.len, .int .i64 a.kind, .int .i64 a.qN]
def bE.tT (a : bE) : List Value := [.string a.name, .int .i64 a.width, .bool a.out]
def dV.LP (a b : dV) : Bool := a.name.toList == b.name.toList && (a.width == b.width && (a.len == b.len && (a.kind == b.kind && a.qN == b.qN)))
def bE.LP (a b : bE) : Bool := a.name.toList == b.name.toList && (a.width == b.width && a.out == b.out)
end Go.Proofs.Ytligpghohcfpnaa
/- When netlists are the same, in plain Lean. -/
namespace Go.Proofs.Ytligpghohcfpnaa
open Go Go.AW

def Bf {α : Type} (e : α → α → Bool) (d : α) (l m : List α) : Prop := l.length = m.length ∧ ∀ j, j < l.length → e (l.getD j d) (m.getD j d) = true
noncomputable instance {α : Type} (e : α → α → Bool) (d : α) (l m : List α) : Decidable (Bf e d l m) := Classical.propDecidable _
def xP (a b : Int) : Bool := decide (a = b)
noncomputable def IC (x y : Cell) : Bool := decide (x.kind = y.kind ∧ x.op = y.op ∧ x.out = y.out ∧ x.num = y.num ∧ x.mem = y.mem ∧ Bf xP 0 x.args y.args)
structure ID (a b : ab) : Prop where
 name : a.name.toList = b.name.toList
 aa : Bf xP 0 a.aa b.aa
 ins : Bf xP 0 a.ins b.ins
 aw : Bf dV.LP default a.aw b.aw
 streams : Bf bE.LP default a.streams b.streams
 aX : Bf xP 0 a.aX b.aX
 data : Bf xP 0 a.data b.data
 freeze : a.freeze = b.freeze
 done : a.done = b.done
 bI : Bf xP 0 a.bI b.bI
 cells : Bf IC default a.cells b.cells
noncomputable instance (a b : ab) : Decidable (ID a b) := Classical.propDecidable _
structure PK (n : ab) : Prop where
 aa : n.aa.length ≤ 35184372088832
 cells : n.cells.length ≤ 35184372088832
 args : ∀ c ∈ n.cells, c.args.length ≤ 35184372088832
 ins : n.ins.length ≤ 35184372088832
 aw : n.aw.length ≤ 35184372088832
 streams : n.streams.length ≤ 35184372088832
 aX : n.aX.length ≤ 35184372088832
 data : n.data.length ≤ 35184372088832
 bI : n.bI.length ≤ 35184372088832
end Go.Proofs.Ytligpghohcfpnaa
/- The numbers of the wires that remain, counted anew, in plain Lean. -/
namespace Go.Proofs.Ytligpghohcfpnaa
open Go Go.AW Go.Proofs

theorem mh.eq {n : ab} {a b : List Int} (hf : aW n) (ha : mh n a) (hb : mh n b) : a = b := by
 refine List.ext_getElem (by rw [ha.len, hb.len]) fun i h1 h2 => ?_
 have hi : In (i : Int) n.aa.length := ⟨om, by have := ha.len; omega⟩
 have h := hf.unique (ha.Cg _ hi) (hb.Cg _ hi)
 rw [Int.toNat_natCast, List.getD_eq_getElem?_getD, List.getElem?_eq_getElem h1, List.getD_eq_getElem?_getD, List.getElem?_eq_getElem h2] at h
 exact h
structure Wg (p : Nat → Bool) (ws : List Int) (k : Nat) (nb : List Int) (v : Nat) : Prop where
 w : Wn p ws k nb ((Bc p k).map (fun i => ws.getD i 0))
 v : v = (Bc p k).length
theorem Wg.init {p : Nat → Bool} {ws : List Int} : Wg p ws 0 (List.replicate ws.length 0) 0 := ⟨Wn.init, rfl⟩
theorem Wg.no {p : Nat → Bool} {ws nb : List Int} {k v : Nat} (h : Wg p ws k nb v) (hk : k < ws.length) (hp : p k = false) : Wg p ws (k + 1) (nb.set k (-1)) v := by
 refine ⟨?_, by rw [td hp]; exact h.v⟩
 rw [td hp]; exact h.w.no hk hp
theorem Wg.le {p : Nat → Bool} {ws nb : List Int} {k v : Nat} (h : Wg p ws k nb v) : v ≤ k := by rw [h.v]; exact zN _ _
theorem Wg.num {p : Nat → Bool} {ws nb : List Int} {k v : Nat} (e : k = ws.length) (h : Wg p ws k nb v) : Cj p ws.length nb := by subst e; exact h.w.IB
section
variable {n : ab} {cZ : List Int} {s : List Bool}
end
end Go.Proofs.Ytligpghohcfpnaa
/- Levels and delays, in plain Lean. -/
namespace Go.Proofs.Ytligpghohcfpnaa
open Go Go.AW Go.Proofs

def eR (n : Nat) : Nat := if n ≤ 1 then 0 else Nat.log2 (n - 1) + 1
theorem ED {n k : Nat} (h1 : n ≤ 2 ^ k) (h2 : k = 0 ∨ 2 ^ (k - 1) < n) : eR n = k := by
 unfold eR
 by_cases e : n ≤ 1
 ·rw [if_pos e]
  rcases h2 with h2 | h2
  ·exact h2.symm
  ·have := Nat.one_le_two_pow (n := k - 1); omega
 ·rw [if_neg e]
  rcases h2 with h2 | h2
  ·subst h2; simp at h1; omega
  ·have hk : 0 < k := by
    rcases Nat.eq_zero_or_pos k with h | h
    ·subst h; simp at h1; omega
    ·exact h
   have : Nat.log2 (n - 1) = k - 1 := by
    rw [Nat.log2_eq_iff om]
    rw [show k - 1 + 1 = k by omega]
    omega
   omega
theorem te {n k : Nat} (h : n ≤ 2 ^ k) : eR n ≤ k := by
 unfold eR
 by_cases e : n ≤ 1
 ·rw [if_pos e]; omega
 ·rw [if_neg e]
  have := (Nat.log2_lt (n := n - 1) (k := k) om).2 om
  omega
def aN (op : Int) (w : Nat) : Int :=
 if op = 9 ∨ op = 10 ∨ op = 11 then 20 else if op = 2 then 40 + 40 * (eR w : Int) else if op = 3 then 50 + 40 * (eR w : Int) else if op = 15 ∨ op = 16 then 30 + 20 * (eR w : Int)
 else if op = 17 ∨ op = 18 then 40 + 40 * (eR (w + 1) : Int) else if op = 19 ∨ op = 20 then 50 + 40 * (eR (w + 1) : Int) else if op = 21 then 50 else if op = 12 ∨ op = 13 then 30 + 40 * (eR w : Int)
 else if op = 14 then 50 + 40 * (eR w : Int) else 0
theorem xQ {op : Int} {w : Nat} (h : w ≤ 64) : 0 ≤ aN op w ∧ aN op w ≤ 400 := by
 have h1 : eR w ≤ 6 := te om
 have h2 : eR (w + 1) ≤ 7 := te om
 unfold aN
 repeat' split
 all_goals omega
def e6 (n : ab) (c : Cell) : Int :=
 if c.kind = 1 then 0 else if c.kind = 2 then aN c.op (if oB c.op then n.av c 0 else n.wd c.out).toNat else if c.kind = 3 then 20 + 20 * (eR (c.args.length / 2) : Int) else 30
theorem EE {n : ab} {c : Cell} (hw : ∀ w ∈ n.aa, fj w) (ha : c.args.length ≤ 200) : 0 ≤ e6 n c ∧ e6 n c ≤ 400 := by
 have Gi : ∀ w, (n.wd w).toNat ≤ 64 := fun w => by
  unfold ab.wd
  rw [List.getD_eq_getElem?_getD]
  cases h : n.aa[w.toNat]? with
  | none => simp
  | some v =>
   have := hw v (List.mem_of_getElem? h)
   unfold fj at this
   simp only [Option.getD_some]; omega
 have hl : eR (c.args.length / 2) ≤ 7 := te om
 unfold e6
 split
 ·omega
 split
 ·refine xQ ?_
  split
  ·exact Gi _
  ·exact Gi _
 split
 ·omega
 ·omega
end Go.Proofs.Ytligpghohcfpnaa
/- Arrivals, in plain Lean. -/
namespace Go.Proofs.Ytligpghohcfpnaa
open Go Go.AW Go.Proofs

structure VT (n : ab) : Prop where
 formed : aW n
 fit : Fit n
 acyclic : Acyclic n
 small : n.Small
 cK : n.cells.length ≤ 1000
 cv : n.aa.length ≤ 1000
 ir : ∀ c ∈ n.cells, c.args.length ≤ 200
 iW : n.bI.length ≤ 1000
 bO : n.streams.length ≤ 1000
 sS : n.ins.length ≤ 1000
theorem VP.vt {n : ab} (h : VP n) : VT n := ⟨h.formed, h.fit, h.acyclic, h.small, by have := h.cK; omega, by have := h.cv; omega, fun c hc => by have := h.ir c hc; omega, by have := h.iW; omega, by have := h.bO; omega, by have := h.sS; omega⟩
theorem aW.mY {n : ab} (h : aW n) : ∀ w ∈ n.aa, fj w := fun w hw => by
 obtain ⟨i, hi, rfl⟩ := List.mem_iff_getElem.1 hw
 have := h.wide i (by rw [List.length_append]; omega)
 rw [List.getD_eq_getElem?_getD, List.getElem?_append_left hi, List.getElem?_eq_getElem hi] at this
 exact this
theorem VT.e6 {n : ab} (h : VT n) {i : Nat} (hi : i < n.cells.length) : 0 ≤ e6 n (n.cells.getD i default) ∧ e6 n (n.cells.getD i default) ≤ 400 := EE h.formed.mY (h.ir _ (getD_in hi))

def gr (at_ : List Int) (l : List Int) : Int := l.foldl (fun t w => max t (at_.getD w.toNat 0)) 0
theorem xR {at_ l : List Int} {w : Int} : gr at_ (l ++ [w]) = max (gr at_ l) (at_.getD w.toNat 0) := by simp [gr]
theorem lK {a b l : List Int} (h : ∀ w ∈ l, a.getD w.toNat 0 = b.getD w.toNat 0) : gr a l = gr b l := by
 unfold gr
 have : ∀ (t : Int) (l : List Int), (∀ w ∈ l, a.getD w.toNat 0 = b.getD w.toNat 0) → l.foldl (fun t w => max t (a.getD w.toNat 0)) t = l.foldl (fun t w => max t (b.getD w.toNat 0)) t := by
  intro t l
  induction l generalizing t with
  | nil => intro _; rfl
  | cons x r ih =>
   intro h
   simp only [List.foldl_cons]
   rw [h x (List.mem_cons_self ..)]
   exact ih _ (fun w hw => h w (List.mem_cons_of_mem _ hw))
 exact this 0 l h
theorem jz {at_ l : List Int} {B : Int} (hB : 0 ≤ B) (h : ∀ w ∈ l, at_.getD w.toNat 0 ≤ B) : 0 ≤ gr at_ l ∧ gr at_ l ≤ B := by
 unfold gr
 have : ∀ (t : Int) (l : List Int), 0 ≤ t → t ≤ B → (∀ w ∈ l, at_.getD w.toNat 0 ≤ B) → 0 ≤ l.foldl (fun t w => max t (at_.getD w.toNat 0)) t ∧ l.foldl (fun t w => max t (at_.getD w.toNat 0)) t ≤ B := by
  intro t l
  induction l generalizing t with
  | nil => intro h0 h1 _; exact ⟨h0, h1⟩
  | cons x r ih =>
   intro h0 h1 h
   simp only [List.foldl_cons]
   have := h x (List.mem_cons_self ..)
   exact ih _ om om (fun w hw => h w (List.mem_cons_of_mem _ hw))
 exact this 0 l (Int.le_refl _) hB h
theorem Ck {at_ l : List Int} {w : Int} (h : w ∈ l) : at_.getD w.toNat 0 ≤ gr at_ l := by
 unfold gr
 have mono : ∀ (t : Int) (l : List Int), t ≤ l.foldl (fun t w => max t (at_.getD w.toNat 0)) t := by
  intro t l
  induction l generalizing t with
  | nil => exact Int.le_refl _
  | cons x r ih => simp only [List.foldl_cons]; have := ih (max t (at_.getD x.toNat 0)); omega
 have : ∀ (t : Int) (l : List Int), w ∈ l → at_.getD w.toNat 0 ≤ l.foldl (fun t w => max t (at_.getD w.toNat 0)) t := by
  intro t l
  induction l generalizing t with
  | nil => intro h; cases h
  | cons x r ih =>
   intro h
   simp only [List.foldl_cons]
   rcases List.mem_cons.1 h with rfl | h
   ·have := mono (max t (at_.getD w.toNat 0)) r; omega
   ·exact ih _ h
 exact this 0 l h
def jU (n : ab) (at_ : List Int) (c : Cell) : Int := (if b7 c.kind then gr at_ c.args else 0) + e6 n c
structure tI (n : ab) (at_ : List Int) : Prop where
 len : at_.length = n.aa.length
 eq : ∀ i w, bA n i w → at_.getD w.toNat 0 = jU n at_ (n.cell i)
theorem Ord.lt {n : ab} {l : List Int} (ho : Ord n l) {i x : Int} (hi : 0 ≤ i ∧ i < n.cells.length) (hc : b7 (n.cell i).kind) (hx : x ∈ (n.cell i).args) : ∃ j, bA n j x ∧ l.idxOf j < l.idxOf i := by
 obtain ⟨p, s, hl, hn⟩ := List.eq_append_cons_of_mem (ho.mem hi)
 obtain ⟨j, hj, hd⟩ := ho.mx p i s hl hc x hx
 refine ⟨j, hd, ?_⟩
 have h1 : l.idxOf i = p.length := by
  rw [hl, List.idxOf_append, if_neg hn]; simp
 have h2 : l.idxOf j = p.idxOf j := by rw [hl, List.idxOf_append, if_pos hj]
 rw [h1, h2]
 exact List.idxOf_lt_length_of_mem hj
theorem tI.uniq {n : ab} {l a b : List Int} (hf : aW n) (ho : Ord n l) (ha : tI n a) (hb : tI n b) : a = b := by
 have key : ∀ k : Nat, ∀ i w, bA n i w → l.idxOf i ≤ k → a.getD w.toNat 0 = b.getD w.toNat 0 := by
  intro k
  induction k with
  | zero =>
   intro i w hd hk
   rw [ha.eq i w hd, hb.eq i w hd]
   unfold jU
   by_cases hc : b7 (n.cell i).kind
   ·rw [if_pos hc, if_pos hc]
    rw [lK (fun x hx => by obtain ⟨j, _, h⟩ := ho.lt hd.1 hc hx; omega)]
   ·rw [if_neg hc, if_neg hc]
  | succ k ih =>
   intro i w hd hk
   rw [ha.eq i w hd, hb.eq i w hd]
   unfold jU
   by_cases hc : b7 (n.cell i).kind
   ·rw [if_pos hc, if_pos hc]
    rw [lK (fun x hx => by obtain ⟨j, hj, h⟩ := ho.lt hd.1 hc hx; exact ih j x hj om)]
   ·rw [if_neg hc, if_neg hc]
 refine List.ext_getElem (by rw [ha.len, hb.len]) fun i h1 h2 => ?_
 have hw : In (i : Int) n.aa.length := ⟨om, by have := ha.len; omega⟩
 obtain ⟨j, hj⟩ := hf.g9 hw
 have := key _ j _ hj (Nat.le_refl _)
 rw [Int.toNat_natCast, List.getD_eq_getElem?_getD, List.getElem?_eq_getElem h1, List.getD_eq_getElem?_getD, List.getElem?_eq_getElem h2] at this
 exact this
theorem tI.bound {n : ab} {l a : List Int} (hv : VT n) (ho : Ord n l) (ha : tI n a) : ∀ i w, bA n i w → 0 ≤ a.getD w.toNat 0 ∧ a.getD w.toNat 0 ≤ 400 * ((l.idxOf i : Nat) + 1 : Int) := by
 have key : ∀ k : Nat, ∀ i w, bA n i w → l.idxOf i ≤ k → 0 ≤ a.getD w.toNat 0 ∧ a.getD w.toNat 0 ≤ 400 * ((l.idxOf i : Nat) + 1 : Int) := by
  intro k
  induction k with
  | zero =>
   intro i w hd hk
   rw [ha.eq i w hd]
   have h1 := hd.1
   have uY := hv.e6 (i := i.toNat) om
   change 0 ≤ e6 n (n.cell i) ∧ e6 n (n.cell i) ≤ 400 at uY
   unfold jU
   by_cases hc : b7 (n.cell i).kind
   ·rw [if_pos hc]
    have := jz (at_ := a) (l := (n.cell i).args) (B := 0) om (fun x hx => by obtain ⟨j, _, h⟩ := ho.lt hd.1 hc hx; omega)
    omega
   ·rw [if_neg hc]; omega
  | succ k ih =>
   intro i w hd hk
   rw [ha.eq i w hd]
   have h1 := hd.1
   have uY := hv.e6 (i := i.toNat) om
   change 0 ≤ e6 n (n.cell i) ∧ e6 n (n.cell i) ≤ 400 at uY
   unfold jU
   by_cases hc : b7 (n.cell i).kind
   ·rw [if_pos hc]
    have := jz (at_ := a) (l := (n.cell i).args) (B := 400 * (l.idxOf i : Int)) om (fun x hx => by
     obtain ⟨j, hj, h⟩ := ho.lt hd.1 hc hx
     have := (ih j x hj om).2
     omega)
    omega
   ·rw [if_neg hc]; omega
 exact fun i w hd => key _ i w hd (Nat.le_refl _)
theorem tI.nz {n : ab} {l a : List Int} (hv : VT n) (ho : Ord n l) (ha : tI n a) {w : Int} (hw : In w n.aa.length) : 0 ≤ a.getD w.toNat 0 ∧ a.getD w.toNat 0 ≤ 400000 := by
 obtain ⟨i, hi⟩ := hv.formed.g9 hw
 have h := ha.bound hv ho i w hi
 have h1 : l.idxOf i < l.length := List.idxOf_lt_length_of_mem (ho.mem hi.1)
 have h2 := ho.len
 have h3 := hv.cK
 omega
end Go.Proofs.Ytligpghohcfpnaa
/- Arrivals computed in order, in plain Lean. -/
namespace Go.Proofs.Ytligpghohcfpnaa
open Go Go.AW Go.Proofs

theorem vQ {l : List Int} (hn : l.Nodup) {k : Nat} (hk : k < l.length) : l.idxOf (l.getD k 0) = k := by
 have hm : l.getD k 0 ∈ l := bm hk
 have h1 : l.idxOf (l.getD k 0) < l.length := List.idxOf_lt_length_of_mem hm
 have h2 : l.getD (l.idxOf (l.getD k 0)) 0 = l.getD k 0 := by
  rw [List.getD_eq_getElem?_getD, List.getElem?_eq_getElem h1]
  exact List.getElem_idxOf h1
 exact Classical.byContradiction fun e => e (qX hn h1 hk h2)
structure kr (n : ab) (l : List Int) (k : Nat) (out : List Int) : Prop where
 len : out.length = n.aa.length
 eq : ∀ i w, bA n i w → l.idxOf i < k → out.getD w.toNat 0 = jU n out (n.cell i)
theorem kr.init {n : ab} {l : List Int} : kr n l 0 (List.replicate n.aa.length 0) := ⟨by simp, fun i w _ h => by omega⟩
theorem kr.skip {n : ab} {l out : List Int} {k : Nat} (ho : Ord n l) (h : kr n l k out) (hk : k < l.length) (h7 : (n.cell (l.getD k 0)).kind = 7) : kr n l (k + 1) out := by
 refine ⟨h.len, fun i w hd iv => ?_⟩
 rcases Nat.lt_or_ge (l.idxOf i) k with h1 | h1
 ·exact h.eq i w hd h1
 ·exfalso
  have hm := ho.mem hd.1
  have h2 : l.idxOf i < l.length := List.idxOf_lt_length_of_mem hm
  have h3 : l.getD (l.idxOf i) 0 = i := by
   rw [List.getD_eq_getElem?_getD, List.getElem?_eq_getElem h2]; exact List.getElem_idxOf h2
  rw [show l.idxOf i = k by omega] at h3
  rw [h3] at h7
  exact hd.2.1 h7
theorem kr.set {n : ab} {l out : List Int} {k : Nat} (hf : aW n) (ho : Ord n l) (h : kr n l k out) (hk : k < l.length) {w : Int} (hd : bA n (l.getD k 0) w) {v : Int} (hv : v = jU n out (n.cell (l.getD k 0))) : kr n l (k + 1) (out.set w.toNat v) := by
 have hw := hf.eG hd
 unfold In at hw
 have hl := h.len
 have LQ := vQ ho.nd hk
 have other : ∀ j x, bA n j x → l.idxOf j < k → (out.set w.toNat v).getD x.toNat 0 = out.getD x.toNat 0 := by
  intro j x hx hj
  have Bg := hf.eG hx
  unfold In at Bg
  rw [bo, if_neg]
  intro e
  have : x = w := by omega
  subst this
  have := hf.unique hx hd
  rw [this] at hj; omega
 have args : ∀ i : Int, 0 ≤ i ∧ i < n.cells.length → l.idxOf i ≤ k → jU n (out.set w.toNat v) (n.cell i) = jU n out (n.cell i) := by
  intro i hi R9
  unfold jU
  by_cases hc : b7 (n.cell i).kind
  ·rw [if_pos hc, if_pos hc]
   rw [lK (fun x hx => by obtain ⟨j, hj, h1⟩ := ho.lt hi hc hx; exact other j x hj om)]
  ·rw [if_neg hc, if_neg hc]
 refine ⟨by rw [List.length_set]; exact hl, fun i x hx iv => ?_⟩
 rw [args i hx.1 om]
 rcases Nat.lt_or_ge (l.idxOf i) k with h1 | h1
 ·rw [other i x hx h1]; exact h.eq i x hx h1
 ·have hm := ho.mem hx.1
  have h2 : l.idxOf i < l.length := List.idxOf_lt_length_of_mem hm
  have h3 : l.getD (l.idxOf i) 0 = i := by
   rw [List.getD_eq_getElem?_getD, List.getElem?_eq_getElem h2]; exact List.getElem_idxOf h2
  rw [show l.idxOf i = k by omega] at h3
  rw [← h3] at hx ⊢
  have e : x = w := hx.2.2.symm.trans hd.2.2
  subst e
  rw [bo, if_pos ⟨rfl, om⟩]; exact hv
theorem kr.done {n : ab} {l out : List Int} {k : Nat} (ho : Ord n l) (h : kr n l k out) (hk : k = l.length) : tI n out :=
 ⟨h.len, fun i w hd => h.eq i w hd (by rw [hk]; exact List.idxOf_lt_length_of_mem (ho.mem hd.1))⟩
theorem xS {at_ l : List Int} {k : Nat} (hk : k < l.length) : max (gr at_ (l.take k)) (at_.getD (l.getD k 0).toNat 0) = gr at_ (l.take (k + 1)) := by
 rw [take_one (d := (0 : Int)) hk, xR]
theorem kr.le {n : ab} {l out : List Int} {k : Nat} (hv : VT n) (ho : Ord n l) (h : kr n l k out) {i w : Int} (hd : bA n i w) (hi : l.idxOf i < k) : 0 ≤ out.getD w.toNat 0 ∧ out.getD w.toNat 0 ≤ 400 * ((l.idxOf i : Nat) + 1 : Int) := by
 have key : ∀ m : Nat, ∀ i w, bA n i w → l.idxOf i ≤ m → l.idxOf i < k → 0 ≤ out.getD w.toNat 0 ∧ out.getD w.toNat 0 ≤ 400 * ((l.idxOf i : Nat) + 1 : Int) := by
  intro m
  induction m with
  | zero =>
   intro i w hd hm hk
   rw [h.eq i w hd hk]
   have h1 := hd.1
   have uY := hv.e6 (i := i.toNat) om
   change 0 ≤ e6 n (n.cell i) ∧ e6 n (n.cell i) ≤ 400 at uY
   unfold jU
   by_cases hc : b7 (n.cell i).kind
   ·rw [if_pos hc]
    have := jz (at_ := out) (l := (n.cell i).args) (B := 0) om (fun x hx => by obtain ⟨j, _, h⟩ := ho.lt hd.1 hc hx; omega)
    omega
   ·rw [if_neg hc]; omega
  | succ m ih =>
   intro i w hd hm hk
   rw [h.eq i w hd hk]
   have h1 := hd.1
   have uY := hv.e6 (i := i.toNat) om
   change 0 ≤ e6 n (n.cell i) ∧ e6 n (n.cell i) ≤ 400 at uY
   unfold jU
   by_cases hc : b7 (n.cell i).kind
   ·rw [if_pos hc]
    have := jz (at_ := out) (l := (n.cell i).args) (B := 400 * (l.idxOf i : Int)) om (fun x hx => by
     obtain ⟨j, hj, h⟩ := ho.lt hd.1 hc hx
     have := (ih j x hj om om).2
     omega)
    omega
   ·rw [if_neg hc]; omega
 exact key _ i w hd (Nat.le_refl _) hi
theorem kr.jz {n : ab} {l out : List Int} {k : Nat} (hv : VT n) (ho : Ord n l) (h : kr n l k out) (hk : k < l.length) (hc : b7 (n.cell (l.getD k 0)).kind) (m : Nat) : 0 ≤ gr out ((n.cell (l.getD k 0)).args.take m) ∧ gr out ((n.cell (l.getD k 0)).args.take m) ≤ 400000 := by
 refine Go.Proofs.Ytligpghohcfpnaa.jz om fun x hx => ?_
 have hr := ho.nz _ (bm hk)
 have KE := List.mem_of_mem_take hx
 obtain ⟨j, hj, h1⟩ := ho.lt hr hc KE
 rw [vQ ho.nd hk] at h1
 have h2 := (h.le hv ho hj h1).2
 have h3 := ho.len
 have h4 := hv.cK
 omega
end Go.Proofs.Ytligpghohcfpnaa
/- Ends, and the longest path, in plain Lean. -/
namespace Go.Proofs.Ytligpghohcfpnaa
open Go Go.AW Go.Proofs

def Port (k : Int) : Prop := k = 5 ∨ k = 6 ∨ k = 7
instance (w : Int) : Decidable (Port w) := by unfold Port; infer_instance
def qY (c : Cell) : List (Int × Int) := if c.kind = 4 then [(c.args.getD 0 0, 100), (c.args.getD 1 0, 60)] else []
def nJ (c : Cell) : List (Int × Int) := if Port c.kind then c.args.map (fun w => (w, 20)) else []
def p4 (n : ab) (k : Nat) : List (Int × Int) := (n.cells.take k).flatMap qY
def ju (n : ab) (k : Nat) : List (Int × Int) := (n.cells.take k).flatMap nJ
def jm (n : ab) (k : Nat) : Bool := (n.cells.take k).any (fun c => decide (c.kind = 4))
def fA (n : ab) (k : Nat) : Bool := (n.cells.take k).any (fun c => decide (Port c.kind))
def rP (l : List Int) (k : Nat) : List (Int × Int) := ((l.take k).filter (fun w => decide (w ≥ 0))).map (fun w => (w, 0))
abbrev rest (n : ab) : List Int := (([[n.done], n.bI, n.aX, n.data] : List (List Int)).flatten)
def la (n : ab) (b : Bool) (v : Int) : List (Int × Int) := if b then [(n.freeze, v)] else []
def qZ (n : ab) : List (Int × Int) := ju n n.cells.length ++ la n (fA n n.cells.length) 20 ++ rP (rest n) (rest n).length
def fq (n : ab) : List (Int × Int) := p4 n n.cells.length ++ la n (jm n n.cells.length) 100 ++ qZ n
section
variable {n : ab} {k : Nat}
theorem sw (hk : k < n.cells.length) : p4 n (k + 1) = p4 n k ++ qY (n.cells.getD k default) := by
 unfold p4; rw [take_one (d := (default : Cell)) hk, List.flatMap_append]; simp
theorem re (hk : k < n.cells.length) : ju n (k + 1) = ju n k ++ nJ (n.cells.getD k default) := by
 unfold ju; rw [take_one (d := (default : Cell)) hk, List.flatMap_append]; simp
theorem pY (hk : k < n.cells.length) : jm n (k + 1) = (jm n k || decide ((n.cells.getD k default).kind = 4)) := by
 unfold jm; rw [take_one (d := (default : Cell)) hk, List.any_append]; simp
theorem oN (hk : k < n.cells.length) : fA n (k + 1) = (fA n k || decide (Port (n.cells.getD k default).kind)) := by
 unfold fA; rw [take_one (d := (default : Cell)) hk, List.any_append]; simp
theorem n6 {l : List Int} (hk : k < l.length) : rP l (k + 1) = rP l k ++ if 0 ≤ l.getD k 0 then [(l.getD k 0, 0)] else [] := by
 unfold rP
 rw [take_one (d := (0 : Int)) hk, List.filter_append, List.map_append]
 congr 1
 by_cases h : 0 ≤ l.getD k 0
 ·rw [if_pos h, List.filter_cons, if_pos (decide_eq_true h)]; rfl
 ·rw [if_neg h, List.filter_cons, if_neg (by simpa using h)]; rfl
end
theorem jV {n : ab} {w : Int} : w ∈ rest n ↔ w = n.done ∨ w ∈ n.bI ∨ w ∈ n.aX ∨ w ∈ n.data := by simp [rest]
theorem xc {n : ab} (hf : aW n) {w : Int} (h : w ∈ n.data) (h0 : 0 ≤ w) : In w n.aa.length := (vO.nz hf ⟨.inr (.inr (.inr (.inr (.inl ⟨h, h0⟩))))⟩)
theorem hX {n : ab} (hf : aW n) {e : Int × Int} (h : e ∈ fq n) : In e.1 n.aa.length ∧ 0 ≤ e.2 ∧ e.2 ≤ 100 := by
 unfold fq qZ at h
 simp only [List.mem_append] at h
 rcases h with (h | h) | (h | h) | h
 ·obtain ⟨c, hc, he⟩ := List.mem_flatMap.1 h
  rw [List.take_length] at hc
  unfold qY at he
  split at he
  ·rename_i h4
   have jf := hf.cell hc
   have h2 : c.args.length = 2 := by
    have := jf.2.1
    unfold Shaped at this
    omega
   rcases List.mem_cons.1 he with rfl | he
   ·exact ⟨jf.1 _ (bm om), by simp, by simp⟩
   ·rw [List.mem_singleton.1 he]; exact ⟨jf.1 _ (bm om), by simp, by simp⟩
  ·cases he
 ·unfold la at h
  split at h
  ·rw [List.mem_singleton.1 h]; exact ⟨hf.freeze, by simp, by simp⟩
  ·cases h
 ·obtain ⟨c, hc, he⟩ := List.mem_flatMap.1 h
  rw [List.take_length] at hc
  unfold nJ at he
  split at he
  ·obtain ⟨w, hw, rfl⟩ := List.mem_map.1 he
   exact ⟨(hf.cell hc).1 w hw, by simp, by simp⟩
  ·cases he
 ·unfold la at h
  split at h
  ·rw [List.mem_singleton.1 h]; exact ⟨hf.freeze, by simp, by simp⟩
  ·cases h
 ·unfold rP at h
  obtain ⟨w, hw, rfl⟩ := List.mem_map.1 h
  obtain ⟨hw, h0⟩ := List.mem_filter.1 hw
  rw [List.take_length, jV] at hw
  have h0 : 0 ≤ w := of_decide_eq_true h0
  refine ⟨?_, by simp, by simp⟩
  rcases hw with rfl | hw | hw | hw
  ·exact hf.done
  ·exact hf.bI w hw
  ·exact (vO.nz hf ⟨.inl hw⟩)
  ·exact xc hf hw h0
theorem uv {n : ab} (hf : aW n) : (n.done, 0) ∈ fq n := by
 have := hf.done
 unfold In at this
 unfold fq qZ
 refine List.mem_append.2 (.inr (List.mem_append.2 (.inr ?_)))
 unfold rP
 rw [List.take_length]
 exact List.mem_map.2 ⟨n.done, List.mem_filter.2 ⟨jV.2 (.inl rfl), decide_eq_true this.1⟩, rfl⟩

def Cm (at_ : List Int) (s : Int × Int) (e : Int × Int) : Int × Int := if s.2 < 0 ∨ at_.getD e.1.toNat 0 + e.2 > s.1 then (at_.getD e.1.toNat 0 + e.2, e.1) else s
def fM (at_ : List Int) (L : List (Int × Int)) : Int × Int := L.foldl (Cm at_) (0, -1)
structure p5 (at_ : List Int) (L : List (Int × Int)) (s : Int × Int) : Prop where
 none : L = [] → s = (0, -1)
 some : L ≠ [] → ∃ e ∈ L, s = (at_.getD e.1.toNat 0 + e.2, e.1)
 max : ∀ e ∈ L, at_.getD e.1.toNat 0 + e.2 ≤ s.1
theorem oa {at_ : List Int} {L : List (Int × Int)} {e : Int × Int} : fM at_ (L ++ [e]) = Cm at_ (fM at_ L) e := by simp [fM]
theorem p5.step {at_ : List Int} {L : List (Int × Int)} {s e : Int × Int} (h : p5 at_ L s) (h0 : ∀ e ∈ L, 0 ≤ e.1) : p5 at_ (L ++ [e]) (Cm at_ s e) where
 none := fun h => by simp at h
 some := fun _ => by
  unfold Cm
  by_cases hc : s.2 < 0 ∨ at_.getD e.1.toNat 0 + e.2 > s.1
  ·rw [if_pos hc]; exact ⟨e, by simp, rfl⟩
  ·rw [if_neg hc]
   by_cases hL : L = []
   ·rw [h.none hL] at hc; simp at hc
   ·obtain ⟨x, hx, hs⟩ := h.some hL
    exact ⟨x, List.mem_append.2 (.inl hx), hs⟩
 max := fun x hx => by
  unfold Cm
  by_cases hc : s.2 < 0 ∨ at_.getD e.1.toNat 0 + e.2 > s.1
  ·rw [if_pos hc]
   rcases List.mem_append.1 hx with hx | hx
   ·have h1 := h.max x hx
    rcases hc with hc | hc
    ·exfalso
     obtain ⟨y, hy, hs⟩ := h.some (List.ne_nil_of_mem hx)
     rw [hs] at hc
     have := h0 y hy
     simp only at hc; omega
    ·show _ ≤ at_.getD e.1.toNat 0 + e.2; omega
   ·rw [List.mem_singleton.1 hx]; exact Int.le_refl _
  ·rw [if_neg hc]
   rcases List.mem_append.1 hx with hx | hx
   ·exact h.max x hx
   ·rw [List.mem_singleton.1 hx]; omega
theorem tf {at_ : List Int} {L : List (Int × Int)} (h : ∀ e ∈ L, 0 ≤ e.1) : p5 at_ L (fM at_ L) := by
 have : ∀ (M L : List (Int × Int)) (s : Int × Int), (∀ e ∈ L ++ M, 0 ≤ e.1) → p5 at_ L s → p5 at_ (L ++ M) (M.foldl (Cm at_) s) := by
  intro M
  induction M with
  | nil => intro L s _ h; rw [List.append_nil]; exact h
  | cons e r ih =>
   intro L s h0 h
   rw [List.foldl_cons, show L ++ e :: r = (L ++ [e]) ++ r by simp]
   exact ih _ _ (by simpa using h0) (h.step (fun x hx => h0 x (List.mem_append.2 (.inl hx))))
 have h1 := this L [] (0, -1) (by simpa using h) ⟨fun _ => rfl, fun h => absurd rfl h, fun e he => by cases he⟩
 unfold fM; simpa using h1
end Go.Proofs.Ytligpghohcfpnaa
/- The ends of a netlist, one by one, in plain Lean. -/
namespace Go.Proofs.Ytligpghohcfpnaa
open Go Go.AW Go.Proofs

section
variable {n : ab} {i k m : Nat} {ix X Z : List (Int × Int)} {b : Bool}
theorem zO (hf : aW n) (hr : n.bI.length ≤ 1000) (hs : n.streams.length ≤ 1000) : (([([n.done] : List Int), n.bI, n.aX, n.data] : List (List Int)).flatten).length ≤ 4000 := by
 have h1 := hf.cP; have h2 := hf.eY
 simp; omega
theorem xT {c : Cell} (hc : Port c.kind) (hk : k < c.args.length) : (c.args.getD k 0, 20) ∈ nJ c := by
 unfold nJ; rw [if_pos hc]
 exact List.mem_map.2 ⟨_, bm hk, rfl⟩
theorem rf (hi : i < n.cells.length) (hc : Port (n.cells.getD i default).kind) (hk : k < (n.cells.getD i default).args.length) : ((n.cells.getD i default).args.getD k 0, 20) ∈ qZ n := by
 refine List.mem_append.2 (.inl (List.mem_append.2 (.inl (List.mem_flatMap.2 ⟨n.cells.getD i default, ?_, xT hc hk⟩))))
 rw [List.take_length]; exact getD_in hi
theorem tg (h : fA n n.cells.length = true) : (n.freeze, 20) ∈ qZ n := by
 refine List.mem_append.2 (.inl (List.mem_append.2 (.inr ?_)))
 unfold la; rw [if_pos h]; simp
theorem th (hk : k < (([([n.done] : List Int), n.bI, n.aX, n.data] : List (List Int)).flatten).length) (h0 : 0 ≤ (([([n.done] : List Int), n.bI, n.aX, n.data] : List (List Int)).flatten).getD k 0) : ((([([n.done] : List Int), n.bI, n.aX, n.data] : List (List Int)).flatten).getD k 0, 0) ∈ qZ n := by
 refine List.mem_append.2 (.inr (List.mem_map.2 ⟨_, List.mem_filter.2 ⟨?_, decide_eq_true h0⟩, rfl⟩))
 rw [List.take_length]; exact bm hk
theorem xd (hx : X = ix ++ ju n k) (hp : b = fA n k) (hk : k < n.cells.length) (h : ¬ Port (n.cells.getD k default).kind) : X = ix ++ ju n (k + 1) ∧ b = fA n (k + 1) := by
 rw [re hk, oN hk, decide_eq_false h, Bool.or_false, nJ, if_neg h, List.append_nil]
 exact ⟨hx, hp⟩
theorem uw (hx : Z = (ix ++ ju n k) ++ ((n.cells.getD k default).args.take m).map (fun w => (w, (20 : Int)))) (hk : k < n.cells.length) (hm : m = (n.cells.getD k default).args.length) (h : Port (n.cells.getD k default).kind) : Z = ix ++ ju n (k + 1) ∧ true = fA n (k + 1) := by
 rw [re hk, oN hk, decide_eq_true h, Bool.or_true, nJ, if_pos h]
 rw [hm, List.take_length] at hx
 exact ⟨by rw [hx, List.append_assoc], rfl⟩
theorem rh (hi : i < n.cells.length) (h : (n.cells.getD i default).kind = 4) : ((n.cells.getD i default).args.getD 0 0, 100) ∈ fq n := by
 refine List.mem_append.2 (.inl (List.mem_append.2 (.inl (List.mem_flatMap.2 ⟨n.cells.getD i default, ?_, ?_⟩))))
 ·rw [List.take_length]; exact getD_in hi
 ·unfold qY; rw [if_pos h]; simp
theorem rj (hi : i < n.cells.length) (h : (n.cells.getD i default).kind = 4) : ((n.cells.getD i default).args.getD 1 0, 60) ∈ fq n := by
 refine List.mem_append.2 (.inl (List.mem_append.2 (.inl (List.mem_flatMap.2 ⟨n.cells.getD i default, ?_, ?_⟩))))
 ·rw [List.take_length]; exact getD_in hi
 ·unfold qY; rw [if_pos h]; simp
theorem ti (h : jm n n.cells.length = true) : (n.freeze, 100) ∈ fq n := by
 refine List.mem_append.2 (.inl (List.mem_append.2 (.inr ?_)))
 unfold la; rw [if_pos h]; simp
theorem Co {e : Int × Int} (h : e ∈ qZ n) : e ∈ fq n := List.mem_append.2 (.inr h)
theorem zP (hx : X = ix ++ p4 n k) (hp : b = jm n k) (hk : k < n.cells.length) (h : ¬ (n.cells.getD k default).kind = 4) : X = ix ++ p4 n (k + 1) ∧ b = jm n (k + 1) := by
 rw [sw hk, pY hk, decide_eq_false h, Bool.or_false, qY, if_neg h, List.append_nil]
 exact ⟨hx, hp⟩
theorem xe (hx : X = ix ++ p4 n k) (hk : k < n.cells.length) (h : (n.cells.getD k default).kind = 4) : (X ++ [((n.cells.getD k default).args.getD 0 0, 100)]) ++ [((n.cells.getD k default).args.getD 1 0, 60)] = ix ++ p4 n (k + 1) ∧ true = jm n (k + 1) := by
 rw [sw hk, pY hk, decide_eq_true h, Bool.or_true, qY, if_pos h]
 exact ⟨by rw [hx]; simp, rfl⟩
theorem xf (hf : aW n) (hi : i < n.cells.length) (h : (n.cells.getD i default).kind = 4) : (n.cells.getD i default).args.length = 2 := by
 have := (hf.cells i hi).2.1
 unfold Shaped at this
 omega
end
end Go.Proofs.Ytligpghohcfpnaa
/- The table of lengths; small facts for walks of timing. -/
namespace Go.Proofs.Ytligpghohcfpnaa
open Go Go.AW Go.Proofs

def zQ : ByteArray := ⟨(([0, 1, 2, 2, 3, 3, 3, 3, 4, 4, 4, 4, 4, 4, 4, 4, 5, 5, 5, 5, 5, 5, 5, 5, 5, 5, 5, 5, 5, 5, 5, 5, 6, 6, 6, 6, 6, 6, 6, 6, 6, 6, 6, 6, 6, 6, 6, 6, 6, 6, 6, 6, 6, 6, 6, 6, 6, 6, 6, 6, 6, 6, 6, 6].append [7, 7, 7, 7, 7, 7, 7, 7, 7, 7, 7, 7, 7, 7, 7, 7, 7, 7, 7, 7, 7, 7, 7, 7, 7, 7, 7, 7, 7, 7, 7, 7, 7, 7, 7, 7, 7, 7, 7, 7, 7, 7, 7, 7, 7, 7, 7, 7, 7, 7, 7, 7, 7, 7, 7, 7, 7, 7, 7, 7, 7, 7, 7, 7]).append ([8, 8, 8, 8, 8, 8, 8, 8, 8, 8, 8, 8, 8, 8, 8, 8, 8, 8, 8, 8, 8, 8, 8, 8, 8, 8, 8, 8, 8, 8, 8, 8, 8, 8, 8, 8, 8, 8, 8, 8, 8, 8, 8, 8, 8, 8, 8, 8, 8, 8, 8, 8, 8, 8, 8, 8, 8, 8, 8, 8, 8, 8, 8, 8].append [8, 8, 8, 8, 8, 8, 8, 8, 8, 8, 8, 8, 8, 8, 8, 8, 8, 8, 8, 8, 8, 8, 8, 8, 8, 8, 8, 8, 8, 8, 8, 8, 8, 8, 8, 8, 8, 8, 8, 8, 8, 8, 8, 8, 8, 8, 8, 8, 8, 8, 8, 8, 8, 8, 8, 8, 8, 8, 8, 8, 8, 8, 8, 8])).toArray⟩
theorem zR : (List.range 256).all (fun m => bj zQ m == eR (m + 1)) = true := by kernel_rfl
theorem xU : zQ.size = 256 := by kernel_rfl
theorem Cp {m : Nat} (h : m < 256) : bj zQ m = eR (m + 1) := by
 have := List.all_eq_true.1 zR m (List.mem_range.2 h)
 simpa using this
theorem p6 {n : Nat} (h : n ≤ 256) : eR n ≤ 8 := te om
theorem qx {x : Int} {k : Nat} (h0 : 1 ≤ x) (h1 : x ≤ 64) (hk : k ≤ 8) : 0 ≤ 3 * x * (k : Int) ∧ 3 * x * (k : Int) ≤ 1536 :=
 ⟨Int.mul_nonneg om om, Int.le_trans (Int.mul_le_mul (show 3 * x ≤ 192 by omega) (show (k : Int) ≤ 8 by omega) om om) ae⟩
theorem tj {n : ab} {w : Int} (hw : ∀ w ∈ n.aa, fj w) (hi : In w n.aa.length) : 1 ≤ n.aa.getD w.toNat 0 ∧ n.aa.getD w.toNat 0 ≤ 64 := by
 unfold In at hi
 have := hw _ (bm (l := n.aa) (i := w.toNat) om)
 unfold fj at this
 omega
theorem zS {n : ab} {c : Cell} (h : iA n c) (h2 : c.kind = 2) : In c.out n.aa.length ∧ Plain c.op ∧ 1 ≤ c.args.length := by
 have hs := h.2.1
 refine ⟨h.2.2.2 om, ?_⟩
 have h3 : dq c.op ≠ 0 ∧ (c.args.length : Int) = dq c.op := by
  unfold Shaped at hs
  rcases hs with ⟨h, _⟩ | ⟨_, a, b, _⟩ | ⟨h, _⟩ | ⟨h, _⟩ | ⟨h, _⟩ | ⟨h, _⟩ | ⟨h, _⟩ | ⟨h, _⟩ | ⟨h, _⟩ | ⟨h, _⟩ <;> first | omega | exact ⟨a, b⟩
 exact ⟨(vB _).1 h3.1, om⟩
theorem ux {at_ l : List Int} {k : Nat} {t : Int} (ht : t = gr at_ (l.take k)) (hk : k < l.length) : (if at_.getD (l.getD k 0).toNat 0 > t then at_.getD (l.getD k 0).toNat 0 else t) = gr at_ (l.take (k + 1)) := by
 rw [← xS hk, ← ht]
 split <;> omega
theorem kr.LR {n : ab} {l out : List Int} {k : Nat} {t : Int} (hv : VT n) (ho : Ord n l) (h : kr n l k out) (hk : k < l.length) (ht : t = if b7 (n.cells.getD (l.getD k 0).toNat default).kind then gr out (n.cells.getD (l.getD k 0).toNat default).args else 0) : 0 ≤ t ∧ t ≤ 400000 := by
 rw [ht]
 split
 ·rename_i hc
  have := h.jz hv ho hk hc (n.cell (l.getD k 0)).args.length
  rw [List.take_length] at this
  exact this
 ·omega
theorem xg {n : ab} (hf : aW n) {i : Nat} (hi : i < n.cells.length) (h : (n.cells.getD i default).out < 0) : (n.cells.getD i default).kind = 7 := by
 refine Classical.byContradiction fun h7 => ?_
 have := (hf.cells i hi).2.2.2 h7
 unfold In at this; omega
theorem kr.Di {n : ab} {l out : List Int} {k : Nat} {t : Int} (hf : aW n) (ho : Ord n l) (h : kr n l k out) (hk : k < l.length) (h0 : ¬ (n.cells.getD (l.getD k 0).toNat default).out < 0)
  (ht : t = if b7 (n.cells.getD (l.getD k 0).toNat default).kind then gr out (n.cells.getD (l.getD k 0).toNat default).args else 0) :
  kr n l (k + 1) (out.set (n.cells.getD (l.getD k 0).toNat default).out.toNat (t + e6 n (n.cells.getD (l.getD k 0).toNat default))) := by
 have hr := ho.nz _ (bm hk)
 refine h.set hf ho hk (w := (n.cells.getD (l.getD k 0).toNat default).out) ⟨hr, fun h7 => ?_, rfl⟩ (by rw [ht]; rfl)
 have := (hf.cells (l.getD k 0).toNat om).2.2.1 h7
 omega
structure xV (n : ab) (l : List Cell) : Prop where
 len : l.length = n.aa.length
 at_ : ∀ i w, bA n i w → l.getD w.toNat default = n.cell i
structure lb (n : ab) (k : Nat) (l : List Cell) : Prop where
 len : l.length = n.aa.length
 at_ : ∀ i w, bA n i w → i < k → l.getD w.toNat default = n.cell i
theorem lb.init {n : ab} {z : Cell} : lb n 0 (List.replicate n.aa.length z) := ⟨by simp, fun i w hd h => by have := hd.1; omega⟩
theorem lb.set {n : ab} {k : Nat} {l : List Cell} (hf : aW n) (h : lb n k l) (hk : k < n.cells.length) (h0 : (n.cells.getD k default).out ≥ 0) : lb n (k + 1) (l.set (n.cells.getD k default).out.toNat (n.cells.getD k default)) := by
 refine ⟨by rw [List.length_set]; exact h.len, fun i w hd hi => ?_⟩
 have hw := hf.eG hd
 unfold In at hw
 have hl := h.len
 have h7 : (n.cells.getD k default).kind ≠ 7 := fun e => by have := (hf.cells k hk).2.2.1 e; omega
 have tc : bA n (k : Int) (n.cells.getD k default).out := ⟨⟨om, om⟩, h7, rfl⟩
 have xb := hf.eG tc
 unfold In at xb
 rw [bo]
 by_cases e : (n.cells.getD k default).out = w
 ·rw [if_pos ⟨om, om⟩]
  rw [e] at tc
  have := hf.unique hd tc
  subst this; rfl
 ·rw [if_neg om]
  refine h.at_ i w hd ?_
  rcases Int.lt_or_eq_of_le (show i ≤ k by omega) with h1 | h1
  ·exact h1
  ·subst h1; exact absurd hd.2.2 e
theorem lb.skip {n : ab} {k : Nat} {l : List Cell} (hf : aW n) (h : lb n k l) (hk : k < n.cells.length) (h0 : ¬ (n.cells.getD k default).out ≥ 0) : lb n (k + 1) l := by
 refine ⟨h.len, fun i w hd hi => ?_⟩
 refine h.at_ i w hd ?_
 rcases Int.lt_or_eq_of_le (show i ≤ k by omega) with h1 | h1
 ·exact h1
 ·subst h1
  have hw := hf.eG hd
  unfold In at hw
  have : n.cell (k : Int) = n.cells.getD k default := rfl
  rw [← this, hd.2.2] at h0
  omega
theorem lb.done {n : ab} {k : Nat} {l : List Cell} (h : lb n k l) (hk : k = n.cells.length) : xV n l := ⟨h.len, fun i w hd => h.at_ i w hd (by rw [hk]; exact hd.1.2)⟩
structure Cq (l m : List Int) (i j : Int) : Prop where
 len : m.length = l.length
 sum : i + j = (l.length : Int) - 1
 i0 : 0 ≤ i
 out : ∀ k : Nat, k < l.length → ((k : Int) < i ∨ j < k) → m.getD k 0 = l.getD (l.length - 1 - k) 0
 JX : ∀ k : Nat, i ≤ k → (k : Int) ≤ j → m.getD k 0 = l.getD k 0
theorem Cq.init (l : List Int) : Cq l l 0 ((l.length : Int) - 1) := ⟨rfl, om, om, fun k hk h => by omega, fun _ _ _ => rfl⟩
theorem Cq.step {l m : List Int} {i j : Int} (h : Cq l m i j) (JY : i < j) : Cq l ((m.set i.toNat (m.getD j.toNat 0)).set j.toNat (m.getD i.toNat 0)) (i + 1) (j - 1) := by
 have h1 := h.len; have h2 := h.sum; have h3 := h.i0
 refine ⟨by simp [h1], om, om, fun k hk hc => ?_, fun k ha hb => ?_⟩
 ·rw [bo, bo]
  by_cases e : j.toNat = k
  ·rw [if_pos ⟨e, by rw [List.length_set]; omega⟩, h.JX i.toNat om om]
   congr 1; omega
  ·rw [if_neg om]
   by_cases e2 : i.toNat = k
   ·rw [if_pos ⟨e2, om⟩, h.JX j.toNat om om]
    congr 1; omega
   ·rw [if_neg om]
    exact h.out k hk om
 ·rw [bo, bo, if_neg om, if_neg om]
  exact h.JX k om om
theorem Cq.done {l m : List Int} {i j : Int} (h : Cq l m i j) (JY : ¬ i < j) : m = l.reverse := by
 have h1 := h.len; have h2 := h.sum
 refine List.ext_getElem (by simp [h1]) fun k hk yE => ?_
 have e : m.getD k 0 = l.getD (l.length - 1 - k) 0 := by
  by_cases e : (k : Int) < i ∨ j < k
  ·exact h.out k om e
  ·rw [h.JX k om om]
   congr 1; omega
 rw [List.getD_eq_getElem?_getD, List.getElem?_eq_getElem hk, List.getD_eq_getElem?_getD, List.getElem?_eq_getElem om] at e
 rw [List.getElem_reverse]
 exact e
end Go.Proofs.Ytligpghohcfpnaa
