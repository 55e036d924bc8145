/- Netlists as the walk sees them. -/
import Derived.Test.YtlimckldnjmabaaAWx1
import Derived.Test.YtlimckldnjmabaaAWx2
import Derived.Test.YtlimckldnjmabaaProg
import Derived.KernelRfl
import Derived.Test.YtlimckldnjmabaaRows
import Derived.WideShapes
set_option linter.unusedSimpArgs false
set_option linter.unusedVariables false
set_option linter.unusedSectionVars false
namespace Go.Proofs.Ytlimckldnjmabaa
open Go Go.AW
abbrev vi (z : Int) : X := .v (.int .i64 z)
abbrev vn : X := .v (.slice none 0 0)
theorem bN {a b : Nat} (h : Nat.ble a b = true) : a ≤ b := Nat.le_of_ble_eq_true h
def al (z : Int) : List X := [.v (.int .i64 z)]
theorem jf {p : Prop} (h : p := by first | rfl | (simp only [List.cons.injEq, X.v.injEq, X.aY.injEq, Value.int.injEq, and_true, true_and]; omega) | simp_all) : p := h
theorem GM {p : Prop} (h : p := by first | rfl | exact IntWalk.i64_in _ (by omega)) : p := h
theorem bf (z : Int) : X.bj (al z) = true := rfl
def eb (b : Bool) : List X := [.v (.bool b)]
theorem kK (b : Bool) : X.bj (eb b) = true := rfl
theorem tJ (b : Bool) : X.gA (eb b) := ⟨trivial, trivial⟩
def z8 (n : Nat) : List X := [.v (.int .u8 (n : Int))]
def mS (n : Nat) : List X := [.v (.int .u64 (n : Int))]
theorem sy (n : Nat) : X.bj (mS n) = true := rfl
def iX (l : List Int) : List X := [.fz 1 (l.map al)]
def mT (l : List Int) : List X := [.cX 1 (l.map al)]
theorem pY (l : List Int) : X.bj (iX l) = true := rfl
theorem z9 (l : List Int) : X.j7 (mT l) = iX l := by
 show [X.fz 1 (X.mQ (l.map al))] = _
 rw [X.pW (g := al) (fun _ => rfl)]; rfl
structure Cell where
 kind : Int
 op : Int
 out : Int
 args : List Int
 num : Nat
 mem : Int
instance : Inhabited Cell := ⟨⟨0, 0, 0, [], 0, 0⟩⟩
def Cell.row (c : Cell) : List X := [.v (.int .i64 c.kind), .v (.int .i64 c.op), .v (.int .i64 c.out), .fz 1 (c.args.map al), .v (.int .u64 (c.num : Int)), .v (.int .i64 c.mem)]
theorem Cell.cN (c : Cell) : X.bj c.row = true := rfl
structure rr where
 name : ByteArray
 width : Int
 len : Int
 kind : Int
 pZ : Int
instance : Inhabited rr := ⟨⟨ByteArray.empty, 0, 0, 0, 0⟩⟩
def rr.row (a : rr) : List X := [.v (.string a.name), .v (.int .i64 a.width), .v (.int .i64 a.len), .v (.int .i64 a.kind), .v (.int .i64 a.pZ)]
theorem rr.cN (c : rr) : X.bj c.row = true := rfl
structure iY where
 name : ByteArray
 width : Int
 out : Bool
instance : Inhabited iY := ⟨⟨ByteArray.empty, 0, false⟩⟩
def iY.row (a : iY) : List X := [.v (.string a.name), .v (.int .i64 a.width), .v (.bool a.out)]
theorem iY.cN (c : iY) : X.bj c.row = true := rfl
structure ae where
 name : ByteArray
 aj : List Int
 cells : List Cell
 ins : List Int
 bu : List rr
 streams : List iY
 cf : List Int
 data : List Int
 freeze : Int
 done : Int
 eQ : List Int
def ae.row (n : ae) : List X := [.v (.string n.name), .fz 1 (n.aj.map al), .fz 6 (n.cells.map Cell.row), .fz 1 (n.ins.map al), .fz 5 (n.bu.map rr.row), .fz 3 (n.streams.map iY.row),
 .fz 1 (n.cf.map al), .fz 1 (n.data.map al), .v (.int .i64 n.freeze), .v (.int .i64 n.done), .fz 1 (n.eQ.map al)]
structure ae.Small (n : ae) : Prop where
 name : n.name.size ≤ 140737488351232
 aj : n.aj.length ≤ 17592186043904
 cells : n.cells.length ≤ 2199023255488
 args : ∀ c ∈ n.cells, c.args.length ≤ 17592186043904
 Co : (n.cells.map (fun c => c.args.length)).sum ≤ 8796093022208
 EP : ∀ c ∈ n.cells, c.num < 18446744073709551616
 q3 : ∀ m ∈ n.bu, m.name.size ≤ 140737488351232
 q4 : ∀ m ∈ n.streams, m.name.size ≤ 140737488351232
 ins : n.ins.length ≤ 17592186043904
 bu : n.bu.length ≤ 2932031007317
 streams : n.streams.length ≤ 4398046510976
 cf : n.cf.length ≤ 17592186043904
 data : n.data.length ≤ 17592186043904
 eQ : n.eQ.length ≤ 17592186043904
open Go Go.AW Go.Proofs
section
variable {H : Type} {enc : TypeId × Value → H} {W : World} {base : Nat}
theorem Cp : Reads enc Try.prog W base 66 mS (fun z => z < 18446744073709551616) (fun _ => 1) := Reads.HT Try.underlying66
theorem ER : Reads enc Try.prog W base 5 z8 (fun z => z < 256) (fun _ => 1) := Reads.Lo Try.underlying5
theorem HX : Try.prog.cellsOf 66 = 1 := by kernel_rfl
structure ae.OT (n : ae) : Prop where
 name : n.name.size ≤ 140737488351232
 aj : n.aj.length ≤ 17592186043904
 cells : n.cells.length ≤ 2199023255488
 args : ∀ c ∈ n.cells, c.args.length ≤ 17592186043904
 EP : ∀ c ∈ n.cells, c.num < 18446744073709551616
 q3 : ∀ m ∈ n.bu, m.name.size ≤ 140737488351232
 q4 : ∀ m ∈ n.streams, m.name.size ≤ 140737488351232
 ins : n.ins.length ≤ 17592186043904
 bu : n.bu.length ≤ 2932031007317
 streams : n.streams.length ≤ 4398046510976
 cf : n.cf.length ≤ 17592186043904
 data : n.data.length ≤ 17592186043904
 eQ : n.eQ.length ≤ 17592186043904
theorem ae.OT.small {n : ae} (h : n.OT) (ht : (n.cells.map (fun c => c.args.length)).sum ≤ 8796093022208) : n.Small := ⟨h.name, h.aj, h.cells, h.args, ht, h.EP, h.q3, h.q4, h.ins, h.bu, h.streams, h.cf, h.data, h.eQ⟩
end
open Go Go.AW Go.Proofs
end Go.Proofs.Ytlimckldnjmabaa
namespace Go.Proofs.Ytlimckldnjmabaa
open Go Go.AW
def jr (x : Nat) : Prop := (97 ≤ x ∧ x ≤ 122) ∨ (65 ≤ x ∧ x ≤ 90) ∨ (48 ≤ x ∧ x ≤ 57) ∨ x = 95
def oW (s : ByteArray) : Prop := (∀ i, i < s.size → jr (bl s i)) ∧ s.size ≤ 64
def cw (w : Int) : Prop := 1 ≤ w ∧ w ≤ 64
def bE (op : Int) : Int := if (2 ≤ op ∧ op ≤ 3) ∨ (9 ≤ op ∧ op ≤ 20) then 2 else if op = 21 then 3 else if 22 ≤ op ∧ op ≤ 24 then 1 else 0
theorem SZ {p : Prop} (h : p := by ((simp only [Shaped, bE, Int.reduceEq, Bool.not_eq_true, false_and, true_and, and_true, and_false, or_false, false_or, ne_eq]) <;> (first | omega | grind))) : p := h
def Shaped (n : ae) (c : Cell) : Prop :=
 (c.kind = 1 ∧ c.args.length = 0 ∧ c.op = 0 ∧ c.mem = 0) ∨
 (c.kind = 2 ∧ bE c.op ≠ 0 ∧ (c.args.length : Int) = bE c.op ∧ c.num = 0 ∧ c.mem = 0) ∨
 (c.kind = 3 ∧ 2 ≤ c.args.length ∧ c.args.length % 2 = 0 ∧ c.op = 0 ∧ c.num = 0 ∧ c.mem = 0) ∨
 (c.kind = 4 ∧ c.args.length = 2 ∧ c.op = 0 ∧ c.mem = 0) ∨
 (c.kind = 5 ∧ c.args.length = 2 ∧ (4 ≤ c.op ∧ c.op ≤ 8) ∧ (1 ≤ c.num ∧ c.num ≤ 4096) ∧ c.mem = 0) ∨
 (c.kind = 6 ∧ c.args.length = 2 ∧ c.op = 0 ∧ c.num = 0 ∧ 0 ≤ c.mem ∧ c.mem < n.bu.length) ∨
 (c.kind = 7 ∧ c.args.length = 3 ∧ c.op = 0 ∧ c.num = 0 ∧ 0 ≤ c.mem ∧ c.mem < n.bu.length) ∨
 (c.kind = 8 ∧ c.args.length = 0 ∧ c.op = 0 ∧ c.num < n.ins.length ∧ c.mem = 0) ∨
 (c.kind = 9 ∧ c.args.length = 0 ∧ c.op = 0 ∧ c.num = 0 ∧ 0 ≤ c.mem ∧ c.mem < n.streams.length) ∨
 (c.kind = 10 ∧ c.args.length = 0 ∧ c.op = 0 ∧ c.num = 0 ∧ (0 ≤ c.mem ∧ c.mem < n.streams.length) ∧ (n.streams.getD c.mem.toNat default).out = false)
theorem Ta {p : Prop} (h : p := by ((simp only [Shaped, Int.reduceEq, Bool.not_eq_true, false_and, true_and, and_true, and_false, or_false, false_or, ne_eq]) <;> (first | omega | grind))) : p := h
theorem fA {p : Prop} (h : p := by ((simp only [Shaped, *, Int.reduceEq, Bool.not_eq_true, false_and, true_and, and_true, and_false, or_false, false_or, ne_eq]) <;> (first | omega | grind))) : p := h
noncomputable instance (s : ByteArray) : Decidable (oW s) := Classical.propDecidable _
instance (w : Int) : Decidable (cw w) := by unfold cw; infer_instance
noncomputable instance (n : ae) (c : Cell) : Decidable (Shaped n c) := Classical.propDecidable _
theorem dt {p : Prop} [Decidable p] (h : p) : true = decide p := (decide_eq_true h).symm
theorem df {p : Prop} [Decidable p] (h : ¬ p) : false = decide p := (decide_eq_false h).symm
theorem dd {p q : Prop} [Decidable p] [Decidable q] (h : p ↔ q) : decide p = decide q := by
 by_cases hq : q
 ·rw [decide_eq_true hq, decide_eq_true (h.2 hq)]
 ·rw [decide_eq_false hq, decide_eq_false (fun hp => hq (h.1 hp))]
theorem db {b : Bool} {q : Prop} [Decidable q] (h : b = true ↔ q) : b = decide q := by
 cases b
 ·exact df (fun hq => by have := h.2 hq; cases this)
 ·exact dt (h.1 rfl)
open Go Go.AW
def aM (w : Int) : Nat := if w < 0 then 0 else if 64 < w then 64 else w.toNat
theorem eC (w : Int) : aM w ≤ 64 := by unfold aM; (repeat' split) <;> omega
def dK (w : Int) (x : Nat) : Nat := x % 2 ^ aM w
theorem vu : ∀ k : Nat, k < 65 → 18446744073709551615 / 2 ^ (64 - k) = 2 ^ k - 1 := by decide +kernel
theorem dX : ∀ k : Nat, k < 65 → 1 ≤ 2 ^ k ∧ 2 ^ k ≤ 18446744073709551616 := by decide +kernel
theorem Cq (w : Int) : 18446744073709551615 / 2 ^ (64 - aM w) = 2 ^ aM w - 1 := vu _ (by have := eC w; omega)
theorem Cr (w : Int) : 2 ^ aM w - 1 < 18446744073709551616 := by have := dX (aM w) (by have := eC w; omega); omega
theorem zA (w : Int) (x : Nat) : x &&& (2 ^ aM w - 1) = dK w x := Nat.and_two_pow_sub_one_eq_mod x (aM w)
theorem nD (w : Int) (x : Nat) : dK w x < 2 ^ aM w := Nat.mod_lt _ (by have := dX (aM w) (by have := eC w; omega); omega)
theorem xH (w : Int) (x : Nat) : dK w x < 18446744073709551616 := by have := nD w x; have := dX (aM w) (by have := eC w; omega); omega
def aF (k x : Nat) : List Int := (List.range k).map fun i => ((x / 2 ^ i % 2 : Nat) : Int)
theorem dL (k x : Nat) : (aF k x).length = k := by simp [aF]
theorem vv (k x : Nat) : aF (k + 1) x = aF k x ++ [((x / 2 ^ k % 2 : Nat) : Int)] := by
 simp [aF, List.range_succ]
theorem fC (k x i : Nat) (h : i < k) : (aF k x).getD i 0 = ((x / 2 ^ i % 2 : Nat) : Int) := by
 rw [List.getD_eq_getElem?_getD, List.getElem?_eq_getElem (by rw [dL]; exact h)]; simp [aF]
def dP (l : List Int) : Nat := l.foldr (fun b a => 2 * a + b.toNat) 0
theorem vw (l : List Int) (i : Nat) (h : i < l.length) : dP (l.drop i) = 2 * dP (l.drop (i + 1)) + (l.getD i 0).toNat := by
 rw [List.drop_eq_getElem_cons h, List.getD_eq_getElem?_getD, List.getElem?_eq_getElem h]; rfl
theorem tK (l : List Int) (h : ∀ b ∈ l, b.toNat ≤ 1) : dP l < 2 ^ l.length := by
 induction l with
 | nil => simp [dP]
 | cons b r ih =>
  have h1 := ih (fun x hx => h x (List.mem_cons_of_mem _ hx)); have h2 := h b (List.mem_cons_self ..)
  show 2 * dP r + b.toNat < 2 ^ (r.length + 1)
  rw [Nat.pow_succ]; omega
theorem xI {l : List Int} {i : Int} {x : Nat} (h1 : ∀ b ∈ l, 0 ≤ b ∧ b ≤ 1) (h2 : l.length ≤ 64) (hi : 0 ≤ i ∧ i < (l.length : Int)) (hx : x = dP (l.drop (i + 1).toNat)) :
  ((2 * x % 18446744073709551616) + (l.getD i.toNat 0).toNat) % 18446744073709551616 = dP (l.drop (i - 1 + 1).toNat) := by
 have hs := vw l i.toNat om
 have hl := tK (l.drop i.toNat) (fun b hb => by have := h1 b (List.mem_of_mem_drop hb); omega)
 have hp := dX (l.drop i.toNat).length (by rw [List.length_drop]; omega)
 rw [show (i + 1).toNat = i.toNat + 1 by omega] at hx
 rw [show i - 1 + 1 = i by omega, hs, ← hx]
 rw [hs, ← hx] at hl
 omega
theorem xJ {x k : Nat} (hx : x = 2 ^ k - 1) (hk : k < 64) : ((2 * x % 18446744073709551616) + 1) % 18446744073709551616 = 2 ^ (k + 1) - 1 := by
 have h1 := dX (k + 1) om; have h2 := dX k om
 rw [Nat.pow_succ] at h1 ⊢; omega
theorem cL {l : List Int} {i : Nat} (h : i < l.length) : l.getD i 0 ∈ l := by
 rw [List.getD_eq_getElem?_getD, List.getElem?_eq_getElem h]; exact List.getElem_mem h
theorem lC (k x : Nat) : ∀ b ∈ aF k x, 0 ≤ b ∧ b ≤ 1 := by
 intro b hb
 obtain ⟨i, _, rfl⟩ := List.mem_map.1 hb
 omega
theorem js (k x : Nat) : dP (aF k x) = x % 2 ^ k := by
 induction k generalizing x with
 | zero => simp [dP, aF, Nat.mod_one]
 | succ k ih =>
  have e : aF (k + 1) x = ((x % 2 : Nat) : Int) :: aF k (x / 2) := by
   unfold aF
   rw [List.range_succ_eq_map, List.map_cons, List.map_map]
   congr 1
   ·simp
   ·apply List.map_congr_left
    intro i _
    show (((x / 2 ^ (i + 1) % 2 : Nat)) : Int) = _
    rw [Nat.pow_succ, Nat.mul_comm, ← Nat.div_div_eq_div_mul]
  rw [e]
  show 2 * dP (aF k (x / 2)) + (((x % 2 : Nat) : Int)).toNat = _
  rw [ih, Int.toNat_natCast, Nat.pow_succ, Nat.mul_comm (2 ^ k) 2, Nat.mod_mul]; omega
def gK (op : Int) : Prop := 15 ≤ op ∧ op ≤ 20
def wP (op : Int) : Prop := 2 ≤ op ∧ op ≤ 20
def Seq (op : Int) : Prop := 4 ≤ op ∧ op ≤ 8
def Unary (op : Int) : Prop := op = 22 ∨ op = 23 ∨ op = 24
def Plain (op : Int) : Prop := (wP op ∧ ¬ Seq op) ∨ op = 21 ∨ Unary op
def dk (k : Int) : Prop := k = 1 ∨ k = 2 ∨ k = 3
def In (i n : Int) : Prop := 0 ≤ i ∧ i < n
theorem gL {p : Prop} (h : p := by first | omega | (simp [-List.getD_eq_getElem?_getD]; done) | (simp [-List.getD_eq_getElem?_getD]; omega) | (unfold In at *; omega)) : p := h
instance (w : Int) : Decidable (gK w) := by unfold gK; infer_instance
instance (w : Int) : Decidable (wP w) := by unfold wP; infer_instance
instance (w : Int) : Decidable (Seq w) := by unfold Seq; infer_instance
instance (w : Int) : Decidable (Unary w) := by unfold Unary; infer_instance
instance (w : Int) : Decidable (Plain w) := by unfold Plain; infer_instance
instance (w : Int) : Decidable (dk w) := by unfold dk; infer_instance
instance (i n : Int) : Decidable (In i n) := by unfold In; infer_instance
open Go Go.AW
def ae.wd (n : ae) (x : Int) : Int := n.aj.getD x.toNat 0
def ae.ow (n : ae) (c : Cell) : Int := if 0 ≤ c.out then n.wd c.out else 0
def ae.av (n : ae) (c : Cell) (k : Nat) : Int := n.wd (c.args.getD k 0)
def cx (op a b d w : Int) : Prop :=
 (op = 21 ∧ a = 1 ∧ b = w ∧ d = w) ∨ ((op = 22 ∨ op = 23) ∧ a ≤ w) ∨ (op = 24 ∧ w ≤ a) ∨ (gK op ∧ w = 1 ∧ a = b) ∨ (¬ gK op ∧ (op < 21 ∨ 24 < op) ∧ a = w ∧ b = w)
def jt (n : ae) (c : Cell) (k : Nat) : Prop := (k % 2 = 0 ∧ n.av c k = 1) ∨ (k % 2 = 1 ∧ n.av c k = n.ow c)
def Fits (n : ae) (c : Cell) : Prop :=
 (c.kind = 1 ∧ dK (n.ow c) c.num = c.num) ∨
 (c.kind = 2 ∧ cx c.op (n.av c 0) (n.av c 1) (n.av c 2) (n.ow c)) ∨
 (c.kind = 3 ∧ ∀ k, k < c.args.length → jt n c k) ∨
 (c.kind = 4 ∧ n.av c 0 = 1 ∧ n.av c 1 = n.ow c ∧ dK (n.ow c) c.num = c.num) ∨
 (c.kind = 5 ∧ n.av c 0 = n.ow c ∧ n.av c 1 = n.ow c) ∨
 (c.kind = 6 ∧ n.av c 0 = 1 ∧ (n.bu.getD c.mem.toNat default).width = n.ow c) ∨
 (c.kind = 7 ∧ n.av c 0 = 1 ∧ (n.bu.getD c.mem.toNat default).width = n.av c 2) ∨
 (c.kind = 8 ∧ n.ins.getD c.num 0 = n.ow c) ∨
 (c.kind = 9 ∧ n.ow c = 1) ∨
 (c.kind = 10 ∧ (n.streams.getD c.mem.toNat default).width = n.ow c)
theorem uM {p : Prop} (h : p := by ((simp only [Fits, cx, gK, *, Int.reduceEq, Bool.not_eq_true, false_and, true_and, and_true, and_false, or_false, false_or, ne_eq]) <;> omega)) : p := h
instance (op a b d w : Int) : Decidable (cx op a b d w) := by unfold cx; infer_instance
noncomputable instance (n : ae) (c : Cell) : Decidable (Fits n c) := Classical.propDecidable _
structure wQ (n : ae) (c : Cell) : Prop where
 out : c.out = -1 ∧ c.kind = 7 ∨ (0 ≤ c.out ∧ c.out < n.aj.length) ∧ c.kind ≠ 7
 args : ∀ x ∈ c.args, 0 ≤ x ∧ x < n.aj.length
theorem wQ.arg {n : ae} {c : Cell} (h : wQ n c) {k : Nat} (hk : k < c.args.length) : 0 ≤ c.args.getD k 0 ∧ c.args.getD k 0 < n.aj.length := h.args _ (cL hk)
section
variable {n : ae} {c : Cell} (h : Shaped n c)
include h
theorem Shaped.k2 (k : c.kind = 2) : ((2 ≤ c.op ∧ c.op ≤ 3 ∨ 9 ≤ c.op ∧ c.op ≤ 20) ∧ c.args.length = 2) ∨ (c.op = 21 ∧ c.args.length = 3) ∨ (22 ≤ c.op ∧ c.op ≤ 24 ∧ c.args.length = 1) := by
 simp only [Shaped, k, Int.reduceEq, false_and, true_and, false_or, or_false] at h
 obtain ⟨h1, h2, _⟩ := h
 unfold bE at h1 h2
 split at h2
 ·omega
 ·split at h2
  ·omega
  ·split at h2 <;> omega
theorem Shaped.k3 (k : c.kind = 3) : 2 ≤ c.args.length ∧ c.args.length % 2 = 0 := by simp only [Shaped, k, Int.reduceEq, false_and, true_and, false_or, or_false] at h; omega
theorem Shaped.k4 (k : c.kind = 4) : c.args.length = 2 := by simp only [Shaped, k, Int.reduceEq, false_and, true_and, false_or, or_false] at h; omega
theorem Shaped.k5 (k : c.kind = 5) : c.args.length = 2 ∧ 4 ≤ c.op ∧ c.op ≤ 8 ∧ 1 ≤ c.num ∧ c.num ≤ 4096 := by simp only [Shaped, k, Int.reduceEq, false_and, true_and, false_or, or_false] at h; omega
theorem Shaped.k6 (k : c.kind = 6) : c.args.length = 2 ∧ 0 ≤ c.mem ∧ c.mem < n.bu.length := by simp only [Shaped, k, Int.reduceEq, false_and, true_and, false_or, or_false] at h; omega
theorem Shaped.k7 (k : c.kind = 7) : c.args.length = 3 ∧ 0 ≤ c.mem ∧ c.mem < n.bu.length := by simp only [Shaped, k, Int.reduceEq, false_and, true_and, false_or, or_false] at h; omega
theorem Shaped.k8 (k : c.kind = 8) : c.num < n.ins.length := by simp only [Shaped, k, Int.reduceEq, false_and, true_and, false_or, or_false] at h; omega
theorem Shaped.Kl (k : c.kind = 10) : 0 ≤ c.mem ∧ c.mem < n.streams.length := by simp only [Shaped, k, Int.reduceEq, false_and, true_and, false_or, or_false] at h; omega
theorem Shaped.kind : 1 ≤ c.kind ∧ c.kind ≤ 10 := by unfold Shaped at h; omega
end
theorem bM {α : Type} (l : List α) (i j : Nat) (v d : α) : (l.set i v).getD j d = if i = j ∧ i < l.length then v else l.getD j d := by
 rw [List.getD_eq_getElem?_getD, List.getD_eq_getElem?_getD, List.getElem?_set]
 by_cases h : i = j
 ·subst h
  by_cases h2 : i < l.length
  ·simp [h2]
  ·simp [h2]
 ·simp [h]
theorem xK {α : Type} {l : List α} {i : Nat} {d v : α} {f : Nat → α} (h : ∀ j, j < i → l.getD j d = f j) (hv : v = f i) (hi : i < l.length) : ∀ j, j < i + 1 → (l.set i v).getD j d = f j := by
 intro j hj
 rw [bM]
 split
 ·next e => rw [← e.1]; exact hv
 ·exact h j om
theorem zB {n : ae} {c : Cell} {i : Nat} (h : ∀ k, k < i → jt n c k) (hi : jt n c i) : ∀ k, k < i + 1 → jt n c k := by
 intro k hk
 rcases Nat.lt_succ_iff_lt_or_eq.1 hk with h1 | h1
 ·exact h k h1
 ·exact h1 ▸ hi
open Go Go.AW
section
variable {α : Type} {d : α} {p : α → Bool} {l : List α}
def s0 (p : α → Bool) (l : List α) : Int := if l.any p then (l.findIdx p : Int) else -1
theorem mU {i : Nat} (h0 : ∀ j, j < i → p (l.getD j d) = false) (hi : i < l.length) (h : p (l.getD i d) = true) : (i : Int) = s0 p l := by
 have e : l.findIdx p = i := by
  rw [List.findIdx_eq hi]
  rw [List.getD_eq_getElem?_getD, List.getElem?_eq_getElem hi] at h
  refine ⟨h, fun j hj => ?_⟩
  have := h0 j hj
  rw [List.getD_eq_getElem?_getD, List.getElem?_eq_getElem om] at this
  exact this
 have ha : l.any p = true := by
  rw [List.any_eq_true]
  refine ⟨l.getD i d, ?_, h⟩
  rw [List.getD_eq_getElem?_getD, List.getElem?_eq_getElem hi]; exact List.getElem_mem hi
 unfold s0; rw [if_pos ha, e]
theorem o3 (h0 : ∀ j, j < l.length → p (l.getD j d) = false) : -1 = s0 p l := by
 have ha : ¬ (l.any p = true) := by
  rw [List.any_eq_true]
  rintro ⟨x, hx, hp⟩
  obtain ⟨i, hi, rfl⟩ := List.mem_iff_getElem.1 hx
  have := h0 i hi
  rw [List.getD_eq_getElem?_getD, List.getElem?_eq_getElem hi] at this
  exact absurd (hp.symm.trans this) ag
 unfold s0; rw [if_neg ha]
theorem q5 : decide (0 ≤ s0 p l) = l.any p := by
 unfold s0
 by_cases h : l.any p = true
 ·rw [if_pos h, h]; simp
 ·rw [if_neg h]; simp only [Bool.not_eq_true] at h; rw [h]; rfl
theorem lD {i : Nat} (h : ∀ j, j < i → p (l.getD j d) = false) (hi : p (l.getD i d) = false) : ∀ j, j < i + 1 → p (l.getD j d) = false := by
 intro k hk
 rcases Nat.lt_succ_iff_lt_or_eq.1 hk with h1 | h1
 ·exact h k h1
 ·exact h1 ▸ hi
theorem fD {i : Nat} (h : i < l.length) : l.getD i d ∈ l := by
 rw [List.getD_eq_getElem?_getD, List.getElem?_eq_getElem h]; exact List.getElem_mem h
theorem rR {ls : List (List α)} {i : Nat} (hi : i < ls.length) : (ls.take (i + 1)).flatten = (ls.take i).flatten ++ ls.getD i [] := by
 rw [List.take_add_one, List.flatten_append, List.getD_eq_getElem?_getD, List.getElem?_eq_getElem hi]; simp
theorem nE (ls : List (List α)) (i : Nat) : (ls.take i).flatten.length ≤ ls.flatten.length := by
 conv => rhs; rw [← List.take_append_drop i ls, List.flatten_append, List.length_append]
 omega
end
open Go Go.AW
def m8 (m : rr) : Prop := oW m.name ∧ cw m.width ∧ 1 ≤ m.len ∧ m.len ≤ 4096 ∧ m.kind = 0 ∧ m.pZ = 0
def jE (n : ae) (i : Nat) : Prop :=
 oW (n.streams.getD i default).name ∧ cw (n.streams.getD i default).width ∧ In (n.cf.getD i 0) n.aj.length ∧
 ((n.streams.getD i default).out = true → In (n.data.getD i 0) n.aj.length) ∧ ((n.streams.getD i default).out = false → n.data.getD i 0 = -1)
def ju (n : ae) (c : Cell) : Prop := (∀ x ∈ c.args, In x n.aj.length) ∧ Shaped n c ∧ (c.kind = 7 → c.out = -1) ∧ (c.kind ≠ 7 → In c.out n.aj.length)
def cq (l : List Cell) (w : Nat) : Nat := l.countP (fun c => decide (c.kind ≠ 7 ∧ c.out = (w : Int)))
structure b5 (n : ae) : Prop where
 name : oW n.name
 eD : n.cells.length ≤ 65536
 dY : n.aj.length ≤ 65536
 jF : n.bu.length ≤ 64
 cU : n.streams.length ≤ 64
 ei : n.cf.length = n.streams.length
 jv : n.data.length = n.streams.length
 wide : ∀ j, j < (n.aj ++ n.ins).length → cw ((n.aj ++ n.ins).getD j 0)
 bu : ∀ j, j < n.bu.length → m8 (n.bu.getD j default)
 strs : ∀ j, j < n.streams.length → jE n j
 freeze : In n.freeze n.aj.length
 done : In n.done n.aj.length
 eQ : ∀ r ∈ n.eQ, In r n.aj.length
 cells : ∀ j, j < n.cells.length → ju n (n.cells.getD j default)
 kL : ∀ w, w < n.aj.length → cq n.cells w = 1
noncomputable instance (n : ae) : Decidable (b5 n) := Classical.propDecidable _
theorem e8 {p : Nat → Prop} {i : Nat} (h : ∀ j, j < i → p j) (hi : p i) : ∀ j, j < i + 1 → p j := by
 intro k hk
 rcases Nat.lt_succ_iff_lt_or_eq.1 hk with h1 | h1
 ·exact h k h1
 ·exact h1 ▸ hi
theorem e9 {l : List Cell} {i : Nat} (hi : i < l.length) (w : Nat) : cq (l.take (i + 1)) w = cq (l.take i) w + if (l.getD i default).kind ≠ 7 ∧ (l.getD i default).out = (w : Int) then 1 else 0 := by
 rw [List.take_add_one, List.getElem?_eq_getElem hi, List.getD_eq_getElem?_getD, List.getElem?_eq_getElem hi]
 simp only [cq, List.countP_append, Option.toList_some, List.countP_cons, List.countP_nil, Option.getD_some, Nat.zero_add, decide_eq_true_eq]
theorem o4 (l : List Cell) (i w : Nat) : cq (l.take i) w ≤ cq l w := by
 conv => rhs; rw [← List.take_append_drop i l]
 simp only [cq, List.countP_append]; omega
def ti (n : ae) (i : Nat) (d : List Bool) : Prop := ∀ w, w < n.aj.length → cq (n.cells.take i) w ≤ 1 ∧ (d.getD w false = true ↔ cq (n.cells.take i) w = 1)
theorem ti.init (n : ae) : ti n 0 (List.replicate n.aj.length false) := by
 intro w hw
 refine ⟨by simp [cq], ?_⟩
 rw [List.getD_eq_getElem?_getD, List.getElem?_replicate, if_pos hw]; simp [cq]
theorem ti.skip {n : ae} {i : Nat} {d : List Bool} (h : ti n i d) (hi : i < n.cells.length) (h7 : (n.cells.getD i default).kind = 7) : ti n (i + 1) d := by
 intro w hw
 rw [e9 hi, if_neg (fun h => h.1 h7)]
 exact h w hw
theorem ti.step {n : ae} {i : Nat} {d : List Bool} (h : ti n i d) (hi : i < n.cells.length) (h7 : (n.cells.getD i default).kind ≠ 7) (ho : In (n.cells.getD i default).out n.aj.length)
  (hl : d.length = n.aj.length) (hn : d.getD (n.cells.getD i default).out.toNat false = false) : ti n (i + 1) (d.set (n.cells.getD i default).out.toNat true) := by
 intro w hw
 have hh := h w hw
 rw [e9 hi, bM]
 unfold In at ho
 by_cases e : (n.cells.getD i default).out = (w : Int)
 ·rw [if_pos ⟨h7, e⟩, if_pos ⟨om, om⟩]
  have e2 : (n.cells.getD i default).out.toNat = w := by omega
  rw [e2] at hn
  have h0 : cq (n.cells.take i) w ≠ 1 := fun h1 => by have := hh.2.2 h1; rw [hn] at this; cases this
  have Tb := hh.1
  exact ⟨om, by simp; omega⟩
 ·rw [if_neg (fun h => e h.2), if_neg om]
  exact hh
theorem ti.dup {n : ae} {i : Nat} {d : List Bool} (h : ti n i d) (hi : i < n.cells.length) (h7 : (n.cells.getD i default).kind ≠ 7) (ho : In (n.cells.getD i default).out n.aj.length)
  (hn : d.getD (n.cells.getD i default).out.toNat false = true) (hf : b5 n) : False := by
 unfold In at ho
 have hh := h (n.cells.getD i default).out.toNat om
 have h1 := hh.2.1 hn
 have h2 := e9 hi (n.cells.getD i default).out.toNat
 rw [if_pos ⟨h7, om⟩, h1] at h2
 have h3 := o4 n.cells (i + 1) (n.cells.getD i default).out.toNat
 have h4 := hf.kL (n.cells.getD i default).out.toNat om
 omega
theorem ti.all {n : ae} {d : List Bool} (h : ti n n.cells.length d) (hl : d.length = n.aj.length) : (!(d.any (fun x => false == x))) = true ↔ ∀ w, w < n.aj.length → cq n.cells w = 1 := by
 unfold ti at h
 rw [List.take_length] at h
 rw [Bool.not_eq_true', List.any_eq_false]
 constructor
 ·intro ha w hw
  refine (h w hw).2.1 ?_
  have := ha (d.getD w false) (fD om)
  cases hd : d.getD w false
  ·rw [hd] at this; exact absurd rfl this
  ·rfl
 ·intro ha x hx
  obtain ⟨w, hw, rfl⟩ := List.mem_iff_getElem.1 hx
  have := (h w om).2.2 (ha w om)
  rw [List.getD_eq_getElem?_getD, List.getElem?_eq_getElem hw] at this
  have t : d[w] = true := this
  rw [t]; decide
theorem lZ {l : List Int} {p : Int → Prop} [DecidablePred p] : (l.any (fun z => !decide (p z))) = true ↔ ¬ ∀ z ∈ l, p z := by
 rw [List.any_eq_true]
 constructor
 ·rintro ⟨x, hx, hp⟩ h
  simp [h x hx] at hp
 ·intro h
  refine Classical.byContradiction fun hh => h fun z hz => Classical.byContradiction fun hp => hh ⟨z, hz, by simp [hp]⟩
theorem jR {l : List Int} {p : Int → Prop} [DecidablePred p] (h : (l.any (fun z => !decide (p z))) = false) : ∀ z ∈ l, p z := by
 refine Classical.byContradiction fun hh => ?_
 rw [lZ.2 hh] at h; cases h
open Go Go.AW
def lE (n : ae) (i : Nat) : Prop := n.wd (n.cf.getD i 0) = 1 ∧ ((n.streams.getD i default).out = true → n.wd (n.data.getD i 0) = (n.streams.getD i default).width)
structure Fit (n : ae) : Prop where
 freeze : n.wd n.freeze = 1
 done : n.wd n.done = 1
 strs : ∀ j, j < n.streams.length → lE n j
 cells : ∀ j, j < n.cells.length → Fits n (n.cells.getD j default)
noncomputable instance (n : ae) : Decidable (Fit n) := Classical.propDecidable _
theorem ju.HY {n : ae} {c : Cell} (h : ju n c) : wQ n c := by
 obtain ⟨h1, h2, h3, h4⟩ := h
 refine ⟨?_, h1⟩
 by_cases h7 : c.kind = 7
 ·exact .inl ⟨h3 h7, h7⟩
 ·exact .inr ⟨h4 h7, h7⟩
theorem b5.cell {n : ae} (h : b5 n) {c : Cell} (hc : c ∈ n.cells) : ju n c := by
 obtain ⟨i, hi, rfl⟩ := List.mem_iff_getElem.1 hc
 have := h.cells i hi
 rw [List.getD_eq_getElem?_getD, List.getElem?_eq_getElem hi] at this
 exact this
theorem zC {α : Type} {l : List α} {p : α → Prop} [DecidablePred p] : (l.any (fun z => !decide (p z))) = true ↔ ¬ ∀ z ∈ l, p z := by
 rw [List.any_eq_true]
 constructor
 ·rintro ⟨x, hx, hp⟩ h
  simp [h x hx] at hp
 ·intro h
  refine Classical.byContradiction fun hh => h fun z hz => Classical.byContradiction fun hp => hh ⟨z, hz, by simp [hp]⟩
theorem tL {α : Type} {l : List α} {p : α → Prop} {d : α} : (∀ j, j < l.length → p (l.getD j d)) ↔ ∀ z ∈ l, p z := by
 constructor
 ·intro h z hz
  obtain ⟨i, hi, rfl⟩ := List.mem_iff_getElem.1 hz
  have := h i hi
  rw [List.getD_eq_getElem?_getD, List.getElem?_eq_getElem hi] at this
  exact this
 ·exact fun h j hj => h _ (fD hj)
theorem tM {n : ae} (h1 : n.wd n.freeze = 1) (h2 : n.wd n.done = 1) (h3 : ∀ j, j < n.streams.length → lE n j) : (!(n.cells.any (fun z => !decide (Fits n z)))) = true ↔ Fit n := by
 rw [Bool.not_eq_true', ← Bool.not_eq_true, zC, Classical.not_not, ← tL (d := default)]
 exact ⟨fun h => ⟨h1, h2, h3, h⟩, fun h => h.cells⟩
open Go Go.AW
theorem length_le_of_subset {α : Type} [DecidableEq α] : ∀ {l m : List α}, l.Nodup → (∀ x ∈ l, x ∈ m) → l.length ≤ m.length
 | [], _, _, _ => Nat.zero_le _
 | a :: t, m, hn, hs => by
  have ha := hs a (List.mem_cons_self ..)
  obtain ⟨h1, h2⟩ := List.nodup_cons.1 hn
  have := length_le_of_subset (l := t) (m := m.erase a) h2 (fun x hx => (List.mem_erase_of_ne (by rintro rfl; exact h1 hx)).2 (hs x (List.mem_cons_of_mem _ hx)))
  have hm : 0 < m.length := List.length_pos_of_mem ha
  rw [List.length_erase_of_mem ha] at this
  simp only [List.length_cons]; omega
def ae.cell (n : ae) (i : Int) : Cell := n.cells.getD i.toNat default
def cQ (n : ae) (i w : Int) : Prop := (0 ≤ i ∧ i < n.cells.length) ∧ (n.cell i).kind ≠ 7 ∧ (n.cell i).out = w
def bo (n : ae) (i : Int) : Prop := (0 ≤ i ∧ i < n.cells.length) ∧ dk (n.cell i).kind
def wR (n : ae) (w : Int) : Prop := ∃ j, bo n j ∧ (n.cell j).out = w
noncomputable instance (n : ae) : DecidablePred (wR n) := fun _ => Classical.propDecidable _
noncomputable instance (n : ae) (i : Int) : Decidable (bo n i) := Classical.propDecidable _
theorem bo.iK {n : ae} {i : Int} (h : bo n i) : cQ n i (n.cell i).out := ⟨h.1, fun h7 => by have := h.2; rw [h7] at this; revert this; unfold dk; omega, rfl⟩
theorem lF (n : ae) (i : Nat) : n.cell (i : Int) = n.cells.getD i default := rfl
theorem tN {l : List Cell} {i j w : Nat} (h : i ≤ j) : cq (l.take i) w ≤ cq (l.take j) w := by
 have := o4 (l.take j) i w
 rwa [List.take_take, Nat.min_eq_left h] at this
section
variable {n : ae} (hf : b5 n)
include hf
theorem b5.cellAt {i : Int} (h : 0 ≤ i ∧ i < n.cells.length) : ju n (n.cell i) := hf.cells i.toNat om
theorem b5.jG {i w : Int} (h : cQ n i w) : In w n.aj.length := h.2.2 ▸ (hf.cellAt h.1).2.2.2 h.2.1
theorem b5.rS {i x : Int} (h : 0 ≤ i ∧ i < n.cells.length) (hx : x ∈ (n.cell i).args) : In x n.aj.length := (hf.cellAt h).1 x hx
theorem b5.unique {i j w : Int} (h1 : cQ n i w) (h2 : cQ n j w) : i = j := by
 have key : ∀ {i j : Int}, cQ n i w → cQ n j w → i < j → False := by
  intro i j h1 h2 gM
  have hw := hf.jG h1
  unfold In at hw
  obtain ⟨a1, a2, a3⟩ := h1
  obtain ⟨b1, b2, b3⟩ := h2
  have e1 := e9 (l := n.cells) (i := i.toNat) om w.toNat
  have e2 := e9 (l := n.cells) (i := j.toNat) om w.toNat
  rw [if_pos ⟨a2, by show (n.cell i).out = _; omega⟩] at e1
  rw [if_pos ⟨b2, by show (n.cell j).out = _; omega⟩] at e2
  have e3 := tN (l := n.cells) (i := i.toNat + 1) (j := j.toNat) (w := w.toNat) om
  have e4 := o4 n.cells (j.toNat + 1) w.toNat
  have e5 := hf.kL w.toNat om
  omega
 rcases Int.lt_trichotomy i j with h | h | h
 ·exact (key h1 h2 h).elim
 ·exact h
 ·exact (key h2 h1 h).elim
theorem b5.q6 {w : Int} (hw : In w n.aj.length) : ∃ i, cQ n i w := by
 unfold In at hw
 have h := hf.kL w.toNat om
 have hp : 0 < cq n.cells w.toNat := by omega
 unfold cq at hp
 obtain ⟨c, hc, hp⟩ := List.countP_pos_iff.1 hp
 obtain ⟨i, hi, rfl⟩ := List.mem_iff_getElem.1 hc
 simp only [decide_eq_true_eq] at hp
 have e : n.cell (i : Int) = n.cells[i] := by rw [lF, List.getD_eq_getElem?_getD, List.getElem?_eq_getElem hi]; rfl
 refine ⟨(i : Int), ⟨om, om⟩, ?_⟩
 rw [e]; exact ⟨hp.1, om⟩
end
def ej (n : ae) (k : Nat) (l : List Bool) : Prop := ∀ w : Int, In w n.aj.length → (l.getD w.toNat false = true ↔ ∃ j, bo n j ∧ j < k ∧ (n.cell j).out = w)
theorem ej.init (n : ae) : ej n 0 (List.replicate n.aj.length false) := by
 intro w hw
 unfold In at hw
 rw [List.getD_eq_getElem?_getD, List.getElem?_replicate, if_pos om]
 exact ⟨fun h => (by cases h), fun ⟨j, h1, h2, _⟩ => (by have := h1.1; omega)⟩
theorem ej.skip {n : ae} {k : Nat} {l : List Bool} (h : ej n k l) (hc : ¬ dk (n.cells.getD k default).kind) : ej n (k + 1) l := by
 intro w hw
 rw [h w hw]
 constructor
 ·rintro ⟨j, h1, h2, h3⟩; exact ⟨j, h1, om, h3⟩
 ·rintro ⟨j, h1, h2, h3⟩
  refine ⟨j, h1, ?_, h3⟩
  rcases Int.lt_or_eq_of_le (show j ≤ k by omega) with h' | h'
  ·exact h'
  ·subst h'; exact absurd h1.2 hc
theorem ej.step {n : ae} {k : Nat} {l : List Bool} (h : ej n k l) (hk : k < n.cells.length) (hl : l.length = n.aj.length) (hc : dk (n.cells.getD k default).kind) (ho : In (n.cells.getD k default).out n.aj.length) :
  ej n (k + 1) (l.set (n.cells.getD k default).out.toNat true) := by
 intro w hw
 unfold In at ho
 have pf := hw
 unfold In at pf
 rw [bM]
 by_cases e : (n.cells.getD k default).out = w
 ·rw [if_pos ⟨om, om⟩]
  exact ⟨fun _ => ⟨(k : Int), ⟨⟨om, om⟩, hc⟩, om, e⟩, fun _ => rfl⟩
 ·rw [if_neg om, h w hw]
  constructor
  ·rintro ⟨j, h1, h2, h3⟩; exact ⟨j, h1, om, h3⟩
  ·rintro ⟨j, h1, h2, h3⟩
   refine ⟨j, h1, ?_, h3⟩
   rcases Int.lt_or_eq_of_le (show j ≤ k by omega) with h' | h'
   ·exact h'
   ·subst h'; exact absurd h3 e
theorem ej.all {n : ae} {l : List Bool} (h : ej n n.cells.length l) {w : Int} (hw : In w n.aj.length) : l.getD w.toNat false = true ↔ wR n w := by
 rw [h w hw]
 exact ⟨fun ⟨j, h1, _, h3⟩ => ⟨j, h1, h3⟩, fun ⟨j, h1, h3⟩ => ⟨j, h1, by have := h1.1; omega, h3⟩⟩
def g5 (n : ae) (k : Nat) : List Int := ((List.range k).filter (fun i => !decide (dk (n.cells.getD i default).kind))).map (fun (i : Nat) => (i : Int))
theorem rT (n : ae) (k : Nat) : g5 n (k + 1) = g5 n k ++ if dk (n.cells.getD k default).kind then [] else [(k : Int)] := by
 unfold g5
 rw [List.range_succ, List.filter_append, List.map_append]
 congr 1
 by_cases h : dk (n.cells.getD k default).kind
 ·rw [if_pos h]; simp [-List.getD_eq_getElem?_getD, h]
 ·rw [if_neg h]; simp [-List.getD_eq_getElem?_getD, h]
theorem iv {n : ae} {k : Nat} {x : Int} : x ∈ g5 n k ↔ (0 ≤ x ∧ x < k) ∧ ¬ dk (n.cell x).kind := by
 unfold g5
 rw [List.mem_map]
 constructor
 ·rintro ⟨i, h, rfl⟩
  rw [List.mem_filter, List.mem_range] at h
  exact ⟨⟨om, om⟩, by rw [lF]; simpa [-List.getD_eq_getElem?_getD] using h.2⟩
 ·rintro ⟨h1, h2⟩
  refine ⟨x.toNat, ?_, om⟩
  rw [List.mem_filter, List.mem_range]
  have h3 : ¬ dk (n.cells.getD x.toNat default).kind := h2
  exact ⟨om, by simpa [-List.getD_eq_getElem?_getD] using h3⟩
theorem q7 (n : ae) (k : Nat) : (g5 n k).Nodup := by
 unfold g5
 rw [List.Nodup, List.pairwise_map]
 refine List.Pairwise.imp (fun {a b} h => ?_) (List.Pairwise.filter _ List.nodup_range)
 omega
theorem zD (n : ae) (k : Nat) : (g5 n k).length ≤ k := by
 unfold g5
 rw [List.length_map]
 exact Nat.le_trans (List.length_filter_le ..) (by simp)
def Open (n : ae) (done : List Int) (x : Int) : Prop := wR n x ∧ ∀ j ∈ done, (n.cell j).out ≠ x
noncomputable instance (n : ae) (done : List Int) : DecidablePred (Open n done) := fun _ => Classical.propDecidable _
noncomputable def de (n : ae) (done : List Int) (i : Int) : Nat := (n.cell i).args.countP (fun x => decide (Open n done x))
theorem zE (n : ae) (i : Int) : de n [] i = (n.cell i).args.countP (fun x => decide (wR n x)) := by
 unfold de
 apply List.countP_congr
 intro x _
 simp [Open]
theorem ma {n : ae} {done : List Int} {i : Int} : de n done i = 0 ↔ ∀ x ∈ (n.cell i).args, wR n x → ∃ j ∈ done, (n.cell j).out = x := by
 unfold de
 rw [List.countP_eq_zero]
 constructor
 ·intro h x hx hc
  refine Classical.byContradiction fun hh => h x hx (decide_eq_true ?_)
  exact ⟨hc, fun j hj e => hh ⟨j, hj, e⟩⟩
 ·intro h x hx hh
  have hh := of_decide_eq_true hh
  obtain ⟨j, hj, e⟩ := h x hx hh.1
  exact hh.2 j hj e
theorem xL {n : ae} (hf : b5 n) {done : List Int} {i0 : Int} (h0 : bo n i0) (hd : ∀ j ∈ done, bo n j) (hn : i0 ∉ done) (i : Int) : de n done i = de n (done ++ [i0]) i + (n.cell i).args.count (n.cell i0).out := by
 unfold de
 generalize (n.cell i).args = l
 induction l with
 | nil => rfl
 | cons x r ih =>
  rw [List.countP_cons, List.countP_cons, List.count_cons, ih]
  simp only [decide_eq_true_eq, beq_iff_eq]
  by_cases e : x = (n.cell i0).out
  ·have h1 : Open n done x := by
    refine ⟨⟨i0, h0, e.symm⟩, fun j hj e' => hn ?_⟩
    have := hf.unique (hd j hj).iK (by rw [e', e]; exact h0.iK)
    exact this ▸ hj
   have h2 : ¬ Open n (done ++ [i0]) x := fun h => h.2 i0 (by simp) e.symm
   rw [if_pos h1, if_neg h2, if_pos e]; omega
  ·have h1 : Open n done x ↔ Open n (done ++ [i0]) x := by
    constructor
    ·rintro ⟨a, b⟩
     refine ⟨a, fun j hj => ?_⟩
     rcases List.mem_append.1 hj with h | h
     ·exact b j h
     ·rw [List.mem_singleton.1 h]; exact fun h => e h.symm
    ·rintro ⟨a, b⟩
     exact ⟨a, fun j hj => b j (List.mem_append.2 (.inl hj))⟩
   rw [if_neg e]
   by_cases hh : Open n done x
   ·rw [if_pos hh, if_pos (h1.1 hh)]; omega
   ·rw [if_neg hh, if_neg (fun h => hh (h1.2 h))]; omega
open Go Go.AW
theorem gV {α : Type} {l : List α} {q : Nat} {d : α} (h : q < l.length) : l.take (q + 1) = l.take q ++ [l.getD q d] := by
 rw [List.take_add_one, List.getElem?_eq_getElem h, List.getD_eq_getElem?_getD, List.getElem?_eq_getElem h]; rfl
def Co (n : ae) (k : Nat) : Nat := ((n.cells.take k).map (fun c => c.args.length)).sum
theorem q8 {n : ae} {k : Nat} (h : k < n.cells.length) : Co n (k + 1) = Co n k + (n.cells.getD k default).args.length := by
 unfold Co
 rw [gV (d := default) h, List.map_append, List.sum_append]; simp
theorem zF {n : ae} (hs : n.Small) (k : Nat) : Co n k ≤ 8796093022208 := by
 refine Nat.le_trans ?_ hs.Co
 conv => rhs; rw [← List.take_append_drop k n.cells, List.map_append, List.sum_append]
 exact Nat.le_add_right ..
structure BI (n : ae) (k : Nat) (rem : List Int) (dQ : List (List Int)) (ready : List Int) : Prop where
 kj : ∀ i, bo n i → i < k → rem.getD i.toNat 0 = (de n [] i : Int)
 zero : ∀ i : Int, (k : Int) ≤ i → i < n.cells.length → rem.getD i.toNat 0 = 0
 DS : ∀ w x, In w n.aj.length → x ∈ dQ.getD w.toNat [] → bo n x ∧ x < k
 HZ : ∀ w x, In w n.aj.length → wR n w → bo n x → x < k → (dQ.getD w.toNat []).count x = (n.cell x).args.count w
 nd : ready.Nodup
 rd : ∀ x, x ∈ ready ↔ bo n x ∧ x < k ∧ de n [] x = 0
 ul : ∀ w, In w n.aj.length → (dQ.getD w.toNat []).length ≤ Co n k
 rl : ready.length ≤ k
theorem BI.init (n : ae) : BI n 0 (List.replicate n.cells.length 0) (List.replicate n.aj.length []) [] where
 kj := fun i h h0 => by have := h.1; omega
 zero := fun i h1 h2 => by rw [List.getD_eq_getElem?_getD, List.getElem?_replicate]; split <;> rfl
 DS := fun w x hw hx => by
  rw [List.getD_eq_getElem?_getD, List.getElem?_replicate] at hx
  split at hx <;> cases hx
 HZ := fun w x hw _ h h0 => by have := h.1; omega
 nd := List.nodup_nil
 rd := fun x => ⟨fun h => (by cases h), fun ⟨h, h0, _⟩ => by have := h.1; omega⟩
 ul := fun w hw => by rw [List.getD_eq_getElem?_getD, List.getElem?_replicate]; split <;> exact Nat.zero_le _
 rl := Nat.le_refl _
theorem kM {n : ae} {k : Nat} {x : Int} (hc : ¬ dk (n.cells.getD k default).kind) (h : bo n x) (hx : x < ((k + 1 : Nat) : Int)) : x < k := by
 rcases Int.lt_or_eq_of_le (show x ≤ k by omega) with h' | h'
 ·exact h'
 ·subst h'; exact absurd h.2 hc
theorem BI.skip {n : ae} {k : Nat} {rem : List Int} {dQ : List (List Int)} {ready : List Int} (h : BI n k rem dQ ready) (hk : k < n.cells.length) (hc : ¬ dk (n.cells.getD k default).kind) : BI n (k + 1) rem dQ ready where
 kj := fun i hi h0 => h.kj i hi (kM hc hi h0)
 zero := fun i h1 h2 => h.zero i om h2
 DS := fun w x hw hx => ⟨(h.DS w x hw hx).1, by have := (h.DS w x hw hx).2; omega⟩
 HZ := fun w x hw hC hx h0 => h.HZ w x hw hC hx (kM hc hx h0)
 nd := h.nd
 rd := fun x => by
  rw [h.rd x]
  exact ⟨fun ⟨a, b, c⟩ => ⟨a, om, c⟩, fun ⟨a, b, c⟩ => ⟨a, kM hc a b, c⟩⟩
 ul := fun w hw => by have := h.ul w hw; rw [q8 hk]; omega
 rl := by have := h.rl; omega
structure BJ (n : ae) (k q : Nat) (rem : List Int) (dQ : List (List Int)) (jw : List Int) (fm : List (List Int)) : Prop where
 ES : ∀ i : Int, 0 ≤ i → i ≠ k → jw.getD i.toNat 0 = rem.getD i.toNat 0
 own : jw.getD k 0 = ((((n.cells.getD k default).args.take q).countP (fun x => decide (wR n x)) : Nat) : Int)
 us : ∀ w, In w n.aj.length → fm.getD w.toNat [] = dQ.getD w.toNat [] ++ List.replicate (if wR n w then ((n.cells.getD k default).args.take q).count w else 0) (k : Int)
theorem BJ.init {n : ae} {k : Nat} {rem : List Int} {dQ : List (List Int)} {ready : List Int} (h : BI n k rem dQ ready) (hk : k < n.cells.length) : BJ n k 0 rem dQ rem dQ where
 ES := fun _ _ _ => rfl
 own := h.zero k (Int.le_refl _) om
 us := fun w _ => by simp
section
variable {n : ae} {k q : Nat} {rem jw : List Int} {dQ fm : List (List Int)}
theorem BJ.skip (h : BJ n k q rem dQ jw fm) (hq : q < (n.cells.getD k default).args.length) (hx : ¬ wR n ((n.cells.getD k default).args.getD q 0)) : BJ n k (q + 1) rem dQ jw fm where
 ES := h.ES
 own := by rw [h.own, gV (d := 0) hq, List.countP_append, List.countP_cons, decide_eq_false hx]; simp
 us := fun w hw => by
  rw [h.us w hw]
  by_cases hC : wR n w
  ·rw [if_pos hC, if_pos hC, gV (d := 0) hq, List.count_append, List.count_cons]
   have : ((n.cells.getD k default).args.getD q 0 == w) = false := by
    rw [beq_eq_false_iff_ne]; rintro rfl; exact hx hC
   rw [this]; simp
  ·rw [if_neg hC, if_neg hC]
theorem BJ.step (h : BJ n k q rem dQ jw fm) (hk : k < n.cells.length) (hl : jw.length = n.cells.length) (Tc : fm.length = n.aj.length) (hq : q < (n.cells.getD k default).args.length)
  (hi : In ((n.cells.getD k default).args.getD q 0) n.aj.length) (hx : wR n ((n.cells.getD k default).args.getD q 0)) :
  BJ n k (q + 1) rem dQ (jw.set k (jw.getD k 0 + 1)) (fm.set ((n.cells.getD k default).args.getD q 0).toNat (fm.getD ((n.cells.getD k default).args.getD q 0).toNat [] ++ [(k : Int)])) where
 ES := fun i h0 h1 => by rw [bM, if_neg om]; exact h.ES i h0 h1
 own := by
  rw [bM, if_pos ⟨rfl, om⟩, h.own, gV (d := 0) hq, List.countP_append, List.countP_cons, decide_eq_true hx]; simp
 us := fun w hw => by
  unfold In at hi
  have pf := hw
  unfold In at pf
  rw [bM, gV (d := 0) hq, List.count_append, List.count_cons]
  by_cases e : (n.cells.getD k default).args.getD q 0 = w
  ·rw [e] at hx hi ⊢
   rw [if_pos ⟨rfl, om⟩, h.us w hw, if_pos hx, if_pos hx, List.append_assoc]
   congr 1
   rw [beq_self_eq_true, if_pos rfl]
   show _ = List.replicate (_ + 1) _
   rw [List.replicate_succ']
  ·have : ((n.cells.getD k default).args.getD q 0 == w) = false := by rw [beq_eq_false_iff_ne]; exact e
   rw [if_neg om, h.us w hw, this]; simp
theorem BJ.ET (h : BJ n k q rem dQ jw fm) : 0 ≤ jw.getD k 0 ∧ jw.getD k 0 ≤ (q : Int) := by
 rw [h.own]
 have := Nat.le_trans (List.countP_le_length (p := fun x => decide (wR n x)) (l := (n.cells.getD k default).args.take q)) (List.length_take_le ..)
 omega
variable {ready : List Int}
theorem BJ.len (hb : BI n k rem dQ ready) (h : BJ n k q rem dQ jw fm) {w : Int} (hw : In w n.aj.length) : (fm.getD w.toNat []).length ≤ Co n k + q := by
 rw [h.us w hw, List.length_append, List.length_replicate]
 have := hb.ul w hw
 have h2 : ((n.cells.getD k default).args.take q).count w ≤ q := Nat.le_trans List.count_le_length (by rw [List.length_take]; omega)
 split <;> omega
theorem BJ.fin (hb : BI n k rem dQ ready) (hk : k < n.cells.length) (hc : dk (n.cells.getD k default).kind) (h : BJ n k (n.cells.getD k default).args.length rem dQ jw fm) :
  (jw.getD k 0 = 0 → BI n (k + 1) jw fm (ready ++ [(k : Int)])) ∧ (jw.getD k 0 ≠ 0 → BI n (k + 1) jw fm ready) := by
 have hn : jw.getD k 0 = (de n [] (k : Int) : Int) := by rw [h.own, List.take_length, zE]; rfl
 have yz : bo n (k : Int) := ⟨⟨om, om⟩, hc⟩
 have kj : ∀ i, bo n i → i < ((k + 1 : Nat) : Int) → jw.getD i.toNat 0 = (de n [] i : Int) := by
  intro i hi h0
  by_cases e : i = k
  ·subst e; exact hn
  ·rw [h.ES i hi.1.1 e]; exact hb.kj i hi om
 have hzero : ∀ i : Int, (((k + 1 : Nat)) : Int) ≤ i → i < n.cells.length → jw.getD i.toNat 0 = 0 := by
  intro i h1 h2
  rw [h.ES i om om]; exact hb.zero i om h2
 have Ia : ∀ w x, In w n.aj.length → x ∈ fm.getD w.toNat [] → bo n x ∧ x < ((k + 1 : Nat) : Int) := by
  intro w x hw hx
  rw [h.us w hw] at hx
  rcases List.mem_append.1 hx with hx | hx
  ·exact ⟨(hb.DS w x hw hx).1, by have := (hb.DS w x hw hx).2; omega⟩
  ·rw [List.eq_of_mem_replicate hx]; exact ⟨yz, om⟩
 have Ib : ∀ w x, In w n.aj.length → wR n w → bo n x → x < ((k + 1 : Nat) : Int) → (fm.getD w.toNat []).count x = (n.cell x).args.count w := by
  intro w x hw hC hx h0
  rw [h.us w hw, if_pos hC, List.take_length, List.count_append]
  by_cases e : x = k
  ·subst e
   have h0 : (dQ.getD w.toNat []).count (k : Int) = 0 := List.count_eq_zero.2 (fun hm => by have := (hb.DS w _ hw hm).2; omega)
   rw [h0, List.count_replicate_self, Nat.zero_add]; rfl
  ·rw [hb.HZ w x hw hC hx om, List.count_replicate, if_neg (by simpa using fun h => e h.symm)]; rfl
 have OU : ∀ w, In w n.aj.length → (fm.getD w.toNat []).length ≤ Co n (k + 1) := fun w hw => by rw [q8 hk]; exact BJ.len hb h hw
 have Ki := hb.rl
 constructor
 ·intro h0
  refine ⟨kj, hzero, Ia, Ib, ?_, fun x => ?_, OU, by rw [List.length_append]; exact Nat.succ_le_succ Ki⟩
  ·rw [List.nodup_append]
   refine ⟨hb.nd, by simp, fun a ha b fS => ?_⟩
   rw [List.mem_singleton.1 fS]
   have := ((hb.rd a).1 ha).2.1; omega
  ·rw [List.mem_append, hb.rd x, List.mem_singleton]
   constructor
   ·rintro (⟨a, b, c⟩ | rfl)
    ·exact ⟨a, om, c⟩
    ·exact ⟨yz, om, om⟩
   ·rintro ⟨a, b, c⟩
    by_cases e : x = k
    ·exact .inr e
    ·exact .inl ⟨a, om, c⟩
 ·intro h0
  refine ⟨kj, hzero, Ia, Ib, hb.nd, fun x => ?_, OU, om⟩
  rw [hb.rd x]
  constructor
  ·rintro ⟨a, b, c⟩; exact ⟨a, om, c⟩
  ·rintro ⟨a, b, c⟩
   refine ⟨a, ?_, c⟩
   by_cases e : x = k
   ·subst e; omega
   ·omega
end
structure KI (n : ae) (done ready rem : List Int) : Prop where
 nd : (done ++ ready).Nodup
 cm : ∀ x ∈ done ++ ready, bo n x
 kj : ∀ i, bo n i → rem.getD i.toNat 0 = (de n done i : Int)
 full : ∀ i, bo n i → (i ∈ done ++ ready ↔ de n done i = 0)
 mw : ∀ p i s, done = p ++ i :: s → de n p i = 0
structure US (n : ae) (dQ : List (List Int)) : Prop where
 mem : ∀ w x, In w n.aj.length → x ∈ dQ.getD w.toNat [] → bo n x
 QL : ∀ w x, In w n.aj.length → wR n w → bo n x → (dQ.getD w.toNat []).count x = (n.cell x).args.count w
theorem BI.us {n : ae} {rem : List Int} {dQ : List (List Int)} {ready : List Int} (h : BI n n.cells.length rem dQ ready) : US n dQ :=
 ⟨fun w x hw hx => (h.DS w x hw hx).1, fun w x hw hC hx => h.HZ w x hw hC hx (by have := hx.1; omega)⟩
theorem BI.ki {n : ae} {rem : List Int} {dQ : List (List Int)} {ready : List Int} (h : BI n n.cells.length rem dQ ready) : KI n [] ready rem where
 nd := h.nd
 cm := fun x hx => ((h.rd x).1 hx).1
 kj := fun i hi => h.kj i hi (by have := hi.1; omega)
 full := fun i hi => by
  show i ∈ ready ↔ _
  rw [h.rd i]
  exact ⟨fun h => h.2.2, fun h => ⟨hi, by have := hi.1; omega, h⟩⟩
 mw := fun p i s h => by simp at h
structure KJ (n : ae) (done : List Int) (i0 : Int) (u : List Int) (q : Nat) (ready rem : List Int) : Prop where
 nd : (done ++ [i0] ++ ready).Nodup
 cm : ∀ x ∈ done ++ [i0] ++ ready, bo n x
 kj : ∀ i, bo n i → rem.getD i.toNat 0 = (de n done i : Int) - ((u.take q).count i : Int)
 full : ∀ i, bo n i → (i ∈ done ++ [i0] ++ ready ↔ de n done i ≤ (u.take q).count i)
theorem KJ.init {n : ae} {done ready rem u : List Int} (h : KI n done ready rem) (h0 : 0 < ready.length) : KJ n done (ready.getD 0 0) u 0 (ready.drop 1) rem := by
 have e : done ++ [ready.getD 0 0] ++ ready.drop 1 = done ++ ready := by
  cases ready with
  | nil => simp at h0
  | cons a r => simp
 refine ⟨by rw [e]; exact h.nd, by rw [e]; exact h.cm, fun i hi => by rw [h.kj i hi]; simp, fun i hi => by rw [e, h.full i hi]; simp⟩
section
variable {n : ae} (hf : b5 n) {done ready rem u zG jw : List Int} {i0 : Int} {q : Nat}
include hf
theorem KJ.count (h : KJ n done i0 u q ready rem) (hu : ∀ x, bo n x → u.count x = (n.cell x).args.count (n.cell i0).out) {x : Int} (hx : bo n x) : de n done x = de n (done ++ [i0]) x + u.count x := by
 have jA := (List.nodup_append.1 h.nd).1
 have Ly : i0 ∉ done := fun hm => (List.nodup_append.1 jA).2.2 i0 hm i0 (by simp) rfl
 rw [hu x hx]
 exact xL hf (h.cm i0 (by simp)) (fun j hj => h.cm j (by simp [hj])) Ly x
theorem KJ.step (h : KJ n done i0 u q ready rem) (hl : rem.length = n.cells.length) (hq : q < u.length) (hu : ∀ x, bo n x → u.count x = (n.cell x).args.count (n.cell i0).out) (hm : ∀ x ∈ u, bo n x) :
  (rem.getD (u.getD q 0).toNat 0 - 1 = 0 → KJ n done i0 u (q + 1) (ready ++ [u.getD q 0]) (rem.set (u.getD q 0).toNat (rem.getD (u.getD q 0).toNat 0 - 1))) ∧
  (rem.getD (u.getD q 0).toNat 0 - 1 ≠ 0 → KJ n done i0 u (q + 1) ready (rem.set (u.getD q 0).toNat (rem.getD (u.getD q 0).toNat 0 - 1))) := by
 have hk : bo n (u.getD q 0) := hm _ (cL hq)
 have Lt := hk.1
 have ht := gV (d := 0) hq
 have Ic : ∀ i, (u.take (q + 1)).count i = (u.take q).count i + if u.getD q 0 = i then 1 else 0 := by
  intro i
  rw [ht, List.count_append, List.count_cons]; simp
 have hle : (u.take (q + 1)).count (u.getD q 0) ≤ u.count (u.getD q 0) := by
  have e := congrArg (List.count (u.getD q 0)) (List.take_append_drop (q + 1) u)
  rw [List.count_append] at e; omega
 have hc := KJ.count hf h hu hk
 have QM := Ic (u.getD q 0)
 rw [if_pos rfl] at QM
 have OV := h.kj _ hk
 have kj : ∀ i, bo n i → (rem.set (u.getD q 0).toNat (rem.getD (u.getD q 0).toNat 0 - 1)).getD i.toNat 0 = (de n done i : Int) - ((u.take (q + 1)).count i : Int) := by
  intro i hi
  have QN := hi.1
  rw [bM, Ic i]
  by_cases e : u.getD q 0 = i
  ·rw [if_pos ⟨om, om⟩, if_pos e, OV, e]; omega
  ·rw [if_neg om, if_neg e, h.kj i hi]; omega
 have tw : u.getD q 0 ∉ done ++ [i0] ++ ready := fun tz => by
  have := (h.full _ hk).1 tz; omega
 constructor
 ·intro h0
  refine ⟨?_, ?_, kj, fun i hi => ?_⟩
  ·rw [← List.append_assoc, List.nodup_append]
   refine ⟨h.nd, by simp, fun a ha b hb e => tw ?_⟩
   rw [← List.mem_singleton.1 hb, ← e]; exact ha
  ·intro x hx
   rw [← List.append_assoc] at hx
   rcases List.mem_append.1 hx with hx | hx
   ·exact h.cm x hx
   ·rw [List.mem_singleton.1 hx]; exact hk
  ·rw [← List.append_assoc, List.mem_append, h.full i hi, List.mem_singleton, Ic i]
   by_cases e : u.getD q 0 = i
   ·rw [if_pos e]
    subst e
    exact ⟨fun _ => by omega, fun _ => .inr rfl⟩
   ·rw [if_neg e]
    exact ⟨fun h => by rcases h with h | h; omega; exact absurd h.symm e, fun h => .inl om⟩
 ·intro h0
  refine ⟨h.nd, h.cm, kj, fun i hi => ?_⟩
  rw [h.full i hi, Ic i]
  by_cases e : u.getD q 0 = i
  ·rw [if_pos e]
   subst e
   omega
  ·rw [if_neg e]; rfl
theorem KJ.bound (hs : n.Small) (h : KJ n done i0 u q ready rem) (hq : q < u.length) (hu : ∀ x, bo n x → u.count x = (n.cell x).args.count (n.cell i0).out) (hm : ∀ x ∈ u, bo n x) :
  1 ≤ rem.getD (u.getD q 0).toNat 0 ∧ rem.getD (u.getD q 0).toNat 0 ≤ 17592186043904 ∧ ready.length < n.cells.length := by
 have hk : bo n (u.getD q 0) := hm _ (cL hq)
 have ht := gV (d := 0) hq
 have Ic : (u.take (q + 1)).count (u.getD q 0) = (u.take q).count (u.getD q 0) + 1 := by
  rw [ht, List.count_append, List.count_cons]; simp
 have e := congrArg (List.count (u.getD q 0)) (List.take_append_drop (q + 1) u)
 rw [List.count_append] at e
 have hc := KJ.count hf h hu hk
 have OV := h.kj _ hk
 have hn : de n done (u.getD q 0) ≤ (n.cell (u.getD q 0)).args.length := List.countP_le_length
 have ha : (n.cell (u.getD q 0)).args.length ≤ 17592186043904 := hs.args _ (fD (by have := hk.1; omega))
 refine ⟨om, om, ?_⟩
 have := length_le_of_subset (m := (List.range n.cells.length).map (fun (i : Nat) => (i : Int))) h.nd (fun x hx => by
  have := (h.cm x hx).1
  exact List.mem_map.2 ⟨x.toNat, List.mem_range.2 om, om⟩)
 rw [List.length_append, List.length_append, List.length_map, List.length_range] at this
 simp only [List.length_cons, List.length_nil] at this
 omega
theorem KJ.fin (hk : KI n done zG jw) (h0 : i0 ∈ zG) (h : KJ n done i0 u u.length ready rem) (hu : ∀ x, bo n x → u.count x = (n.cell x).args.count (n.cell i0).out) : KI n (done ++ [i0]) ready rem := by
 have hc : ∀ {x}, bo n x → de n done x = de n (done ++ [i0]) x + u.count x := fun hx => KJ.count hf h hu hx
 refine ⟨h.nd, h.cm, fun i hi => ?_, fun i hi => ?_, fun p i s e => ?_⟩
 ·rw [h.kj i hi, List.take_length, hc hi]; omega
 ·rw [h.full i hi, List.take_length, hc hi]; omega
 ·rcases List.eq_nil_or_concat s with rfl | ⟨s', x, rfl⟩
  ·have e2 := List.append_inj' (t₁ := [i0]) (t₂ := [i]) e rfl
   obtain ⟨rfl, e3⟩ := e2
   cases e3
   have nj : bo n i0 := hk.cm i0 (List.mem_append.2 (.inr h0))
   exact (hk.full i0 nj).1 (List.mem_append.2 (.inr h0))
  ·have e2 := List.append_inj' (s₁ := done) (s₂ := p ++ i :: s') (t₁ := [i0]) (t₂ := [x]) (by rw [e]; simp) rfl
   exact hk.mw p i s' e2.1
end
def Acyclic (n : ae) : Prop := ∃ r : Int → Nat, ∀ i j, bo n i → bo n j → (n.cell j).out ∈ (n.cell i).args → r j < r i
noncomputable instance (n : ae) : Decidable (Acyclic n) := Classical.propDecidable _
structure Ord (n : ae) (l : List Int) : Prop where
 len : l.length = n.cells.length
 nd : l.Nodup
 uN : ∀ x ∈ l, 0 ≤ x ∧ x < n.cells.length
 mw : ∀ p i s, l = p ++ i :: s → dk (n.cell i).kind → ∀ x ∈ (n.cell i).args, ∃ j ∈ p, cQ n j x
theorem KI.all {n : ae} {done ready rem : List Int} (h : KI n done ready rem) : (g5 n n.cells.length ++ done ++ ready).Nodup ∧ ∀ x ∈ g5 n n.cells.length ++ done ++ ready, 0 ≤ x ∧ x < n.cells.length := by
 rw [List.append_assoc]
 refine ⟨?_, fun x hx => ?_⟩
 ·rw [List.nodup_append]
  refine ⟨q7 _ _, h.nd, fun a ha b hb e => ?_⟩
  subst e
  exact (iv.1 ha).2 (h.cm a hb).2
 ·rcases List.mem_append.1 hx with h' | h'
  ·have := (iv.1 h').1; omega
  ·exact (h.cm x h').1
theorem KI.len {n : ae} {done ready rem : List Int} (h : KI n done ready rem) : (g5 n n.cells.length ++ done).length + ready.length ≤ n.cells.length := by
 obtain ⟨h1, h2⟩ := h.all
 have := length_le_of_subset (m := (List.range n.cells.length).map (fun (i : Nat) => (i : Int))) h1 (fun x hx => by
  have := h2 x hx
  exact List.mem_map.2 ⟨x.toNat, List.mem_range.2 om, om⟩)
 rw [List.length_append, List.length_map, List.length_range] at this
 exact this
theorem KI.mem {n : ae} {done rem : List Int} (h : KI n done [] rem) {r : Int → Nat} (hr : ∀ i j, bo n i → bo n j → (n.cell j).out ∈ (n.cell i).args → r j < r i) : ∀ (m : Nat) (i : Int), bo n i → r i < m → i ∈ done
 | 0, _, _, hm => by omega
 | m + 1, i, hi, hm => by
  have hz : de n done i = 0 := by
   rw [ma]
   rintro x hx ⟨j, hj, rfl⟩
   exact ⟨j, KI.mem h hr m j hj (by have := hr i j hi hj hx; omega), rfl⟩
  have := (h.full i hi).2 hz
  simpa using this
theorem xM (M : Nat) : ((List.range M).map (fun (i : Nat) => (i : Int))).Nodup := by
 rw [List.Nodup, List.pairwise_map]
 exact List.Pairwise.imp (fun {a b} h => by omega) List.nodup_range
theorem KI.Ie {n : ae} {done rem : List Int} (h : KI n done [] rem) (hl : (g5 n n.cells.length ++ done).length < n.cells.length) : ¬ Acyclic n := by
 rintro ⟨r, hr⟩
 have := length_le_of_subset (m := g5 n n.cells.length ++ done) (xM n.cells.length) (fun x hx => by
  obtain ⟨i, hi, rfl⟩ := List.mem_map.1 hx
  rw [List.mem_range] at hi
  by_cases hc : dk (n.cell (i : Int)).kind
  ·exact List.mem_append.2 (.inr (KI.mem h hr _ (i : Int) ⟨⟨om, om⟩, hc⟩ (Nat.lt_succ_self _)))
  ·exact List.mem_append.2 (.inl (iv.2 ⟨⟨om, om⟩, hc⟩)))
 rw [List.length_map, List.length_range] at this
 omega
theorem nG {l p s : List Int} {i j : Int} (hn : l.Nodup) (e : l = p ++ i :: s) (hj : j ∈ p) : l.idxOf j < l.idxOf i := by
 subst e
 have hi : i ∉ p := fun h => (List.nodup_append.1 hn).2.2 i h i (by simp) rfl
 rw [List.idxOf_append, if_pos hj, List.idxOf_append, if_neg hi]
 have := List.idxOf_lt_length_of_mem hj
 omega
theorem KI.ok {n : ae} (hf : b5 n) {done rem : List Int} (h : KI n done [] rem) (hl : ¬ (g5 n n.cells.length ++ done).length < n.cells.length) : Acyclic n ∧ Ord n (g5 n n.cells.length ++ done) := by
 obtain ⟨h1, h2⟩ := h.all
 rw [List.append_nil] at h1 h2
 have hle := h.len
 simp only [List.length_nil, Nat.add_zero] at hle
 have Ig : ∀ i : Int, (0 ≤ i ∧ i < n.cells.length) → i ∈ g5 n n.cells.length ++ done := by
  intro i hi
  refine Classical.byContradiction fun hn => ?_
  have := length_le_of_subset (l := i :: (g5 n n.cells.length ++ done)) (m := (List.range n.cells.length).map (fun (i : Nat) => (i : Int))) (List.nodup_cons.2 ⟨hn, h1⟩) (fun x hx => by
   have j5 : 0 ≤ x ∧ x < n.cells.length := by
    rcases List.mem_cons.1 hx with rfl | hx
    ·exact hi
    ·exact h2 x hx
   exact List.mem_map.2 ⟨x.toNat, List.mem_range.2 om, om⟩)
  rw [List.length_cons, List.length_map, List.length_range] at this
  omega
 have Hm : ∀ i, bo n i → i ∈ done := by
  intro i hi
  rcases List.mem_append.1 (Ig i hi.1) with h' | h'
  ·exact absurd hi.2 (iv.1 h').2
  ·exact h'
 have QO : done.Nodup := (List.nodup_append.1 h1).2.1
 refine ⟨⟨fun i => done.idxOf i, fun i j hi hj hx => ?_⟩, om, h1, h2, fun p i s e hc x hx => ?_⟩
 ·obtain ⟨p, s, e⟩ := List.append_of_mem (Hm i hi)
  obtain ⟨j', xA, e'⟩ := ma.1 (h.mw p i s e) _ hx ⟨j, hj, rfl⟩
  have EU : bo n j' := h.cm j' (by rw [e]; simp [xA])
  have := hf.unique EU.iK (e' ▸ hj.iK)
  subst this
  exact nG QO e xA
 ·have hi : bo n i := ⟨h2 i (by rw [e]; simp), hc⟩
  obtain ⟨j, hj⟩ := hf.q6 (hf.rS hi.1 hx)
  by_cases EV : dk (n.cell j).kind
  ·-- the q6 is combinational
   obtain ⟨p', s', e'⟩ := List.append_of_mem (Hm i hi)
   obtain ⟨j', xA, e2⟩ := ma.1 (h.mw p' i s' e') x hx ⟨j, ⟨hj.1, EV⟩, hj.2.2⟩
   have EU : bo n j' := h.cm j' (by rw [e']; simp [xA])
   have e3 : p ++ i :: s = (g5 n n.cells.length ++ p') ++ i :: s' := by rw [← e, e', List.append_assoc]
   have hp : p = g5 n n.cells.length ++ p' := by
    have Ih : i ∉ p := by
     rw [e] at h1
     exact fun h => (List.nodup_append.1 h1).2.2 i h i (by simp) rfl
    have kY : i ∉ g5 n n.cells.length ++ p' := by
     rw [e, e3] at h1
     exact fun h => (List.nodup_append.1 h1).2.2 i h i (by simp) rfl
    have := congrArg (fun l => l.idxOf i) e3
    simp only [List.idxOf_append, if_neg Ih, if_neg kY, List.idxOf_cons_self, Nat.add_zero] at this
    exact (List.append_inj e3 om).1
   exact ⟨j', by rw [hp]; exact List.mem_append.2 (.inr xA), e2 ▸ EU.iK⟩
  ·-- it comes first
   refine ⟨j, ?_, hj⟩
   have GG : j ∈ g5 n n.cells.length := iv.2 ⟨hj.1, EV⟩
   have Kf : i ∉ g5 n n.cells.length := fun h => (iv.1 h).2 hc
   have : g5 n n.cells.length ++ done = p ++ i :: s := e
   rcases List.append_eq_append_iff.1 this with ⟨a, ha, hb⟩ | ⟨a, ha, hb⟩
   ·rw [ha]; exact List.mem_append.2 (.inl GG)
   ·cases a with
    | nil => rw [List.append_nil] at ha; rw [← ha]; exact GG
    | cons b t =>
     rw [List.cons_append] at hb
     cases hb
     exact absurd (by rw [ha]; simp) Kf
def lG (n : ae) (l : List Int) (e : Int) : Prop :=
 (¬ b5 n ∧ l = [] ∧ e = 3) ∨ (b5 n ∧ ¬ Fit n ∧ l = [] ∧ e = 13) ∨ (b5 n ∧ Fit n ∧ ¬ Acyclic n ∧ l = [] ∧ e = 12) ∨ (b5 n ∧ Fit n ∧ Acyclic n ∧ Ord n l ∧ e = 0)
theorem Td {p : Prop} (h : p := by ((try unfold Plain at *); (try unfold Unary at *); (try unfold wP at *); (try unfold Seq at *); (try unfold In at *); first | (intro h; simp only [Shaped] at h; rcases h with h | h | h | h | h | h | h | h | h | h <;> omega) | (subst_vars; simp only [Shaped, Int.reduceEq, Bool.not_eq_true, false_and, true_and, and_true, and_false, or_false, false_or, ne_eq]; first | omega | grind | (unfold bE; grind)))) : p := h
theorem Te {p : Prop} (h : p := by ((try unfold Plain at *); (try unfold Unary at *); (try unfold wP at *); (try unfold Seq at *); (try unfold In at *); (subst_vars; simp only [Shaped, Int.reduceEq, Bool.not_eq_true, false_and, true_and, and_true, and_false, or_false, false_or, ne_eq]; first | omega | grind | (unfold bE; grind)))) : p := h
noncomputable def nH (n : ae) : Int := if b5 n then if Fit n then if Acyclic n then 0 else 12 else 13 else 3
theorem lG.err {n : ae} {l : List Int} {e : Int} (h : lG n l e) : e = nH n := by
 unfold nH
 rcases h with ⟨h1, _, h⟩ | ⟨h1, h2, _, h⟩ | ⟨h1, h2, h3, _, h⟩ | ⟨h1, h2, h3, _, h⟩
 ·rw [if_neg h1, h]
 ·rw [if_pos h1, if_neg h2, h]
 ·rw [if_pos h1, if_pos h2, if_neg h3, h]
 ·rw [if_pos h1, if_pos h2, if_pos h3, h]
open Go Go.AW
structure U2 where
 a : Nat
 b : Nat
instance : Inhabited U2 := ⟨⟨0, 0⟩⟩
def U2.row (x : U2) : List X := [.v (.int .u8 (x.a : Int)), .v (.int .u8 (x.b : Int))]
theorem U2.cN (c : U2) : X.bj c.row = true := rfl
structure zH where
 kind : Nat
 op : Nat
 width : Nat
 a : Nat
 b : Nat
 d : Nat
 num : Nat
instance : Inhabited zH := ⟨⟨0, 0, 0, 0, 0, 0, 0⟩⟩
def zH.row (x : zH) : List X := [.v (.int .u8 (x.kind : Int)), .v (.int .u8 (x.op : Int)), .v (.int .u8 (x.width : Int)), .v (.int .u8 (x.a : Int)), .v (.int .u8 (x.b : Int)), .v (.int .u8 (x.d : Int)), .v (.int .u64 (x.num : Int))]
theorem zH.cN (c : zH) : X.bj c.row = true := rfl
structure EW where
 bu : List U2
 streams : List U2
 ins : List Nat
 parts : List zH
 eQ : List Nat
def EW.row (n : EW) : List X := [.fz 2 (n.bu.map U2.row), .fz 2 (n.streams.map U2.row), .fz 1 (n.ins.map z8), .fz 7 (n.parts.map zH.row), .fz 1 (n.eQ.map z8)]
def Cell.mT (c : Cell) : List X := [.v (.int .i64 c.kind), .v (.int .i64 c.op), .v (.int .i64 c.out), .cX 1 (c.args.map al), .v (.int .u64 (c.num : Int)), .v (.int .i64 c.mem)]
def ae.mT (n : ae) : List X := [.v (.string n.name), .cX 1 (n.aj.map al), .cX 6 (n.cells.map Cell.row), .fz 1 (n.ins.map al), .fz 5 (n.bu.map rr.row), .fz 3 (n.streams.map iY.row),
 .fz 1 (n.cf.map al), .fz 1 (n.data.map al), .v (.int .i64 n.freeze), .v (.int .i64 n.done), .fz 1 (n.eQ.map al)]
def q9 (k : Nat) : Int := ([1, 2, 4, 7, 8, 13, 33, 64] : List Int).getD (k % 8) 0
theorem tO (k : Nat) : cw (q9 k) := by
 have h : ∀ j, j < 8 → cw (([1, 2, 4, 7, 8, 13, 33, 64] : List Int).getD j 0) := by decide
 exact h _ (Nat.mod_lt _ ag)
def rU (ws : List Int) (w : Int) (i : Nat) : List Int := ((List.range i).filter (fun j => decide (ws.getD j 0 = w))).map (fun (j : Nat) => (j : Int))
def tP (ws : List Int) (w : Int) (k : Nat) : Int := if (rU ws w ws.length).length = 0 then -1 else (rU ws w ws.length).getD (k % (rU ws w ws.length).length) 0
def Cs (ws : List Int) (w : Int) : Prop := ∃ j, j < ws.length ∧ ws.getD j 0 = w
theorem tQ {ws : List Int} {w : Int} (h : Cs ws w) (k : Nat) : In (tP ws w k) ws.length ∧ ws.getD (tP ws w k).toNat 0 = w := by
 obtain ⟨j, hj, hw⟩ := h
 have h0 : (j : Int) ∈ rU ws w ws.length := List.mem_map.2 ⟨j, List.mem_filter.2 ⟨List.mem_range.2 hj, decide_eq_true hw⟩, rfl⟩
 have hp := List.length_pos_of_mem h0
 unfold tP
 rw [if_neg om]
 have hm := cL (l := rU ws w ws.length) (i := k % (rU ws w ws.length).length) (Nat.mod_lt _ hp)
 obtain ⟨i, hi, he⟩ := List.mem_map.1 hm
 obtain ⟨h1, h2⟩ := List.mem_filter.1 hi
 rw [← he]
 have := List.mem_range.1 h1
 exact ⟨⟨om, om⟩, by simpa using h2⟩
def DT (ws : List Int) (cs : List Cell) (p : zH) (i : Nat) : List Cell :=
 if (cs.getD ((((cs.length : Int) - 1) - (i : Int)).toNat) default).kind = 4 then
  cs.set ((((cs.length : Int) - 1) - (i : Int)).toNat) ⟨(cs.getD ((((cs.length : Int) - 1) - (i : Int)).toNat) default).kind, (cs.getD ((((cs.length : Int) - 1) - (i : Int)).toNat) default).op, (cs.getD ((((cs.length : Int) - 1) - (i : Int)).toNat) default).out,
   [tP ws 1 p.a, tP ws (ws.getD (cs.getD ((((cs.length : Int) - 1) - (i : Int)).toNat) default).out.toNat 0) p.d], (cs.getD ((((cs.length : Int) - 1) - (i : Int)).toNat) default).num, (cs.getD ((((cs.length : Int) - 1) - (i : Int)).toNat) default).mem⟩
 else cs
structure zH.Ok (p : zH) : Prop where
 kind : p.kind < 256
 op : p.op < 256
 width : p.width < 256
 a : p.a < 256
 b : p.b < 256
 d : p.d < 256
 num : p.num < 18446744073709551616
end Go.Proofs.Ytlimckldnjmabaa
namespace Go.AW
open Go
theorem nI {P : Program} {t : TypeId} {w : World} {r : Reach} {base : Nat} {v : Value} {n : Nat} {e : TypeId} (ht : P.underlying t = some (.array n e)) (h : Value.okWide P w r base t v) : ∃ cs, v = .agg cs ∧ cs.size = P.cellsOf t := by
 simp only [Value.okWide, ht] at h
 obtain ⟨cs, h1, h2, _⟩ := h
 exact ⟨cs, h1, h2⟩
end Go.AW
namespace Go.Proofs.Ytlimckldnjmabaa
open Go Go.AW Go.Proofs
section
variable {H : Type} {enc : TypeId × Value → H} {W : World} {base : Nat}
theorem Lz : Try.prog.cellsOf 5 = 1 := by kernel_rfl
theorem L0 : Reads enc Try.prog W base 81 U2.row (fun u => u.a < 256 ∧ u.b < 256) (fun _ => 0) :=
 (Reads.Lq Try.underlying81 Lz ba ER).map (fun x => (⟨x.1, x.2⟩ : U2)) (fun _ => rfl) (fun _ h => h) (fun _ => Nat.zero_le _)
end
open Go Go.AW
structure Gate where
 kind : Int
 a : Int
 b : Int
instance : Inhabited Gate := ⟨⟨0, 0, 0⟩⟩
def Gate.row (g : Gate) : List X := [.v (.int .i64 g.kind), .v (.int .i64 g.a), .v (.int .i64 g.b)]
theorem Gate.cN (g : Gate) : X.bj g.row = true := rfl
def jx (i : Nat) (g : Gate) : Prop :=
 (1 ≤ g.kind ∧ g.kind ≤ 7) ∧ (if 4 ≤ g.kind then 0 ≤ g.a ∧ g.a < i else g.a = 0) ∧ (if 5 ≤ g.kind then 0 ≤ g.b ∧ g.b < i else g.b = 0)
def Good (l : List Gate) : Prop := ∀ i g, l[i]? = some g → jx i g
def iO (l : List Gate) : Nat := l.countP (fun g => decide (g.kind = 3))
theorem ig (l e : List Gate) : iO (l ++ e) = iO l + iO e := List.countP_append
theorem mb (g : Gate) : iO [g] = if g.kind = 3 then 1 else 0 := by simp [iO, List.countP_cons]
theorem vx (l : List Gate) : iO l ≤ l.length := List.countP_le_length
theorem Good.nil : Good [] := fun i g h => by simp at h
theorem Good.snoc {l : List Gate} {g : Gate} (h : Good l) (hg : jx l.length g) : Good (l ++ [g]) := by
 intro i q hi
 rcases Nat.lt_or_ge i l.length with h1 | h1
 ·rw [List.getElem?_append_left h1] at hi; exact h i q hi
 ·rw [List.getElem?_append_right h1] at hi
  rcases Nat.eq_zero_or_pos (i - l.length) with h2 | h2
  ·rw [h2] at hi; simp at hi; subst hi
   rwa [show i = l.length by omega]
  ·rw [List.getElem?_eq_none (by simp; omega)] at hi; cases hi
theorem Good.left {l e : List Gate} (h : Good (l ++ e)) : Good l := fun i g hi => h i g (by
 have : i < l.length := (List.getElem?_eq_some_iff.1 hi).1
 rw [List.getElem?_append_left this]; exact hi)
def valOf (out ins : List Bool) (n : Nat) (g : Gate) : Bool :=
 if g.kind = 2 then true else if g.kind = 3 then ins.getD n false else if g.kind = 4 then !out.getD g.a.toNat false
 else if g.kind = 5 then out.getD g.a.toNat false && out.getD g.b.toNat false else if g.kind = 6 then out.getD g.a.toNat false || out.getD g.b.toNat false
 else if g.kind = 7 then out.getD g.a.toNat false != out.getD g.b.toNat false else false
def uO (out ins : List Int) (n : Nat) (g : Gate) : Int :=
 if g.kind = 3 then ins.getD n 0 else if g.kind = 4 then out.getD g.a.toNat 0 + 10 else if 5 ≤ g.kind ∧ g.kind ≤ 7 then max (out.getD g.a.toNat 0) (out.getD g.b.toNat 0) + 20 else 0
section
variable {α : Type} (f : List α → Nat → Gate → α)
def ll (l : List Gate) : Nat → List α
 | 0 => []
 | i + 1 => ll l i ++ (match l[i]? with | some g => [f (ll l i) (iO (l.take i)) g] | none => [])
theorem gk {l : List Gate} {i : Nat} {q : Gate} (hg : l[i]? = some q) : ll f l (i + 1) = ll f l i ++ [f (ll f l i) (iO (l.take i)) q] := by
 simp [ll, hg]
theorem gm {l : List Gate} : ∀ {i : Nat}, i ≤ l.length → (ll f l i).length = i
 | 0, _ => rfl
 | i + 1, h => by
  rw [gk f (List.getElem?_eq_getElem (show i < l.length by omega)), List.length_append, gm om]; rfl
theorem qA {l e : List Gate} : ∀ {i : Nat}, i ≤ l.length → ll f (l ++ e) i = ll f l i
 | 0, _ => rfl
 | i + 1, h => by
  have hg : l[i]? = some l[i] := List.getElem?_eq_getElem (show i < l.length by omega)
  have QP : (l ++ e)[i]? = some l[i] := by rw [List.getElem?_append_left om]; exact hg
  rw [gk f hg, gk f QP, qA om, List.take_append_of_le_length om]
theorem o5 {l : List Gate} {g : Gate} : ll f (l ++ [g]) (l.length + 1) = ll f l l.length ++ [f (ll f l l.length) (iO l) g] := by
 rw [gk f (q := g) (by simp), qA f (Nat.le_refl _), List.take_append_of_le_length (Nat.le_refl _), List.take_length]
end
def outs (l : List Gate) (ins : List Bool) (i : Nat) : List Bool := ll (fun o n g => valOf o ins n g) l i
def m9 (l : List Gate) (ins : List Int) (i : Nat) : List Int := ll (fun o n g => uO o ins n g) l i
def val (l : List Gate) (ins : List Bool) (i : Int) : Bool := (outs l ins l.length).getD i.toNat false
def xO (c : Int) (l : List Gate) (i : Int) : Int := (m9 l (List.replicate (iO l) c) l.length).getD i.toNat 0
theorem xP {o ins tR : List Int} {n : Nat} {g : Gate} (h : g.kind = 3 → ins.getD n 0 = tR.getD n 0) : uO o ins n g = uO o tR n g := by
 unfold uO
 by_cases h3 : g.kind = 3
 ·rw [if_pos h3, if_pos h3, h h3]
 ·rw [if_neg h3, if_neg h3]
theorem Ii {o ins tR : List Int} {n n' : Nat} {g : Gate} (h : g.kind ≠ 3) : uO o ins n g = uO o tR n' g := by
 unfold uO
 rw [if_neg h, if_neg h]
theorem oX {l : List Gate} {ins tR : List Int} (h : ∀ k, k < iO l → ins.getD k 0 = tR.getD k 0) : ∀ {i : Nat}, i ≤ l.length → m9 l ins i = m9 l tR i
 | 0, _ => rfl
 | i + 1, hi => by
  have hg : l[i]? = some l[i] := List.getElem?_eq_getElem (show i < l.length by omega)
  have ih := oX h (i := i) om
  unfold m9 at ih ⊢
  rw [gk _ hg, gk _ hg, ih]
  congr 2
  refine xP fun h3 => h _ ?_
  have h1 : iO l = iO (l.take i) + iO (l.drop i) := by rw [← ig, List.take_append_drop]
  have h2 : 1 ≤ iO (l.drop i) := by
   have h4 : l.drop i = [l[i]] ++ l.drop (i + 1) := List.drop_eq_getElem_cons (show i < l.length by omega)
   rw [h4, ig, mb, if_pos h3]; omega
  omega
theorem qB {n k : Nat} {c : Int} (h : k < n) : (List.replicate n c).getD k 0 = c := by
 rw [List.getD_eq_getElem?_getD, List.getElem?_replicate, if_pos h]; rfl
theorem tS {α : Type} {l : List Gate} {f : List α → Nat → Gate → α} {i j : Nat} (hi : i < j) : ∀ {m : Nat}, j ≤ m → m ≤ l.length → (ll f l m)[i]? = (ll f l j)[i]?
 | 0, h, _ => by omega
 | m + 1, h, hl => by
  rcases Nat.lt_or_ge m j with h1 | h1
  ·rw [show m + 1 = j by omega]
  ·rw [gk f (List.getElem?_eq_getElem (show m < l.length by omega)), List.getElem?_append_left (by rw [gm f om]; omega)]
   exact tS hi h1 om
theorem rV {α : Type} {l : List Gate} {f : List α → Nat → Gate → α} {e : List Gate} {i : Nat} {d : α} (h : i < l.length) : (ll f (l ++ e) (l ++ e).length).getD i d = (ll f l l.length).getD i d := by
 rw [List.getD_eq_getElem?_getD, List.getD_eq_getElem?_getD, tS (j := l.length) h (by simp) (Nat.le_refl _), qA f (Nat.le_refl _)]
theorem wS {l e : List Gate} {ins : List Bool} {i : Int} (h0 : 0 ≤ i) (h : i < l.length) : val (l ++ e) ins i = val l ins i := rV om
theorem wT {l e : List Gate} {c i : Int} (h0 : 0 ≤ i) (h : i < l.length) : xO c (l ++ e) i = xO c l i := by
 unfold xO
 have h1 : (m9 (l ++ e) (List.replicate (iO (l ++ e)) c) (l ++ e).length).getD i.toNat 0 = (m9 l (List.replicate (iO (l ++ e)) c) l.length).getD i.toNat 0 := rV om
 rw [h1, oX (tR := List.replicate (iO l) c) (fun k hk => by rw [qB (by rw [ig]; omega), qB hk]) (Nat.le_refl _)]
theorem jg {α : Type} {l : List α} {x d : α} {n : Nat} (h : n = l.length) : (l ++ [x]).getD n d = x := by subst h; simp
theorem val_last {l : List Gate} {g : Gate} {ins : List Bool} : val (l ++ [g]) ins (l.length : Int) = valOf (outs l ins l.length) ins (iO l) g := by
 unfold val outs
 rw [List.length_append, List.length_singleton, o5, Int.toNat_natCast]
 exact jg (gm _ (Nat.le_refl _)).symm
theorem zI {l : List Gate} {g : Gate} {c : Int} (h : g.kind ≠ 3) : xO c (l ++ [g]) (l.length : Int) = uO (m9 l (List.replicate (iO l) c) l.length) [] 0 g := by
 have h1 : iO (l ++ [g]) = iO l := by rw [ig, mb, if_neg h]; omega
 unfold xO m9
 rw [h1, List.length_append, List.length_singleton, o5, Int.toNat_natCast, jg (gm _ (Nat.le_refl _)).symm]
 exact Ii h
open Go Go.AW
structure Ext (l l' : List Gate) : Prop where
 ex : ∃ e, l' = l ++ e ∧ ∀ g ∈ e, g.kind ≠ 3
 dM : Good l'
theorem Ext.refl {l : List Gate} (h : Good l) : Ext l l := ⟨⟨[], by simp, by simp⟩, h⟩
theorem Ext.trans {l l' OW : List Gate} (h : Ext l l') (h' : Ext l' OW) : Ext l OW := by
 obtain ⟨e, he, hk⟩ := h.ex
 obtain ⟨e', QQ, wM⟩ := h'.ex
 refine ⟨⟨e ++ e', by rw [QQ, he, List.append_assoc], fun g hg => ?_⟩, h'.dM⟩
 rcases List.mem_append.1 hg with h1 | h1
 ·exact hk g h1
 ·exact wM g h1
theorem Ext.one {l : List Gate} {g : Gate} (h : Good l) (hg : jx l.length g) (hk : g.kind ≠ 3) : Ext l (l ++ [g]) :=
 ⟨⟨[g], rfl, fun x hx => by rw [List.mem_singleton.1 hx]; exact hk⟩, h.snoc hg⟩
theorem Ext.len {l l' : List Gate} (h : Ext l l') : l.length ≤ l'.length := by obtain ⟨e, rfl, _⟩ := h.ex; simp
theorem tT : ∀ {e : List Gate}, (∀ g ∈ e, g.kind ≠ 3) → iO e = 0
 | [], _ => rfl
 | g :: e, h => by
  have h1 : iO (g :: e) = iO [g] + iO e := ig [g] e
  rw [h1, mb, if_neg (h g (by simp)), tT (fun x hx => h x (by simp [hx]))]
theorem Ext.iO {l l' : List Gate} (h : Ext l l') : iO l' = iO l := by
 obtain ⟨e, rfl, hk⟩ := h.ex
 rw [ig, tT hk]; omega
structure Wr (c : Int) (l : List Gate) (i : Int) (f : List Bool → Bool) (t : Int) : Prop where
 lo : 0 ≤ i
 hi : i < l.length
 v : ∀ ins, val l ins i = f ins
 t : xO c l i ≤ t
theorem Wr.ext {c : Int} {l l' : List Gate} {i : Int} {f : List Bool → Bool} {t : Int} (h : Wr c l i f t) (he : Ext l l') : Wr c l' i f t := by
 have hl := he.len
 obtain ⟨e, rfl, _⟩ := he.ex
 exact ⟨h.lo, by have := h.hi; omega, fun ins => by rw [wS h.lo h.hi]; exact h.v ins, by rw [wT h.lo h.hi]; exact h.t⟩
theorem Wr.late {c : Int} {l : List Gate} {i : Int} {f : List Bool → Bool} {t t' : Int} (h : Wr c l i f t) (ht : t ≤ t') : Wr c l i f t' := ⟨h.lo, h.hi, h.v, by have := h.t; omega⟩
theorem Wr.as {c : Int} {l : List Gate} {i : Int} {f f' : List Bool → Bool} {t : Int} (h : Wr c l i f t) (hf : ∀ ins, f ins = f' ins) : Wr c l i f' t := ⟨h.lo, h.hi, fun ins => by rw [h.v, hf], h.t⟩
section
variable {c : Int} {l : List Gate} {a b : Int} {f g : List Bool → Bool} {s t u : Int}
theorem Wr.last {g : Gate} {h : List Bool → Bool} (hk : g.kind ≠ 3) (hv : ∀ ins, valOf (outs l ins l.length) ins (iO l) g = h ins) (ht : uO (m9 l (List.replicate (iO l) c) l.length) [] 0 g ≤ u) : Wr c (l ++ [g]) (l.length : Int) h u :=
 ⟨om, by simp; omega, fun ins => by rw [val_last]; exact hv ins, by rw [zI hk]; exact ht⟩
theorem Wr.and (ha : Wr c l a f s) (hb : Wr c l b g t) (hs : s + 20 ≤ u) (ht : t + 20 ≤ u) : Wr c (l ++ [⟨5, a, b⟩]) (l.length : Int) (fun ins => f ins && g ins) u := by
 refine Wr.last (by simp) (fun ins => ?_) ?_
 ·have h1 := ha.v ins; have h2 := hb.v ins; unfold val at h1 h2
  simp only [valOf, h1, h2]; rfl
 ·have h1 := ha.t; have h2 := hb.t; unfold xO at h1 h2
  simp only [uO]; rw [if_neg ag, if_neg ag, if_pos ag]; omega
theorem Wr.or (ha : Wr c l a f s) (hb : Wr c l b g t) (hs : s + 20 ≤ u) (ht : t + 20 ≤ u) : Wr c (l ++ [⟨6, a, b⟩]) (l.length : Int) (fun ins => f ins || g ins) u := by
 refine Wr.last (by simp) (fun ins => ?_) ?_
 ·have h1 := ha.v ins; have h2 := hb.v ins; unfold val at h1 h2
  simp only [valOf, h1, h2]; rfl
 ·have h1 := ha.t; have h2 := hb.t; unfold xO at h1 h2
  simp only [uO]; rw [if_neg ag, if_neg ag, if_pos ag]; omega
theorem Wr.xor (ha : Wr c l a f s) (hb : Wr c l b g t) (hs : s + 20 ≤ u) (ht : t + 20 ≤ u) : Wr c (l ++ [⟨7, a, b⟩]) (l.length : Int) (fun ins => f ins ^^ g ins) u := by
 refine Wr.last (by simp) (fun ins => ?_) ?_
 ·have h1 := ha.v ins; have h2 := hb.v ins; unfold val at h1 h2
  simp only [valOf, h1, h2]
  cases f ins <;> cases g ins <;> rfl
 ·have h1 := ha.t; have h2 := hb.t; unfold xO at h1 h2
  simp only [uO]; rw [if_neg ag, if_neg ag, if_pos ag]; omega
theorem Wr.not (ha : Wr c l a f s) (hs : s + 10 ≤ u) : Wr c (l ++ [⟨4, a, 0⟩]) (l.length : Int) (fun ins => !f ins) u := by
 refine Wr.last (by simp) (fun ins => ?_) ?_
 ·have h1 := ha.v ins; unfold val at h1
  simp only [valOf, h1]; rfl
 ·have h1 := ha.t; unfold xO at h1
  simp only [uO]; rw [if_neg ag, if_pos ag]; omega
theorem Wr.zero (hu : 0 ≤ u) : Wr c (l ++ [⟨1, 0, 0⟩]) (l.length : Int) (fun _ => false) u := Wr.last ag (fun ins => rfl) (by simpa [uO] using hu)
theorem Wr.one (hu : 0 ≤ u) : Wr c (l ++ [⟨2, 0, 0⟩]) (l.length : Int) (fun _ => true) u := Wr.last ag (fun ins => rfl) (by simpa [uO] using hu)
theorem ok_two {k : Int} (hk : 5 ≤ k ∧ k ≤ 7) (ha : Wr c l a f s) (hb : Wr c l b g t) : jx l.length ⟨k, a, b⟩ :=
 ⟨⟨by show 1 ≤ k; omega, hk.2⟩, by rw [if_pos (by show 4 ≤ k; omega)]; exact ⟨ha.lo, ha.hi⟩, by rw [if_pos hk.1]; exact ⟨hb.lo, hb.hi⟩⟩
theorem EX (ha : Wr c l a f s) : jx l.length ⟨4, a, 0⟩ := ⟨⟨by simp, by simp⟩, by rw [if_pos (by simp)]; exact ⟨ha.lo, ha.hi⟩, by rw [if_neg (by simp)]⟩
theorem zJ {k : Int} {i : Nat} (hk : 1 ≤ k ∧ k ≤ 3) : jx i ⟨k, 0, 0⟩ := ⟨⟨hk.1, by show k ≤ 7; omega⟩, by rw [if_neg (by show ¬ 4 ≤ k; omega)], by rw [if_neg (by show ¬ 5 ≤ k; omega)]⟩
theorem Ext.two {k : Int} (hg : Good l) (hk : 5 ≤ k ∧ k ≤ 7) (ha : Wr c l a f s) (hb : Wr c l b g t) : Ext l (l ++ [⟨k, a, b⟩]) := Ext.one hg (ok_two hk ha hb) (by show k ≠ 3; omega)
theorem Ext.not (hg : Good l) (ha : Wr c l a f s) : Ext l (l ++ [⟨4, a, 0⟩]) := Ext.one hg (EX ha) (by simp)
theorem Ext.L1 {k : Int} (hg : Good l) (hk : 1 ≤ k ∧ k ≤ 2) : Ext l (l ++ [⟨k, 0, 0⟩]) := Ext.one hg (zJ ⟨hk.1, om⟩) (by show k ≠ 3; omega)
end
structure Wd (c : Int) (l : List Gate) (a : List Int) (w : Nat) (N : List Bool → BitVec w) (t : Int) : Prop where
 len : a.length = w
 bit : ∀ k, k < w → Wr c l (a.getD k 0) (fun ins => (N ins).getLsbD k) t
theorem Wd.ext {c : Int} {l l' : List Gate} {a : List Int} {w : Nat} {N : List Bool → BitVec w} {t : Int} (h : Wd c l a w N t) (he : Ext l l') : Wd c l' a w N t := ⟨h.len, fun k hk => (h.bit k hk).ext he⟩
theorem Wd.late {c : Int} {l : List Gate} {a : List Int} {w : Nat} {N : List Bool → BitVec w} {t t' : Int} (h : Wd c l a w N t) (ht : t ≤ t') : Wd c l a w N t' := ⟨h.len, fun k hk => (h.bit k hk).late ht⟩
structure Ws (c : Int) (l : List Gate) (a : List Int) (f : Nat → List Bool → Bool) (t : Int) : Prop where
 bit : ∀ k, k < a.length → Wr c l (a.getD k 0) (f k) t
theorem Ws.nil {c : Int} {l : List Gate} {f : Nat → List Bool → Bool} {t : Int} : Ws c l [] f t := ⟨fun k hk => by simp at hk⟩
theorem Ws.ext {c : Int} {l l' : List Gate} {a : List Int} {f : Nat → List Bool → Bool} {t : Int} (h : Ws c l a f t) (he : Ext l l') : Ws c l' a f t := ⟨fun k hk => (h.bit k hk).ext he⟩
theorem Ws.snoc {c : Int} {l : List Gate} {a : List Int} {x : Int} {f : Nat → List Bool → Bool} {t : Int} (h : Ws c l a f t) (hx : Wr c l x (f a.length) t) : Ws c l (a ++ [x]) f t := ⟨fun k hk => by
 rcases Nat.lt_or_ge k a.length with h1 | h1
 ·rw [List.getD_eq_getElem?_getD, List.getElem?_append_left h1, ← List.getD_eq_getElem?_getD]; exact h.bit k h1
 ·have : k = a.length := by simp at hk; omega
  subst this; rw [jg rfl]; exact hx⟩
theorem Ws.late {c : Int} {l : List Gate} {a : List Int} {f : Nat → List Bool → Bool} {t t' : Int} (h : Ws c l a f t) (ht : t ≤ t') : Ws c l a f t' := ⟨fun k hk => (h.bit k hk).late ht⟩
theorem Ws.as {c : Int} {l : List Gate} {a : List Int} {f f' : Nat → List Bool → Bool} {t : Int} (h : Ws c l a f t) (hf : ∀ k, k < a.length → ∀ ins, f k ins = f' k ins) : Ws c l a f' t := ⟨fun k hk => (h.bit k hk).as (hf k hk)⟩
theorem Wd.ws {c : Int} {l : List Gate} {a : List Int} {w : Nat} {N : List Bool → BitVec w} {t : Int} (h : Wd c l a w N t) : Ws c l a (fun k ins => (N ins).getLsbD k) t := ⟨fun k hk => h.bit k (by have := h.len; omega)⟩
theorem Ws.wd {c : Int} {l : List Gate} {a : List Int} {w : Nat} {f : Nat → List Bool → Bool} {N : List Bool → BitVec w} {t : Int} (h : Ws c l a f t) (hl : a.length = w) (hf : ∀ k, k < w → ∀ ins, f k ins = (N ins).getLsbD k) : Wd c l a w N t :=
 ⟨hl, fun k hk => (h.bit k om).as (hf k hk)⟩
open Go Go.AW
def ca (G P : Nat → Bool) (j : Nat) : Nat → Bool → Bool
 | 0, z => z
 | k + 1, z => G (j + k) || (P (j + k) && ca G P j k z)
def pp (P : Nat → Bool) (j : Nat) : Nat → Bool
 | 0 => true
 | k + 1 => P (j + k) && pp P j k
theorem DU {G P : Nat → Bool} {j : Nat} {z : Bool} : ∀ k, ca G P j k z = (ca G P j k false || (pp P j k && z))
 | 0 => by simp [ca, pp]
 | k + 1 => by
  simp only [ca, pp]
  rw [DU k]
  cases G (j + k) <;> cases P (j + k) <;> cases pp P j k <;> cases ca G P j k false <;> cases z <;> rfl
theorem zK {G P : Nat → Bool} {j k : Nat} {z : Bool} : ∀ m, ca G P j (k + m) z = ca G P (j + k) m (ca G P j k z)
 | 0 => rfl
 | m + 1 => by
  show (G (j + (k + m)) || (P (j + (k + m)) && ca G P j (k + m) z)) = _
  rw [zK m, ← Nat.add_assoc]; rfl
theorem zL {P : Nat → Bool} {j k : Nat} : ∀ m, pp P j (k + m) = (pp P (j + k) m && pp P j k)
 | 0 => by simp [pp]
 | m + 1 => by
  show (P (j + (k + m)) && pp P j (k + m)) = _
  rw [zL m, ← Nat.add_assoc]
  simp only [pp, Bool.and_assoc]
theorem nJ {G P G' P' : Nat → Bool} {z : Bool} : ∀ {k}, (∀ i, i < k → G i = G' i) → (∀ i, i < k → P i = P' i) → ca G P 0 k z = ca G' P' 0 k z
 | 0, _, _ => rfl
 | k + 1, hg, hp => by
  simp only [ca, Nat.zero_add]
  rw [hg k om, hp k om, nJ (fun i hi => hg i om) (fun i hi => hp i om)]
def gen (G P : Nat → Bool) (d i : Nat) : Bool := ca G P (i + 1 - d) (i + 1 - (i + 1 - d)) false
theorem Ct {G P : Nat → Bool} {i : Nat} : gen G P 1 i = G i := by
 unfold gen
 rw [show i + 1 - 1 = i by omega, show i + 1 - i = 1 by omega]
 simp [ca]
theorem s4 {G P : Nat → Bool} {d i : Nat} (h : i < d) : gen G P d i = ca G P 0 (i + 1) false := by
 unfold gen
 rw [show i + 1 - d = 0 by omega]; rfl
theorem wU {G P : Nat → Bool} {d i : Nat} (h : d ≤ i) : gen G P (2 * d) i = (gen G P d i || (pp P (i + 1 - d) d && gen G P d (i - d))) := by
 unfold gen
 rw [show i + 1 - (i + 1 - d) = d by omega, ← DU]
 have h1 : i - d + 1 - d = i + 1 - 2 * d := by omega
 have h2 : i + 1 - (i + 1 - 2 * d) = (i - d + 1 - (i - d + 1 - d)) + d := by omega
 rw [h2, zK, h1, show i + 1 - 2 * d + (i - d + 1 - (i + 1 - 2 * d)) = i + 1 - d by omega]
theorem zM {G P : Nat → Bool} {d i : Nat} (h : i < d) : gen G P (2 * d) i = gen G P d i := by
 rw [s4 h, s4 om]
theorem EY {P : Nat → Bool} {d i : Nat} (h : 2 * d ≤ i + 1) : pp P (i + 1 - 2 * d) (2 * d) = (pp P (i + 1 - d) d && pp P (i - d + 1 - d) d) := by
 rw [Nat.two_mul, zL, show i + 1 - (d + d) + d = i + 1 - d by omega, show i - d + 1 - d = i + 1 - (d + d) by omega]
theorem qC {w : Nat} {x y : BitVec w} {z : Bool} : ∀ n, ca (fun i => x.getLsbD i && y.getLsbD i) (fun i => x.getLsbD i ^^ y.getLsbD i) 0 n z = BitVec.carry n x y z
 | 0 => by simp [ca, BitVec.carry_zero]
 | n + 1 => by
  simp only [ca, Nat.zero_add]
  rw [qC n, BitVec.carry_succ]
  cases x.getLsbD n <;> cases y.getLsbD n <;> cases BitVec.carry n x y z <;> rfl
theorem Cu {w : Nat} {x y : BitVec w} {i : Nat} (h : i < w) : (x + y).getLsbD i = ((x.getLsbD i ^^ y.getLsbD i) ^^ ca (fun i => x.getLsbD i && y.getLsbD i) (fun i => x.getLsbD i ^^ y.getLsbD i) 0 i false) := by
 rw [qC, BitVec.getLsbD_add h, Bool.xor_assoc]
def Cv {w : Nat} (x y : BitVec w) (i : Nat) : Bool := if i = 0 then x.getLsbD 0 || !y.getLsbD 0 else x.getLsbD i && !y.getLsbD i
theorem zO {w : Nat} {x y : BitVec w} : ∀ n, n + 1 ≤ w → ca (Cv x y) (fun i => x.getLsbD i ^^ !y.getLsbD i) 0 (n + 1) false = ca (fun i => x.getLsbD i && (~~~y).getLsbD i) (fun i => x.getLsbD i ^^ (~~~y).getLsbD i) 0 (n + 1) true
 | 0, hw => by
  simp only [ca, Cv, Nat.add_zero, if_true, BitVec.getLsbD_not, show 0 < w by omega, decide_true, Bool.true_and]
  cases x.getLsbD 0 <;> cases y.getLsbD 0 <;> rfl
 | n + 1, hw => by
  have h := zO (x := x) (y := y) n om
  rw [ca, h]
  conv => rhs; rw [ca]
  simp only [Nat.zero_add, Cv, Nat.add_one_ne_zero, if_false, BitVec.getLsbD_not, show n + 1 < w by omega, decide_true, Bool.true_and]
theorem Cw {w : Nat} {x y : BitVec w} {i : Nat} (h : i < w) (h0 : 0 < i) : (x - y).getLsbD i = ((x.getLsbD i ^^ !y.getLsbD i) ^^ ca (Cv x y) (fun i => x.getLsbD i ^^ !y.getLsbD i) 0 i false) := by
 obtain ⟨i, rfl⟩ : ∃ j, i = j + 1 := ⟨i - 1, om⟩
 rw [zO i om, qC, BitVec.sub_eq_add_neg, BitVec.neg_eq_not_add, ← BitVec.add_assoc]
 have h1 := BitVec.getLsbD_add_add_bool h x (~~~y) true
 rw [show BitVec.setWidth w (BitVec.ofBool true) = 1#w by
  apply BitVec.eq_of_toNat_eq; simp] at h1
 rw [h1, BitVec.getLsbD_not]
 simp [show i + 1 < w by omega, Bool.xor_assoc]
theorem zP {w : Nat} {x y : BitVec w} (h : 0 < w) : (x - y).getLsbD 0 = (x.getLsbD 0 ^^ y.getLsbD 0) := by
 have h1 := BitVec.getLsbD_add_add_bool h x (~~~y) true
 rw [show BitVec.setWidth w (BitVec.ofBool true) = 1#w by
  apply BitVec.eq_of_toNat_eq; simp] at h1
 rw [BitVec.sub_eq_add_neg, BitVec.neg_eq_not_add, ← BitVec.add_assoc, h1, BitVec.getLsbD_not, BitVec.carry_zero]
 simp only [h, decide_true, Bool.true_and]
 cases x.getLsbD 0 <;> cases y.getLsbD 0 <;> rfl
open Go Go.AW
structure Ground (n : ae) : Prop where
 has : ∀ k, Cs n.aj (q9 k)
 wide : ∀ w ∈ n.aj, cw w
 bu : ∀ m ∈ n.bu, ∃ k, m.width = q9 k
 strs : ∀ s ∈ n.streams, ∃ k, s.width = q9 k
 ins : ∀ w ∈ n.ins, ∃ k, w = q9 k
def tU (n : ae) (c : Cell) (w : Int) : Prop :=
 (c.kind = 1 ∧ dK w c.num = c.num) ∨
 (c.kind = 2 ∧ cx c.op (n.av c 0) (n.av c 1) (n.av c 2) w) ∨
 (c.kind = 3 ∧ ∀ k, k < c.args.length → (k % 2 = 0 ∧ n.av c k = 1) ∨ (k % 2 = 1 ∧ n.av c k = w)) ∨
 (c.kind = 4 ∧ n.av c 0 = 1 ∧ n.av c 1 = w ∧ dK w c.num = c.num) ∨
 (c.kind = 5 ∧ n.av c 0 = w ∧ n.av c 1 = w) ∨
 (c.kind = 6 ∧ n.av c 0 = 1 ∧ (n.bu.getD c.mem.toNat default).width = w) ∨
 (c.kind = 7 ∧ n.av c 0 = 1 ∧ (n.bu.getD c.mem.toNat default).width = n.av c 2) ∨
 (c.kind = 8 ∧ n.ins.getD c.num 0 = w) ∨
 (c.kind = 9 ∧ w = 1) ∨
 (c.kind = 10 ∧ (n.streams.getD c.mem.toNat default).width = w)
structure EZ (n : ae) (c : Cell) (w : Int) : Prop where
 out : c.kind = 7 → c.out = -1
 args : ∀ x ∈ c.args, In x n.aj.length
 shaped : Shaped n c
 fits : tU n c w
 wide : cw w
 num : c.num < 18446744073709551616
 len : c.args.length ≤ 4
theorem zQ : cw 1 := by decide
theorem getD_in {α : Type} {d : α} {l : List α} {i : Nat} (h : i < l.length) : l.getD i d ∈ l := by
 rw [List.getD_eq_getElem?_getD, List.getElem?_eq_getElem h]; exact List.getElem_mem h
section
variable {n : ae} (hg : Ground n)
include hg
theorem Ground.one : Cs n.aj 1 := hg.has 0
theorem Ground.mem {i : Nat} (h : i < n.bu.length) : Cs n.aj (n.bu.getD i default).width ∧ cw (n.bu.getD i default).width := by
 obtain ⟨k, hk⟩ := hg.bu _ (getD_in h)
 rw [hk]; exact ⟨hg.has k, tO k⟩
end
open Go Go.AW
structure wV (n : ae) : Prop where
 name : oW n.name
 eD : n.cells.length ≤ 65536
 dY : n.aj.length ≤ 65536
 aj : ∀ j, j < n.aj.length → cw (n.aj.getD j 0)
 ins : ∀ j, j < n.ins.length → cw (n.ins.getD j 0)
 jF : n.bu.length ≤ 64
 cU : n.streams.length ≤ 64
 ei : n.cf.length = n.streams.length
 jv : n.data.length = n.streams.length
 bu : ∀ j, j < n.bu.length → m8 (n.bu.getD j default)
 strs : ∀ j, j < n.streams.length → jE n j
noncomputable instance (n : ae) : Decidable (wV n) := Classical.propDecidable _
theorem mA {α : Type} {l m : List α} {j : Nat} {d : α} (h : j < l.length) : (l ++ m).getD j d = l.getD j d := by
 rw [List.getD_eq_getElem?_getD, List.getElem?_append_left h, List.getD_eq_getElem?_getD]
theorem mB {α : Type} {l m : List α} {j : Nat} {d : α} (h : l.length ≤ j) : (l ++ m).getD j d = m.getD (j - l.length) d := by
 rw [List.getD_eq_getElem?_getD, List.getElem?_append_right h, List.getD_eq_getElem?_getD]
theorem b5.parts {n : ae} (h : b5 n) : wV n where
 name := h.name
 eD := h.eD
 dY := h.dY
 aj := fun j hj => by have := h.wide j (by rw [List.length_append]; omega); rwa [mA hj] at this
 ins := fun j hj => by have := h.wide (n.aj.length + j) (by rw [List.length_append]; omega); rwa [mB om, show n.aj.length + j - n.aj.length = j by omega] at this
 jF := h.jF
 cU := h.cU
 ei := h.ei
 jv := h.jv
 bu := h.bu
 strs := h.strs
theorem wV.formed {n : ae} (h : wV n) (h1 : In n.freeze n.aj.length) (h2 : In n.done n.aj.length) (h3 : ∀ j, j < n.eQ.length → In (n.eQ.getD j 0) n.aj.length)
  (h4 : ∀ j, j < n.cells.length → ju n (n.cells.getD j default)) (h5 : ∀ w, w < n.aj.length → cq n.cells w = 1) : b5 n where
 name := h.name
 eD := h.eD
 dY := h.dY
 jF := h.jF
 cU := h.cU
 ei := h.ei
 jv := h.jv
 wide := fun j hj => by
  rw [List.length_append] at hj
  by_cases KL : j < n.aj.length
  ·rw [mA KL]; exact h.aj j KL
  ·rw [mB om]; exact h.ins _ om
 bu := h.bu
 strs := h.strs
 freeze := h1
 done := h2
 eQ := tL.1 h3
 cells := h4
 kL := h5
def BB (n : ae) (i : Nat) (d : List Int) : Prop := ∀ w, w < n.aj.length → d.getD w 0 = (cq (n.cells.take i) w : Int)
theorem BB.init (n : ae) : BB n 0 (List.replicate n.aj.length 0) := by
 intro w hw
 rw [List.getD_eq_getElem?_getD, List.getElem?_replicate, if_pos hw]; simp [cq]
theorem BB.skip {n : ae} {i : Nat} {d : List Int} (h : BB n i d) (hi : i < n.cells.length) (h7 : (n.cells.getD i default).kind = 7) : BB n (i + 1) d := by
 intro w hw
 rw [e9 hi, if_neg (fun h => h.1 h7)]
 exact h w hw
theorem BB.step {n : ae} {i : Nat} {d : List Int} (h : BB n i d) (hi : i < n.cells.length) (h7 : (n.cells.getD i default).kind ≠ 7) (ho : In (n.cells.getD i default).out n.aj.length)
  (hl : d.length = n.aj.length) : BB n (i + 1) (d.set (n.cells.getD i default).out.toNat (d.getD (n.cells.getD i default).out.toNat 0 + 1)) := by
 intro w hw
 have hh := h w hw
 rw [e9 hi, bM]
 unfold In at ho
 by_cases e : (n.cells.getD i default).out = (w : Int)
 ·rw [if_pos ⟨om, om⟩, if_pos ⟨h7, e⟩]
  have e2 : (n.cells.getD i default).out.toNat = w := by omega
  rw [e2, hh]; omega
 ·rw [if_neg om, if_neg (fun h => e h.2), hh]; omega
theorem BB.le {n : ae} {i : Nat} {d : List Int} (h : BB n i d) {w : Nat} (hw : w < n.aj.length) : 0 ≤ d.getD w 0 ∧ d.getD w 0 ≤ i := by
 rw [h w hw]
 have : cq (n.cells.take i) w ≤ i := Nat.le_trans List.countP_le_length (by rw [List.length_take]; omega)
 omega
open Go Go.AW
def nB : ByteArray := ⟨#[110]⟩
def pn (ws : List Int) (cs : List Cell) (ins : List Int) (bu : List rr) (streams : List iY) : ae := ⟨nB, ws, cs, ins, bu, streams, [], [], 0, 0, []⟩
structure Gr (n : ae) : Prop where
 ground : Ground n
 cells : ∀ c ∈ n.cells, ju n c ∧ Fits n c ∧ c.num < 18446744073709551616 ∧ c.args.length ≤ 4
 kL : ∀ w, w < n.aj.length → cq n.cells w = 1
 mw : ∀ i j, bo n i → bo n j → (n.cell j).out ∈ (n.cell i).args → j < i
theorem Fits.ext {n n' : ae} {c : Cell} (hm : n'.bu = n.bu) (hi : n'.ins = n.ins) (hs : n'.streams = n.streams) (ha : ∀ k, n'.av c k = n.av c k) (ho : n'.ow c = n.ow c) (h : Fits n c) : Fits n' c := by
 unfold Fits jt at *
 simp only [ha, ho, hm, hi, hs]; exact h
theorem tU.fits {n n' : ae} {c c' : Cell} {w : Int} (hm : n'.bu = n.bu) (hi : n'.ins = n.ins) (hs : n'.streams = n.streams) (hk : c'.kind = c.kind) (GN : c'.op = c.op) (hr : c'.args = c.args) (hn : c'.num = c.num) (QR : c'.mem = c.mem)
  (ha : ∀ k, n'.av c' k = n.av c k) (ho : c.kind ≠ 7 → n'.ow c' = w) (h : tU n c w) : Fits n' c' := by
 unfold tU at h
 unfold Fits jt
 simp only [ha, hm, hi, hs, hk, GN, hr, hn, QR]
 by_cases h7 : c.kind = 7
 ·rw [h7] at h ⊢
  simp only [Int.reduceEq, false_and, true_and, or_false, false_or] at h ⊢
  exact h
 ·rw [ho h7]; exact h
theorem wW {ws vy : List Int} {x : Int} (hs : ∀ x, x < ws.length → vy.getD x 0 = ws.getD x 0) (hx : In x ws.length) : vy.getD x.toNat 0 = ws.getD x.toNat 0 := hs _ (by unfold In at hx; omega)
theorem vz (l : List Cell) (c : Cell) (w : Nat) : cq (l ++ [c]) w = cq l w + cq [c] w := by simp only [cq, List.countP_append]
theorem tV {l : List Cell} {w : Nat} (h : ∀ c ∈ l, ¬ (c.kind ≠ 7 ∧ c.out = (w : Int))) : cq l w = 0 := by
 unfold cq
 rw [List.countP_eq_zero]
 intro c hc
 simpa using h c hc
theorem eE {α : Type} {d : α} {l r : List α} {i : Nat} (h : i < l.length) : (l ++ r).getD i d = l.getD i d := by
 rw [List.getD_eq_getElem?_getD, List.getElem?_append_left h, ← List.getD_eq_getElem?_getD]
theorem gW {α : Type} {d c : α} {l : List α} {i : Nat} (h : i = l.length) : (l ++ [c]).getD i d = c := by
 subst h
 rw [List.getD_eq_getElem?_getD, List.getElem?_append_right (Nat.le_refl _), Nat.sub_self]; rfl
section
variable {ws vy : List Int} {cs : List Cell} {ins : List Int} {bu : List rr} {streams : List iY} {c0 : Cell}
theorem Gr.push (h : Gr (pn ws cs ins bu streams)) (h0 : 0 < ws.length) (hw : ∀ w ∈ vy, cw w) (hs : ∀ x, x < ws.length → vy.getD x 0 = ws.getD x 0) (hle : ws.length ≤ vy.length)
  (hc : ju (pn vy cs ins bu streams) c0) (ha : ∀ x ∈ c0.args, In x ws.length) (hf : Fits (pn vy cs ins bu streams) c0) (L2 : c0.num < 18446744073709551616) (hlen : c0.args.length ≤ 4)
  (QS : ∀ x, x < vy.length → cq [c0] x = if x < ws.length then 0 else 1) (nz : dk c0.kind → c0.out = ws.length) (Km : vy.length ≤ ws.length + 1) : Gr (pn vy (cs ++ [c0]) ins bu streams) where
 ground := ⟨fun k => by
   obtain ⟨j, h1, h2⟩ := h.ground.has k
   exact ⟨j, Nat.lt_of_lt_of_le h1 hle, (hs j h1).trans h2⟩, hw, h.ground.bu, h.ground.strs, h.ground.ins⟩
 cells := by
  intro c yz
  rcases List.mem_append.1 yz with h1 | h1
  ·obtain ⟨a1, a2, a3, a4⟩ := h.cells c h1
   have b1 : ∀ x ∈ c.args, In x ws.length := a1.1
   refine ⟨⟨fun x hx => ?_, a1.2.1, a1.2.2.1, fun h7 => ?_⟩, ?_, a3, a4⟩
   ·have := b1 x hx; unfold In at *; exact ⟨this.1, by show x < (vy.length : Int); omega⟩
   ·have := a1.2.2.2 h7; unfold In at *; exact ⟨this.1, by have := this.2; show c.out < (vy.length : Int); change c.out < (ws.length : Int) at this; omega⟩
   ·refine Fits.ext (n := pn ws cs ins bu streams) rfl rfl rfl (fun k => ?_) ?_ a2
    ·refine wW hs ?_
     rcases Nat.lt_or_ge k c.args.length with hk | hk
     ·exact b1 _ (cL hk)
     ·rw [List.getD_eq_getElem?_getD, List.getElem?_eq_none hk]; exact ⟨Int.le_refl 0, by show (0 : Int) < (ws.length : Int); omega⟩
    ·unfold ae.ow
     split
     ·rename_i h2
      by_cases h7 : c.kind = 7
      ·have := a1.2.2.1 h7; omega
      ·exact wW hs (a1.2.2.2 h7)
     ·rfl
  ·rw [List.mem_singleton.1 h1]
   exact ⟨hc, hf, L2, hlen⟩
 kL := by
  intro w uJ
  show cq (cs ++ [c0]) w = 1
  rw [vz, QS w uJ]
  by_cases h1 : w < ws.length
  ·rw [if_pos h1]; have h2 := h.kL w h1; change cq cs w = 1 at h2; omega
  ·rw [if_neg h1, tV]
   rintro c yz ⟨h2, h3⟩
   have := (h.cells c yz).1.2.2.2 h2
   unfold In at this
   have h4 := this.2
   change c.out < (ws.length : Int) at h4
   omega
 mw := by
  intro i j hi hj ho
  have cl : ∀ {k : Int}, 0 ≤ k ∧ k < (cs.length : Int) → (pn vy (cs ++ [c0]) ins bu streams).cell k = (pn ws cs ins bu streams).cell k := fun hk => eE om
  have cr : ∀ {k : Int}, k = (cs.length : Int) → (pn vy (cs ++ [c0]) ins bu streams).cell k = c0 := fun hk => gW om
  have li : 0 ≤ i ∧ i < (cs.length : Int) + 1 := by have := hi.1; simp [pn] at this; omega
  have lj : 0 ≤ j ∧ j < (cs.length : Int) + 1 := by have := hj.1; simp [pn] at this; omega
  by_cases e1 : i = (cs.length : Int)
  ·by_cases e2 : j = (cs.length : Int)
   ·exfalso
    rw [cr e1, cr e2] at ho
    have h1 := ha _ ho
    have h2 := hj.2
    rw [cr e2] at h2
    rw [nz h2] at h1
    unfold In at h1; omega
   ·omega
  ·have gy : bo (pn ws cs ins bu streams) i := ⟨⟨li.1, by show i < (cs.length : Int); omega⟩, by have := hi.2; rwa [cl ⟨li.1, om⟩] at this⟩
   rw [cl (k := i) ⟨li.1, om⟩] at ho
   by_cases e2 : j = (cs.length : Int)
   ·exfalso
    have h2 := hj.2
    rw [cr e2] at h2 ho
    rw [nz h2] at ho
    have h3 : In (ws.length : Int) ws.length := (h.cells ((pn ws cs ins bu streams).cell i) (getD_in (l := cs) om)).1.1 _ ho
    unfold In at h3; omega
   ·have xA : bo (pn ws cs ins bu streams) j := ⟨⟨lj.1, by show j < (cs.length : Int); omega⟩, by have := hj.2; rwa [cl ⟨lj.1, om⟩] at this⟩
    rw [cl (k := j) ⟨lj.1, om⟩] at ho
    exact h.mw i j gy xA ho
theorem Fa {w : Int} {x : Int} (hx : In x ws.length) : (ws ++ [w]).getD x.toNat 0 = ws.getD x.toNat 0 := eE (by unfold In at hx; omega)
theorem Gr.add {c : Cell} {w : Int} (h : Gr (pn ws cs ins bu streams)) (h0 : 0 < ws.length) (hp : EZ (pn ws cs ins bu streams) c w) (h7 : c.kind ≠ 7) :
  Gr (pn (ws ++ [w]) (cs ++ [⟨c.kind, c.op, (ws.length : Int), c.args, c.num, c.mem⟩]) ins bu streams) := by
 have ha : ∀ k, In (c.args.getD k 0) ws.length := fun k => by
  rcases Nat.lt_or_ge k c.args.length with hk | hk
  ·exact hp.args _ (cL hk)
  ·rw [List.getD_eq_getElem?_getD, List.getElem?_eq_none hk]; exact ⟨Int.le_refl 0, by show (0 : Int) < (ws.length : Int); omega⟩
 refine Gr.push h h0 (fun v hv => ?_) (fun x hx => eE hx) (by simp) ⟨fun x hx => ?_, hp.shaped, fun h => absurd h h7, fun _ => ⟨by show (0 : Int) ≤ (ws.length : Int); omega, by simp [pn]; omega⟩⟩ hp.args ?_ hp.num hp.len (fun x hx => ?_) (fun _ => rfl) (by simp)
 ·rcases List.mem_append.1 hv with h1 | h1
  ·exact h.ground.wide v h1
  ·rw [List.mem_singleton.1 h1]; exact hp.wide
 ·have := hp.args x hx
  unfold In at *
  exact ⟨this.1, by have := this.2; change x < (ws.length : Int) at this; simp [pn]; omega⟩
 ·refine tU.fits (n := pn ws cs ins bu streams) (c := c) (w := w) rfl rfl rfl rfl rfl rfl rfl rfl (fun k => Fa (ha k)) (fun _ => ?_) hp.fits
  show (if (0 : Int) ≤ (ws.length : Int) then (ws ++ [w]).getD ((ws.length : Int)).toNat 0 else 0) = w
  rw [if_pos om]
  exact gW (by simp)
 ·have j5 : x < ws.length + 1 := by simpa using hx
  show List.countP _ _ = _
  rw [List.countP_singleton]
  by_cases e : x < ws.length
  ·rw [if_pos e, if_neg (by simp only [decide_eq_true_eq]; rintro ⟨_, h2⟩; omega)]
  ·rw [if_neg e, if_pos (by simp only [decide_eq_true_eq]; exact ⟨h7, by show (ws.length : Int) = (x : Int); omega⟩)]
theorem Gr.setArgs {k : Nat} {args : List Int} (h : Gr (pn ws cs ins bu streams)) (hk : k < cs.length) (h4 : (cs.getD k default).kind = 4) (ha : ∀ x ∈ args, In x ws.length)
  (hl : args.length = 2) (h1 : ws.getD (args.getD 0 0).toNat 0 = 1) (h2 : ws.getD (args.getD 1 0).toNat 0 = ws.getD (cs.getD k default).out.toNat 0) :
  Gr (pn ws (cs.set k ⟨(cs.getD k default).kind, (cs.getD k default).op, (cs.getD k default).out, args, (cs.getD k default).num, (cs.getD k default).mem⟩) ins bu streams) := by
 have yz : cs.getD k default ∈ cs := getD_in hk
 obtain ⟨a1, a2, a3, a4⟩ := h.cells _ yz
 have ho := a1.2.2.2 (by rw [h4]; decide)
 generalize hc : cs.getD k default = c at *
 have cell : ∀ i : Int, (pn ws (cs.set k ⟨c.kind, c.op, c.out, args, c.num, c.mem⟩) ins bu streams).cell i = if k = i.toNat ∧ k < cs.length then ⟨c.kind, c.op, c.out, args, c.num, c.mem⟩ else (pn ws cs ins bu streams).cell i := fun i => bM ..
 refine ⟨⟨h.ground.has, h.ground.wide, h.ground.bu, h.ground.strs, h.ground.ins⟩, ?_, ?_, ?_⟩
 ·intro c' nv
  rcases List.mem_or_eq_of_mem_set nv with h5 | h5
  ·exact h.cells c' h5
  ·subst h5
   refine ⟨⟨ha, ?_, fun h7 => ?_, fun _ => ho⟩, ?_, a3, by simp only [hl]; decide⟩
   ·have := a1.2.1
    simp only [Shaped, h4, Int.reduceEq, false_and, true_and, false_or, or_false] at this
    exact .inr (.inr (.inr (.inl ⟨h4, hl, this.2.1, this.2.2⟩)))
   ·simp only [h4] at h7; exact absurd h7 ag
   ·simp only [Fits, h4, Int.reduceEq, false_and, true_and, false_or, or_false] at a2
    refine .inr (.inr (.inr (.inl ⟨h4, h1, ?_, a2.2.2⟩)))
    show ws.getD (args.getD 1 0).toNat 0 = if 0 ≤ c.out then ws.getD c.out.toNat 0 else 0
    unfold In at ho
    rw [if_pos ho.1]; exact h2
 ·intro w hw
  have := h.kL w hw
  rw [← this]
  show List.countP _ (cs.set k _) = List.countP _ cs
  have e : ∀ (l : List Cell) (f : Cell → Bool), List.countP f l = List.countP id (l.map f) := fun l f => by rw [List.countP_map]; rfl
  rw [e, e cs, List.map_set]
  congr 1
  have wM : k < (cs.map (fun c => decide (c.kind ≠ 7 ∧ c.out = (w : Int)))).length := by simpa using hk
  have hg : (cs.map (fun c => decide (c.kind ≠ 7 ∧ c.out = (w : Int))))[k] = decide (c.kind ≠ 7 ∧ c.out = (w : Int)) := by
   rw [List.getElem_map]
   have : cs[k] = c := by rw [← hc, List.getD_eq_getElem?_getD, List.getElem?_eq_getElem hk]; rfl
   rw [this]
  rw [← hg, List.set_getElem_self]
 ·intro i j hi hj hm
  have key : ∀ {i : Int}, bo (pn ws (cs.set k ⟨c.kind, c.op, c.out, args, c.num, c.mem⟩) ins bu streams) i → (pn ws (cs.set k ⟨c.kind, c.op, c.out, args, c.num, c.mem⟩) ins bu streams).cell i = (pn ws cs ins bu streams).cell i ∧ bo (pn ws cs ins bu streams) i := by
   intro i hi
   have kY := hi.2
   have Ih : 0 ≤ i ∧ i < (cs.length : Int) := by have := hi.1; simp [pn] at this; omega
   rw [cell] at kY
   by_cases e : k = i.toNat ∧ k < cs.length
   ·rw [if_pos e] at kY
    simp only [h4] at kY
    exact absurd kY ag
   ·rw [if_neg e] at kY
    exact ⟨by rw [cell, if_neg e], Ih, kY⟩
  rw [(key hi).1, (key hj).1] at hm
  exact h.mw i j (key hi).2 (key hj).2 hm
end
open Go Go.AW
section
variable {ws : List Int} {cs : List Cell} {ins : List Int} {bu : List rr} {streams : List iY}
theorem Gr.outs (h : Gr (pn ws cs ins bu streams)) {k : Nat} (hk : k < cs.length) (h4 : (cs.getD k default).kind = 4) : In (cs.getD k default).out ws.length := (h.cells (cs.getD k default) (getD_in hk)).1.2.2.2 (by rw [h4]; decide)
theorem Gr.late (h : Gr (pn ws cs ins bu streams)) {p : zH} {i : Nat} (hi : i < cs.length) : Gr (pn ws (DT ws cs p i) ins bu streams) := by
 unfold DT
 split
 ·rename_i h4
  have hk : (((cs.length : Int) - 1) - (i : Int)).toNat < cs.length := by omega
  have ho := h.outs hk h4
  have h1 := tQ h.ground.one p.a
  have h2 := tQ (ws := ws) (w := ws.getD (cs.getD (((cs.length : Int) - 1) - (i : Int)).toNat default).out.toNat 0) ⟨_, by unfold In at ho; omega, rfl⟩ p.d
  refine h.setArgs hk h4 ?_ rfl h1.2 h2.2
  intro x hx
  simp only [List.mem_cons, List.not_mem_nil, or_false] at hx
  rcases hx with rfl | rfl
  ·exact h1.1
  ·exact h2.1
 ·exact h
structure OX (n : ae) : Prop where
 formed : b5 n
 fit : Fit n
 acyclic : Acyclic n
 small : n.Small
 eD : 8 ≤ n.cells.length ∧ n.cells.length ≤ 48
 dY : 8 ≤ n.aj.length ∧ n.aj.length ≤ 48
 zR : ∀ c ∈ n.cells, c.args.length ≤ 4
 wX : n.eQ.length ≤ 3
 jF : n.bu.length ≤ 3
 cU : n.streams.length ≤ 4
 Ij : n.ins.length ≤ 4
end
structure EW.QT (p : EW) : Prop where
 bu : p.bu.length ≤ 3
 streams : p.streams.length ≤ 4
 ins : p.ins.length ≤ 4
 parts : p.parts.length ≤ 40
 eQ : p.eQ.length ≤ 3
structure EW.Ok (p : EW) : Prop where
 bu : ∀ m ∈ p.bu, m.a < 256 ∧ m.b < 256
 streams : ∀ m ∈ p.streams, m.a < 256 ∧ m.b < 256
 ins : ∀ k ∈ p.ins, k < 256
 parts : ∀ q ∈ p.parts, q.Ok
 eQ : ∀ k ∈ p.eQ, k < 256
open Go Go.AW
noncomputable instance (p : EW) : Decidable p.QT := Classical.propDecidable _
structure mC (n : ae) (cE : List Int) : Prop where
 len : cE.length = n.aj.length
 Fb : ∀ w : Int, In w n.aj.length → cQ n (cE.getD w.toNat 0) w
def oY (n : ae) (k : Nat) (cE : List Int) : Prop := cE.length = n.aj.length ∧ ∀ j w : Int, cQ n j w → j < k → cE.getD w.toNat 0 = j
theorem oY.done {n : ae} {cE : List Int} (hf : b5 n) (h : oY n n.cells.length cE) : mC n cE := by
 refine ⟨h.1, fun w hw => ?_⟩
 obtain ⟨i, hi⟩ := hf.q6 hw
 rw [h.2 i w hi hi.1.2]; exact hi
theorem oY.set {n : ae} {k : Nat} {cE : List Int} (hf : b5 n) (h : oY n k cE) (hk : k < n.cells.length) (h0 : (n.cells.getD k default).out ≥ 0) : oY n (k + 1) (cE.set (n.cells.getD k default).out.toNat (k : Int)) := by
 refine ⟨by rw [List.length_set]; exact h.1, fun j w hd hj => ?_⟩
 have hc := hf.cells k hk
 have h7 : (n.cells.getD k default).kind ≠ 7 := fun e => by have := hc.2.2.1 e; omega
 have GO : cQ n (k : Int) (n.cells.getD k default).out := ⟨⟨om, om⟩, h7, rfl⟩
 have hw := hf.jG hd; have L3 := hf.jG GO
 unfold In at hw L3
 rw [bM]
 by_cases e : (n.cells.getD k default).out.toNat = w.toNat ∧ (n.cells.getD k default).out.toNat < cE.length
 ·rw [if_pos e]
  have e2 : (n.cells.getD k default).out = w := by omega
  exact hf.unique (e2 ▸ GO) hd
 ·rw [if_neg e]
  have fc : j ≠ (k : Int) := by
   rintro rfl
   apply e
   have e2 : (n.cells.getD k default).out = w := hd.2.2
   have := h.1
   omega
  exact h.2 j w hd om
theorem oY.skip {n : ae} {k : Nat} {cE : List Int} (hf : b5 n) (h : oY n k cE) (h0 : ¬ (n.cells.getD k default).out ≥ 0) : oY n (k + 1) cE := by
 refine ⟨h.1, fun j w hd hj => ?_⟩
 have hw := hf.jG hd
 unfold In at hw
 have fc : j ≠ (k : Int) := by
  rintro rfl
  have : (n.cells.getD k default).out = w := hd.2.2
  omega
 exact h.2 j w hd om
structure Ik (n : ae) (l : List Int) (k : Nat) (pl : List Int) : Prop where
 len : pl.length = n.cells.length
 at_ : ∀ j, j < k → pl.getD (l.getD j 0).toNat 0 = (j : Int) + 1
 none_ : ∀ c : Int, In c n.cells.length → (∀ j, j < k → l.getD j 0 ≠ c) → pl.getD c.toNat 0 = 0
theorem qD {l : List Int} (h : l.Nodup) {i j : Nat} (hi : i < l.length) (hj : j < l.length) (e : l.getD i 0 = l.getD j 0) : i = j := by
 rw [List.getD_eq_getElem?_getD, List.getD_eq_getElem?_getD, List.getElem?_eq_getElem hi, List.getElem?_eq_getElem hj] at e
 simp only [Option.getD_some] at e
 rw [List.Nodup, List.pairwise_iff_getElem] at h
 rcases Nat.lt_trichotomy i j with h1 | h1 | h1
 ·exact absurd e (h i j hi hj h1)
 ·exact h1
 ·exact absurd e.symm (h j i hj hi h1)
theorem Ik.init (n : ae) (l : List Int) : Ik n l 0 (List.replicate n.cells.length 0) :=
 ⟨by simp, fun j hj => by omega, fun c hc _ => by
  unfold In at hc
  rw [List.getD_eq_getElem?_getD, List.getElem?_eq_getElem (by simp; omega)]; simp⟩
theorem Ik.step {n : ae} {l pl : List Int} {k : Nat} (ho : Ord n l) (h : Ik n l k pl) (hk : k < l.length) : Ik n l (k + 1) (pl.set (l.getD k 0).toNat ((k : Int) + 1)) := by
 have hr := ho.uN _ (cL hk)
 have hl := h.len
 refine ⟨by rw [List.length_set]; exact hl, fun j hj => ?_, fun c hc fc => ?_⟩
 ·rw [bM]
  rcases Nat.lt_or_ge j k with h1 | h1
  ·have OF := ho.uN _ (cL (l := l) (i := j) om)
   rw [if_neg (fun e => by have := qD ho.nd hk (by omega : j < l.length) om; omega)]
   exact h.at_ j h1
  ·obtain rfl : j = k := by omega
   rw [if_pos ⟨rfl, om⟩]
 ·have h1 := fc k om
  unfold In at hc
  rw [bM, if_neg (fun e => h1 om)]
  exact h.none_ c hc (fun j hj => fc j om)
theorem Ord.mem {n : ae} {l : List Int} (ho : Ord n l) {i : Int} (hi : 0 ≤ i ∧ i < n.cells.length) : i ∈ l := by
 refine Classical.byContradiction fun hn => ?_
 have h1 : ∀ x ∈ i :: l, x ∈ (List.range n.cells.length).map (fun (j : Nat) => (j : Int)) := by
  intro x hx
  have hr : 0 ≤ x ∧ x < n.cells.length := by
   rcases List.mem_cons.1 hx with rfl | hx
   ·exact hi
   ·exact ho.uN x hx
  exact List.mem_map.2 ⟨x.toNat, List.mem_range.2 om, om⟩
 have h2 := length_le_of_subset (List.nodup_cons.2 ⟨hn, ho.nd⟩) h1
 simp only [List.length_cons, List.length_map, List.length_range, ho.len] at h2
 omega
theorem lG.ok {n : ae} {l : List Int} {e : Int} (h : lG n l e) (hf : b5 n) (ht : Fit n) (ha : Acyclic n) : Ord n l ∧ e = 0 := by
 rcases h with ⟨h1, _⟩ | ⟨_, h2, _⟩ | ⟨_, _, h3, _⟩ | ⟨_, _, _, h4, h5⟩
 ·exact absurd hf h1
 ·exact absurd ht h2
 ·exact absurd ha h3
 ·exact ⟨h4, h5⟩
theorem zS {n : ae} (hf : b5 n) (ht : Fit n) (ha : Acyclic n) : nH n = 0 := by unfold nH; rw [if_pos hf, if_pos ht, if_pos ha]
open Go Go.AW
inductive BC (n : ae) (ws : List Int) : Int → Prop where
 | root {w i : Int} (hw : w ∈ ws) (h : cQ n i w) : BC n ws i
 | step {i x j : Int} (hi : BC n ws i) (hc : dk (n.cell i).kind) (hx : x ∈ (n.cell i).args) (h : cQ n j x) : BC n ws j
def zT (l : List Bool) : Nat := l.countP (fun b => !b)
theorem xQ (l : List Bool) : zT l ≤ l.length := List.countP_le_length
structure s5 (n : ae) (cE ws : List Int) (l : List Int) (seen : List Bool) : Prop where
 len : seen.length = n.cells.length
 uN : ∀ w ∈ l, In w n.aj.length
 snd : ∀ w ∈ l, ∀ i, cQ n i w → BC n ws i
 Cx : ∀ i : Nat, i < n.cells.length → seen.getD i false = true → BC n ws i
 root : ∀ w ∈ ws, seen.getD (cE.getD w.toNat 0).toNat false = true ∨ w ∈ l
 gN : ∀ i : Nat, i < n.cells.length → seen.getD i false = true → dk (n.cells.getD i default).kind → ∀ x ∈ (n.cells.getD i default).args, seen.getD (cE.getD x.toNat 0).toNat false = true ∨ x ∈ l
 sz : l.length + 4 * zT seen ≤ ws.length + 4 * n.cells.length
theorem nA {k i : Nat} : (List.replicate k false).getD i false = false := by
 rw [List.getD_eq_getElem?_getD]
 by_cases h : i < k
 ·rw [List.getElem?_eq_getElem (by simpa using h)]; simp
 ·rw [List.getElem?_eq_none (by simpa using h)]; rfl
theorem s5.init {n : ae} {cE ws : List Int} (hw : ∀ w ∈ ws, In w n.aj.length) : s5 n cE ws ws (List.replicate n.cells.length false) where
 len := by simp
 uN := hw
 snd := fun w hw i hi => .root hw hi
 Cx := fun i _ h => by rw [nA] at h; cases h
 root := fun w hw => .inr hw
 gN := fun i _ h => by rw [nA] at h; cases h
 sz := by have := xQ (List.replicate n.cells.length false); simp at this; omega
section
variable {n : ae} {cE ws l : List Int} {seen : List Bool}
theorem mc {l : List Int} (h : 0 < l.length) {x : Int} (hx : x ∈ l) : x = l.getD (l.length - 1) 0 ∨ x ∈ l.take (l.length - 1) := by
 obtain ⟨i, hi, rfl⟩ := List.mem_iff_getElem.1 hx
 by_cases e : i = l.length - 1
 ·left; subst e; rw [List.getD_eq_getElem?_getD, List.getElem?_eq_getElem hi]; rfl
 ·right
  refine List.mem_iff_getElem.2 ⟨i, by simp; omega, by simp⟩
theorem s5.skip (h : s5 n cE ws l seen) (h0 : 0 < l.length) (hs : seen.getD (cE.getD (l.getD (l.length - 1) 0).toNat 0).toNat false = true) : s5 n cE ws (l.take (l.length - 1)) seen where
 len := h.len
 uN := fun w hw => h.uN w (List.mem_of_mem_take hw)
 snd := fun w hw => h.snd w (List.mem_of_mem_take hw)
 Cx := h.Cx
 root := fun w hw => by
  rcases h.root w hw with h1 | h1
  ·exact .inl h1
  ·rcases mc h0 h1 with h2 | h2
   ·exact .inl (by rw [h2]; exact hs)
   ·exact .inr h2
 gN := fun i hi hm hc x hx => by
  rcases h.gN i hi hm hc x hx with h1 | h1
  ·exact .inl h1
  ·rcases mc h0 h1 with h2 | h2
   ·exact .inl (by rw [h2]; exact hs)
   ·exact .inr h2
 sz := by have := h.sz; simp only [List.length_take]; omega
theorem s5.last (hb : mC n cE) (h : s5 n cE ws l seen) (h0 : 0 < l.length) : (0 ≤ l.getD (l.length - 1) 0 ∧ l.getD (l.length - 1) 0 < n.aj.length) ∧ (0 ≤ cE.getD (l.getD (l.length - 1) 0).toNat 0 ∧ cE.getD (l.getD (l.length - 1) 0).toNat 0 < n.cells.length) := by
 have hw := h.uN _ (cL (l := l) (i := l.length - 1) om)
 exact ⟨hw, (hb.Fb _ hw).1⟩
theorem Fc {a b : Nat} (h : b ≤ a ∧ a ≤ 4611686018427387904) : IntKind.i64.wrap ((a : Int) - (b : Int)) = ((a - b : Nat) : Int) := by
 rw [show ((a : Int) - (b : Int)) = ((a - b : Nat) : Int) by omega]
 exact IntWalk.i64_in _ om
theorem take_one {α : Type} {d : α} {l : List α} {k : Nat} (h : k < l.length) : l.take (k + 1) = l.take k ++ [l.getD k d] := by
 rw [List.take_add_one, List.getElem?_eq_getElem h, List.getD_eq_getElem?_getD, List.getElem?_eq_getElem h]; rfl
def rW (n : ae) (ws : List Int) (seen : List Bool) : Prop := seen.length = n.cells.length ∧ ∀ i : Nat, i < n.cells.length → (seen.getD i false = true ↔ BC n ws i)
theorem s5.done (hb : mC n cE) (hf : b5 n) (h : s5 n cE ws l seen) (h0 : l.length = 0) (hw : ∀ w ∈ ws, In w n.aj.length) : rW n ws seen := by
 have hl : l = [] := List.eq_nil_of_length_eq_zero h0
 subst hl
 refine ⟨h.len, fun i hi => ⟨h.Cx i hi, fun hr => ?_⟩⟩
 have key : ∀ j : Int, BC n ws j → 0 ≤ j ∧ j < n.cells.length ∧ seen.getD j.toNat false = true := by
  intro j hj
  induction hj with
  | root pf hd =>
   rcases h.root _ pf with h1 | h1
   ·rw [hf.unique (hb.Fb _ (hw _ pf)) hd] at h1
    exact ⟨hd.1.1, hd.1.2, h1⟩
   ·cases h1
  | @step i x j hi hc hx hd ih =>
   rcases h.gN i.toNat om ih.2.2 hc x hx with h1 | h1
   ·rw [hf.unique (hb.Fb _ (hf.rS ⟨ih.1, ih.2.1⟩ hx)) hd] at h1
    exact ⟨hd.1.1, hd.1.2, h1⟩
   ·cases h1
 exact (key _ hr).2.2
end
theorem rW.eq {n : ae} {ws : List Int} {s t : List Bool} (hs : rW n ws s) (ht : rW n ws t) : s = t := by
 refine List.ext_getElem (by rw [hs.1, ht.1]) fun i h1 h2 => ?_
 have e1 := hs.2 i (by have := hs.1; omega)
 have e2 := ht.2 i (by have := hs.1; omega)
 rw [List.getD_eq_getElem?_getD, List.getElem?_eq_getElem h1] at e1
 rw [List.getD_eq_getElem?_getD, List.getElem?_eq_getElem h2] at e2
 simp only [Option.getD_some] at e1 e2
 cases h3 : s[i] <;> cases h4 : t[i] <;> simp_all
open Go Go.AW
def BD (p : Nat → Bool) (k : Nat) : List Nat := (List.range k).filter p
theorem s6 {p : Nat → Bool} {k : Nat} (h : p k = false) : BD p (k + 1) = BD p k := by
 simp only [BD, List.range_succ, List.filter_append, List.filter_cons, h, List.filter_nil, List.append_nil, Bool.false_eq_true, if_false]
theorem zU (p : Nat → Bool) (k : Nat) : (BD p k).length ≤ k := by
 have := List.length_filter_le p (List.range k)
 rw [List.length_range] at this; exact this
def Cy (p : Nat → Bool) (w : Nat) : Int := if p w then ((BD p w).length : Int) else -1
def GP (p : Nat → Bool) (x : Int) : Int := if 0 ≤ x then Cy p x.toNat else x
def DV {α : Type} (p : Nat → Bool) (l : List α) (d : α) : List α := (BD p l.length).map (fun i => l.getD i d)
open Go Go.AW
def kc (n : ae) (s : List Bool) (i : Nat) : Bool := s.getD i false || !decide (dk (n.cells.getD i default).kind)
def kw (n : ae) (cE : List Int) (s : List Bool) (w : Nat) : Bool := kc n s (cE.getD w 0).toNat
def L4 (p : Nat → Bool) (c : Cell) : Cell := ⟨c.kind, c.op, GP p c.out, c.args.map (GP p), c.num, c.mem⟩
structure Il (n : ae) (cE : List Int) (s : List Bool) : Prop where
 freeze : kw n cE s n.freeze.toNat = true
 done : kw n cE s n.done.toNat = true
 eQ : ∀ r ∈ n.eQ, kw n cE s r.toNat = true
 cf : ∀ r ∈ n.cf, kw n cE s r.toNat = true
 data : ∀ r ∈ n.data, 0 ≤ r → kw n cE s r.toNat = true
 gN : ∀ i, i < n.cells.length → kc n s i = true → ∀ x ∈ (n.cells.getD i default).args, kw n cE s x.toNat = true
section
variable {n : ae} {cE : List Int} {s : List Bool} (hf : b5 n) (hb : mC n cE) (hk : Il n cE s)
end
open Go Go.AW
structure VP (n : ae) : Prop where
 formed : b5 n
 fit : Fit n
 acyclic : Acyclic n
 small : n.Small
 eD : n.cells.length ≤ 48
 dY : n.aj.length ≤ 48
 zR : ∀ c ∈ n.cells, c.args.length ≤ 4
 wX : n.eQ.length ≤ 3
 jF : n.bu.length ≤ 3
 cU : n.streams.length ≤ 4
 Ij : n.ins.length ≤ 4
section
variable {n : ae} {cE : List Int} {s : List Bool} (hv : VP n) (hb : mC n cE) (hk : Il n cE s)
end
open Go Go.AW
structure Cz (n : ae) (w : Int) : Prop where
 is : w ∈ n.cf ∨ w ∈ n.eQ ∨ w = n.freeze ∨ w = n.done ∨ (w ∈ n.data ∧ 0 ≤ w) ∨ ∃ i, i < n.cells.length ∧ ¬ dk (n.cells.getD i default).kind ∧ w ∈ (n.cells.getD i default).args
def nK (n : ae) (l : List Int) : Prop := ∀ w, w ∈ l ↔ Cz n w
theorem Cz.uN {n : ae} (hf : b5 n) {w : Int} (h : Cz n w) : In w n.aj.length := by
 rcases h.is with h | h | h | h | ⟨h, h0⟩ | ⟨i, hi, _, h⟩
 ·obtain ⟨j, hj, rfl⟩ := List.mem_iff_getElem.1 h
  have h1 := (hf.strs j (by have := hf.ei; omega)).2.2.1
  rwa [List.getD_eq_getElem?_getD, List.getElem?_eq_getElem hj] at h1
 ·exact hf.eQ w h
 ·rw [h]; exact hf.freeze
 ·rw [h]; exact hf.done
 ·obtain ⟨j, hj, rfl⟩ := List.mem_iff_getElem.1 h
  have h1 := (hf.strs j (by have := hf.jv; omega)).2.2.2
  have e : n.data.getD j 0 = n.data[j] := by rw [List.getD_eq_getElem?_getD, List.getElem?_eq_getElem hj]; rfl
  rw [← e] at h0 ⊢
  cases ho : (n.streams.getD j default).out with
  | true => exact h1.1 ho
  | false => have := h1.2 ho; omega
 ·exact (hf.cells i hi).1 w h
section
variable {n : ae} {cE l : List Int} {s : List Bool} (hf : b5 n) (hb : mC n cE) (hl : nK n l) (hc : rW n l s)
include hf hb hl hc
end
open Go Go.AW
structure Sn (n : ae) (cE rs : List Int) (l : List Int) (de : List Bool) : Prop where
 len : de.length = n.cells.length
 uN : ∀ w ∈ l, w < 0 ∨ In w n.aj.length
 snd : ∀ w ∈ l, ∀ i, cQ n i w → BC n rs i
 seq : ∀ i : Nat, i < n.cells.length → ¬ dk (n.cells.getD i default).kind → de.getD i false = true
 Cx : ∀ i : Nat, i < n.cells.length → de.getD i false = true → dk (n.cells.getD i default).kind → BC n rs i
 root : ∀ w ∈ rs, de.getD (cE.getD w.toNat 0).toNat false = true ∨ w ∈ l
 gN : ∀ i : Nat, i < n.cells.length → de.getD i false = true → dk (n.cells.getD i default).kind → ∀ x ∈ (n.cells.getD i default).args, de.getD (cE.getD x.toNat 0).toNat false = true ∨ x ∈ l
section
variable {n : ae} {cE rs l : List Int} {de : List Bool}
theorem Sn.skip (h : Sn n cE rs l de) (hf : ∀ w ∈ rs, 0 ≤ w) (QU : b5 n) (h0 : 0 < l.length) (hs : l.getD (l.length - 1) 0 < 0 ∨ de.getD (cE.getD (l.getD (l.length - 1) 0).toNat 0).toNat false = true) : Sn n cE rs (l.take (l.length - 1)) de where
 len := h.len
 uN := fun w hw => h.uN w (List.mem_of_mem_take hw)
 snd := fun w hw => h.snd w (List.mem_of_mem_take hw)
 seq := h.seq
 Cx := h.Cx
 root := fun w hw => by
  rcases h.root w hw with h1 | h1
  ·exact .inl h1
  ·rcases mc h0 h1 with h2 | h2
   ·rcases hs with hs | hs
    ·have := hf w hw; omega
    ·exact .inl (by rw [h2]; exact hs)
   ·exact .inr h2
 gN := fun i hi hm hc x hx => by
  rcases h.gN i hi hm hc x hx with h1 | h1
  ·exact .inl h1
  ·rcases mc h0 h1 with h2 | h2
   ·rcases hs with hs | hs
    ·have h3 := (QU.cells i hi).1 x hx
     unfold In at h3; omega
    ·exact .inl (by rw [h2]; exact hs)
   ·exact .inr h2
theorem Sn.done (hb : mC n cE) (hf : b5 n) (Kn : ∀ w ∈ rs, In w n.aj.length) (h : Sn n cE rs l de) (h0 : l.length = 0) {s : List Bool} (hc : rW n rs s) : ∀ i, i < n.cells.length → de.getD i false = kc n s i := by
 have hl : l = [] := List.eq_nil_of_length_eq_zero h0
 subst hl
 have key : ∀ j : Int, BC n rs j → 0 ≤ j ∧ j < n.cells.length ∧ de.getD j.toNat false = true := by
  intro j hj
  induction hj with
  | root pf hd =>
   rcases h.root _ pf with h1 | h1
   ·rw [hf.unique (hb.Fb _ (Kn _ pf)) hd] at h1
    exact ⟨hd.1.1, hd.1.2, h1⟩
   ·cases h1
  | @step i x j hi py hx hd ih =>
   rcases h.gN i.toNat om ih.2.2 py x hx with h1 | h1
   ·rw [hf.unique (hb.Fb _ (hf.rS ⟨ih.1, ih.2.1⟩ hx)) hd] at h1
    exact ⟨hd.1.1, hd.1.2, h1⟩
   ·cases h1
 intro i hi
 unfold kc
 by_cases py : dk (n.cells.getD i default).kind
 ·rw [decide_eq_true py]
  simp only [Bool.not_true, Bool.or_false]
  have e := hc.2 i hi
  cases hn : de.getD i false with
  | true => exact (e.2 (h.Cx i hi hn py)).symm
  | false =>
   cases hs : s.getD i false with
   | false => rfl
   | true =>
    have := (key _ (e.1 hs)).2.2
    rw [Int.toNat_natCast, hn] at this; cases this
 ·rw [h.seq i hi py, decide_eq_false py]; simp
end
open Go Go.AW
def nL (n : ae) : List Int := (((([n.freeze, n.done] : List Int) ++ n.eQ) ++ n.cf) ++ n.data)
structure GQ (n : ae) (k : Nat) (de : List Bool) (O : List Int) : Prop where
 len : de.length = n.cells.length
 nd : ∀ i, i < n.cells.length → (de.getD i false = true ↔ i < k ∧ ¬ dk (n.cells.getD i default).kind)
 op : ∀ w, w ∈ O ↔ (w ∈ nL n ∨ ∃ i, i < k ∧ ¬ dk (n.cells.getD i default).kind ∧ w ∈ (n.cells.getD i default).args)
 sz : O.length ≤ 13 + 4 * k
theorem GQ.init {n : ae} (hM : VP n) : GQ n 0 (List.replicate n.cells.length false) (nL n) where
 len := by simp
 nd := fun i _ => by rw [nA]; simp
 op := fun w => by simp
 sz := by
  have h1 := hM.wX; have h2 := hM.cU; have h3 := hM.formed.ei; have h4 := hM.formed.jv
  simp only [nL, List.length_append, List.length_cons, List.length_nil]; omega
theorem GQ.no {n : ae} {k : Nat} {de : List Bool} {O : List Int} (h : GQ n k de O) (hc : dk (n.cells.getD k default).kind) : GQ n (k + 1) de O where
 len := h.len
 nd := fun i hi => by
  rw [h.nd i hi]
  constructor
  ·exact fun h1 => ⟨om, h1.2⟩
  ·rintro ⟨h1, h2⟩
   refine ⟨?_, h2⟩
   rcases Nat.lt_or_ge i k with h4 | h4
   ·exact h4
   ·obtain rfl : i = k := by omega
    exact absurd hc h2
 op := fun w => by
  rw [h.op w]
  constructor
  ·rintro (h1 | ⟨i, h1, h2, h3⟩)
   ·exact .inl h1
   ·exact .inr ⟨i, om, h2, h3⟩
  ·rintro (h1 | ⟨i, h1, h2, h3⟩)
   ·exact .inl h1
   ·rcases Nat.lt_or_ge i k with h4 | h4
    ·exact .inr ⟨i, h4, h2, h3⟩
    ·obtain rfl : i = k := by omega
     exact absurd hc h2
 sz := by have := h.sz; omega
theorem Sn.init {n : ae} {cE rs O : List Int} {de : List Bool} (hf : b5 n) (Kn : nK n rs) (h : GQ n n.cells.length de O) : Sn n cE rs O de := by
 have root : ∀ w ∈ O, 0 ≤ w → Cz n w := by
  intro w hw h0
  rcases (h.op w).1 hw with h1 | ⟨i, h1, h2, h3⟩
  ·simp only [nL, List.mem_append, List.mem_cons, List.not_mem_nil, or_false] at h1
   rcases h1 with (((h1 | h1) | h1) | h1) | h1
   ·exact ⟨.inr (.inr (.inl h1))⟩
   ·exact ⟨.inr (.inr (.inr (.inl h1)))⟩
   ·exact ⟨.inr (.inl h1)⟩
   ·exact ⟨.inl h1⟩
   ·exact ⟨.inr (.inr (.inr (.inr (.inl ⟨h1, h0⟩))))⟩
  ·exact ⟨.inr (.inr (.inr (.inr (.inr ⟨i, h1, h2, h3⟩))))⟩
 exact {
  len := h.len
  uN := fun w hw => by
   rcases Int.lt_or_le w 0 with h1 | h1
   ·exact .inl h1
   ·exact .inr ((root w hw h1).uN hf)
  snd := fun w hw i hd => .root ((Kn w).2 (root w hw (by have := hf.jG hd; unfold In at this; omega))) hd
  seq := fun i hi hc => (h.nd i hi).2 ⟨hi, hc⟩
  Cx := fun i hi hm hc => absurd hc ((h.nd i hi).1 hm).2
  root := fun w hw => by
   right
   refine (h.op w).2 ?_
   rcases ((Kn w).1 hw).is with h1 | h1 | h1 | h1 | ⟨h1, _⟩ | ⟨i, h1, h2, h3⟩
   ·left; simp [nL, h1]
   ·left; simp [nL, h1]
   ·left; simp [nL, h1]
   ·left; simp [nL, h1]
   ·left; simp [nL, h1]
   ·exact .inr ⟨i, h1, h2, h3⟩
  gN := fun i hi hm hc => absurd hc ((h.nd i hi).1 hm).2 }
open Go Go.AW
structure BE (p : Nat → Bool) (l m : List Int) (i : Nat) : Prop where
 len : m.length = l.length
 lo : ∀ j, j < i → m.getD j 0 = GP p (l.getD j 0)
 hi : ∀ j, i ≤ j → m.getD j 0 = l.getD j 0
theorem BE.init (p : Nat → Bool) (l : List Int) : BE p l l 0 := ⟨rfl, fun j hj => by omega, fun _ _ => rfl⟩
theorem BE.set {p : Nat → Bool} {l m : List Int} {i : Nat} {v : Int} (h : BE p l m i) (hi : i < m.length) (hv : v = GP p (l.getD i 0)) : BE p l (m.set i v) (i + 1) where
 len := by rw [List.length_set]; exact h.len
 lo := fun j hj => by
  rw [bM]
  by_cases e : i = j ∧ i < m.length
  ·rw [if_pos e, hv, e.1]
  ·rw [if_neg e]; exact h.lo j om
 hi := fun j hj => by rw [bM, if_neg om]; exact h.hi j om
theorem BE.skip {p : Nat → Bool} {l m : List Int} {i : Nat} (h : BE p l m i) (hn : ¬ l.getD i 0 ≥ 0) : BE p l m (i + 1) where
 len := h.len
 lo := fun j hj => by
  rcases Nat.lt_or_ge j i with h1 | h1
  ·exact h.lo j h1
  ·obtain rfl : j = i := by omega
   rw [h.hi j (Nat.le_refl _)]
   unfold GP; rw [if_neg om]
 hi := fun j hj => h.hi j om
theorem BE.done {p : Nat → Bool} {l m : List Int} (h : BE p l m l.length) : m = l.map (GP p) := by
 refine List.ext_getElem (by rw [h.len]; simp) fun i h1 h2 => ?_
 have h3 : i < l.length := by rw [← h.len]; exact h1
 have := h.lo i h3
 rw [List.getD_eq_getElem?_getD, List.getElem?_eq_getElem h1, List.getD_eq_getElem?_getD, List.getElem?_eq_getElem h3] at this
 simpa using this
def C5 (p : Nat → Bool) (k : Nat) (nb : List Int) : Prop := nb.length = k ∧ ∀ w, w < k → nb.getD w 0 = Cy p w
open Go Go.AW Go.Proofs
structure Rt (n : ae) (k i : Nat) (O : List Int) : Prop where
 op : ∀ w, w ∈ O ↔ (w ∈ n.cf ∨ w ∈ n.eQ ∨ w = n.freeze ∨ w = n.done) ∨ (∃ j, j < k ∧ 0 ≤ n.data.getD j 0 ∧ w = n.data.getD j 0) ∨ ∃ j, j < i ∧ ¬ dk (n.cells.getD j default).kind ∧ w ∈ (n.cells.getD j default).args
 sz : O.length ≤ 9 + k + 4 * i
theorem Rt.init {n : ae} (hM : VP n) : Rt n 0 0 ([n.cf, n.eQ, [n.freeze, n.done]] : List (List Int)).flatten where
 op := fun w => by simp
 sz := by
  have h1 := hM.wX; have h2 := hM.cU; have h3 := hM.formed.ei
  simp; omega
theorem Rt.no {n : ae} {d k : Nat} {O : List Int} (h : Rt n d k O) (hc : dk (n.cells.getD k default).kind) : Rt n d (k + 1) O where
 op := fun w => by
  rw [h.op w]
  constructor
  ·rintro (h1 | h1 | ⟨i, h1, h2, h3⟩)
   ·exact .inl h1
   ·exact .inr (.inl h1)
   ·exact .inr (.inr ⟨i, om, h2, h3⟩)
  ·rintro (h1 | h1 | ⟨i, h1, h2, h3⟩)
   ·exact .inl h1
   ·exact .inr (.inl h1)
   ·rcases Nat.lt_or_ge i k with h4 | h4
    ·exact .inr (.inr ⟨i, h4, h2, h3⟩)
    ·obtain rfl : i = k := by omega
     exact absurd hc h2
 sz := by have := h.sz; omega
theorem Rt.at {n : ae} {O : List Int} {k : Nat} (e : k = n.data.length) (h : Rt n k 0 O) : Rt n n.data.length 0 O := by subst e; exact h
theorem Rt.done {n : ae} {O : List Int} (h : Rt n n.data.length n.cells.length O) : nK n O := by
 intro w
 rw [h.op w]
 constructor
 ·rintro ((h1 | h1 | h1 | h1) | ⟨j, h1, h2, rfl⟩ | h1)
  ·exact ⟨.inl h1⟩
  ·exact ⟨.inr (.inl h1)⟩
  ·exact ⟨.inr (.inr (.inl h1))⟩
  ·exact ⟨.inr (.inr (.inr (.inl h1)))⟩
  ·exact ⟨.inr (.inr (.inr (.inr (.inl ⟨cL h1, h2⟩))))⟩
  ·exact ⟨.inr (.inr (.inr (.inr (.inr h1))))⟩
 ·rintro ⟨h1 | h1 | h1 | h1 | ⟨h1, h2⟩ | h1⟩
  ·exact .inl (.inl h1)
  ·exact .inl (.inr (.inl h1))
  ·exact .inl (.inr (.inr (.inl h1)))
  ·exact .inl (.inr (.inr (.inr h1)))
  ·obtain ⟨j, hj, rfl⟩ := List.mem_iff_getElem.1 h1
   have e : n.data.getD j 0 = n.data[j] := by rw [List.getD_eq_getElem?_getD, List.getElem?_eq_getElem hj]; rfl
   exact .inr (.inl ⟨j, hj, by rw [e]; exact h2, e.symm⟩)
  ·exact .inr (.inr h1)
theorem nK.at {n : ae} {O : List Int} {k : Nat} (e : k = n.cells.length) (h : Rt n n.data.length k O) : nK n O := by subst e; exact h.done
structure Wn (p : Nat → Bool) (ws : List Int) (k : Nat) (nb wl : List Int) : Prop where
 len : nb.length = ws.length
 num : ∀ w, w < k → nb.getD w 0 = Cy p w
 ws : wl = (BD p k).map (fun i => ws.getD i 0)
theorem Wn.init {p : Nat → Bool} {ws : List Int} : Wn p ws 0 (List.replicate ws.length 0) [] := ⟨by simp, fun w h => by omega, rfl⟩
theorem Wn.no {p : Nat → Bool} {ws nb wl : List Int} {k : Nat} (h : Wn p ws k nb wl) (hk : k < ws.length) (hp : p k = false) : Wn p ws (k + 1) (nb.set k (-1)) wl where
 len := by rw [List.length_set]; exact h.len
 num := fun w hw => by
  have := h.len
  rcases Nat.lt_or_ge w k with h1 | h1
  ·rw [bM, if_neg om]; exact h.num w h1
  ·obtain rfl : w = k := by omega
   rw [bM, if_pos ⟨rfl, om⟩]
   unfold Cy; rw [if_neg (by simp [hp])]
 ws := by rw [s6 hp]; exact h.ws
theorem Wn.Im {p : Nat → Bool} {ws nb wl : List Int} (h : Wn p ws ws.length nb wl) : C5 p ws.length nb := ⟨h.len, h.num⟩
theorem Wn.ao {p : Nat → Bool} {ws nb wl : List Int} (h : Wn p ws ws.length nb wl) : wl = DV p ws 0 := h.ws
theorem C5.at {p : Nat → Bool} {ws nb wl : List Int} {k : Nat} (e : k = ws.length) (h : Wn p ws k nb wl) : C5 p ws.length nb := by subst e; exact h.Im
theorem Wn.at {p : Nat → Bool} {ws nb wl : List Int} {k : Nat} (e : k = ws.length) (h : Wn p ws k nb wl) : wl = DV p ws 0 := by subst e; exact h.ao
def Cn (n : ae) (cE : List Int) (s : List Bool) (i : Nat) : List Cell := ((BD (kc n s) i).map (fun i => n.cells.getD i default)).map (L4 (kw n cE s))
theorem Wn.le {p : Nat → Bool} {ws nb wl : List Int} {k : Nat} (h : Wn p ws k nb wl) : wl.length ≤ k := by rw [h.ws, List.length_map]; exact zU _ _
theorem Cn.no {n : ae} {cE : List Int} {s : List Bool} {i : Nat} (h : kc n s i = false) : Cn n cE s (i + 1) = Cn n cE s i := by unfold Cn; rw [s6 h]
open Go Go.AW Go.Proofs
def rr.kB (a : rr) : List Value := [.string a.name, .int .i64 a.width, .int .i64 a.len, .int .i64 a.kind, .int .i64 a.pZ]
def iY.kB (a : iY) : List Value := [.string a.name, .int .i64 a.width, .bool a.out]
def rr.L5 (a b : rr) : Bool := a.name.toList == b.name.toList && (a.width == b.width && (a.len == b.len && (a.kind == b.kind && a.pZ == b.pZ)))
def iY.L5 (a b : iY) : Bool := a.name.toList == b.name.toList && (a.width == b.width && a.out == b.out)
open Go Go.AW
def BF {α : Type} (e : α → α → Bool) (d : α) (l m : List α) : Prop := l.length = m.length ∧ ∀ j, j < l.length → e (l.getD j d) (m.getD j d) = true
noncomputable instance {α : Type} (e : α → α → Bool) (d : α) (l m : List α) : Decidable (BF e d l m) := Classical.propDecidable _
def xR (a b : Int) : Bool := decide (a = b)
noncomputable def Io (x y : Cell) : Bool := decide (x.kind = y.kind ∧ x.op = y.op ∧ x.out = y.out ∧ x.num = y.num ∧ x.mem = y.mem ∧ BF xR 0 x.args y.args)
structure Ip (a b : ae) : Prop where
 name : a.name.toList = b.name.toList
 aj : BF xR 0 a.aj b.aj
 ins : BF xR 0 a.ins b.ins
 bu : BF rr.L5 default a.bu b.bu
 streams : BF iY.L5 default a.streams b.streams
 cf : BF xR 0 a.cf b.cf
 data : BF xR 0 a.data b.data
 freeze : a.freeze = b.freeze
 done : a.done = b.done
 eQ : BF xR 0 a.eQ b.eQ
 cells : BF Io default a.cells b.cells
noncomputable instance (a b : ae) : Decidable (Ip a b) := Classical.propDecidable _
structure QV (n : ae) : Prop where
 aj : n.aj.length ≤ 35184372088832
 cells : n.cells.length ≤ 35184372088832
 args : ∀ c ∈ n.cells, c.args.length ≤ 35184372088832
 ins : n.ins.length ≤ 35184372088832
 bu : n.bu.length ≤ 35184372088832
 streams : n.streams.length ≤ 35184372088832
 cf : n.cf.length ≤ 35184372088832
 data : n.data.length ≤ 35184372088832
 eQ : n.eQ.length ≤ 35184372088832
open Go Go.AW Go.Proofs
theorem mC.eq {n : ae} {a b : List Int} (hf : b5 n) (ha : mC n a) (hb : mC n b) : a = b := by
 refine List.ext_getElem (by rw [ha.len, hb.len]) fun i h1 h2 => ?_
 have hi : In (i : Int) n.aj.length := ⟨om, by have := ha.len; omega⟩
 have h := hf.unique (ha.Fb _ hi) (hb.Fb _ hi)
 rw [Int.toNat_natCast, List.getD_eq_getElem?_getD, List.getElem?_eq_getElem h1, List.getD_eq_getElem?_getD, List.getElem?_eq_getElem h2] at h
 exact h
structure Wg (p : Nat → Bool) (ws : List Int) (k : Nat) (nb : List Int) (v : Nat) : Prop where
 w : Wn p ws k nb ((BD p k).map (fun i => ws.getD i 0))
 v : v = (BD p k).length
theorem Wg.init {p : Nat → Bool} {ws : List Int} : Wg p ws 0 (List.replicate ws.length 0) 0 := ⟨Wn.init, rfl⟩
theorem Wg.no {p : Nat → Bool} {ws nb : List Int} {k v : Nat} (h : Wg p ws k nb v) (hk : k < ws.length) (hp : p k = false) : Wg p ws (k + 1) (nb.set k (-1)) v := by
 refine ⟨?_, by rw [s6 hp]; exact h.v⟩
 rw [s6 hp]; exact h.w.no hk hp
theorem Wg.le {p : Nat → Bool} {ws nb : List Int} {k v : Nat} (h : Wg p ws k nb v) : v ≤ k := by rw [h.v]; exact zU _ _
theorem Wg.num {p : Nat → Bool} {ws nb : List Int} {k v : Nat} (e : k = ws.length) (h : Wg p ws k nb v) : C5 p ws.length nb := by subst e; exact h.w.Im
section
variable {n : ae} {cE : List Int} {s : List Bool}
end
open Go Go.AW Go.Proofs
def cD (n : Nat) : Nat := if n ≤ 1 then 0 else Nat.log2 (n - 1) + 1
theorem Fe {n k : Nat} (h1 : n ≤ 2 ^ k) (h2 : k = 0 ∨ 2 ^ (k - 1) < n) : cD n = k := by
 unfold cD
 by_cases e : n ≤ 1
 ·rw [if_pos e]
  rcases h2 with h2 | h2
  ·exact h2.symm
  ·have := Nat.one_le_two_pow (n := k - 1); omega
 ·rw [if_neg e]
  rcases h2 with h2 | h2
  ·subst h2; simp at h1; omega
  ·have hk : 0 < k := by
    rcases Nat.eq_zero_or_pos k with h | h
    ·subst h; simp at h1; omega
    ·exact h
   have : Nat.log2 (n - 1) = k - 1 := by
    rw [Nat.log2_eq_iff om]
    rw [show k - 1 + 1 = k by omega]
    omega
   omega
theorem kN {n k : Nat} (h : n ≤ 2 ^ k) : cD n ≤ k := by
 unfold cD
 by_cases e : n ≤ 1
 ·rw [if_pos e]; omega
 ·rw [if_neg e]
  have := (Nat.log2_lt (n := n - 1) (k := k) om).2 om
  omega
def aU (op : Int) (w : Nat) : Int :=
 if op = 9 ∨ op = 10 ∨ op = 11 then 20 else if op = 2 then 40 + 40 * (cD w : Int) else if op = 3 then 50 + 40 * (cD w : Int) else if op = 15 ∨ op = 16 then 30 + 20 * (cD w : Int)
 else if op = 17 ∨ op = 18 then 40 + 40 * (cD (w + 1) : Int) else if op = 19 ∨ op = 20 then 50 + 40 * (cD (w + 1) : Int) else if op = 21 then 50 else if op = 12 ∨ op = 13 then 30 + 40 * (cD w : Int)
 else if op = 14 then 50 + 40 * (cD w : Int) else 0
theorem xS {op : Int} {w : Nat} (h : w ≤ 64) : 0 ≤ aU op w ∧ aU op w ≤ 400 := by
 have h1 : cD w ≤ 6 := kN om
 have h2 : cD (w + 1) ≤ 7 := kN om
 unfold aU
 repeat' split
 all_goals omega
def s7 (n : ae) (c : Cell) : Int :=
 if c.kind = 1 then 0 else if c.kind = 2 then aU c.op (if gK c.op then n.av c 0 else n.wd c.out).toNat else if c.kind = 3 then 20 + 20 * (cD (c.args.length / 2) : Int) else 30
theorem Ff {n : ae} {c : Cell} (hw : ∀ w ∈ n.aj, cw w) (ha : c.args.length ≤ 200) : 0 ≤ s7 n c ∧ s7 n c ≤ 400 := by
 have uP : ∀ w, (n.wd w).toNat ≤ 64 := fun w => by
  unfold ae.wd
  rw [List.getD_eq_getElem?_getD]
  cases h : n.aj[w.toNat]? with
  | none => simp
  | some v =>
   have := hw v (List.mem_of_getElem? h)
   unfold cw at this
   simp only [Option.getD_some]; omega
 have hl : cD (c.args.length / 2) ≤ 7 := kN om
 unfold s7
 split
 ·omega
 split
 ·refine xS ?_
  split
  ·exact uP _
  ·exact uP _
 split
 ·omega
 ·omega
open Go Go.AW
theorem o6 : ∀ n : Nat, n ≤ 2 ^ cD n := fun n => by
 unfold cD
 by_cases h : n ≤ 1
 ·rw [if_pos h]; simpa using h
 ·rw [if_neg h]
  have := @Nat.lt_log2_self (n - 1)
  omega
theorem Fg {n : Nat} (h : 2 ≤ n) : 2 ^ (cD n - 1) < n ∧ 1 ≤ cD n := by
 unfold cD
 rw [if_neg om]
 have := Nat.log2_self_le (n := n - 1) om
 rw [Nat.add_sub_cancel]; omega
theorem nM {m : Nat} (h : 2 ≤ m) : cD ((m + 1) / 2) + 1 = cD m := by
 have h1 := o6 m
 obtain ⟨h2, h3⟩ := Fg h
 obtain ⟨k, hk⟩ : ∃ k, cD m = k + 1 := ⟨cD m - 1, om⟩
 rw [hk] at h1 h2 ⊢
 rw [Nat.add_sub_cancel] at h2
 rw [Nat.pow_succ] at h1
 have : cD ((m + 1) / 2) = k := by
  refine Fe om ?_
  rcases Nat.eq_zero_or_pos k with h4 | h4
  ·exact .inl h4
  ·refine .inr ?_
   obtain ⟨j, rfl⟩ : ∃ j, k = j + 1 := ⟨k - 1, om⟩
   rw [Nat.add_sub_cancel]
   rw [Nat.pow_succ] at h2
   omega
 omega
theorem lH {a b : Nat} (h : a ≤ b) : cD a ≤ cD b := kN (Nat.le_trans h (o6 b))
theorem wY {n : Nat} (h : n ≤ 1) : cD n = 0 := by unfold cD; rw [if_pos h]
def iL (f : Nat → Bool) : Nat → Bool
 | 0 => false
 | n + 1 => f n || iL f n
theorem kl {f : Nat → Bool} : ∀ {n}, iL f n = true ↔ ∃ k, k < n ∧ f k = true
 | 0 => by simp [iL]
 | n + 1 => by
  simp only [iL, Bool.or_eq_true, kl (n := n)]
  constructor
  ·rintro (h | ⟨k, hk, h⟩)
   ·exact ⟨n, om, h⟩
   ·exact ⟨k, om, h⟩
  ·rintro ⟨k, hk, h⟩
   rcases Nat.lt_or_ge k n with h1 | h1
   ·exact .inr ⟨k, h1, h⟩
   ·obtain rfl : k = n := by omega
    exact .inl h
def qE (f : Nat → Bool) (m k : Nat) : Bool := if 2 * k + 1 < m then f (2 * k) || f (2 * k + 1) else f (2 * k)
theorem rX {f : Nat → Bool} {m : Nat} : iL (qE f m) ((m + 1) / 2) = iL f m := by
 apply Bool.eq_iff_iff.2
 rw [kl, kl]
 constructor
 ·rintro ⟨k, hk, h⟩
  unfold qE at h
  by_cases h1 : 2 * k + 1 < m
  ·rw [if_pos h1, Bool.or_eq_true] at h
   rcases h with h | h
   ·exact ⟨_, om, h⟩
   ·exact ⟨_, h1, h⟩
  ·rw [if_neg h1] at h; exact ⟨_, om, h⟩
 ·rintro ⟨k, hk, h⟩
  refine ⟨k / 2, om, ?_⟩
  unfold qE
  by_cases h1 : 2 * (k / 2) + 1 < m
  ·rw [if_pos h1, Bool.or_eq_true]
   rcases (show 2 * (k / 2) = k ∨ 2 * (k / 2) + 1 = k by omega) with h2 | h2
   ·rw [h2]; exact .inl h
   ·rw [h2]; exact .inr h
  ·rw [if_neg h1, show 2 * (k / 2) = k by omega]; exact h
def qF (G P : Nat → Bool) (m k : Nat) : Bool := if 2 * k + 1 < m then G (2 * k + 1) || (P (2 * k + 1) && G (2 * k)) else G (2 * k)
def qG (P : Nat → Bool) (m k : Nat) : Bool := if 2 * k + 1 < m then P (2 * k + 1) && P (2 * k) else P (2 * k)
theorem o7 {G P : Nat → Bool} {m : Nat} {z : Bool} : ∀ k, 2 * k ≤ m → ca (qF G P m) (qG P m) 0 k z = ca G P 0 (2 * k) z
 | 0, _ => rfl
 | k + 1, h => by
  rw [ca, o7 k om, show 2 * (k + 1) = 2 * k + 1 + 1 by omega, ca, ca]
  simp only [Nat.zero_add, qF, qG]
  rw [if_pos om, if_pos om]
  cases G (2 * k + 1) <;> cases P (2 * k + 1) <;> cases G (2 * k) <;> cases P (2 * k) <;> cases ca G P 0 (2 * k) z <;> rfl
theorem wZ {G P : Nat → Bool} {m : Nat} {z : Bool} : ca (qF G P m) (qG P m) 0 ((m + 1) / 2) z = ca G P 0 m z := by
 rcases (show 2 * ((m + 1) / 2) = m ∨ 2 * ((m + 1) / 2) = m + 1 by omega) with h | h
 ·rw [o7 _ om, h]
 ·obtain ⟨k, hk⟩ : ∃ k, (m + 1) / 2 = k + 1 := ⟨(m + 1) / 2 - 1, om⟩
  rw [hk, ca, o7 k om]
  have h1 : m = 2 * k + 1 := by omega
  subst h1
  rw [ca]
  simp only [Nat.zero_add, qF, qG]
  rw [if_neg om, if_neg om]
def DW {w : Nat} (x y : BitVec w) (i : Nat) : Bool := !x.getLsbD i && y.getLsbD i
def Fh {w : Nat} (x y : BitVec w) (i : Nat) : Bool := !(x.getLsbD i ^^ y.getLsbD i)
theorem DX {w : Nat} {x y : BitVec w} : ∀ n, ca (DW x y) (Fh x y) 0 n false = decide (x.toNat % 2 ^ n < y.toNat % 2 ^ n)
 | 0 => by simp [ca, Nat.mod_one]
 | n + 1 => by
  rw [ca, DX n, Nat.mod_pow_succ, Nat.mod_pow_succ]
  have h1 := Nat.mod_lt x.toNat (Nat.two_pow_pos n)
  have h2 := Nat.mod_lt y.toNat (Nat.two_pow_pos n)
  simp only [Nat.zero_add, DW, Fh, BitVec.getLsbD, Nat.testBit_eq_decide_div_mod_eq]
  rcases Nat.mod_two_eq_zero_or_one (x.toNat / 2 ^ n) with h3 | h3 <;> rcases Nat.mod_two_eq_zero_or_one (y.toNat / 2 ^ n) with h4 | h4 <;> rw [h3, h4] <;> simp <;> omega
theorem zV {w : Nat} {x y : BitVec w} : ca (DW x y) (Fh x y) 0 w false = x.ult y := by
 rw [DX, Nat.mod_eq_of_lt x.isLt, Nat.mod_eq_of_lt y.isLt]; rfl
def zW {w : Nat} (x y : BitVec w) (i : Nat) : Bool := if i + 1 = w then !y.getLsbD i && x.getLsbD i else DW x y i
theorem Fi {w : Nat} {x y : BitVec w} (h : 0 < w) : ca (zW x y) (Fh x y) 0 w false = x.slt y := by
 obtain ⟨n, rfl⟩ : ∃ n, w = n + 1 := ⟨w - 1, om⟩
 have h1 : ca (zW x y) (Fh x y) 0 n false = ca (DW x y) (Fh x y) 0 n false := nJ (fun i hi => by unfold zW; rw [if_neg om]) (fun _ _ => rfl)
 have h2 := zV (x := x) (y := y)
 rw [ca] at h2 ⊢
 rw [h1, BitVec.slt_eq_ult, ← h2, BitVec.msb_eq_getLsbD_last, BitVec.msb_eq_getLsbD_last]
 simp only [Nat.zero_add, zW, if_true, DW, Fh, Nat.add_sub_cancel]
 cases x.getLsbD n <;> cases y.getLsbD n <;> simp
theorem Fj {w : Nat} {x y : BitVec w} : iL (fun i => x.getLsbD i ^^ y.getLsbD i) w = decide (x ≠ y) := by
 apply Bool.eq_iff_iff.2
 rw [kl, decide_eq_true_iff]
 constructor
 ·rintro ⟨k, _, h⟩ rfl
  simp at h
 ·intro h
  apply Classical.byContradiction
  intro hn
  refine h (BitVec.eq_of_getLsbD_eq fun i hi => ?_)
  apply Classical.byContradiction
  intro h1
  refine hn ⟨i, hi, ?_⟩
  cases h2 : x.getLsbD i <;> cases h3 : y.getLsbD i <;> simp_all
open Go Go.AW
def p5 (left : Bool) (w : Nat) (a : Nat → Bool) (fill : Bool) (s i : Nat) : Bool :=
 if left then (if s ≤ i then a (i - s) else fill) else (if i + s < w then a (i + s) else fill)
def Iq (left : Bool) (k i : Nat) : Int := if left then (i : Int) - 2 ^ k else (i : Int) + 2 ^ k
theorem zX {left : Bool} {w : Nat} {a : Nat → Bool} {fill : Bool} {i : Nat} (h : i < w) : p5 left w a fill 0 i = a i := by
 unfold p5
 cases left
 ·simp only [Bool.false_eq_true, if_false]; rw [if_pos om]; rfl
 ·simp only [if_true]; rw [if_pos om]; rfl
theorem zY {left : Bool} {w : Nat} {a : Nat → Bool} {fill : Bool} {s i p : Nat} (h : i < w) :
  p5 left w a fill (s + p) i = (if left then (if p ≤ i then p5 left w a fill s (i - p) else fill) else (if i + p < w then p5 left w a fill s (i + p) else fill)) := by
 unfold p5
 cases left
 ·simp only [Bool.false_eq_true, if_false]
  by_cases h1 : i + p < w
  ·rw [if_pos h1]
   by_cases h2 : i + p + s < w
   ·rw [if_pos om, if_pos h2, show i + (s + p) = i + p + s by omega]
   ·rw [if_neg om, if_neg h2]
  ·rw [if_neg h1, if_neg om]
 ·simp only [if_true]
  by_cases h1 : p ≤ i
  ·rw [if_pos h1]
   by_cases h2 : s ≤ i - p
   ·rw [if_pos om, if_pos h2, show i - (s + p) = i - p - s by omega]
   ·rw [if_neg om, if_neg h2]
  ·rw [if_neg h1, if_neg om]
theorem zZ {w : Nat} {b : BitVec w} {k : Nat} : b.toNat % 2 ^ (k + 1) = b.toNat % 2 ^ k + (if b.getLsbD k then 2 ^ k else 0) := by
 rw [Nat.mod_pow_succ, BitVec.getLsbD, Nat.testBit_eq_decide_div_mod_eq]
 rcases Nat.mod_two_eq_zero_or_one (b.toNat / 2 ^ k) with h | h <;> rw [h] <;> simp
theorem v3 {w st : Nat} {b : BitVec w} (h : iL (fun j => b.getLsbD (st + j)) (w - st) = false) : b.toNat % 2 ^ st = b.toNat := by
 refine Nat.mod_eq_of_lt (Nat.lt_pow_two_of_testBit _ fun i hi => ?_)
 rcases Nat.lt_or_ge i w with h1 | h1
 ·apply Classical.byContradiction
  intro hn
  have h2 : iL (fun j => b.getLsbD (st + j)) (w - st) = true := kl.2 ⟨i - st, om, by
   show b.getLsbD (st + (i - st)) = true
   rw [show st + (i - st) = i by omega]
   simpa [BitVec.getLsbD] using hn⟩
  rw [h] at h2; cases h2
 ·exact Nat.testBit_lt_two_pow (Nat.lt_of_lt_of_le b.isLt (Nat.pow_le_pow_right om h1))
theorem s8 {w st : Nat} {b : BitVec w} (h : iL (fun j => b.getLsbD (st + j)) (w - st) = true) (hw : w ≤ 2 ^ st) : w ≤ b.toNat := by
 obtain ⟨k, _, hk⟩ := kl.1 h
 have h1 : 2 ^ (st + k) ≤ b.toNat := Nat.ge_two_pow_of_testBit hk
 have h2 : 2 ^ st ≤ 2 ^ (st + k) := Nat.pow_le_pow_right om om
 omega
theorem C6 {w st i : Nat} {a b : BitVec w} (hw : w ≤ 2 ^ st) (h : i < w) :
  (a <<< b.toNat).getLsbD i = ((!iL (fun j => b.getLsbD (st + j)) (w - st)) && p5 true w a.getLsbD false (b.toNat % 2 ^ st) i) := by
 cases hf : iL (fun j => b.getLsbD (st + j)) (w - st) with
 | true =>
  have := s8 hf hw
  rw [BitVec.getLsbD_shiftLeft]
  simp; omega
 | false =>
  rw [v3 hf, BitVec.getLsbD_shiftLeft]
  unfold p5
  rw [if_pos rfl]
  by_cases h1 : b.toNat ≤ i
  ·rw [if_pos h1]; simp [h]; omega
  ·rw [if_neg h1]; simp; omega
theorem C7 {w st i : Nat} {a b : BitVec w} (hw : w ≤ 2 ^ st) (_ : i < w) :
  (a >>> b.toNat).getLsbD i = ((!iL (fun j => b.getLsbD (st + j)) (w - st)) && p5 false w a.getLsbD false (b.toNat % 2 ^ st) i) := by
 rw [BitVec.getLsbD_ushiftRight]
 cases hf : iL (fun j => b.getLsbD (st + j)) (w - st) with
 | true =>
  have := s8 hf hw
  rw [BitVec.getLsbD_of_ge _ _ om]; rfl
 | false =>
  rw [v3 hf]
  unfold p5
  simp only [Bool.false_eq_true, if_false]
  by_cases h1 : i + b.toNat < w
  ·rw [if_pos h1, Nat.add_comm]; rfl
  ·rw [if_neg h1, BitVec.getLsbD_of_ge _ _ om]; rfl
theorem C8 {w st i : Nat} {a b : BitVec w} (hw : w ≤ 2 ^ st) (h : i < w) :
  (a.sshiftRight b.toNat).getLsbD i = (if iL (fun j => b.getLsbD (st + j)) (w - st) then a.msb else p5 false w a.getLsbD a.msb (b.toNat % 2 ^ st) i) := by
 rw [BitVec.getLsbD_sshiftRight]
 cases hf : iL (fun j => b.getLsbD (st + j)) (w - st) with
 | true =>
  have := s8 hf hw
  rw [if_pos rfl, if_neg om]
  simp; omega
 | false =>
  rw [v3 hf]
  unfold p5
  simp only [Bool.false_eq_true, if_false]
  by_cases h1 : i + b.toNat < w
  ·rw [if_pos h1, if_pos om, Nat.add_comm]; simp; omega
  ·rw [if_neg h1, if_neg om]; simp; omega
open Go Go.AW
section
variable {c : Int} {g0 gl : List Gate} {a out : List Int} {f : Nat → List Bool → Bool} {t : Int} {i n : Nat}
structure tW (c : Int) (g0 gl : List Gate) (out : List Int) (h : Nat → List Bool → Bool) (u : Int) (i : Nat) : Prop where
 ext : Ext g0 gl
 len : gl.length = g0.length + i
 ol : out.length = i
 ws : Ws c gl out h u
theorem tW.init {h : Nat → List Bool → Bool} {u : Int} (hg : Good g0) : tW c g0 g0 [] h u 0 := ⟨.refl hg, rfl, rfl, .nil⟩
theorem tW.put {h : Nat → List Bool → Bool} {u : Int} {q : Gate} (k : tW c g0 gl out h u i) (he : Ext gl (gl ++ [q])) (hw : Wr c (gl ++ [q]) (gl.length : Int) (h i) u) : tW c g0 (gl ++ [q]) (out ++ [(gl.length : Int)]) h u (i + 1) :=
 ⟨k.ext.trans he, by rw [List.length_append, k.len]; rfl, by rw [List.length_append, k.ol]; rfl, (k.ws.ext he).snoc (by rw [k.ol]; exact hw)⟩
theorem tW.not (k : tW c g0 gl out (fun k ins => !f k ins) (t + 10) i) (ha : Ws c g0 a f t) (hi : i < a.length) :
  tW c g0 (gl ++ [⟨4, a.getD i 0, 0⟩]) (out ++ [(gl.length : Int)]) (fun k ins => !f k ins) (t + 10) (i + 1) := by
 have h1 := (ha.bit i hi).ext k.ext
 exact k.put (Ext.not k.ext.dM h1) (h1.not (Int.le_refl _))
theorem tW.two {k : Int} {b : List Int} {h : Nat → List Bool → Bool} {e : Nat → List Bool → Bool} {u : Int} (m : tW c g0 gl out e u i) (hk : 5 ≤ k ∧ k ≤ 7) (ha : Wr c g0 (a.getD i 0) (f i) t) (hb : Wr c g0 (b.getD i 0) (h i) t) (hu : t + 20 ≤ u)
  (he : ∀ ins, e i ins = if k = 5 then (f i ins && h i ins) else if k = 6 then (f i ins || h i ins) else (f i ins ^^ h i ins)) :
  tW c g0 (gl ++ [⟨k, a.getD i 0, b.getD i 0⟩]) (out ++ [(gl.length : Int)]) e u (i + 1) := by
 have h1 := ha.ext m.ext
 have h2 := hb.ext m.ext
 refine m.put (Ext.two m.ext.dM hk h1 h2) ?_
 rcases (show k = 5 ∨ k = 6 ∨ k = 7 by omega) with rfl | rfl | rfl
 ·exact (h1.and h2 hu hu).as fun ins => by rw [he]; rfl
 ·exact (h1.or h2 hu hu).as fun ins => by rw [he]; rfl
 ·exact (h1.xor h2 hu hu).as fun ins => by rw [he]; rfl
structure o8 (c : Int) (g0 : List Gate) (f : Nat → List Bool → Bool) (n : Nat) (t : Int) (gl : List Gate) (l : List Int) : Prop where
 ext : Ext g0 gl
 len : gl.length + l.length ≤ g0.length + n
 lo : 1 ≤ l.length
 ex : ∃ (f' : Nat → List Bool → Bool) (t' : Int), Ws c gl l f' t' ∧ (∀ ins, iL (fun k => f' k ins) l.length = iL (fun k => f k ins) n) ∧ t' + 20 * (cD l.length : Int) ≤ t + 20 * (cD n : Int)
theorem o8.init (hg : Good g0) (ha : Ws c g0 a f t) (h : 1 ≤ a.length) : o8 c g0 f a.length t g0 a := ⟨.refl hg, Nat.le_refl _, h, f, t, ha, fun _ => rfl, Int.le_refl _⟩
theorem o8.done {l : List Int} (h : o8 c g0 f n t gl l) (h1 : l.length ≤ 1) : Wr c gl (l.getD 0 0) (fun ins => iL (fun k => f k ins) n) (t + 20 * (cD n : Int)) := by
 obtain ⟨f', t', hw, he, ht⟩ := h.ex
 have hl : l.length = 1 := by have := h.lo; omega
 rw [wY h1] at ht
 refine ((hw.bit 0 om).late om).as fun ins => ?_
 rw [← he ins, hl]; simp [iL]
structure qH (c : Int) (g1 : List Gate) (l : List Int) (gl : List Gate) (next : List Int) (i : Nat) : Prop where
 ext : Ext g1 gl
 even : i % 2 = 0
 hi : i ≤ l.length
 nl : next.length = i / 2
 len : gl.length = g1.length + i / 2
 ws : ∀ f t, Ws c g1 l f t → Ws c gl next (fun k ins => qE (fun k => f k ins) l.length k) (t + 20)
theorem qH.init {g1 : List Gate} {l : List Int} (hg : Good g1) : qH c g1 l g1 [] 0 := ⟨.refl hg, rfl, om, rfl, rfl, fun _ _ _ => .nil⟩
theorem qH.step {g1 : List Gate} {l next : List Int} (h : qH c g1 l gl next i) (hl : i + 1 < l.length) (hw : ∃ f t, Ws c g1 l f t) :
  qH c g1 l (gl ++ [⟨6, l.getD i 0, l.getD (i + 1) 0⟩]) (next ++ [(gl.length : Int)]) (i + 2) := by
 have he := h.even
 obtain ⟨f0, t0, h0⟩ := hw
 have hx : Ext gl (gl ++ [⟨6, l.getD i 0, l.getD (i + 1) 0⟩]) := Ext.two h.ext.dM ag ((h0.bit i om).ext h.ext) ((h0.bit (i + 1) hl).ext h.ext)
 refine ⟨h.ext.trans hx, om, om, by rw [List.length_append, h.nl, List.length_singleton]; omega, by rw [List.length_append, h.len, List.length_singleton]; omega, fun f t hf => ?_⟩
 refine ((h.ws f t hf).ext hx).snoc ?_
 refine (((hf.bit i om).ext h.ext).or ((hf.bit (i + 1) hl).ext h.ext) (Int.le_refl _) (Int.le_refl _)).as fun ins => ?_
 rw [h.nl]; unfold qE
 rw [show 2 * (i / 2) = i by omega, if_pos hl]
theorem qH.QW {g1 : List Gate} {l next : List Int} (h : qH c g1 l gl next i) (hl : ¬ i + 1 < l.length) (ho : l.length % 2 = 1) (f : Nat → List Bool → Bool) (t : Int) (hf : Ws c g1 l f t) :
  Ws c gl (next ++ [l.getD (l.length - 1) 0]) (fun k ins => qE (fun k => f k ins) l.length k) (t + 20) := by
 have he := h.even; have hh := h.hi
 refine (h.ws f t hf).snoc ?_
 refine (((hf.bit (l.length - 1) om).ext h.ext).late om).as fun ins => ?_
 rw [h.nl]; unfold qE
 rw [show 2 * (i / 2) = l.length - 1 by omega, if_neg om]
theorem o8.next {l next : List Int} {g1 : List Gate} (h : o8 c g0 f n t g1 l) (hj : qH c g1 l gl next i) (hl : ¬ i + 1 < l.length) (h2 : 1 < l.length) (ho : ¬ l.length % 2 = 1) : o8 c g0 f n t gl next := by
 have he := hj.even; have hh := hj.hi; have hn := hj.nl; have hg := hj.len; have Ir := h.len
 obtain ⟨f', t', hw, hv, ht⟩ := h.ex
 have v5 : next.length = (l.length + 1) / 2 := by omega
 have vc := nM (m := l.length) om
 refine ⟨h.ext.trans hj.ext, om, om, _, _, hj.ws f' t' hw, fun ins => ?_, ?_⟩
 ·rw [v5, rX]; exact hv ins
 ·rw [v5]; omega
theorem o8.Is {l next : List Int} {g1 : List Gate} (h : o8 c g0 f n t g1 l) (hj : qH c g1 l gl next i) (hl : ¬ i + 1 < l.length) (h2 : 1 < l.length) (ho : l.length % 2 = 1) : o8 c g0 f n t gl (next ++ [l.getD (l.length - 1) 0]) := by
 have he := hj.even; have hh := hj.hi; have hn := hj.nl; have hg := hj.len; have Ir := h.len
 obtain ⟨f', t', hw, hv, ht⟩ := h.ex
 have v5 : (next ++ [l.getD (l.length - 1) 0]).length = (l.length + 1) / 2 := by rw [List.length_append, hn]; simp; omega
 have vc := nM (m := l.length) om
 refine ⟨h.ext.trans hj.ext, by rw [v5]; omega, by rw [v5]; omega, _, _, hj.QW hl ho f' t' hw, fun ins => ?_, ?_⟩
 ·rw [v5, rX]; exact hv ins
 ·rw [v5]; omega
end
def v7 (l : List Gate) (s v y n : Int) : List Gate := l ++ [⟨5, s, y⟩, ⟨5, v, n⟩, ⟨6, (l.length : Int), (l.length : Int) + 1⟩]
theorem Fk {l : List Gate} {s v y n : Int} : v7 l s v y n = ((l ++ [⟨5, s, y⟩]) ++ [⟨5, v, n⟩]) ++ [⟨6, (l.length : Int), (l.length : Int) + 1⟩] := by simp [v7]
theorem C9 {l : List Gate} {s v y n : Int} : ((l ++ [⟨5, s, y⟩]) ++ [⟨5, v, n⟩]) ++ [⟨6, (l.length : Int), (((l ++ [(⟨5, s, y⟩ : Gate)]).length : Nat) : Int)⟩] = v7 l s v y n := by simp [v7]
theorem xa {l : List Gate} {s v y n : Int} : (v7 l s v y n).length = l.length + 3 := by simp [v7]
section
variable {c : Int} {l : List Gate} {s v y n : Int} {fs fy fn : List Bool → Bool} {ts tv ty tn u : Int}
theorem Aa (hg : Good l) (hs : Wr c l s fs ts) (hv : Wr c l v (fun ins => !fs ins) tv) (hy : Wr c l y fy ty) (hn : Wr c l n fn tn) (h1 : ts + 40 ≤ u) (h2 : tv + 40 ≤ u) (h3 : ty + 40 ≤ u) (h4 : tn + 40 ≤ u) :
  Ext l (v7 l s v y n) ∧ Wr c (v7 l s v y n) ((l.length : Int) + 2) (fun ins => if fs ins then fy ins else fn ins) u := by
 have e1 : Ext l (l ++ [⟨5, s, y⟩]) := Ext.two hg ag hs hy
 have w1 : Wr c (l ++ [⟨5, s, y⟩]) (l.length : Int) (fun ins => fs ins && fy ins) (u - 20) := hs.and hy om om
 have e2 : Ext (l ++ [⟨5, s, y⟩]) ((l ++ [⟨5, s, y⟩]) ++ [⟨5, v, n⟩]) := Ext.two e1.dM ag (hv.ext e1) (hn.ext e1)
 have w2 : Wr c ((l ++ [⟨5, s, y⟩]) ++ [⟨5, v, n⟩]) (((l ++ [(⟨5, s, y⟩ : Gate)]).length : Nat) : Int) (fun ins => !fs ins && fn ins) (u - 20) := (hv.ext e1).and (hn.ext e1) om om
 have OY := w1.ext e2
 rw [List.length_append, List.length_singleton, Int.natCast_add, Int.natCast_one] at w2
 have e3 : Ext ((l ++ [⟨5, s, y⟩]) ++ [⟨5, v, n⟩]) (((l ++ [⟨5, s, y⟩]) ++ [⟨5, v, n⟩]) ++ [⟨6, (l.length : Int), (l.length : Int) + 1⟩]) := Ext.two e2.dM ag OY w2
 have w3 := OY.or (u := u) w2 om om
 rw [← Fk] at e3 w3
 refine ⟨(e1.trans e2).trans e3, ?_⟩
 have hl : ((((l ++ [(⟨5, s, y⟩ : Gate)]) ++ [(⟨5, v, n⟩ : Gate)]).length : Nat) : Int) = (l.length : Int) + 2 := by simp [Int.add_assoc]
 rw [hl] at w3
 exact w3.as fun ins => by cases fs ins <;> simp
end
open Go Go.AW
structure aP where
 g : Int
 p : Int
instance : Inhabited aP := ⟨⟨0, 0⟩⟩
def aP.row (x : aP) : List X := [.v (.int .i64 x.g), .v (.int .i64 x.p)]
theorem aP.cN (x : aP) : X.bj x.row = true := rfl
structure Wp (c : Int) (l : List Gate) (ps : List aP) (G P : Nat → List Bool → Bool) (t : Int) : Prop where
 bit : ∀ k, k < ps.length → Wr c l (ps.getD k default).g (G k) t ∧ Wr c l (ps.getD k default).p (P k) t
section
variable {c : Int} {g0 g1 gl : List Gate} {ps out next : List aP} {G P : Nat → List Bool → Bool} {t : Int} {i j n d : Nat}
theorem Wp.nil : Wp c gl [] G P t := ⟨fun k hk => by simp at hk⟩
theorem Wp.ext {l' : List Gate} (h : Wp c gl ps G P t) (he : Ext gl l') : Wp c l' ps G P t := ⟨fun k hk => ⟨(h.bit k hk).1.ext he, (h.bit k hk).2.ext he⟩⟩
theorem Wp.snoc {x y : Int} (h : Wp c gl ps G P t) (hx : Wr c gl x (G ps.length) t) (hy : Wr c gl y (P ps.length) t) : Wp c gl (ps ++ [⟨x, y⟩]) G P t := ⟨fun k hk => by
 rcases Nat.lt_or_ge k ps.length with h1 | h1
 ·rw [List.getD_eq_getElem?_getD, List.getElem?_append_left h1, ← List.getD_eq_getElem?_getD]; exact h.bit k h1
 ·have : k = ps.length := by simp at hk; omega
  subst this; rw [jg rfl]; exact ⟨hx, hy⟩⟩
theorem Wp.take {k : Nat} (h : Wp c gl ps G P t) : Wp c gl (ps.take k) G P t := ⟨fun i hi => by
 rw [List.length_take] at hi
 rw [List.getD_eq_getElem?_getD, List.getElem?_take_of_lt om, ← List.getD_eq_getElem?_getD]; exact h.bit i om⟩
structure nO (c : Int) (g0 : List Gate) (G P : Nat → List Bool → Bool) (t : Int) (n : Nat) (gl : List Gate) (out : List aP) (d j : Nat) : Prop where
 ext : Ext g0 gl
 len : gl.length ≤ g0.length + 3 * n * j
 ol : out.length = n
 dj : d = 2 ^ j
 jl : j ≤ cD n
 gn : ∀ i, i < n → Wr c gl (out.getD i default).g (fun ins => gen (fun k => G k ins) (fun k => P k ins) d i) (t + 40 * (j : Int))
 pr : ∀ i, i < n → d ≤ i → Wr c gl (out.getD i default).p (fun ins => pp (fun k => P k ins) (i + 1 - d) d) (t + 40 * (j : Int))
theorem nO.init (hg : Good g0) (h : Wp c g0 ps G P t) : nO c g0 G P t ps.length g0 ps 1 0 :=
 ⟨.refl hg, om, rfl, rfl, om, fun i hi => ((h.bit i hi).1.late om).as fun ins => (Ct (G := fun k => G k ins) (P := fun k => P k ins)).symm, fun i hi _ => ((h.bit i hi).2.late om).as fun ins => by simp [pp]⟩
theorem nO.done (h : nO c g0 G P t n gl out d j) (hd : ¬ d < n) {i : Nat} (hi : i < n) : Wr c gl (out.getD i default).g (fun ins => ca (fun k => G k ins) (fun k => P k ins) 0 (i + 1) false) (t + 40 * (cD n : Int)) := by
 have := h.jl
 exact ((h.gn i hi).late om).as fun ins => s4 om
theorem nO.Fl (h : nO c g0 G P t n gl out d j) : 1 ≤ d := by rw [h.dj]; exact Nat.one_le_two_pow
structure nP (c : Int) (g1 : List Gate) (G P : Nat → List Bool → Bool) (t : Int) (n : Nat) (out : List aP) (d j : Nat) (gl : List Gate) (next : List aP) (i : Nat) : Prop where
 ext : Ext g1 gl
 lo : d ≤ i
 hi : i ≤ n ∨ i = d
 len : gl.length ≤ g1.length + 3 * (i - d)
 nl : next.length = n
 gn : ∀ k, k < n → k < i → Wr c gl (next.getD k default).g (fun ins => gen (fun k => G k ins) (fun k => P k ins) (2 * d) k) (t + 40 * ((j : Int) + 1))
 pr : ∀ k, k < n → k < i → 2 * d ≤ k → Wr c gl (next.getD k default).p (fun ins => pp (fun k => P k ins) (k + 1 - 2 * d) (2 * d)) (t + 40 * ((j : Int) + 1))
 rest : ∀ k, k < n → i ≤ k → next.getD k default = out.getD k default
theorem nP.init (h : nO c g0 G P t n g1 out d j) : nP c g1 G P t n out d j g1 out d :=
 ⟨.refl h.ext.dM, Nat.le_refl _, .inr rfl, om, h.ol, fun k hk hd => ((h.gn k hk).late om).as fun ins => (zM hd).symm, fun k _ h1 h2 => by omega, fun _ _ _ => rfl⟩
theorem getD_set_ne {α : Type} {l : List α} {i k : Nat} {x e : α} (h : i ≠ k) : (l.set i x).getD k e = l.getD k e := by
 rw [List.getD_eq_getElem?_getD, List.getElem?_set_ne h, ← List.getD_eq_getElem?_getD]
theorem iw {α : Type} {l : List α} {i : Nat} {x e : α} (h : i < l.length) : (l.set i x).getD i e = x := by
 rw [List.getD_eq_getElem?_getD, List.getElem?_set_self h]; rfl
theorem nP.L6 (hI : nO c g0 G P t n g1 out d j) (h : nP c g1 G P t n out d j gl next i) (hi : i < n) (hn : ¬ d ≤ i - d) {q : Int} :
  nP c g1 G P t n out d j ((gl ++ [⟨5, (out.getD i default).p, (out.getD (i - d) default).g⟩]) ++ [⟨6, (out.getD i default).g, (gl.length : Int)⟩]) (next.set i ⟨((gl ++ [(⟨5, (out.getD i default).p, (out.getD (i - d) default).g⟩ : Gate)]).length : Int), q⟩) (i + 1) := by
 have x4 := h.lo; have mJ := h.len; have wG := h.nl; have hd := hI.Fl
 have wp := (hI.pr i hi x4).ext h.ext
 have wg := (hI.gn i hi).ext h.ext
 have wd := (hI.gn (i - d) om).ext h.ext
 have e1 : Ext gl (gl ++ [⟨5, (out.getD i default).p, (out.getD (i - d) default).g⟩]) := Ext.two h.ext.dM ag wp wd
 have w1 := wp.and (u := t + 40 * (j : Int) + 20) wd om om
 have e2 := Ext.two (k := 6) e1.dM ag (wg.ext e1) w1
 have w2 := (wg.ext e1).or (u := t + 40 * ((j : Int) + 1)) w1 om om
 have ex := e1.trans e2
 refine ⟨h.ext.trans ex, om, om, by simp only [List.length_append, List.length_singleton]; omega, by rw [List.length_set]; exact wG, fun k hk rq => ?_, fun k hk rq h2 => ?_, fun k hk rq => ?_⟩
 ·rcases Nat.lt_or_ge k i with h1 | h1
  ·rw [getD_set_ne om]; exact (h.gn k hk h1).ext ex
  ·obtain rfl : k = i := by omega
   rw [iw om]
   exact w2.as fun ins => (wU x4).symm
 ·rcases Nat.lt_or_ge k i with h1 | h1
  ·rw [getD_set_ne om]; exact (h.pr k hk h1 h2).ext ex
  ·omega
 ·rw [getD_set_ne om]; exact h.rest k hk om
theorem nP.QX (hI : nO c g0 G P t n g1 out d j) (h : nP c g1 G P t n out d j gl next i) (hi : i < n) (hn : d ≤ i - d) {g2 : List Gate}
  (OZ : g2 = (gl ++ [⟨5, (out.getD i default).p, (out.getD (i - d) default).g⟩]) ++ [⟨6, (out.getD i default).g, (gl.length : Int)⟩]) :
  nP c g1 G P t n out d j (g2 ++ [⟨5, (out.getD i default).p, (out.getD (i - d) default).p⟩]) (next.set i ⟨((gl ++ [(⟨5, (out.getD i default).p, (out.getD (i - d) default).g⟩ : Gate)]).length : Int), (g2.length : Int)⟩) (i + 1) := by
 have x4 := h.lo; have mJ := h.len; have wG := h.nl; have hd := hI.Fl
 have wp := (hI.pr i hi x4).ext h.ext
 have wg := (hI.gn i hi).ext h.ext
 have wd := (hI.gn (i - d) om).ext h.ext
 have wq := (hI.pr (i - d) om hn).ext h.ext
 have e1 : Ext gl (gl ++ [⟨5, (out.getD i default).p, (out.getD (i - d) default).g⟩]) := Ext.two h.ext.dM ag wp wd
 have w1 := wp.and (u := t + 40 * (j : Int) + 20) wd om om
 have e2 := Ext.two (k := 6) e1.dM ag (wg.ext e1) w1
 have w2 := (wg.ext e1).or (u := t + 40 * ((j : Int) + 1)) w1 om om
 have ex := e1.trans e2
 rw [← OZ] at e2 w2 ex
 have e3 := Ext.two (k := 5) ex.dM ag (wp.ext ex) (wq.ext ex)
 have w3 := (wp.ext ex).and (u := t + 40 * ((j : Int) + 1)) (wq.ext ex) om om
 have ey := ex.trans e3
 refine ⟨h.ext.trans ey, om, om, by rw [OZ]; simp only [List.length_append, List.length_singleton]; omega, by rw [List.length_set]; exact wG, fun k hk rq => ?_, fun k hk rq h2 => ?_, fun k hk rq => ?_⟩
 ·rcases Nat.lt_or_ge k i with h1 | h1
  ·rw [getD_set_ne om]; exact (h.gn k hk h1).ext ey
  ·obtain rfl : k = i := by omega
   rw [iw om]
   exact (w2.ext e3).as fun ins => (wU x4).symm
 ·rcases Nat.lt_or_ge k i with h1 | h1
  ·rw [getD_set_ne om]; exact (h.pr k hk h1 h2).ext ey
  ·obtain rfl : k = i := by omega
   rw [iw om]
   exact w3.as fun ins => (EY om).symm
 ·rw [getD_set_ne om]; exact h.rest k hk om
theorem nO.pass (hI : nO c g0 G P t n g1 out d j) (hd : d < n) (h : nP c g1 G P t n out d j gl next i) (hi : ¬ i < n) : nO c g0 G P t n gl next (d * 2) (j + 1) := by
 have x4 := h.lo; have mJ := h.len; have hg := hI.len; have hh := h.hi
 have hj : j + 1 ≤ cD n := by
  have h1 := o6 n
  have h2 := hI.dj
  apply Classical.byContradiction
  intro h3
  have h4 : 2 ^ cD n ≤ 2 ^ j := Nat.pow_le_pow_right om om
  omega
 refine ⟨hI.ext.trans h.ext, ?_, h.nl, by rw [hI.dj, Nat.pow_succ], hj, fun k hk => ?_, fun k hk h2 => ?_⟩
 ·rw [Nat.mul_add]; omega
 ·have := h.gn k hk om
  rw [Nat.mul_comm, Int.natCast_add, Int.natCast_one]; exact this
 ·have := h.pr k hk om om
  rw [Nat.mul_comm, Int.natCast_add, Int.natCast_one]; exact this
end
open Go Go.AW
section
variable {c : Int} {g0 g1 gl : List Gate} {ps out next : List aP} {G P : Nat → List Bool → Bool} {a b r : List Int} {A B : Nat → List Bool → Bool} {t u : Int} {i j n d : Nat}
def v8 (F0 : List Bool → Bool) (G P : Nat → List Bool → Bool) (k : Nat) (ins : List Bool) : Bool := if k = 0 then F0 ins else (P k ins ^^ ca (fun k => G k ins) (fun k => P k ins) 0 k false)
structure v9 (c : Int) (g0 gl : List Gate) (F0 : List Bool → Bool) (G P : Nat → List Bool → Bool) (u : Int) (r : List Int) (i : Nat) : Prop where
 ext : Ext g0 gl
 lo : 1 ≤ i
 len : gl.length + 1 = g0.length + i
 ol : r.length = i
 ws : Ws c gl r (v8 F0 G P) u
theorem v9.init {x : Int} {F0 : List Bool → Bool} (hg : Good g0) (h : Wr c g0 x F0 u) : v9 c g0 g0 F0 G P u [x] 1 :=
 ⟨.refl hg, om, rfl, rfl, Ws.snoc (a := []) .nil (by exact h.as fun ins => rfl)⟩
theorem v9.step {x y : Int} {F0 : List Bool → Bool} (h : v9 c g0 gl F0 G P u r i) (hx : Wr c g0 x (P i) t) (hy : Wr c g0 y (fun ins => ca (fun k => G k ins) (fun k => P k ins) 0 i false) t) (hu : t + 20 ≤ u) :
  v9 c g0 (gl ++ [⟨7, x, y⟩]) F0 G P u (r ++ [(gl.length : Int)]) (i + 1) := by
 have h1 := hx.ext h.ext
 have h2 := hy.ext h.ext
 have e := Ext.two (k := 7) h.ext.dM ag h1 h2
 have hl := h.len; have x4 := h.lo
 refine ⟨h.ext.trans e, om, by simp only [List.length_append, List.length_singleton]; omega, by rw [List.length_append, h.ol]; rfl, (h.ws.ext e).snoc ?_⟩
 refine (h1.xor h2 hu hu).as fun ins => ?_
 rw [h.ol]; unfold v8; rw [if_neg om]
structure s9 (c : Int) (g0 gl : List Gate) (A B : Nat → List Bool → Bool) (u : Int) (ps : List aP) (i : Nat) : Prop where
 ext : Ext g0 gl
 len : gl.length = g0.length + 2 * i
 pl : ps.length = i
 wp : Wp c gl ps (fun k ins => A k ins && B k ins) (fun k ins => A k ins ^^ B k ins) u
theorem s9.init (hg : Good g0) : s9 c g0 g0 A B u [] 0 := ⟨.refl hg, rfl, rfl, .nil⟩
theorem s9.step {x y : Int} {s : Int} (h : s9 c g0 gl A B u ps i) (hx : Wr c g0 x (A i) s) (hy : Wr c g0 y (B i) t) (h1 : s + 20 ≤ u) (h2 : t + 20 ≤ u) :
  s9 c g0 ((gl ++ [⟨5, x, y⟩]) ++ [⟨7, x, y⟩]) A B u (ps ++ [⟨(gl.length : Int), ((gl ++ [(⟨5, x, y⟩ : Gate)]).length : Int)⟩]) (i + 1) := by
 have w1 := hx.ext h.ext
 have w2 := hy.ext h.ext
 have e1 := Ext.two (k := 5) h.ext.dM ag w1 w2
 have e2 := Ext.two (k := 7) e1.dM ag (w1.ext e1) (w2.ext e1)
 have hl := h.len
 refine ⟨h.ext.trans (e1.trans e2), by simp only [List.length_append, List.length_singleton]; omega, by rw [List.length_append, h.pl]; rfl, (h.wp.ext (e1.trans e2)).snoc ?_ ?_⟩
 ·rw [h.pl]; exact (w1.and w2 h1 h2).ext e2
 ·rw [h.pl]; exact (w1.ext e1).xor (w2.ext e1) h1 h2
theorem Wp.L7 {y : Int} (h : Wp c gl ps (fun k ins => A k ins && B k ins) P u) (hn : 0 < ps.length) (hy : Wr c gl y (fun ins => A 0 ins || B 0 ins) u) :
  Wp c gl (ps.set 0 ⟨y, (ps.getD 0 default).p⟩) (fun k ins => if k = 0 then A 0 ins || B 0 ins else A k ins && B k ins) P u := ⟨fun k hk => by
 rw [List.length_set] at hk
 rcases Nat.eq_zero_or_pos k with h1 | h1
 ·subst h1; rw [iw hn]; exact ⟨hy.as fun ins => by simp, (h.bit 0 hn).2⟩
 ·rw [getD_set_ne om]; exact ⟨(h.bit k hk).1.as fun ins => by rw [if_neg om], (h.bit k hk).2⟩⟩
structure r8 (c : Int) (g0 gl : List Gate) (A B : Nat → List Bool → Bool) (s : Bool) (n : Nat) (u : Int) (ps : List aP) (i : Nat) : Prop where
 ext : Ext g0 gl
 len : gl.length = g0.length + 4 * i
 pl : ps.length = i
 wp : Wp c gl ps (fun k ins => if s = true ∧ k + 1 = n then !B k ins && A k ins else !A k ins && B k ins) (fun k ins => !(A k ins ^^ B k ins)) u
theorem r8.init {s : Bool} (hg : Good g0) : r8 c g0 g0 A B s n u [] 0 := ⟨.refl hg, rfl, rfl, .nil⟩
def L8 (gl : List Gate) (x : Int) : List Gate := gl ++ [⟨4, x, 0⟩]
def L9 (gl : List Gate) (x y : Int) : List Gate := L8 gl x ++ [⟨5, (gl.length : Int), y⟩]
def LA (gl : List Gate) (x y : Int) : List Gate := L9 gl x y ++ [⟨7, x, y⟩]
def It (gl : List Gate) (x y : Int) : List Gate := LA gl x y ++ [⟨4, ((L9 gl x y).length : Int), 0⟩]
theorem r8.step {x y : Int} {s : Bool} {f h : List Bool → Bool} (k : r8 c g0 gl A B s n u ps i) (hx : Wr c g0 x f t) (hy : Wr c g0 y h t) (hu : t + 30 ≤ u)
  (hf : ∀ ins, (f ins = if s = true ∧ i + 1 = n then B i ins else A i ins) ∧ (h ins = if s = true ∧ i + 1 = n then A i ins else B i ins)) :
  r8 c g0 (It gl x y) A B s n u (ps ++ [⟨((L8 gl x).length : Int), ((LA gl x y).length : Int)⟩]) (i + 1) := by
 have w1 := hx.ext k.ext
 have w2 := hy.ext k.ext
 have e1 := Ext.not k.ext.dM w1
 have n1 := w1.not (u := t + 10) (Int.le_refl _)
 have e2 := Ext.two (k := 5) e1.dM ag n1 (w2.ext e1)
 have n2 := n1.and (u := u) (w2.ext e1) om om
 have Ab := e1.trans e2
 have e3 := Ext.two (k := 7) e2.dM ag (w1.ext Ab) (w2.ext Ab)
 have n3 := (w1.ext Ab).xor (u := t + 20) (w2.ext Ab) om om
 have e4 := Ext.not e3.dM n3
 have n4 := n3.not (u := u) om
 have hl := k.len
 have ex := Ab.trans (e3.trans e4)
 refine ⟨k.ext.trans ex, by unfold It LA L9 L8; simp only [List.length_append, List.length_singleton]; omega, by rw [List.length_append, k.pl]; rfl, (k.wp.ext ex).snoc ?_ ?_⟩
 ·rw [k.pl]
  refine (n2.ext (e3.trans e4)).as fun ins => ?_
  rw [(hf ins).1, (hf ins).2]
  by_cases q : s = true ∧ i + 1 = n
  ·rw [if_pos q, if_pos q, if_pos q]
  ·rw [if_neg q, if_neg q, if_neg q]
 ·rw [k.pl]
  refine n4.as fun ins => ?_
  rw [(hf ins).1, (hf ins).2]
  by_cases q : s = true ∧ i + 1 = n
  ·rw [if_pos q, if_pos q, Bool.xor_comm]
  ·rw [if_neg q, if_neg q]
structure xb (c : Int) (g0 : List Gate) (F : List Bool → Bool) (n : Nat) (t : Int) (gl : List Gate) (ps : List aP) : Prop where
 ext : Ext g0 gl
 len : gl.length + 3 * ps.length ≤ g0.length + 3 * n
 lo : 1 ≤ ps.length
 ex : ∃ (G P : Nat → List Bool → Bool) (t' : Int), Wp c gl ps G P t' ∧ (∀ ins, ca (fun k => G k ins) (fun k => P k ins) 0 ps.length false = F ins) ∧ t' + 40 * (cD ps.length : Int) ≤ t + 40 * (cD n : Int)
theorem xb.init (hg : Good g0) (h : Wp c g0 ps G P t) (h1 : 1 ≤ ps.length) : xb c g0 (fun ins => ca (fun k => G k ins) (fun k => P k ins) 0 ps.length false) ps.length t g0 ps :=
 ⟨.refl hg, Nat.le_refl _, h1, G, P, t, h, fun _ => rfl, Int.le_refl _⟩
theorem xb.done {F : List Bool → Bool} (h : xb c g0 F n t gl ps) (h1 : ps.length ≤ 1) : Wr c gl (ps.getD 0 default).g F (t + 40 * (cD n : Int)) := by
 obtain ⟨G, P, t', hw, he, ht⟩ := h.ex
 have hl : ps.length = 1 := by have := h.lo; omega
 rw [wY h1] at ht
 refine ((hw.bit 0 om).1.late om).as fun ins => ?_
 rw [← he ins, hl]; simp [ca]
structure CA (c : Int) (g1 : List Gate) (ps : List aP) (gl : List Gate) (next : List aP) (i : Nat) : Prop where
 ext : Ext g1 gl
 even : i % 2 = 0
 hi : i ≤ ps.length
 nl : next.length = i / 2
 len : gl.length = g1.length + 3 * (i / 2)
 wp : ∀ G P t, Wp c g1 ps G P t → Wp c gl next (fun k ins => qF (fun k => G k ins) (fun k => P k ins) ps.length k) (fun k ins => qG (fun k => P k ins) ps.length k) (t + 40)
theorem CA.init (hg : Good g1) : CA c g1 ps g1 [] 0 := ⟨.refl hg, rfl, om, rfl, rfl, fun _ _ _ _ => .nil⟩
def Ko (gl : List Gate) (l h : aP) : List Gate := gl ++ [⟨5, h.p, l.g⟩]
def Kq (gl : List Gate) (l h : aP) : List Gate := Ko gl l h ++ [⟨6, h.g, (gl.length : Int)⟩]
def Iu (gl : List Gate) (l h : aP) : List Gate := Kq gl l h ++ [⟨5, h.p, l.p⟩]
theorem CA.step (h : CA c g1 ps gl next i) (hl : i + 1 < ps.length) (hw : ∃ G P t, Wp c g1 ps G P t) :
  CA c g1 ps (Iu gl (ps.getD i default) (ps.getD (i + 1) default)) (next ++ [⟨((Ko gl (ps.getD i default) (ps.getD (i + 1) default)).length : Int), ((Kq gl (ps.getD i default) (ps.getD (i + 1) default)).length : Int)⟩]) (i + 2) := by
 have he := h.even; have mJ := h.len
 have key : ∀ G P t, Wp c g1 ps G P t → Ext gl (Iu gl (ps.getD i default) (ps.getD (i + 1) default)) ∧
   Wr c (Iu gl (ps.getD i default) (ps.getD (i + 1) default)) ((Ko gl (ps.getD i default) (ps.getD (i + 1) default)).length : Int) (fun ins => G (i + 1) ins || (P (i + 1) ins && G i ins)) (t + 40) ∧
   Wr c (Iu gl (ps.getD i default) (ps.getD (i + 1) default)) ((Kq gl (ps.getD i default) (ps.getD (i + 1) default)).length : Int) (fun ins => P (i + 1) ins && P i ins) (t + 40) := by
  intro G P t hf
  have l1 := (hf.bit i om).1.ext h.ext
  have l2 := (hf.bit i om).2.ext h.ext
  have h1 := (hf.bit (i + 1) hl).1.ext h.ext
  have h2 := (hf.bit (i + 1) hl).2.ext h.ext
  have e1 := Ext.two (k := 5) h.ext.dM ag h2 l1
  have n1 := h2.and (u := t + 20) l1 om om
  have e2 := Ext.two (k := 6) e1.dM ag (h1.ext e1) n1
  have n2 := (h1.ext e1).or (u := t + 40) n1 om om
  have Ab := e1.trans e2
  have e3 := Ext.two (k := 5) e2.dM ag (h2.ext Ab) (l2.ext Ab)
  have n3 := (h2.ext Ab).and (u := t + 40) (l2.ext Ab) om om
  exact ⟨Ab.trans e3, n2.ext e3, n3⟩
 obtain ⟨G0, P0, t0, h0⟩ := hw
 have hx := (key G0 P0 t0 h0).1
 refine ⟨h.ext.trans hx, om, om, by rw [List.length_append, h.nl, List.length_singleton]; omega, by unfold Iu Kq Ko; simp only [List.length_append, List.length_singleton]; omega, fun G P t hf => ?_⟩
 obtain ⟨_, k1, k2⟩ := key G P t hf
 refine ((h.wp G P t hf).ext hx).snoc (k1.as fun ins => ?_) (k2.as fun ins => ?_)
 ·rw [h.nl]; unfold qF
  rw [show 2 * (i / 2) = i by omega, if_pos hl]
 ·rw [h.nl]; unfold qG
  rw [show 2 * (i / 2) = i by omega, if_pos hl]
theorem xb.pass {F : List Bool → Bool} (h : xb c g0 F n t g1 ps) (hj : CA c g1 ps gl next i) (hl : ¬ i + 1 < ps.length) (h2 : 1 < ps.length) (ho : ¬ ps.length % 2 = 1) : xb c g0 F n t gl next := by
 have he := hj.even; have hh := hj.hi; have hn := hj.nl; have hg := hj.len; have Ir := h.len
 obtain ⟨G, P, t', hw, hv, ht⟩ := h.ex
 have v5 : next.length = (ps.length + 1) / 2 := by omega
 have vc := nM (m := ps.length) om
 refine ⟨h.ext.trans hj.ext, om, om, _, _, _, hj.wp G P t' hw, fun ins => ?_, ?_⟩
 ·rw [v5, wZ]; exact hv ins
 ·rw [v5]; omega
theorem xb.Iv {F : List Bool → Bool} (h : xb c g0 F n t g1 ps) (hj : CA c g1 ps gl next i) (hl : ¬ i + 1 < ps.length) (h2 : 1 < ps.length) (ho : ps.length % 2 = 1) : xb c g0 F n t gl (next ++ [ps.getD (ps.length - 1) default]) := by
 have he := hj.even; have hh := hj.hi; have hn := hj.nl; have hg := hj.len; have Ir := h.len
 obtain ⟨G, P, t', hw, hv, ht⟩ := h.ex
 have v5 : (next ++ [ps.getD (ps.length - 1) default]).length = (ps.length + 1) / 2 := by rw [List.length_append, hn]; simp; omega
 have vc := nM (m := ps.length) om
 have hb := hw.bit (ps.length - 1) om
 refine ⟨h.ext.trans hj.ext, by rw [v5]; omega, by rw [v5]; omega, _, _, _, (hj.wp G P t' hw).snoc (((hb.1.ext hj.ext).late om).as fun ins => ?_) (((hb.2.ext hj.ext).late om).as fun ins => ?_), fun ins => ?_, ?_⟩
 ·rw [hn]; unfold qF
  rw [show 2 * (i / 2) = ps.length - 1 by omega, if_neg om]
 ·rw [hn]; unfold qG
  rw [show 2 * (i / 2) = ps.length - 1 by omega, if_neg om]
 ·rw [v5, wZ]; exact hv ins
 ·rw [v5]; omega
end
open Go Go.AW
section
variable {c : Int} {g0 g1 gl : List Gate} {a b r x next : List Int} {A B : Nat → List Bool → Bool} {t u : Int} {i k w : Nat}
structure BG (c : Int) (g0 gl : List Gate) (out : List Int) (h : Nat → List Bool → Bool) (u : Int) (i : Nat) : Prop where
 ext : Ext g0 gl
 len : gl.length = g0.length + 3 * i
 ol : out.length = i
 ws : Ws c gl out h u
theorem BG.init {h : Nat → List Bool → Bool} {u : Int} (hg : Good g0) : BG c g0 g0 [] h u 0 := ⟨.refl hg, rfl, rfl, .nil⟩
theorem BG.step {h : Nat → List Bool → Bool} {s v y n : Int} {fs fy fn : List Bool → Bool} {ts tv ty tn : Int} (k : BG c g0 gl r h u i) (hs : Wr c g0 s fs ts) (hv : Wr c g0 v (fun ins => !fs ins) tv) (hy : Wr c g0 y fy ty) (hn : Wr c g0 n fn tn)
  (h1 : ts + 40 ≤ u) (h2 : tv + 40 ≤ u) (h3 : ty + 40 ≤ u) (h4 : tn + 40 ≤ u) (hh : ∀ ins, h i ins = if fs ins then fy ins else fn ins) : BG c g0 (v7 gl s v y n) (r ++ [(gl.length : Int) + 2]) h u (i + 1) := by
 obtain ⟨e, wv⟩ := Aa k.ext.dM (hs.ext k.ext) (hv.ext k.ext) (hy.ext k.ext) (hn.ext k.ext) h1 h2 h3 h4
 have hl := k.len
 exact ⟨k.ext.trans e, by rw [xa]; omega, by rw [List.length_append, k.ol]; rfl, (k.ws.ext e).snoc (by rw [k.ol]; exact wv.as fun ins => (hh ins).symm)⟩
structure CB (c : Int) (g0 : List Gate) (left : Bool) (w : Nat) (A : List Bool → BitVec w) (B : List Bool → BitVec w) (fl : List Bool → Bool) (t : Int) (gl : List Gate) (x : List Int) (k : Nat) : Prop where
 ext : Ext g0 gl
 len : gl.length = g0.length + (3 * w + 1) * k
 xl : x.length = w
 ws : Ws c gl x (fun i ins => p5 left w (A ins).getLsbD (fl ins) ((B ins).toNat % 2 ^ k) i) (t + 10 + 40 * (k : Int))
theorem CB.init {left : Bool} {A B : List Bool → BitVec w} {fl : List Bool → Bool} (hg : Good g0) (ha : Wd c g0 a w A t) : CB c g0 left w A B fl t g0 a 0 :=
 ⟨.refl hg, rfl, ha.len, ⟨fun k hk => ((ha.bit k (by rw [← ha.len]; exact hk)).late om).as fun ins => by rw [Nat.pow_zero, Nat.mod_one, zX (by rw [← ha.len]; exact hk)]⟩⟩
theorem CB.pick {left : Bool} {A B : List Bool → BitVec w} {fl : List Bool → Bool} {f y : Int} {k : Nat} (h : CB c g0 left w A B fl t g1 x k) (hf : Wr c g0 f fl t) {i : Nat} (_ : i < w) (fr : Int) (pw : fr = Iq left k i)
  (hy : y = if 0 ≤ fr ∧ fr < (w : Int) then x.getD fr.toNat 0 else f) :
  Wr c g1 y (fun ins => if left then (if 2 ^ k ≤ i then p5 left w (A ins).getLsbD (fl ins) ((B ins).toNat % 2 ^ k) (i - 2 ^ k) else fl ins) else (if i + 2 ^ k < w then p5 left w (A ins).getLsbD (fl ins) ((B ins).toNat % 2 ^ k) (i + 2 ^ k) else fl ins)) (t + 10 + 40 * (k : Int)) := by
 subst hy pw
 have uK := h.xl
 have hp : ((2 ^ k : Nat) : Int) = (2 : Int) ^ k := by simp
 have Cb := Nat.two_pow_pos k
 unfold Iq
 cases left
 ·simp only [Bool.false_eq_true, if_false]
  by_cases h1 : i + 2 ^ k < w
  ·rw [if_pos om]
   have := h.ws.bit (i + 2 ^ k) om
   rw [show ((i : Int) + 2 ^ k).toNat = i + 2 ^ k by omega]
   exact this.as fun ins => by rw [if_pos h1]
  ·rw [if_neg om]
   exact ((hf.ext h.ext).late om).as fun ins => by rw [if_neg h1]
 ·simp only [if_true]
  by_cases h1 : 2 ^ k ≤ i
  ·rw [if_pos om]
   have := h.ws.bit (i - 2 ^ k) om
   rw [show ((i : Int) - 2 ^ k).toNat = i - 2 ^ k by omega]
   exact this.as fun ins => by rw [if_pos h1]
  ·rw [if_neg om]
   exact ((hf.ext h.ext).late om).as fun ins => by rw [if_neg h1]
def Kr (left : Bool) (w : Nat) (A B : List Bool → BitVec w) (fl : List Bool → Bool) (k i : Nat) (ins : List Bool) : Bool := p5 left w (A ins).getLsbD (fl ins) ((B ins).toNat % 2 ^ (k + 1)) i
theorem Fm {left : Bool} {A B : List Bool → BitVec w} {fl : List Bool → Bool} {k i : Nat} (hi : i < w) (ins : List Bool) :
  Kr left w A B fl k i ins = if (B ins).getLsbD k then (if left then (if 2 ^ k ≤ i then p5 left w (A ins).getLsbD (fl ins) ((B ins).toNat % 2 ^ k) (i - 2 ^ k) else fl ins) else (if i + 2 ^ k < w then p5 left w (A ins).getLsbD (fl ins) ((B ins).toNat % 2 ^ k) (i + 2 ^ k) else fl ins)) else p5 left w (A ins).getLsbD (fl ins) ((B ins).toNat % 2 ^ k) i := by
 unfold Kr
 rw [zZ]
 cases (B ins).getLsbD k
 ·simp
 ·simp only [if_true]
  exact zY hi
theorem CB.pass {left : Bool} {A B : List Bool → BitVec w} {fl : List Bool → Bool} {q : Gate} (h : CB c g0 left w A B fl t g1 x k) (he : Ext g1 (g1 ++ [q])) (hj : BG c (g1 ++ [q]) gl next (Kr left w A B fl k) (t + 10 + 40 * ((k : Int) + 1)) i) (hi : i = w) : CB c g0 left w A B fl t gl next (k + 1) := by
 subst hi
 have h1 := h.len; have h2 := hj.len
 rw [List.length_append, List.length_singleton] at h2
 refine ⟨h.ext.trans (he.trans hj.ext), by rw [h2, h1, Nat.mul_add]; omega, hj.ol, ?_⟩
 have := hj.ws
 rw [Int.natCast_add, Int.natCast_one]
 exact this
theorem Fo {B : List Bool → BitVec w} (hb : Wd c gl b w B t) (st : Nat) (hs : st ≤ w) : Ws c gl (b.drop st) (fun k ins => (B ins).getLsbD (st + k)) t := ⟨fun k hk => by
 have hl := hb.len
 rw [List.length_drop] at hk
 rw [List.getD_eq_getElem?_getD, List.getElem?_drop, ← List.getD_eq_getElem?_getD]
 exact hb.bit (st + k) om⟩
end
open Go Go.AW
section
variable {c : Int} {g0 g1 gl : List Gate} {a b r : List Int} {w : Nat} {A B : List Bool → BitVec w} {t u : Int}
theorem sum_add (hl : r.length = w) (h : Ws c gl r (v8 (fun ins => (A ins).getLsbD 0 ^^ (B ins).getLsbD 0) (fun k ins => (A ins).getLsbD k && (B ins).getLsbD k) (fun k ins => (A ins).getLsbD k ^^ (B ins).getLsbD k)) u) :
  Wd c gl r w (fun ins => A ins + B ins) u := h.wd hl fun k hk ins => by
 unfold v8
 rw [Cu hk]
 by_cases h0 : k = 0
 ·subst h0; simp [ca]
 ·rw [if_neg h0]
theorem CC (hl : r.length = w) (h : Ws c gl r (v8 (fun ins => (A ins).getLsbD 0 ^^ (B ins).getLsbD 0) (fun k ins => if k = 0 then (A ins).getLsbD 0 || !(B ins).getLsbD 0 else (A ins).getLsbD k && !(B ins).getLsbD k) (fun k ins => (A ins).getLsbD k ^^ !(B ins).getLsbD k)) u) :
  Wd c gl r w (fun ins => A ins - B ins) u := h.wd hl fun k hk ins => by
 unfold v8
 by_cases h0 : k = 0
 ·subst h0; rw [if_pos rfl, zP hk]
 ·rw [if_neg h0, Cw hk om]; rfl
theorem CD {s : Bool} (hw : 0 < w) (ins : List Bool) :
  ca (fun k => if s = true ∧ k + 1 = w then !(B ins).getLsbD k && (A ins).getLsbD k else !(A ins).getLsbD k && (B ins).getLsbD k) (fun k => !((A ins).getLsbD k ^^ (B ins).getLsbD k)) 0 w false = if s then (A ins).slt (B ins) else (A ins).ult (B ins) := by
 cases s
 ·rw [if_neg ag, ← zV]
  exact nJ (fun i _ => by simp [DW]) (fun _ _ => rfl)
 ·rw [if_pos rfl, ← Fi hw]
  exact nJ (fun i _ => by unfold zW DW; simp) (fun _ _ => rfl)
theorem Ac {s : Bool} {i : Nat} (ha : Wd c gl a w A t) (hb : Wd c gl b w B t) (hi : i < w) {x y : Int} (hx : x = if s = true ∧ i + 1 = w then b.getD i 0 else a.getD i 0) (hy : y = if s = true ∧ i + 1 = w then a.getD i 0 else b.getD i 0) :
  Wr c gl x (fun ins => if s = true ∧ i + 1 = w then (B ins).getLsbD i else (A ins).getLsbD i) t ∧ Wr c gl y (fun ins => if s = true ∧ i + 1 = w then (A ins).getLsbD i else (B ins).getLsbD i) t := by
 subst hx hy
 by_cases q : s = true ∧ i + 1 = w
 ·simp only [if_pos q]; exact ⟨hb.bit i hi, ha.bit i hi⟩
 ·simp only [if_neg q]; exact ⟨ha.bit i hi, hb.bit i hi⟩
theorem r8.tree {s : Bool} {ps : List aP} (hw : 0 < w) (h : r8 c g0 gl (fun k ins => (A ins).getLsbD k) (fun k ins => (B ins).getLsbD k) s w u ps w) :
  xb c gl (fun ins => if s then (A ins).slt (B ins) else (A ins).ult (B ins)) w u gl ps := by
 have h1 := xb.init h.ext.dM h.wp (by rw [h.pl]; omega)
 rw [h.pl] at h1
 have h2 : (fun ins => ca (fun k => if s = true ∧ k + 1 = w then !(B ins).getLsbD k && (A ins).getLsbD k else !(A ins).getLsbD k && (B ins).getLsbD k) (fun k => !((A ins).getLsbD k ^^ (B ins).getLsbD k)) 0 w false) = (fun ins => if s then (A ins).slt (B ins) else (A ins).ult (B ins)) := funext fun ins => CD hw ins
 rw [h2] at h1
 exact h1
theorem Fp (hr : r.length = w) (h : Ws c gl r (fun i ins => !iL (fun j => (B ins).getLsbD (cD w + j)) (w - cD w) && p5 true w (A ins).getLsbD false ((B ins).toNat % 2 ^ cD w) i) u) : Wd c gl r w (fun ins => A ins <<< (B ins).toNat) u :=
 h.wd hr fun k hk ins => (C6 (o6 w) hk).symm
theorem Fq (hr : r.length = w) (h : Ws c gl r (fun i ins => !iL (fun j => (B ins).getLsbD (cD w + j)) (w - cD w) && p5 false w (A ins).getLsbD false ((B ins).toNat % 2 ^ cD w) i) u) : Wd c gl r w (fun ins => A ins >>> (B ins).toNat) u :=
 h.wd hr fun k hk ins => (C7 (o6 w) hk).symm
theorem Fs (hr : r.length = w) (h : Ws c gl r (fun i ins => if iL (fun j => (B ins).getLsbD (cD w + j)) (w - cD w) then (A ins).msb else p5 false w (A ins).getLsbD (A ins).msb ((B ins).toNat % 2 ^ cD w) i) u) : Wd c gl r w (fun ins => (A ins).sshiftRight (B ins).toNat) u :=
 h.wd hr fun k hk ins => (C8 (o6 w) hk).symm
theorem Wd.msb (h : Wd c gl a w A t) (hw : 0 < w) : Wr c gl (a.getD (w - 1) 0) (fun ins => (A ins).msb) t := (h.bit (w - 1) om).as fun ins => by rw [BitVec.msb_eq_getLsbD_last]
end
structure Wk (c : Int) (l : List Gate) (a : List Int) (w : Nat) (N : List Bool → Nat) (t : Int) : Prop where
 len : a.length = w
 lt : ∀ ins, N ins < 2 ^ w
 bit : ∀ k, k < w → Wr c l (a.getD k 0) (fun ins => (N ins).testBit k) t
theorem Wd.wk {c : Int} {l : List Gate} {a : List Int} {w : Nat} {A : List Bool → BitVec w} {t : Int} (h : Wd c l a w A t) : Wk c l a w (fun ins => (A ins).toNat) t := ⟨h.len, fun ins => (A ins).isLt, h.bit⟩
theorem Wk.wd {c : Int} {l : List Gate} {a : List Int} {w : Nat} {N : List Bool → Nat} {t : Int} (h : Wk c l a w N t) : Wd c l a w (fun ins => BitVec.ofNat w (N ins)) t :=
 ⟨h.len, fun k hk => (h.bit k hk).as fun ins => by rw [BitVec.getLsbD_ofNat]; simp [hk]⟩
theorem Wk.as {c : Int} {l : List Gate} {a : List Int} {w : Nat} {N M : List Bool → Nat} {t : Int} (h : Wk c l a w N t) (he : ∀ ins, N ins = M ins) : Wk c l a w M t := by
 obtain rfl : N = M := funext he
 exact h
theorem Wk.ext {c : Int} {l l' : List Gate} {a : List Int} {w : Nat} {N : List Bool → Nat} {t : Int} (h : Wk c l a w N t) (he : Ext l l') : Wk c l' a w N t := ⟨h.len, h.lt, fun k hk => (h.bit k hk).ext he⟩
theorem Wk.late {c : Int} {l : List Gate} {a : List Int} {w : Nat} {N : List Bool → Nat} {t t' : Int} (h : Wk c l a w N t) (ht : t ≤ t') : Wk c l a w N t' := ⟨h.len, h.lt, fun k hk => (h.bit k hk).late ht⟩
theorem Wr.GR {c : Int} {l : List Gate} {x : Int} {f : List Bool → Bool} {t : Int} (h : Wr c l x f t) : Wk c l [x] 1 (fun ins => (f ins).toNat) t :=
 ⟨rfl, fun ins => by cases f ins <;> decide, fun k hk => by
  obtain rfl : k = 0 := by omega
  exact h.as fun ins => by cases f ins <;> rfl⟩
def fN (op : Int) (w width x y z : Nat) : Nat :=
 if op = 2 then (BitVec.ofNat w x + BitVec.ofNat w y).toNat else if op = 3 then (BitVec.ofNat w x - BitVec.ofNat w y).toNat
 else if op = 9 then x &&& y else if op = 10 then x ||| y else if op = 11 then x ^^^ y
 else if op = 12 then (BitVec.ofNat w x <<< y).toNat else if op = 13 then (BitVec.ofNat w x >>> y).toNat else if op = 14 then ((BitVec.ofNat w x).sshiftRight y).toNat
 else if op = 15 then (decide (x = y)).toNat else if op = 16 then (decide (x ≠ y)).toNat
 else if op = 17 then (decide (x < y)).toNat else if op = 18 then (decide (x ≤ y)).toNat
 else if op = 19 then ((BitVec.ofNat w x).slt (BitVec.ofNat w y)).toNat else if op = 20 then ((BitVec.ofNat w x).sle (BitVec.ofNat w y)).toNat
 else if op = 21 then (if x = 1 then y else z) else if op = 22 then x else if op = 23 then ((BitVec.ofNat w x).signExtend width).toNat else x % 2 ^ width
end Go.Proofs.Ytlimckldnjmabaa
