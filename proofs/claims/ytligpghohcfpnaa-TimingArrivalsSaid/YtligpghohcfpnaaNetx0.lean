/- Netlists as the walk sees them. -/
import Derived.Test.YtligpghohcfpnaaAWx1
import Derived.Test.YtligpghohcfpnaaAWx2
import Derived.Test.YtligpghohcfpnaaProg
import Derived.KernelRfl
import Derived.Test.YtligpghohcfpnaaRows
set_option linter.unusedSimpArgs false
set_option linter.unusedVariables false
set_option linter.unusedSectionVars false
set_option maxRecDepth 4000
set_option maxHeartbeats 8000000
namespace Go.Proofs.Ytligpghohcfpnaa
open Go Go.AW
abbrev vi (z : Int) : X := .v (.int .i64 z)
abbrev vn : X := .v (.slice none 0 0)
theorem aI {a b : Nat} (h : Nat.ble a b = true) : a ≤ b := Nat.le_of_ble_eq_true h
def ai (z : Int) : List X := [.v (.int .i64 z)]
theorem lq {p : Prop} (h : p := by first | rfl | (simp only [List.cons.injEq, X.v.injEq, X.ba.injEq, Value.int.injEq, and_true, true_and]; omega) | simp_all) : p := h
theorem wG {p : Prop} (h : p := by first | rfl | exact IntWalk.i64_in _ (by omega)) : p := h
theorem aE (z : Int) : X.b9 (ai z) = true := rfl
theorem hZ (z : Int) : X.iB (ai z) := ⟨trivial, trivial⟩
def fI (b : Bool) : List X := [.v (.bool b)]
theorem se (b : Bool) : X.b9 (fI b) = true := rfl
def sf (n : Nat) : List X := [.v (.int .u8 (n : Int))]
def GV (n : Nat) : List X := [.v (.int .u64 (n : Int))]
def nq (l : List Int) : List X := [.fz 1 (l.map ai)]
def mL (l : List Int) : List X := [.ei 1 (l.map ai)]
theorem si (l : List Int) : X.b9 (nq l) = true := rfl
theorem BA (l : List Int) : X.js (mL l) = nq l := by
 show [X.fz 1 (X.nh (l.map ai))] = _
 rw [X.sc (g := ai) (fun _ => rfl)]; rfl
structure Cell where
 kind : Int
 op : Int
 out : Int
 args : List Int
 num : Nat
 mem : Int
instance : Inhabited Cell := ⟨⟨0, 0, 0, [], 0, 0⟩⟩
def Cell.row (c : Cell) : List X := [.v (.int .i64 c.kind), .v (.int .i64 c.op), .v (.int .i64 c.out), .fz 1 (c.args.map ai), .v (.int .u64 (c.num : Int)), .v (.int .i64 c.mem)]
theorem Cell.cg (c : Cell) : X.b9 c.row = true := rfl
structure eu where
 name : ByteArray
 width : Int
 len : Int
 kind : Int
 sj : Int
instance : Inhabited eu := ⟨⟨ByteArray.empty, 0, 0, 0, 0⟩⟩
def eu.row (a : eu) : List X := [.v (.string a.name), .v (.int .i64 a.width), .v (.int .i64 a.len), .v (.int .i64 a.kind), .v (.int .i64 a.sj)]
theorem eu.cg (c : eu) : X.b9 c.row = true := rfl
structure bI where
 name : ByteArray
 width : Int
 out : Bool
instance : Inhabited bI := ⟨⟨ByteArray.empty, 0, false⟩⟩
def bI.row (a : bI) : List X := [.v (.string a.name), .v (.int .i64 a.width), .v (.bool a.out)]
theorem bI.cg (c : bI) : X.b9 c.row = true := rfl
structure ab where
 name : ByteArray
 aa : List Int
 cells : List Cell
 ins : List Int
 a7 : List eu
 streams : List bI
 aR : List Int
 data : List Int
 freeze : Int
 done : Int
 bE : List Int
def ab.row (n : ab) : List X := [.v (.string n.name), .fz 1 (n.aa.map ai), .fz 6 (n.cells.map Cell.row), .fz 1 (n.ins.map ai), .fz 5 (n.a7.map eu.row), .fz 3 (n.streams.map bI.row),
 .fz 1 (n.aR.map ai), .fz 1 (n.data.map ai), .v (.int .i64 n.freeze), .v (.int .i64 n.done), .fz 1 (n.bE.map ai)]
structure ab.Small (n : ab) : Prop where
 name : n.name.size ≤ 140737488351232
 aa : n.aa.length ≤ 17592186043904
 cells : n.cells.length ≤ 2199023255488
 args : ∀ c ∈ n.cells, c.args.length ≤ 17592186043904
 BB : (n.cells.map (fun c => c.args.length)).sum ≤ 8796093022208
 xj : ∀ c ∈ n.cells, c.num < 18446744073709551616
 kq : ∀ m ∈ n.a7, m.name.size ≤ 140737488351232
 kr : ∀ m ∈ n.streams, m.name.size ≤ 140737488351232
 ins : n.ins.length ≤ 17592186043904
 a7 : n.a7.length ≤ 2932031007317
 streams : n.streams.length ≤ 4398046510976
 aR : n.aR.length ≤ 17592186043904
 data : n.data.length ≤ 17592186043904
 bE : n.bE.length ≤ 17592186043904
open Go Go.AW Go.Proofs
section
variable {H : Type} {enc : TypeId × Value → H} {W : World} {base : Nat}
theorem vJ : Reads enc Try.prog W base 3 ai (fun z => (Lit.int .i64 z).wf = true) (fun _ => 1) := Reads.int Try.underlying3
theorem yz : Reads enc Try.prog W base 37 GV (fun z => z < 18446744073709551616) (fun _ => 1) := Reads.JK Try.underlying37
theorem pT : Reads enc Try.prog W base 5 sf (fun z => z < 256) (fun _ => 1) := Reads.Ni Try.underlying5
theorem GW : Reads enc Try.prog W base 22 nq (fun l => l.length * 8 ≤ 140737488351232 ∧ ∀ a ∈ l, (Lit.int .i64 a).wf = true) (fun l => (l.map (fun _ => 1)).sum) := Reads.slice Try.underlying22 ao ae ao vJ
theorem Ed : Try.prog.cellsOf 3 = 1 := by kernel_rfl
theorem JO : Try.prog.cellsOf 22 = 1 := by kernel_rfl
theorem FD : Try.prog.cellsOf 37 = 1 := by kernel_rfl
theorem BC {α : Type} (l : List α) : (l.map (fun _ => 1)).sum = l.length := by
 induction l with
 | nil => rfl
 | cons a r ih => simp only [List.map_cons, List.sum_cons, List.length_cons, ih]; omega
def FE (c : Cell) : Prop := c.args.length * 8 ≤ 140737488351232 ∧ c.num < 18446744073709551616
theorem GX : Reads enc Try.prog W base 39 Cell.row FE (fun c => c.args.length) :=
 (Reads.struct Try.underlying39 ao (ec.cons rfl Ed vJ (ec.cons rfl Ed vJ (ec.cons rfl Ed vJ (ec.cons rfl JO GW (ec.cons rfl FD yz (ec.cons rfl Ed vJ ec.nil))))))).map
  (fun x => (⟨x.1, x.2.1, x.2.2.1, x.2.2.2.1, x.2.2.2.2.1, x.2.2.2.2.2.1⟩ : Cell)) (fun _ => rfl) (fun x h => ⟨h.2.2.2.1.1, h.2.2.2.2.1⟩) (fun x => by simp only [BC]; omega)
structure ab.Qx (n : ab) : Prop where
 name : n.name.size ≤ 140737488351232
 aa : n.aa.length ≤ 17592186043904
 cells : n.cells.length ≤ 2199023255488
 args : ∀ c ∈ n.cells, c.args.length ≤ 17592186043904
 xj : ∀ c ∈ n.cells, c.num < 18446744073709551616
 kq : ∀ m ∈ n.a7, m.name.size ≤ 140737488351232
 kr : ∀ m ∈ n.streams, m.name.size ≤ 140737488351232
 ins : n.ins.length ≤ 17592186043904
 a7 : n.a7.length ≤ 2932031007317
 streams : n.streams.length ≤ 4398046510976
 aR : n.aR.length ≤ 17592186043904
 data : n.data.length ≤ 17592186043904
 bE : n.bE.length ≤ 17592186043904
theorem ab.Qx.small {n : ab} (h : n.Qx) (ht : (n.cells.map (fun c => c.args.length)).sum ≤ 8796093022208) : n.Small := ⟨h.name, h.aa, h.cells, h.args, ht, h.xj, h.kq, h.kr, h.ins, h.a7, h.streams, h.aR, h.data, h.bE⟩
end
open Go Go.AW
def ed (x : Nat) : Prop := (97 ≤ x ∧ x ≤ 122) ∨ (65 ≤ x ∧ x ≤ 90) ∨ (48 ≤ x ∧ x ≤ 57) ∨ x = 95
def ks (s : ByteArray) : Prop := (∀ i, i < s.size → ed (aK s i)) ∧ s.size ≤ 64
def eO (w : Int) : Prop := 1 ≤ w ∧ w ≤ 64
def dc (op : Int) : Int := if (2 ≤ op ∧ op ≤ 3) ∨ (9 ≤ op ∧ op ≤ 20) then 2 else if op = 21 then 3 else if 22 ≤ op ∧ op ≤ 24 then 1 else 0
theorem Ub {p : Prop} (h : p := by ((simp only [Shaped, dc, Int.reduceEq, Bool.not_eq_true, false_and, true_and, and_true, and_false, or_false, false_or, ne_eq]) <;> (first | omega | grind))) : p := h
def Shaped (n : ab) (c : Cell) : Prop :=
 (c.kind = 1 ∧ c.args.length = 0 ∧ c.op = 0 ∧ c.mem = 0) ∨
 (c.kind = 2 ∧ dc c.op ≠ 0 ∧ (c.args.length : Int) = dc c.op ∧ c.num = 0 ∧ c.mem = 0) ∨
 (c.kind = 3 ∧ 2 ≤ c.args.length ∧ c.args.length % 2 = 0 ∧ c.op = 0 ∧ c.num = 0 ∧ c.mem = 0) ∨
 (c.kind = 4 ∧ c.args.length = 2 ∧ c.op = 0 ∧ c.mem = 0) ∨
 (c.kind = 5 ∧ c.args.length = 2 ∧ (4 ≤ c.op ∧ c.op ≤ 8) ∧ (1 ≤ c.num ∧ c.num ≤ 4096) ∧ c.mem = 0) ∨
 (c.kind = 6 ∧ c.args.length = 2 ∧ c.op = 0 ∧ c.num = 0 ∧ 0 ≤ c.mem ∧ c.mem < n.a7.length) ∨
 (c.kind = 7 ∧ c.args.length = 3 ∧ c.op = 0 ∧ c.num = 0 ∧ 0 ≤ c.mem ∧ c.mem < n.a7.length) ∨
 (c.kind = 8 ∧ c.args.length = 0 ∧ c.op = 0 ∧ c.num < n.ins.length ∧ c.mem = 0) ∨
 (c.kind = 9 ∧ c.args.length = 0 ∧ c.op = 0 ∧ c.num = 0 ∧ 0 ≤ c.mem ∧ c.mem < n.streams.length) ∨
 (c.kind = 10 ∧ c.args.length = 0 ∧ c.op = 0 ∧ c.num = 0 ∧ (0 ≤ c.mem ∧ c.mem < n.streams.length) ∧ (n.streams.getD c.mem.toNat default).out = false)
theorem Uc {p : Prop} (h : p := by ((simp only [Shaped, Int.reduceEq, Bool.not_eq_true, false_and, true_and, and_true, and_false, or_false, false_or, ne_eq]) <;> (first | omega | grind))) : p := h
theorem gp {p : Prop} (h : p := by ((simp only [Shaped, *, Int.reduceEq, Bool.not_eq_true, false_and, true_and, and_true, and_false, or_false, false_or, ne_eq]) <;> (first | omega | grind))) : p := h
noncomputable instance (s : ByteArray) : Decidable (ks s) := Classical.propDecidable _
instance (w : Int) : Decidable (eO w) := by unfold eO; infer_instance
noncomputable instance (n : ab) (c : Cell) : Decidable (Shaped n c) := Classical.propDecidable _
theorem dt {p : Prop} [Decidable p] (h : p) : true = decide p := (decide_eq_true h).symm
theorem df {p : Prop} [Decidable p] (h : ¬ p) : false = decide p := (decide_eq_false h).symm
theorem dd {p q : Prop} [Decidable p] [Decidable q] (h : p ↔ q) : decide p = decide q := by
 by_cases hq : q
 ·rw [decide_eq_true hq, decide_eq_true (h.2 hq)]
 ·rw [decide_eq_false hq, decide_eq_false (fun hp => hq (h.1 hp))]
theorem db {b : Bool} {q : Prop} [Decidable q] (h : b = true ↔ q) : b = decide q := by
 cases b
 ·exact df (fun hq => by have := h.2 hq; cases this)
 ·exact dt (h.1 rfl)
open Go Go.AW
def fO (w : Int) : Nat := if w < 0 then 0 else if 64 < w then 64 else w.toNat
theorem jl (w : Int) : fO w ≤ 64 := by unfold fO; (repeat' split) <;> omega
def kP (w : Int) (x : Nat) : Nat := x % 2 ^ fO w
theorem xk : ∀ k : Nat, k < 65 → 18446744073709551615 / 2 ^ (64 - k) = 2 ^ k - 1 := by decide +kernel
theorem ju : ∀ k : Nat, k < 65 → 1 ≤ 2 ^ k ∧ 2 ^ k ≤ 18446744073709551616 := by decide +kernel
theorem Ee (w : Int) : 18446744073709551615 / 2 ^ (64 - fO w) = 2 ^ fO w - 1 := xk _ (by have := jl w; omega)
theorem Ef (w : Int) : 2 ^ fO w - 1 < 18446744073709551616 := by have := ju (fO w) (by have := jl w; omega); omega
theorem BD (w : Int) (x : Nat) : x &&& (2 ^ fO w - 1) = kP w x := Nat.and_two_pow_sub_one_eq_mod x (fO w)
theorem y0 (w : Int) (x : Nat) : kP w x < 2 ^ fO w := Nat.mod_lt _ (by have := ju (fO w) (by have := jl w; omega); omega)
theorem tP (w : Int) (x : Nat) : kP w x < 18446744073709551616 := by have := y0 w x; have := ju (fO w) (by have := jl w; omega); omega
def iR (k x : Nat) : List Int := (List.range k).map fun i => ((x / 2 ^ i % 2 : Nat) : Int)
theorem z9 (k x : Nat) : (iR k x).length = k := by simp [iR]
theorem xl (k x : Nat) : iR (k + 1) x = iR k x ++ [((x / 2 ^ k % 2 : Nat) : Int)] := by
 simp [iR, List.range_succ]
def mA (l : List Int) : Nat := l.foldr (fun b a => 2 * a + b.toNat) 0
theorem xm (l : List Int) (i : Nat) (h : i < l.length) : mA (l.drop i) = 2 * mA (l.drop (i + 1)) + (l.getD i 0).toNat := by
 rw [List.drop_eq_getElem_cons h, List.getD_eq_getElem?_getD, List.getElem?_eq_getElem h]; rfl
theorem BE (l : List Int) (h : ∀ b ∈ l, b.toNat ≤ 1) : mA l < 2 ^ l.length := by
 induction l with
 | nil => simp [mA]
 | cons b r ih =>
  have h1 := ih (fun x hx => h x (List.mem_cons_of_mem _ hx)); have h2 := h b (List.mem_cons_self ..)
  show 2 * mA r + b.toNat < 2 ^ (r.length + 1)
  rw [Nat.pow_succ]; omega
theorem zA {l : List Int} {i : Int} {x : Nat} (h1 : ∀ b ∈ l, 0 ≤ b ∧ b ≤ 1) (h2 : l.length ≤ 64) (hi : 0 ≤ i ∧ i < (l.length : Int)) (hx : x = mA (l.drop (i + 1).toNat)) :
  ((2 * x % 18446744073709551616) + (l.getD i.toNat 0).toNat) % 18446744073709551616 = mA (l.drop (i - 1 + 1).toNat) := by
 have hs := xm l i.toNat om
 have hl := BE (l.drop i.toNat) (fun b hb => by have := h1 b (List.mem_of_mem_drop hb); omega)
 have hp := ju (l.drop i.toNat).length (by rw [List.length_drop]; omega)
 rw [show (i + 1).toNat = i.toNat + 1 by omega] at hx
 rw [show i - 1 + 1 = i by omega, hs, ← hx]
 rw [hs, ← hx] at hl
 omega
theorem zB {x k : Nat} (hx : x = 2 ^ k - 1) (hk : k < 64) : ((2 * x % 18446744073709551616) + 1) % 18446744073709551616 = 2 ^ (k + 1) - 1 := by
 have h1 := ju (k + 1) om; have h2 := ju k om
 rw [Nat.pow_succ] at h1 ⊢; omega
theorem br {l : List Int} {i : Nat} (h : i < l.length) : l.getD i 0 ∈ l := by
 rw [List.getD_eq_getElem?_getD, List.getElem?_eq_getElem h]; exact List.getElem_mem h
theorem BF (k x : Nat) : ∀ b ∈ iR k x, 0 ≤ b ∧ b ≤ 1 := by
 intro b hb
 obtain ⟨i, _, rfl⟩ := List.mem_map.1 hb
 omega
theorem xn (k x : Nat) : mA (iR k x) = x % 2 ^ k := by
 induction k generalizing x with
 | zero => simp [mA, iR, Nat.mod_one]
 | succ k ih =>
  have e : iR (k + 1) x = ((x % 2 : Nat) : Int) :: iR k (x / 2) := by
   unfold iR
   rw [List.range_succ_eq_map, List.map_cons, List.map_map]
   congr 1
   ·simp
   ·apply List.map_congr_left
    intro i _
    show (((x / 2 ^ (i + 1) % 2 : Nat)) : Int) = _
    rw [Nat.pow_succ, Nat.mul_comm, ← Nat.div_div_eq_div_mul]
  rw [e]
  show 2 * mA (iR k (x / 2)) + (((x % 2 : Nat) : Int)).toNat = _
  rw [ih, Int.toNat_natCast, Nat.pow_succ, Nat.mul_comm (2 ^ k) 2, Nat.mod_mul]; omega
def ga (op : Int) : Prop := 15 ≤ op ∧ op ≤ 20
def BG (op : Int) : Prop := 2 ≤ op ∧ op ≤ 20
def Seq (op : Int) : Prop := 4 ≤ op ∧ op ≤ 8
def Unary (op : Int) : Prop := op = 22 ∨ op = 23 ∨ op = 24
def Plain (op : Int) : Prop := (BG op ∧ ¬ Seq op) ∨ op = 21 ∨ Unary op
def bJ (k : Int) : Prop := k = 1 ∨ k = 2 ∨ k = 3
def In (i n : Int) : Prop := 0 ≤ i ∧ i < n
theorem gu {p : Prop} (h : p := by first | omega | (simp [-List.getD_eq_getElem?_getD]; done) | (simp [-List.getD_eq_getElem?_getD]; omega) | (unfold In at *; omega)) : p := h
instance (w : Int) : Decidable (ga w) := by unfold ga; infer_instance
instance (w : Int) : Decidable (BG w) := by unfold BG; infer_instance
instance (w : Int) : Decidable (Seq w) := by unfold Seq; infer_instance
instance (w : Int) : Decidable (Unary w) := by unfold Unary; infer_instance
instance (w : Int) : Decidable (Plain w) := by unfold Plain; infer_instance
instance (w : Int) : Decidable (bJ w) := by unfold bJ; infer_instance
instance (i n : Int) : Decidable (In i n) := by unfold In; infer_instance
theorem xo (op : Int) : dc op ≠ 0 ↔ Plain op := by unfold dc Plain BG Seq Unary; (repeat' split) <;> omega
open Go Go.AW
def ab.wd (n : ab) (x : Int) : Int := n.aa.getD x.toNat 0
def ab.ow (n : ab) (c : Cell) : Int := if 0 ≤ c.out then n.wd c.out else 0
def ab.av (n : ab) (c : Cell) (k : Nat) : Int := n.wd (c.args.getD k 0)
def cp (op a b d w : Int) : Prop :=
 (op = 21 ∧ a = 1 ∧ b = w ∧ d = w) ∨ ((op = 22 ∨ op = 23) ∧ a ≤ w) ∨ (op = 24 ∧ w ≤ a) ∨ (ga op ∧ w = 1 ∧ a = b) ∨ (¬ ga op ∧ (op < 21 ∨ 24 < op) ∧ a = w ∧ b = w)
def fj (n : ab) (c : Cell) (k : Nat) : Prop := (k % 2 = 0 ∧ n.av c k = 1) ∨ (k % 2 = 1 ∧ n.av c k = n.ow c)
def Fits (n : ab) (c : Cell) : Prop :=
 (c.kind = 1 ∧ kP (n.ow c) c.num = c.num) ∨
 (c.kind = 2 ∧ cp c.op (n.av c 0) (n.av c 1) (n.av c 2) (n.ow c)) ∨
 (c.kind = 3 ∧ ∀ k, k < c.args.length → fj n c k) ∨
 (c.kind = 4 ∧ n.av c 0 = 1 ∧ n.av c 1 = n.ow c ∧ kP (n.ow c) c.num = c.num) ∨
 (c.kind = 5 ∧ n.av c 0 = n.ow c ∧ n.av c 1 = n.ow c) ∨
 (c.kind = 6 ∧ n.av c 0 = 1 ∧ (n.a7.getD c.mem.toNat default).width = n.ow c) ∨
 (c.kind = 7 ∧ n.av c 0 = 1 ∧ (n.a7.getD c.mem.toNat default).width = n.av c 2) ∨
 (c.kind = 8 ∧ n.ins.getD c.num 0 = n.ow c) ∨
 (c.kind = 9 ∧ n.ow c = 1) ∨
 (c.kind = 10 ∧ (n.streams.getD c.mem.toNat default).width = n.ow c)
theorem wH {p : Prop} (h : p := by ((simp only [Fits, cp, ga, *, Int.reduceEq, Bool.not_eq_true, false_and, true_and, and_true, and_false, or_false, false_or, ne_eq]) <;> omega)) : p := h
instance (op a b d w : Int) : Decidable (cp op a b d w) := by unfold cp; infer_instance
noncomputable instance (n : ab) (c : Cell) : Decidable (Fits n c) := Classical.propDecidable _
structure tQ (n : ab) (c : Cell) : Prop where
 out : c.out = -1 ∧ c.kind = 7 ∨ (0 ≤ c.out ∧ c.out < n.aa.length) ∧ c.kind ≠ 7
 args : ∀ x ∈ c.args, 0 ≤ x ∧ x < n.aa.length
theorem tQ.arg {n : ab} {c : Cell} (h : tQ n c) {k : Nat} (hk : k < c.args.length) : 0 ≤ c.args.getD k 0 ∧ c.args.getD k 0 < n.aa.length := h.args _ (br hk)
section
variable {n : ab} {c : Cell} (h : Shaped n c)
include h
theorem Shaped.k2 (k : c.kind = 2) : ((2 ≤ c.op ∧ c.op ≤ 3 ∨ 9 ≤ c.op ∧ c.op ≤ 20) ∧ c.args.length = 2) ∨ (c.op = 21 ∧ c.args.length = 3) ∨ (22 ≤ c.op ∧ c.op ≤ 24 ∧ c.args.length = 1) := by
 simp only [Shaped, k, Int.reduceEq, false_and, true_and, false_or, or_false] at h
 obtain ⟨h1, h2, _⟩ := h
 unfold dc at h1 h2
 split at h2
 ·omega
 ·split at h2
  ·omega
  ·split at h2 <;> omega
theorem Shaped.k3 (k : c.kind = 3) : 2 ≤ c.args.length ∧ c.args.length % 2 = 0 := by simp only [Shaped, k, Int.reduceEq, false_and, true_and, false_or, or_false] at h; omega
theorem Shaped.k4 (k : c.kind = 4) : c.args.length = 2 := by simp only [Shaped, k, Int.reduceEq, false_and, true_and, false_or, or_false] at h; omega
theorem Shaped.k5 (k : c.kind = 5) : c.args.length = 2 ∧ 4 ≤ c.op ∧ c.op ≤ 8 ∧ 1 ≤ c.num ∧ c.num ≤ 4096 := by simp only [Shaped, k, Int.reduceEq, false_and, true_and, false_or, or_false] at h; omega
theorem Shaped.k6 (k : c.kind = 6) : c.args.length = 2 ∧ 0 ≤ c.mem ∧ c.mem < n.a7.length := by simp only [Shaped, k, Int.reduceEq, false_and, true_and, false_or, or_false] at h; omega
theorem Shaped.k7 (k : c.kind = 7) : c.args.length = 3 ∧ 0 ≤ c.mem ∧ c.mem < n.a7.length := by simp only [Shaped, k, Int.reduceEq, false_and, true_and, false_or, or_false] at h; omega
theorem Shaped.k8 (k : c.kind = 8) : c.num < n.ins.length := by simp only [Shaped, k, Int.reduceEq, false_and, true_and, false_or, or_false] at h; omega
theorem Shaped.k9 (k : c.kind = 9) : 0 ≤ c.mem ∧ c.mem < n.streams.length := by simp only [Shaped, k, Int.reduceEq, false_and, true_and, false_or, or_false] at h; omega
theorem Shaped.JP (k : c.kind = 10) : 0 ≤ c.mem ∧ c.mem < n.streams.length := by simp only [Shaped, k, Int.reduceEq, false_and, true_and, false_or, or_false] at h; omega
theorem Shaped.kind : 1 ≤ c.kind ∧ c.kind ≤ 10 := by unfold Shaped at h; omega
end
theorem bs {α : Type} (l : List α) (i j : Nat) (v d : α) : (l.set i v).getD j d = if i = j ∧ i < l.length then v else l.getD j d := by
 rw [List.getD_eq_getElem?_getD, List.getD_eq_getElem?_getD, List.getElem?_set]
 by_cases h : i = j
 ·subst h
  by_cases h2 : i < l.length
  ·simp [h2]
  ·simp [h2]
 ·simp [h]
theorem zC {α : Type} {l : List α} {i : Nat} {d v : α} {f : Nat → α} (h : ∀ j, j < i → l.getD j d = f j) (hv : v = f i) (hi : i < l.length) : ∀ j, j < i + 1 → (l.set i v).getD j d = f j := by
 intro j hj
 rw [bs]
 split
 ·next e => rw [← e.1]; exact hv
 ·exact h j om
theorem sm {n : ab} {c : Cell} {i : Nat} (h : ∀ k, k < i → fj n c k) (hi : fj n c i) : ∀ k, k < i + 1 → fj n c k := by
 intro k hk
 rcases Nat.lt_succ_iff_lt_or_eq.1 hk with h1 | h1
 ·exact h k h1
 ·exact h1 ▸ hi
open Go Go.AW
section
variable {α : Type} {d : α} {p : α → Bool} {l : List α}
def u7 (p : α → Bool) (l : List α) : Int := if l.any p then (l.findIdx p : Int) else -1
theorem oC {i : Nat} (h0 : ∀ j, j < i → p (l.getD j d) = false) (hi : i < l.length) (h : p (l.getD i d) = true) : (i : Int) = u7 p l := by
 have e : l.findIdx p = i := by
  rw [List.findIdx_eq hi]
  rw [List.getD_eq_getElem?_getD, List.getElem?_eq_getElem hi] at h
  refine ⟨h, fun j hj => ?_⟩
  have := h0 j hj
  rw [List.getD_eq_getElem?_getD, List.getElem?_eq_getElem om] at this
  exact this
 have ha : l.any p = true := by
  rw [List.any_eq_true]
  refine ⟨l.getD i d, ?_, h⟩
  rw [List.getD_eq_getElem?_getD, List.getElem?_eq_getElem hi]; exact List.getElem_mem hi
 unfold u7; rw [if_pos ha, e]
theorem pU (h0 : ∀ j, j < l.length → p (l.getD j d) = false) : -1 = u7 p l := by
 have ha : ¬ (l.any p = true) := by
  rw [List.any_eq_true]
  rintro ⟨x, hx, hp⟩
  obtain ⟨i, hi, rfl⟩ := List.mem_iff_getElem.1 hx
  have := h0 i hi
  rw [List.getD_eq_getElem?_getD, List.getElem?_eq_getElem hi] at this
  exact absurd (hp.symm.trans this) ae
 unfold u7; rw [if_neg ha]
theorem sn : decide (0 ≤ u7 p l) = l.any p := by
 unfold u7
 by_cases h : l.any p = true
 ·rw [if_pos h, h]; simp
 ·rw [if_neg h]; simp only [Bool.not_eq_true] at h; rw [h]; rfl
theorem nt {i : Nat} (h : ∀ j, j < i → p (l.getD j d) = false) (hi : p (l.getD i d) = false) : ∀ j, j < i + 1 → p (l.getD j d) = false := by
 intro k hk
 rcases Nat.lt_succ_iff_lt_or_eq.1 hk with h1 | h1
 ·exact h k h1
 ·exact h1 ▸ hi
theorem dZ {i : Nat} (h : i < l.length) : l.getD i d ∈ l := by
 rw [List.getD_eq_getElem?_getD, List.getElem?_eq_getElem h]; exact List.getElem_mem h
theorem tR {ls : List (List α)} {i : Nat} (hi : i < ls.length) : (ls.take (i + 1)).flatten = (ls.take i).flatten ++ ls.getD i [] := by
 rw [List.take_add_one, List.flatten_append, List.getD_eq_getElem?_getD, List.getElem?_eq_getElem hi]; simp
theorem pf (ls : List (List α)) (i : Nat) : (ls.take i).flatten.length ≤ ls.flatten.length := by
 conv => rhs; rw [← List.take_append_drop i ls, List.flatten_append, List.length_append]
 omega
end
open Go Go.AW
def gE (m : eu) : Prop := ks m.name ∧ eO m.width ∧ 1 ≤ m.len ∧ m.len ≤ 4096 ∧ m.kind = 0 ∧ m.sj = 0
def fy (n : ab) (i : Nat) : Prop :=
 ks (n.streams.getD i default).name ∧ eO (n.streams.getD i default).width ∧ In (n.aR.getD i 0) n.aa.length ∧
 ((n.streams.getD i default).out = true → In (n.data.getD i 0) n.aa.length) ∧ ((n.streams.getD i default).out = false → n.data.getD i 0 = -1)
def gS (n : ab) (c : Cell) : Prop := (∀ x ∈ c.args, In x n.aa.length) ∧ Shaped n c ∧ (c.kind = 7 → c.out = -1) ∧ (c.kind ≠ 7 → In c.out n.aa.length)
def dn (l : List Cell) (w : Nat) : Nat := l.countP (fun c => decide (c.kind ≠ 7 ∧ c.out = (w : Int)))
structure aU (n : ab) : Prop where
 name : ks n.name
 bR : n.cells.length ≤ 65536
 b8 : n.aa.length ≤ 65536
 fk : n.a7.length ≤ 64
 bt : n.streams.length ≤ 64
 cb : n.aR.length = n.streams.length
 dR : n.data.length = n.streams.length
 wide : ∀ j, j < (n.aa ++ n.ins).length → eO ((n.aa ++ n.ins).getD j 0)
 a7 : ∀ j, j < n.a7.length → gE (n.a7.getD j default)
 strs : ∀ j, j < n.streams.length → fy n j
 freeze : In n.freeze n.aa.length
 done : In n.done n.aa.length
 bE : ∀ r ∈ n.bE, In r n.aa.length
 cells : ∀ j, j < n.cells.length → gS n (n.cells.getD j default)
 iD : ∀ w, w < n.aa.length → dn n.cells w = 1
noncomputable instance (n : ab) : Decidable (aU n) := Classical.propDecidable _
theorem cT {p : Nat → Prop} {i : Nat} (h : ∀ j, j < i → p j) (hi : p i) : ∀ j, j < i + 1 → p j := by
 intro k hk
 rcases Nat.lt_succ_iff_lt_or_eq.1 hk with h1 | h1
 ·exact h k h1
 ·exact h1 ▸ hi
theorem gb {l : List Cell} {i : Nat} (hi : i < l.length) (w : Nat) : dn (l.take (i + 1)) w = dn (l.take i) w + if (l.getD i default).kind ≠ 7 ∧ (l.getD i default).out = (w : Int) then 1 else 0 := by
 rw [List.take_add_one, List.getElem?_eq_getElem hi, List.getD_eq_getElem?_getD, List.getElem?_eq_getElem hi]
 simp only [dn, List.countP_append, Option.toList_some, List.countP_cons, List.countP_nil, Option.getD_some, Nat.zero_add, decide_eq_true_eq]
theorem pV (l : List Cell) (i w : Nat) : dn (l.take i) w ≤ dn l w := by
 conv => rhs; rw [← List.take_append_drop i l]
 simp only [dn, List.countP_append]; omega
def vj (n : ab) (i : Nat) (d : List Bool) : Prop := ∀ w, w < n.aa.length → dn (n.cells.take i) w ≤ 1 ∧ (d.getD w false = true ↔ dn (n.cells.take i) w = 1)
theorem vj.init (n : ab) : vj n 0 (List.replicate n.aa.length false) := by
 intro w hw
 refine ⟨by simp [dn], ?_⟩
 rw [List.getD_eq_getElem?_getD, List.getElem?_replicate, if_pos hw]; simp [dn]
theorem vj.skip {n : ab} {i : Nat} {d : List Bool} (h : vj n i d) (hi : i < n.cells.length) (h7 : (n.cells.getD i default).kind = 7) : vj n (i + 1) d := by
 intro w hw
 rw [gb hi, if_neg (fun h => h.1 h7)]
 exact h w hw
theorem vj.step {n : ab} {i : Nat} {d : List Bool} (h : vj n i d) (hi : i < n.cells.length) (h7 : (n.cells.getD i default).kind ≠ 7) (ho : In (n.cells.getD i default).out n.aa.length)
  (hl : d.length = n.aa.length) (hn : d.getD (n.cells.getD i default).out.toNat false = false) : vj n (i + 1) (d.set (n.cells.getD i default).out.toNat true) := by
 intro w hw
 have hh := h w hw
 rw [gb hi, bs]
 unfold In at ho
 by_cases e : (n.cells.getD i default).out = (w : Int)
 ·rw [if_pos ⟨h7, e⟩, if_pos ⟨om, om⟩]
  have e2 : (n.cells.getD i default).out.toNat = w := by omega
  rw [e2] at hn
  have h0 : dn (n.cells.take i) w ≠ 1 := fun h1 => by have := hh.2.2 h1; rw [hn] at this; cases this
  have JQ := hh.1
  exact ⟨om, by simp; omega⟩
 ·rw [if_neg (fun h => e h.2), if_neg om]
  exact hh
theorem vj.dup {n : ab} {i : Nat} {d : List Bool} (h : vj n i d) (hi : i < n.cells.length) (h7 : (n.cells.getD i default).kind ≠ 7) (ho : In (n.cells.getD i default).out n.aa.length)
  (hn : d.getD (n.cells.getD i default).out.toNat false = true) (hf : aU n) : False := by
 unfold In at ho
 have hh := h (n.cells.getD i default).out.toNat om
 have h1 := hh.2.1 hn
 have h2 := gb hi (n.cells.getD i default).out.toNat
 rw [if_pos ⟨h7, om⟩, h1] at h2
 have h3 := pV n.cells (i + 1) (n.cells.getD i default).out.toNat
 have h4 := hf.iD (n.cells.getD i default).out.toNat om
 omega
theorem vj.all {n : ab} {d : List Bool} (h : vj n n.cells.length d) (hl : d.length = n.aa.length) : (!(d.any (fun x => false == x))) = true ↔ ∀ w, w < n.aa.length → dn n.cells w = 1 := by
 unfold vj at h
 rw [List.take_length] at h
 rw [Bool.not_eq_true', List.any_eq_false]
 constructor
 ·intro ha w hw
  refine (h w hw).2.1 ?_
  have := ha (d.getD w false) (dZ om)
  cases hd : d.getD w false
  ·rw [hd] at this; exact absurd rfl this
  ·rfl
 ·intro ha x hx
  obtain ⟨w, hw, rfl⟩ := List.mem_iff_getElem.1 hx
  have := (h w om).2.2 (ha w om)
  rw [List.getD_eq_getElem?_getD, List.getElem?_eq_getElem hw] at this
  have t : d[w] = true := this
  rw [t]; decide
theorem nO {l : List Int} {p : Int → Prop} [DecidablePred p] : (l.any (fun z => !decide (p z))) = true ↔ ¬ ∀ z ∈ l, p z := by
 rw [List.any_eq_true]
 constructor
 ·rintro ⟨x, hx, hp⟩ h
  simp [h x hx] at hp
 ·intro h
  refine Classical.byContradiction fun hh => h fun z hz => Classical.byContradiction fun hp => hh ⟨z, hz, by simp [hp]⟩
theorem kZ {l : List Int} {p : Int → Prop} [DecidablePred p] (h : (l.any (fun z => !decide (p z))) = false) : ∀ z ∈ l, p z := by
 refine Classical.byContradiction fun hh => ?_
 rw [nO.2 hh] at h; cases h
open Go Go.AW
def iE (n : ab) (i : Nat) : Prop := n.wd (n.aR.getD i 0) = 1 ∧ ((n.streams.getD i default).out = true → n.wd (n.data.getD i 0) = (n.streams.getD i default).width)
structure Fit (n : ab) : Prop where
 freeze : n.wd n.freeze = 1
 done : n.wd n.done = 1
 strs : ∀ j, j < n.streams.length → iE n j
 cells : ∀ j, j < n.cells.length → Fits n (n.cells.getD j default)
noncomputable instance (n : ab) : Decidable (Fit n) := Classical.propDecidable _
theorem gS.FF {n : ab} {c : Cell} (h : gS n c) : tQ n c := by
 obtain ⟨h1, h2, h3, h4⟩ := h
 refine ⟨?_, h1⟩
 by_cases h7 : c.kind = 7
 ·exact .inl ⟨h3 h7, h7⟩
 ·exact .inr ⟨h4 h7, h7⟩
theorem aU.cell {n : ab} (h : aU n) {c : Cell} (hc : c ∈ n.cells) : gS n c := by
 obtain ⟨i, hi, rfl⟩ := List.mem_iff_getElem.1 hc
 have := h.cells i hi
 rw [List.getD_eq_getElem?_getD, List.getElem?_eq_getElem hi] at this
 exact this
theorem BH {α : Type} {l : List α} {p : α → Prop} [DecidablePred p] : (l.any (fun z => !decide (p z))) = true ↔ ¬ ∀ z ∈ l, p z := by
 rw [List.any_eq_true]
 constructor
 ·rintro ⟨x, hx, hp⟩ h
  simp [h x hx] at hp
 ·intro h
  refine Classical.byContradiction fun hh => h fun z hz => Classical.byContradiction fun hp => hh ⟨z, hz, by simp [hp]⟩
theorem nu {α : Type} {l : List α} {p : α → Prop} {d : α} : (∀ j, j < l.length → p (l.getD j d)) ↔ ∀ z ∈ l, p z := by
 constructor
 ·intro h z hz
  obtain ⟨i, hi, rfl⟩ := List.mem_iff_getElem.1 hz
  have := h i hi
  rw [List.getD_eq_getElem?_getD, List.getElem?_eq_getElem hi] at this
  exact this
 ·exact fun h j hj => h _ (dZ hj)
theorem vK {n : ab} (h1 : n.wd n.freeze = 1) (h2 : n.wd n.done = 1) (h3 : ∀ j, j < n.streams.length → iE n j) : (!(n.cells.any (fun z => !decide (Fits n z)))) = true ↔ Fit n := by
 rw [Bool.not_eq_true', ← Bool.not_eq_true, BH, Classical.not_not, ← nu (d := default)]
 exact ⟨fun h => ⟨h1, h2, h3, h⟩, fun h => h.cells⟩
open Go Go.AW
theorem length_le_of_subset {α : Type} [DecidableEq α] : ∀ {l m : List α}, l.Nodup → (∀ x ∈ l, x ∈ m) → l.length ≤ m.length
 | [], _, _, _ => Nat.zero_le _
 | a :: t, m, hn, hs => by
  have ha := hs a (List.mem_cons_self ..)
  obtain ⟨h1, h2⟩ := List.nodup_cons.1 hn
  have := length_le_of_subset (l := t) (m := m.erase a) h2 (fun x hx => (List.mem_erase_of_ne (by rintro rfl; exact h1 hx)).2 (hs x (List.mem_cons_of_mem _ hx)))
  have hm : 0 < m.length := List.length_pos_of_mem ha
  rw [List.length_erase_of_mem ha] at this
  simp only [List.length_cons]; omega
def ab.cell (n : ab) (i : Int) : Cell := n.cells.getD i.toNat default
def b7 (n : ab) (i w : Int) : Prop := (0 ≤ i ∧ i < n.cells.length) ∧ (n.cell i).kind ≠ 7 ∧ (n.cell i).out = w
def b6 (n : ab) (i : Int) : Prop := (0 ≤ i ∧ i < n.cells.length) ∧ bJ (n.cell i).kind
def y4 (n : ab) (w : Int) : Prop := ∃ j, b6 n j ∧ (n.cell j).out = w
noncomputable instance (n : ab) : DecidablePred (y4 n) := fun _ => Classical.propDecidable _
noncomputable instance (n : ab) (i : Int) : Decidable (b6 n i) := Classical.propDecidable _
theorem b6.iW {n : ab} {i : Int} (h : b6 n i) : b7 n i (n.cell i).out := ⟨h.1, fun h7 => by have := h.2; rw [h7] at this; revert this; unfold bJ; omega, rfl⟩
theorem l2 (n : ab) (i : Nat) : n.cell (i : Int) = n.cells.getD i default := rfl
theorem vL {l : List Cell} {i j w : Nat} (h : i ≤ j) : dn (l.take i) w ≤ dn (l.take j) w := by
 have := pV (l.take j) i w
 rwa [List.take_take, Nat.min_eq_left h] at this
section
variable {n : ab} (hf : aU n)
include hf
theorem aU.cellAt {i : Int} (h : 0 ≤ i ∧ i < n.cells.length) : gS n (n.cell i) := hf.cells i.toNat om
theorem aU.eF {i w : Int} (h : b7 n i w) : In w n.aa.length := h.2.2 ▸ (hf.cellAt h.1).2.2.2 h.2.1
theorem aU.ia {i x : Int} (h : 0 ≤ i ∧ i < n.cells.length) (hx : x ∈ (n.cell i).args) : In x n.aa.length := (hf.cellAt h).1 x hx
theorem aU.unique {i j w : Int} (h1 : b7 n i w) (h2 : b7 n j w) : i = j := by
 have key : ∀ {i j : Int}, b7 n i w → b7 n j w → i < j → False := by
  intro i j h1 h2 iU
  have hw := hf.eF h1
  unfold In at hw
  obtain ⟨a1, a2, a3⟩ := h1
  obtain ⟨b1, b2, b3⟩ := h2
  have e1 := gb (l := n.cells) (i := i.toNat) om w.toNat
  have e2 := gb (l := n.cells) (i := j.toNat) om w.toNat
  rw [if_pos ⟨a2, by show (n.cell i).out = _; omega⟩] at e1
  rw [if_pos ⟨b2, by show (n.cell j).out = _; omega⟩] at e2
  have e3 := vL (l := n.cells) (i := i.toNat + 1) (j := j.toNat) (w := w.toNat) om
  have e4 := pV n.cells (j.toNat + 1) w.toNat
  have e5 := hf.iD w.toNat om
  omega
 rcases Int.lt_trichotomy i j with h | h | h
 ·exact (key h1 h2 h).elim
 ·exact h
 ·exact (key h2 h1 h).elim
theorem aU.gT {w : Int} (hw : In w n.aa.length) : ∃ i, b7 n i w := by
 unfold In at hw
 have h := hf.iD w.toNat om
 have hp : 0 < dn n.cells w.toNat := by omega
 unfold dn at hp
 obtain ⟨c, hc, hp⟩ := List.countP_pos_iff.1 hp
 obtain ⟨i, hi, rfl⟩ := List.mem_iff_getElem.1 hc
 simp only [decide_eq_true_eq] at hp
 have e : n.cell (i : Int) = n.cells[i] := by rw [l2, List.getD_eq_getElem?_getD, List.getElem?_eq_getElem hi]; rfl
 refine ⟨(i : Int), ⟨om, om⟩, ?_⟩
 rw [e]; exact ⟨hp.1, om⟩
end
def fc (n : ab) (k : Nat) (l : List Bool) : Prop := ∀ w : Int, In w n.aa.length → (l.getD w.toNat false = true ↔ ∃ j, b6 n j ∧ j < k ∧ (n.cell j).out = w)
theorem fc.init (n : ab) : fc n 0 (List.replicate n.aa.length false) := by
 intro w hw
 unfold In at hw
 rw [List.getD_eq_getElem?_getD, List.getElem?_replicate, if_pos om]
 exact ⟨fun h => (by cases h), fun ⟨j, h1, h2, _⟩ => (by have := h1.1; omega)⟩
theorem fc.skip {n : ab} {k : Nat} {l : List Bool} (h : fc n k l) (hc : ¬ bJ (n.cells.getD k default).kind) : fc n (k + 1) l := by
 intro w hw
 rw [h w hw]
 constructor
 ·rintro ⟨j, h1, h2, h3⟩; exact ⟨j, h1, om, h3⟩
 ·rintro ⟨j, h1, h2, h3⟩
  refine ⟨j, h1, ?_, h3⟩
  rcases Int.lt_or_eq_of_le (show j ≤ k by omega) with h' | h'
  ·exact h'
  ·subst h'; exact absurd h1.2 hc
theorem fc.step {n : ab} {k : Nat} {l : List Bool} (h : fc n k l) (hk : k < n.cells.length) (hl : l.length = n.aa.length) (hc : bJ (n.cells.getD k default).kind) (ho : In (n.cells.getD k default).out n.aa.length) :
  fc n (k + 1) (l.set (n.cells.getD k default).out.toNat true) := by
 intro w hw
 unfold In at ho
 have qQ := hw
 unfold In at qQ
 rw [bs]
 by_cases e : (n.cells.getD k default).out = w
 ·rw [if_pos ⟨om, om⟩]
  exact ⟨fun _ => ⟨(k : Int), ⟨⟨om, om⟩, hc⟩, om, e⟩, fun _ => rfl⟩
 ·rw [if_neg om, h w hw]
  constructor
  ·rintro ⟨j, h1, h2, h3⟩; exact ⟨j, h1, om, h3⟩
  ·rintro ⟨j, h1, h2, h3⟩
   refine ⟨j, h1, ?_, h3⟩
   rcases Int.lt_or_eq_of_le (show j ≤ k by omega) with h' | h'
   ·exact h'
   ·subst h'; exact absurd h3 e
theorem fc.all {n : ab} {l : List Bool} (h : fc n n.cells.length l) {w : Int} (hw : In w n.aa.length) : l.getD w.toNat false = true ↔ y4 n w := by
 rw [h w hw]
 exact ⟨fun ⟨j, h1, _, h3⟩ => ⟨j, h1, h3⟩, fun ⟨j, h1, h3⟩ => ⟨j, h1, by have := h1.1; omega, h3⟩⟩
def fJ (n : ab) (k : Nat) : List Int := ((List.range k).filter (fun i => !decide (bJ (n.cells.getD i default).kind))).map (fun (i : Nat) => (i : Int))
theorem pW (n : ab) (k : Nat) : fJ n (k + 1) = fJ n k ++ if bJ (n.cells.getD k default).kind then [] else [(k : Int)] := by
 unfold fJ
 rw [List.range_succ, List.filter_append, List.map_append]
 congr 1
 by_cases h : bJ (n.cells.getD k default).kind
 ·rw [if_pos h]; simp [-List.getD_eq_getElem?_getD, h]
 ·rw [if_neg h]; simp [-List.getD_eq_getElem?_getD, h]
theorem jv {n : ab} {k : Nat} {x : Int} : x ∈ fJ n k ↔ (0 ≤ x ∧ x < k) ∧ ¬ bJ (n.cell x).kind := by
 unfold fJ
 rw [List.mem_map]
 constructor
 ·rintro ⟨i, h, rfl⟩
  rw [List.mem_filter, List.mem_range] at h
  exact ⟨⟨om, om⟩, by rw [l2]; simpa [-List.getD_eq_getElem?_getD] using h.2⟩
 ·rintro ⟨h1, h2⟩
  refine ⟨x.toNat, ?_, om⟩
  rw [List.mem_filter, List.mem_range]
  have h3 : ¬ bJ (n.cells.getD x.toNat default).kind := h2
  exact ⟨om, by simpa [-List.getD_eq_getElem?_getD] using h3⟩
theorem so (n : ab) (k : Nat) : (fJ n k).Nodup := by
 unfold fJ
 rw [List.Nodup, List.pairwise_map]
 refine List.Pairwise.imp (fun {a b} h => ?_) (List.Pairwise.filter _ List.nodup_range)
 omega
theorem BK (n : ab) (k : Nat) : (fJ n k).length ≤ k := by
 unfold fJ
 rw [List.length_map]
 exact Nat.le_trans (List.length_filter_le ..) (by simp)
def Open (n : ab) (done : List Int) (x : Int) : Prop := y4 n x ∧ ∀ j ∈ done, (n.cell j).out ≠ x
noncomputable instance (n : ab) (done : List Int) : DecidablePred (Open n done) := fun _ => Classical.propDecidable _
noncomputable def da (n : ab) (done : List Int) (i : Int) : Nat := (n.cell i).args.countP (fun x => decide (Open n done x))
theorem BL (n : ab) (i : Int) : da n [] i = (n.cell i).args.countP (fun x => decide (y4 n x)) := by
 unfold da
 apply List.countP_congr
 intro x _
 simp [Open]
theorem nP {n : ab} {done : List Int} {i : Int} : da n done i = 0 ↔ ∀ x ∈ (n.cell i).args, y4 n x → ∃ j ∈ done, (n.cell j).out = x := by
 unfold da
 rw [List.countP_eq_zero]
 constructor
 ·intro h x hx hc
  refine Classical.byContradiction fun hh => h x hx (decide_eq_true ?_)
  exact ⟨hc, fun j hj e => hh ⟨j, hj, e⟩⟩
 ·intro h x hx hh
  have hh := of_decide_eq_true hh
  obtain ⟨j, hj, e⟩ := h x hx hh.1
  exact hh.2 j hj e
theorem zD {n : ab} (hf : aU n) {done : List Int} {i0 : Int} (h0 : b6 n i0) (hd : ∀ j ∈ done, b6 n j) (hn : i0 ∉ done) (i : Int) : da n done i = da n (done ++ [i0]) i + (n.cell i).args.count (n.cell i0).out := by
 unfold da
 generalize (n.cell i).args = l
 induction l with
 | nil => rfl
 | cons x r ih =>
  rw [List.countP_cons, List.countP_cons, List.count_cons, ih]
  simp only [decide_eq_true_eq, beq_iff_eq]
  by_cases e : x = (n.cell i0).out
  ·have h1 : Open n done x := by
    refine ⟨⟨i0, h0, e.symm⟩, fun j hj e' => hn ?_⟩
    have := hf.unique (hd j hj).iW (by rw [e', e]; exact h0.iW)
    exact this ▸ hj
   have h2 : ¬ Open n (done ++ [i0]) x := fun h => h.2 i0 (by simp) e.symm
   rw [if_pos h1, if_neg h2, if_pos e]; omega
  ·have h1 : Open n done x ↔ Open n (done ++ [i0]) x := by
    constructor
    ·rintro ⟨a, b⟩
     refine ⟨a, fun j hj => ?_⟩
     rcases List.mem_append.1 hj with h | h
     ·exact b j h
     ·rw [List.mem_singleton.1 h]; exact fun h => e h.symm
    ·rintro ⟨a, b⟩
     exact ⟨a, fun j hj => b j (List.mem_append.2 (.inl hj))⟩
   rw [if_neg e]
   by_cases hh : Open n done x
   ·rw [if_pos hh, if_pos (h1.1 hh)]; omega
   ·rw [if_neg hh, if_neg (fun h => hh (h1.2 h))]; omega
open Go Go.AW
theorem iX {α : Type} {l : List α} {q : Nat} {d : α} (h : q < l.length) : l.take (q + 1) = l.take q ++ [l.getD q d] := by
 rw [List.take_add_one, List.getElem?_eq_getElem h, List.getD_eq_getElem?_getD, List.getElem?_eq_getElem h]; rfl
def BB (n : ab) (k : Nat) : Nat := ((n.cells.take k).map (fun c => c.args.length)).sum
theorem sq {n : ab} {k : Nat} (h : k < n.cells.length) : BB n (k + 1) = BB n k + (n.cells.getD k default).args.length := by
 unfold BB
 rw [iX (d := default) h, List.map_append, List.sum_append]; simp
theorem BM {n : ab} (hs : n.Small) (k : Nat) : BB n k ≤ 8796093022208 := by
 refine Nat.le_trans ?_ hs.BB
 conv => rhs; rw [← List.take_append_drop k n.cells, List.map_append, List.sum_append]
 exact Nat.le_add_right ..
structure BI (n : ab) (k : Nat) (rem : List Int) (e7 : List (List Int)) (ready : List Int) : Prop where
 l3 : ∀ i, b6 n i → i < k → rem.getD i.toNat 0 = (da n [] i : Int)
 zero : ∀ i : Int, (k : Int) ≤ i → i < n.cells.length → rem.getD i.toNat 0 = 0
 FG : ∀ w x, In w n.aa.length → x ∈ e7.getD w.toNat [] → b6 n x ∧ x < k
 JR : ∀ w x, In w n.aa.length → y4 n w → b6 n x → x < k → (e7.getD w.toNat []).count x = (n.cell x).args.count w
 nd : ready.Nodup
 rd : ∀ x, x ∈ ready ↔ b6 n x ∧ x < k ∧ da n [] x = 0
 ul : ∀ w, In w n.aa.length → (e7.getD w.toNat []).length ≤ BB n k
 rl : ready.length ≤ k
theorem BI.init (n : ab) : BI n 0 (List.replicate n.cells.length 0) (List.replicate n.aa.length []) [] where
 l3 := fun i h h0 => by have := h.1; omega
 zero := fun i h1 h2 => by rw [List.getD_eq_getElem?_getD, List.getElem?_replicate]; split <;> rfl
 FG := fun w x hw hx => by
  rw [List.getD_eq_getElem?_getD, List.getElem?_replicate] at hx
  split at hx <;> cases hx
 JR := fun w x hw _ h h0 => by have := h.1; omega
 nd := List.nodup_nil
 rd := fun x => ⟨fun h => (by cases h), fun ⟨h, h0, _⟩ => by have := h.1; omega⟩
 ul := fun w hw => by rw [List.getD_eq_getElem?_getD, List.getElem?_replicate]; split <;> exact Nat.zero_le _
 rl := Nat.le_refl _
theorem lY {n : ab} {k : Nat} {x : Int} (hc : ¬ bJ (n.cells.getD k default).kind) (h : b6 n x) (hx : x < ((k + 1 : Nat) : Int)) : x < k := by
 rcases Int.lt_or_eq_of_le (show x ≤ k by omega) with h' | h'
 ·exact h'
 ·subst h'; exact absurd h.2 hc
theorem BI.skip {n : ab} {k : Nat} {rem : List Int} {e7 : List (List Int)} {ready : List Int} (h : BI n k rem e7 ready) (hk : k < n.cells.length) (hc : ¬ bJ (n.cells.getD k default).kind) : BI n (k + 1) rem e7 ready where
 l3 := fun i hi h0 => h.l3 i hi (lY hc hi h0)
 zero := fun i h1 h2 => h.zero i om h2
 FG := fun w x hw hx => ⟨(h.FG w x hw hx).1, by have := (h.FG w x hw hx).2; omega⟩
 JR := fun w x hw hC hx h0 => h.JR w x hw hC hx (lY hc hx h0)
 nd := h.nd
 rd := fun x => by
  rw [h.rd x]
  exact ⟨fun ⟨a, b, c⟩ => ⟨a, om, c⟩, fun ⟨a, b, c⟩ => ⟨a, lY hc a b, c⟩⟩
 ul := fun w hw => by have := h.ul w hw; rw [sq hk]; omega
 rl := by have := h.rl; omega
structure BJ (n : ab) (k q : Nat) (rem : List Int) (e7 : List (List Int)) (kt : List Int) (gd : List (List Int)) : Prop where
 GY : ∀ i : Int, 0 ≤ i → i ≠ k → kt.getD i.toNat 0 = rem.getD i.toNat 0
 own : kt.getD k 0 = ((((n.cells.getD k default).args.take q).countP (fun x => decide (y4 n x)) : Nat) : Int)
 us : ∀ w, In w n.aa.length → gd.getD w.toNat [] = e7.getD w.toNat [] ++ List.replicate (if y4 n w then ((n.cells.getD k default).args.take q).count w else 0) (k : Int)
theorem BJ.init {n : ab} {k : Nat} {rem : List Int} {e7 : List (List Int)} {ready : List Int} (h : BI n k rem e7 ready) (hk : k < n.cells.length) : BJ n k 0 rem e7 rem e7 where
 GY := fun _ _ _ => rfl
 own := h.zero k (Int.le_refl _) om
 us := fun w _ => by simp
section
variable {n : ab} {k q : Nat} {rem kt : List Int} {e7 gd : List (List Int)}
theorem BJ.skip (h : BJ n k q rem e7 kt gd) (hq : q < (n.cells.getD k default).args.length) (hx : ¬ y4 n ((n.cells.getD k default).args.getD q 0)) : BJ n k (q + 1) rem e7 kt gd where
 GY := h.GY
 own := by rw [h.own, iX (d := 0) hq, List.countP_append, List.countP_cons, decide_eq_false hx]; simp
 us := fun w hw => by
  rw [h.us w hw]
  by_cases hC : y4 n w
  ·rw [if_pos hC, if_pos hC, iX (d := 0) hq, List.count_append, List.count_cons]
   have : ((n.cells.getD k default).args.getD q 0 == w) = false := by
    rw [beq_eq_false_iff_ne]; rintro rfl; exact hx hC
   rw [this]; simp
  ·rw [if_neg hC, if_neg hC]
theorem BJ.step (h : BJ n k q rem e7 kt gd) (hk : k < n.cells.length) (hl : kt.length = n.cells.length) (Ud : gd.length = n.aa.length) (hq : q < (n.cells.getD k default).args.length)
  (hi : In ((n.cells.getD k default).args.getD q 0) n.aa.length) (hx : y4 n ((n.cells.getD k default).args.getD q 0)) :
  BJ n k (q + 1) rem e7 (kt.set k (kt.getD k 0 + 1)) (gd.set ((n.cells.getD k default).args.getD q 0).toNat (gd.getD ((n.cells.getD k default).args.getD q 0).toNat [] ++ [(k : Int)])) where
 GY := fun i h0 h1 => by rw [bs, if_neg om]; exact h.GY i h0 h1
 own := by
  rw [bs, if_pos ⟨rfl, om⟩, h.own, iX (d := 0) hq, List.countP_append, List.countP_cons, decide_eq_true hx]; simp
 us := fun w hw => by
  unfold In at hi
  have qQ := hw
  unfold In at qQ
  rw [bs, iX (d := 0) hq, List.count_append, List.count_cons]
  by_cases e : (n.cells.getD k default).args.getD q 0 = w
  ·rw [e] at hx hi ⊢
   rw [if_pos ⟨rfl, om⟩, h.us w hw, if_pos hx, if_pos hx, List.append_assoc]
   congr 1
   rw [beq_self_eq_true, if_pos rfl]
   show _ = List.replicate (_ + 1) _
   rw [List.replicate_succ']
  ·have : ((n.cells.getD k default).args.getD q 0 == w) = false := by rw [beq_eq_false_iff_ne]; exact e
   rw [if_neg om, h.us w hw, this]; simp
theorem BJ.GZ (h : BJ n k q rem e7 kt gd) : 0 ≤ kt.getD k 0 ∧ kt.getD k 0 ≤ (q : Int) := by
 rw [h.own]
 have := Nat.le_trans (List.countP_le_length (p := fun x => decide (y4 n x)) (l := (n.cells.getD k default).args.take q)) (List.length_take_le ..)
 omega
variable {ready : List Int}
theorem BJ.len (hb : BI n k rem e7 ready) (h : BJ n k q rem e7 kt gd) {w : Int} (hw : In w n.aa.length) : (gd.getD w.toNat []).length ≤ BB n k + q := by
 rw [h.us w hw, List.length_append, List.length_replicate]
 have := hb.ul w hw
 have h2 : ((n.cells.getD k default).args.take q).count w ≤ q := Nat.le_trans List.count_le_length (by rw [List.length_take]; omega)
 split <;> omega
theorem BJ.fin (hb : BI n k rem e7 ready) (hk : k < n.cells.length) (hc : bJ (n.cells.getD k default).kind) (h : BJ n k (n.cells.getD k default).args.length rem e7 kt gd) :
  (kt.getD k 0 = 0 → BI n (k + 1) kt gd (ready ++ [(k : Int)])) ∧ (kt.getD k 0 ≠ 0 → BI n (k + 1) kt gd ready) := by
 have hn : kt.getD k 0 = (da n [] (k : Int) : Int) := by rw [h.own, List.take_length, BL]; rfl
 have vM : b6 n (k : Int) := ⟨⟨om, om⟩, hc⟩
 have l3 : ∀ i, b6 n i → i < ((k + 1 : Nat) : Int) → kt.getD i.toNat 0 = (da n [] i : Int) := by
  intro i hi h0
  by_cases e : i = k
  ·subst e; exact hn
  ·rw [h.GY i hi.1.1 e]; exact hb.l3 i hi om
 have hzero : ∀ i : Int, (((k + 1 : Nat)) : Int) ≤ i → i < n.cells.length → kt.getD i.toNat 0 = 0 := by
  intro i h1 h2
  rw [h.GY i om om]; exact hb.zero i om h2
 have JS : ∀ w x, In w n.aa.length → x ∈ gd.getD w.toNat [] → b6 n x ∧ x < ((k + 1 : Nat) : Int) := by
  intro w x hw hx
  rw [h.us w hw] at hx
  rcases List.mem_append.1 hx with hx | hx
  ·exact ⟨(hb.FG w x hw hx).1, by have := (hb.FG w x hw hx).2; omega⟩
  ·rw [List.eq_of_mem_replicate hx]; exact ⟨vM, om⟩
 have JT : ∀ w x, In w n.aa.length → y4 n w → b6 n x → x < ((k + 1 : Nat) : Int) → (gd.getD w.toNat []).count x = (n.cell x).args.count w := by
  intro w x hw hC hx h0
  rw [h.us w hw, if_pos hC, List.take_length, List.count_append]
  by_cases e : x = k
  ·subst e
   have h0 : (e7.getD w.toNat []).count (k : Int) = 0 := List.count_eq_zero.2 (fun hm => by have := (hb.FG w _ hw hm).2; omega)
   rw [h0, List.count_replicate_self, Nat.zero_add]; rfl
  ·rw [hb.JR w x hw hC hx om, List.count_replicate, if_neg (by simpa using fun h => e h.symm)]; rfl
 have Qy : ∀ w, In w n.aa.length → (gd.getD w.toNat []).length ≤ BB n (k + 1) := fun w hw => by rw [sq hk]; exact BJ.len hb h hw
 have Fj := hb.rl
 constructor
 ·intro h0
  refine ⟨l3, hzero, JS, JT, ?_, fun x => ?_, Qy, by rw [List.length_append]; exact Nat.succ_le_succ Fj⟩
  ·rw [List.nodup_append]
   refine ⟨hb.nd, by simp, fun a ha b gq => ?_⟩
   rw [List.mem_singleton.1 gq]
   have := ((hb.rd a).1 ha).2.1; omega
  ·rw [List.mem_append, hb.rd x, List.mem_singleton]
   constructor
   ·rintro (⟨a, b, c⟩ | rfl)
    ·exact ⟨a, om, c⟩
    ·exact ⟨vM, om, om⟩
   ·rintro ⟨a, b, c⟩
    by_cases e : x = k
    ·exact .inr e
    ·exact .inl ⟨a, om, c⟩
 ·intro h0
  refine ⟨l3, hzero, JS, JT, hb.nd, fun x => ?_, Qy, om⟩
  rw [hb.rd x]
  constructor
  ·rintro ⟨a, b, c⟩; exact ⟨a, om, c⟩
  ·rintro ⟨a, b, c⟩
   refine ⟨a, ?_, c⟩
   by_cases e : x = k
   ·subst e; omega
   ·omega
end
structure KI (n : ab) (done ready rem : List Int) : Prop where
 nd : (done ++ ready).Nodup
 cm : ∀ x ∈ done ++ ready, b6 n x
 l3 : ∀ i, b6 n i → rem.getD i.toNat 0 = (da n done i : Int)
 full : ∀ i, b6 n i → (i ∈ done ++ ready ↔ da n done i = 0)
 mM : ∀ p i s, done = p ++ i :: s → da n p i = 0
structure US (n : ab) (e7 : List (List Int)) : Prop where
 mem : ∀ w x, In w n.aa.length → x ∈ e7.getD w.toNat [] → b6 n x
 Eg : ∀ w x, In w n.aa.length → y4 n w → b6 n x → (e7.getD w.toNat []).count x = (n.cell x).args.count w
theorem BI.us {n : ab} {rem : List Int} {e7 : List (List Int)} {ready : List Int} (h : BI n n.cells.length rem e7 ready) : US n e7 :=
 ⟨fun w x hw hx => (h.FG w x hw hx).1, fun w x hw hC hx => h.JR w x hw hC hx (by have := hx.1; omega)⟩
theorem BI.ki {n : ab} {rem : List Int} {e7 : List (List Int)} {ready : List Int} (h : BI n n.cells.length rem e7 ready) : KI n [] ready rem where
 nd := h.nd
 cm := fun x hx => ((h.rd x).1 hx).1
 l3 := fun i hi => h.l3 i hi (by have := hi.1; omega)
 full := fun i hi => by
  show i ∈ ready ↔ _
  rw [h.rd i]
  exact ⟨fun h => h.2.2, fun h => ⟨hi, by have := hi.1; omega, h⟩⟩
 mM := fun p i s h => by simp at h
structure KJ (n : ab) (done : List Int) (i0 : Int) (u : List Int) (q : Nat) (ready rem : List Int) : Prop where
 nd : (done ++ [i0] ++ ready).Nodup
 cm : ∀ x ∈ done ++ [i0] ++ ready, b6 n x
 l3 : ∀ i, b6 n i → rem.getD i.toNat 0 = (da n done i : Int) - ((u.take q).count i : Int)
 full : ∀ i, b6 n i → (i ∈ done ++ [i0] ++ ready ↔ da n done i ≤ (u.take q).count i)
theorem KJ.init {n : ab} {done ready rem u : List Int} (h : KI n done ready rem) (h0 : 0 < ready.length) : KJ n done (ready.getD 0 0) u 0 (ready.drop 1) rem := by
 have e : done ++ [ready.getD 0 0] ++ ready.drop 1 = done ++ ready := by
  cases ready with
  | nil => simp at h0
  | cons a r => simp
 refine ⟨by rw [e]; exact h.nd, by rw [e]; exact h.cm, fun i hi => by rw [h.l3 i hi]; simp, fun i hi => by rw [e, h.full i hi]; simp⟩
section
variable {n : ab} (hf : aU n) {done ready rem u BN kt : List Int} {i0 : Int} {q : Nat}
include hf
theorem KJ.count (h : KJ n done i0 u q ready rem) (hu : ∀ x, b6 n x → u.count x = (n.cell x).args.count (n.cell i0).out) {x : Int} (hx : b6 n x) : da n done x = da n (done ++ [i0]) x + u.count x := by
 have iV := (List.nodup_append.1 h.nd).1
 have Ha : i0 ∉ done := fun hm => (List.nodup_append.1 iV).2.2 i0 hm i0 (by simp) rfl
 rw [hu x hx]
 exact zD hf (h.cm i0 (by simp)) (fun j hj => h.cm j (by simp [hj])) Ha x
theorem KJ.step (h : KJ n done i0 u q ready rem) (hl : rem.length = n.cells.length) (hq : q < u.length) (hu : ∀ x, b6 n x → u.count x = (n.cell x).args.count (n.cell i0).out) (hm : ∀ x ∈ u, b6 n x) :
  (rem.getD (u.getD q 0).toNat 0 - 1 = 0 → KJ n done i0 u (q + 1) (ready ++ [u.getD q 0]) (rem.set (u.getD q 0).toNat (rem.getD (u.getD q 0).toNat 0 - 1))) ∧
  (rem.getD (u.getD q 0).toNat 0 - 1 ≠ 0 → KJ n done i0 u (q + 1) ready (rem.set (u.getD q 0).toNat (rem.getD (u.getD q 0).toNat 0 - 1))) := by
 have hk : b6 n (u.getD q 0) := hm _ (br hq)
 have No := hk.1
 have ht := iX (d := 0) hq
 have JU : ∀ i, (u.take (q + 1)).count i = (u.take q).count i + if u.getD q 0 = i then 1 else 0 := by
  intro i
  rw [ht, List.count_append, List.count_cons]; simp
 have hle : (u.take (q + 1)).count (u.getD q 0) ≤ u.count (u.getD q 0) := by
  have e := congrArg (List.count (u.getD q 0)) (List.take_append_drop (q + 1) u)
  rw [List.count_append] at e; omega
 have hc := KJ.count hf h hu hk
 have Qz := JU (u.getD q 0)
 rw [if_pos rfl] at Qz
 have Q0 := h.l3 _ hk
 have l3 : ∀ i, b6 n i → (rem.set (u.getD q 0).toNat (rem.getD (u.getD q 0).toNat 0 - 1)).getD i.toNat 0 = (da n done i : Int) - ((u.take (q + 1)).count i : Int) := by
  intro i hi
  have RQ := hi.1
  rw [bs, JU i]
  by_cases e : u.getD q 0 = i
  ·rw [if_pos ⟨om, om⟩, if_pos e, Q0, e]; omega
  ·rw [if_neg om, if_neg e, h.l3 i hi]; omega
 have v5 : u.getD q 0 ∉ done ++ [i0] ++ ready := fun qR => by
  have := (h.full _ hk).1 qR; omega
 constructor
 ·intro h0
  refine ⟨?_, ?_, l3, fun i hi => ?_⟩
  ·rw [← List.append_assoc, List.nodup_append]
   refine ⟨h.nd, by simp, fun a ha b hb e => v5 ?_⟩
   rw [← List.mem_singleton.1 hb, ← e]; exact ha
  ·intro x hx
   rw [← List.append_assoc] at hx
   rcases List.mem_append.1 hx with hx | hx
   ·exact h.cm x hx
   ·rw [List.mem_singleton.1 hx]; exact hk
  ·rw [← List.append_assoc, List.mem_append, h.full i hi, List.mem_singleton, JU i]
   by_cases e : u.getD q 0 = i
   ·rw [if_pos e]
    subst e
    exact ⟨fun _ => by omega, fun _ => .inr rfl⟩
   ·rw [if_neg e]
    exact ⟨fun h => by rcases h with h | h; omega; exact absurd h.symm e, fun h => .inl om⟩
 ·intro h0
  refine ⟨h.nd, h.cm, l3, fun i hi => ?_⟩
  rw [h.full i hi, JU i]
  by_cases e : u.getD q 0 = i
  ·rw [if_pos e]
   subst e
   omega
  ·rw [if_neg e]; rfl
theorem KJ.bound (hs : n.Small) (h : KJ n done i0 u q ready rem) (hq : q < u.length) (hu : ∀ x, b6 n x → u.count x = (n.cell x).args.count (n.cell i0).out) (hm : ∀ x ∈ u, b6 n x) :
  1 ≤ rem.getD (u.getD q 0).toNat 0 ∧ rem.getD (u.getD q 0).toNat 0 ≤ 17592186043904 ∧ ready.length < n.cells.length := by
 have hk : b6 n (u.getD q 0) := hm _ (br hq)
 have ht := iX (d := 0) hq
 have JU : (u.take (q + 1)).count (u.getD q 0) = (u.take q).count (u.getD q 0) + 1 := by
  rw [ht, List.count_append, List.count_cons]; simp
 have e := congrArg (List.count (u.getD q 0)) (List.take_append_drop (q + 1) u)
 rw [List.count_append] at e
 have hc := KJ.count hf h hu hk
 have Q0 := h.l3 _ hk
 have hn : da n done (u.getD q 0) ≤ (n.cell (u.getD q 0)).args.length := List.countP_le_length
 have ha : (n.cell (u.getD q 0)).args.length ≤ 17592186043904 := hs.args _ (dZ (by have := hk.1; omega))
 refine ⟨om, om, ?_⟩
 have := length_le_of_subset (m := (List.range n.cells.length).map (fun (i : Nat) => (i : Int))) h.nd (fun x hx => by
  have := (h.cm x hx).1
  exact List.mem_map.2 ⟨x.toNat, List.mem_range.2 om, om⟩)
 rw [List.length_append, List.length_append, List.length_map, List.length_range] at this
 simp only [List.length_cons, List.length_nil] at this
 omega
theorem KJ.fin (hk : KI n done BN kt) (h0 : i0 ∈ BN) (h : KJ n done i0 u u.length ready rem) (hu : ∀ x, b6 n x → u.count x = (n.cell x).args.count (n.cell i0).out) : KI n (done ++ [i0]) ready rem := by
 have hc : ∀ {x}, b6 n x → da n done x = da n (done ++ [i0]) x + u.count x := fun hx => KJ.count hf h hu hx
 refine ⟨h.nd, h.cm, fun i hi => ?_, fun i hi => ?_, fun p i s e => ?_⟩
 ·rw [h.l3 i hi, List.take_length, hc hi]; omega
 ·rw [h.full i hi, List.take_length, hc hi]; omega
 ·rcases List.eq_nil_or_concat s with rfl | ⟨s', x, rfl⟩
  ·have e2 := List.append_inj' (t₁ := [i0]) (t₂ := [i]) e rfl
   obtain ⟨rfl, e3⟩ := e2
   cases e3
   have oV : b6 n i0 := hk.cm i0 (List.mem_append.2 (.inr h0))
   exact (hk.full i0 oV).1 (List.mem_append.2 (.inr h0))
  ·have e2 := List.append_inj' (s₁ := done) (s₂ := p ++ i :: s') (t₁ := [i0]) (t₂ := [x]) (by rw [e]; simp) rfl
   exact hk.mM p i s' e2.1
end
def Acyclic (n : ab) : Prop := ∃ r : Int → Nat, ∀ i j, b6 n i → b6 n j → (n.cell j).out ∈ (n.cell i).args → r j < r i
noncomputable instance (n : ab) : Decidable (Acyclic n) := Classical.propDecidable _
structure Ord (n : ab) (l : List Int) : Prop where
 len : l.length = n.cells.length
 nd : l.Nodup
 og : ∀ x ∈ l, 0 ≤ x ∧ x < n.cells.length
 mM : ∀ p i s, l = p ++ i :: s → bJ (n.cell i).kind → ∀ x ∈ (n.cell i).args, ∃ j ∈ p, b7 n j x
theorem KI.all {n : ab} {done ready rem : List Int} (h : KI n done ready rem) : (fJ n n.cells.length ++ done ++ ready).Nodup ∧ ∀ x ∈ fJ n n.cells.length ++ done ++ ready, 0 ≤ x ∧ x < n.cells.length := by
 rw [List.append_assoc]
 refine ⟨?_, fun x hx => ?_⟩
 ·rw [List.nodup_append]
  refine ⟨so _ _, h.nd, fun a ha b hb e => ?_⟩
  subst e
  exact (jv.1 ha).2 (h.cm a hb).2
 ·rcases List.mem_append.1 hx with h' | h'
  ·have := (jv.1 h').1; omega
  ·exact (h.cm x h').1
theorem KI.len {n : ab} {done ready rem : List Int} (h : KI n done ready rem) : (fJ n n.cells.length ++ done).length + ready.length ≤ n.cells.length := by
 obtain ⟨h1, h2⟩ := h.all
 have := length_le_of_subset (m := (List.range n.cells.length).map (fun (i : Nat) => (i : Int))) h1 (fun x hx => by
  have := h2 x hx
  exact List.mem_map.2 ⟨x.toNat, List.mem_range.2 om, om⟩)
 rw [List.length_append, List.length_map, List.length_range] at this
 exact this
theorem KI.mem {n : ab} {done rem : List Int} (h : KI n done [] rem) {r : Int → Nat} (hr : ∀ i j, b6 n i → b6 n j → (n.cell j).out ∈ (n.cell i).args → r j < r i) : ∀ (m : Nat) (i : Int), b6 n i → r i < m → i ∈ done
 | 0, _, _, hm => by omega
 | m + 1, i, hi, hm => by
  have hz : da n done i = 0 := by
   rw [nP]
   rintro x hx ⟨j, hj, rfl⟩
   exact ⟨j, KI.mem h hr m j hj (by have := hr i j hi hj hx; omega), rfl⟩
  have := (h.full i hi).2 hz
  simpa using this
theorem zE (M : Nat) : ((List.range M).map (fun (i : Nat) => (i : Int))).Nodup := by
 rw [List.Nodup, List.pairwise_map]
 exact List.Pairwise.imp (fun {a b} h => by omega) List.nodup_range
theorem KI.FH {n : ab} {done rem : List Int} (h : KI n done [] rem) (hl : (fJ n n.cells.length ++ done).length < n.cells.length) : ¬ Acyclic n := by
 rintro ⟨r, hr⟩
 have := length_le_of_subset (m := fJ n n.cells.length ++ done) (zE n.cells.length) (fun x hx => by
  obtain ⟨i, hi, rfl⟩ := List.mem_map.1 hx
  rw [List.mem_range] at hi
  by_cases hc : bJ (n.cell (i : Int)).kind
  ·exact List.mem_append.2 (.inr (KI.mem h hr _ (i : Int) ⟨⟨om, om⟩, hc⟩ (Nat.lt_succ_self _)))
  ·exact List.mem_append.2 (.inl (jv.2 ⟨⟨om, om⟩, hc⟩)))
 rw [List.length_map, List.length_range] at this
 omega
theorem pg {l p s : List Int} {i j : Int} (hn : l.Nodup) (e : l = p ++ i :: s) (hj : j ∈ p) : l.idxOf j < l.idxOf i := by
 subst e
 have hi : i ∉ p := fun h => (List.nodup_append.1 hn).2.2 i h i (by simp) rfl
 rw [List.idxOf_append, if_pos hj, List.idxOf_append, if_neg hi]
 have := List.idxOf_lt_length_of_mem hj
 omega
theorem KI.ok {n : ab} (hf : aU n) {done rem : List Int} (h : KI n done [] rem) (hl : ¬ (fJ n n.cells.length ++ done).length < n.cells.length) : Acyclic n ∧ Ord n (fJ n n.cells.length ++ done) := by
 obtain ⟨h1, h2⟩ := h.all
 rw [List.append_nil] at h1 h2
 have hle := h.len
 simp only [List.length_nil, Nat.add_zero] at hle
 have JV : ∀ i : Int, (0 ≤ i ∧ i < n.cells.length) → i ∈ fJ n n.cells.length ++ done := by
  intro i hi
  refine Classical.byContradiction fun hn => ?_
  have := length_le_of_subset (l := i :: (fJ n n.cells.length ++ done)) (m := (List.range n.cells.length).map (fun (i : Nat) => (i : Int))) (List.nodup_cons.2 ⟨hn, h1⟩) (fun x hx => by
   have iw : 0 ≤ x ∧ x < n.cells.length := by
    rcases List.mem_cons.1 hx with rfl | hx
    ·exact hi
    ·exact h2 x hx
   exact List.mem_map.2 ⟨x.toNat, List.mem_range.2 om, om⟩)
  rw [List.length_cons, List.length_map, List.length_range] at this
  omega
 have Gv : ∀ i, b6 n i → i ∈ done := by
  intro i hi
  rcases List.mem_append.1 (JV i hi.1) with h' | h'
  ·exact absurd hi.2 (jv.1 h').2
  ·exact h'
 have Mm : done.Nodup := (List.nodup_append.1 h1).2.1
 refine ⟨⟨fun i => done.idxOf i, fun i j hi hj hx => ?_⟩, om, h1, h2, fun p i s e hc x hx => ?_⟩
 ·obtain ⟨p, s, e⟩ := List.append_of_mem (Gv i hi)
  obtain ⟨j', pa, e'⟩ := nP.1 (h.mM p i s e) _ hx ⟨j, hj, rfl⟩
  have Hb : b6 n j' := h.cm j' (by rw [e]; simp [pa])
  have := hf.unique Hb.iW (e' ▸ hj.iW)
  subst this
  exact pg Mm e pa
 ·have hi : b6 n i := ⟨h2 i (by rw [e]; simp), hc⟩
  obtain ⟨j, hj⟩ := hf.gT (hf.ia hi.1 hx)
  by_cases Q3 : bJ (n.cell j).kind
  ·-- the gT is combinational
   obtain ⟨p', s', e'⟩ := List.append_of_mem (Gv i hi)
   obtain ⟨j', pa, e2⟩ := nP.1 (h.mM p' i s' e') x hx ⟨j, ⟨hj.1, Q3⟩, hj.2.2⟩
   have Hb : b6 n j' := h.cm j' (by rw [e']; simp [pa])
   have e3 : p ++ i :: s = (fJ n n.cells.length ++ p') ++ i :: s' := by rw [← e, e', List.append_assoc]
   have hp : p = fJ n n.cells.length ++ p' := by
    have JW : i ∉ p := by
     rw [e] at h1
     exact fun h => (List.nodup_append.1 h1).2.2 i h i (by simp) rfl
    have lL : i ∉ fJ n n.cells.length ++ p' := by
     rw [e, e3] at h1
     exact fun h => (List.nodup_append.1 h1).2.2 i h i (by simp) rfl
    have := congrArg (fun l => l.idxOf i) e3
    simp only [List.idxOf_append, if_neg JW, if_neg lL, List.idxOf_cons_self, Nat.add_zero] at this
    exact (List.append_inj e3 om).1
   exact ⟨j', by rw [hp]; exact List.mem_append.2 (.inr pa), e2 ▸ Hb.iW⟩
  ·-- it comes first
   refine ⟨j, ?_, hj⟩
   have I1 : j ∈ fJ n n.cells.length := jv.2 ⟨hj.1, Q3⟩
   have Mg : i ∉ fJ n n.cells.length := fun h => (jv.1 h).2 hc
   have : fJ n n.cells.length ++ done = p ++ i :: s := e
   rcases List.append_eq_append_iff.1 this with ⟨a, ha, hb⟩ | ⟨a, ha, hb⟩
   ·rw [ha]; exact List.mem_append.2 (.inl I1)
   ·cases a with
    | nil => rw [List.append_nil] at ha; rw [← ha]; exact I1
    | cons b t =>
     rw [List.cons_append] at hb
     cases hb
     exact absurd (by rw [ha]; simp) Mg
def nv (n : ab) (l : List Int) (e : Int) : Prop :=
 (¬ aU n ∧ l = [] ∧ e = 3) ∨ (aU n ∧ ¬ Fit n ∧ l = [] ∧ e = 13) ∨ (aU n ∧ Fit n ∧ ¬ Acyclic n ∧ l = [] ∧ e = 12) ∨ (aU n ∧ Fit n ∧ Acyclic n ∧ Ord n l ∧ e = 0)
theorem oD {p : Prop} (h : p := by ((try unfold Plain at *); (try unfold Unary at *); (try unfold BG at *); (try unfold Seq at *); (try unfold In at *); first | (intro h; simp only [Shaped] at h; rcases h with h | h | h | h | h | h | h | h | h | h <;> omega) | (subst_vars; simp only [Shaped, Int.reduceEq, Bool.not_eq_true, false_and, true_and, and_true, and_false, or_false, false_or, ne_eq]; first | omega | grind | (unfold dc; grind)))) : p := h
theorem wI {p : Prop} (h : p := by ((try unfold Plain at *); (try unfold Unary at *); (try unfold BG at *); (try unfold Seq at *); (try unfold In at *); (subst_vars; simp only [Shaped, Int.reduceEq, Bool.not_eq_true, false_and, true_and, and_true, and_false, or_false, false_or, ne_eq]; first | omega | grind | (unfold dc; grind)))) : p := h
noncomputable def fK (n : ab) : Int := if aU n then if Fit n then if Acyclic n then 0 else 12 else 13 else 3
theorem nv.err {n : ab} {l : List Int} {e : Int} (h : nv n l e) : e = fK n := by
 unfold fK
 rcases h with ⟨h1, _, h⟩ | ⟨h1, h2, _, h⟩ | ⟨h1, h2, h3, _, h⟩ | ⟨h1, h2, h3, _, h⟩
 ·rw [if_neg h1, h]
 ·rw [if_pos h1, if_neg h2, h]
 ·rw [if_pos h1, if_pos h2, if_neg h3, h]
 ·rw [if_pos h1, if_pos h2, if_pos h3, h]
open Go Go.AW
structure U2 where
 a : Nat
 b : Nat
instance : Inhabited U2 := ⟨⟨0, 0⟩⟩
def U2.row (x : U2) : List X := [.v (.int .u8 (x.a : Int)), .v (.int .u8 (x.b : Int))]
theorem U2.cg (c : U2) : X.b9 c.row = true := rfl
structure pJ where
 kind : Nat
 op : Nat
 width : Nat
 a : Nat
 b : Nat
 d : Nat
 num : Nat
instance : Inhabited pJ := ⟨⟨0, 0, 0, 0, 0, 0, 0⟩⟩
def pJ.row (x : pJ) : List X := [.v (.int .u8 (x.kind : Int)), .v (.int .u8 (x.op : Int)), .v (.int .u8 (x.width : Int)), .v (.int .u8 (x.a : Int)), .v (.int .u8 (x.b : Int)), .v (.int .u8 (x.d : Int)), .v (.int .u64 (x.num : Int))]
theorem pJ.cg (c : pJ) : X.b9 c.row = true := rfl
structure lM where
 a7 : List U2
 streams : List U2
 ins : List Nat
 parts : List pJ
 bE : List Nat
def lM.row (n : lM) : List X := [.fz 2 (n.a7.map U2.row), .fz 2 (n.streams.map U2.row), .fz 1 (n.ins.map sf), .fz 7 (n.parts.map pJ.row), .fz 1 (n.bE.map sf)]
def ab.ph (n : ab) : List X := [.v (.string n.name), .fz 1 (n.aa.map ai), .fz 6 (n.cells.map Cell.row), .fz 1 (n.ins.map ai), .fz 5 (n.a7.map eu.row), .fz 3 (n.streams.map bI.row),
 .v (.slice none 0 0), .v (.slice none 0 0), .v (.int .i64 n.freeze), .v (.int .i64 n.done), .v (.slice none 0 0)]
def Cell.mL (c : Cell) : List X := [.v (.int .i64 c.kind), .v (.int .i64 c.op), .v (.int .i64 c.out), .ei 1 (c.args.map ai), .v (.int .u64 (c.num : Int)), .v (.int .i64 c.mem)]
def ab.mL (n : ab) : List X := [.v (.string n.name), .ei 1 (n.aa.map ai), .ei 6 (n.cells.map Cell.row), .fz 1 (n.ins.map ai), .fz 5 (n.a7.map eu.row), .fz 3 (n.streams.map bI.row),
 .fz 1 (n.aR.map ai), .fz 1 (n.data.map ai), .v (.int .i64 n.freeze), .v (.int .i64 n.done), .fz 1 (n.bE.map ai)]
def ay (k : Nat) : Int := ([1, 2, 4, 7, 8, 13, 33, 64] : List Int).getD (k % 8) 0
def opsL : List Int := [2, 3, 9, 10, 11, 12, 13, 14, 15, 16, 17, 18, 19, 20, 21, 22, 23, 24]
theorem dw (k : Nat) : eO (ay k) := by
 have h : ∀ j, j < 8 → eO (([1, 2, 4, 7, 8, 13, 33, 64] : List Int).getD j 0) := by decide
 exact h _ (Nat.mod_lt _ ae)
def ib (ws : List Int) (w : Int) (i : Nat) : List Int := ((List.range i).filter (fun j => decide (ws.getD j 0 = w))).map (fun (j : Nat) => (j : Int))
theorem nQ {ws : List Int} {w : Int} {i : Nat} (h : ws.getD i 0 = w) : ib ws w (i + 1) = ib ws w i ++ [(i : Int)] := by
 simp only [ib, List.range_succ, List.filter_append, List.map_append, List.filter_cons, h, decide_true, if_true, List.filter_nil, List.map_cons, List.map_nil]
theorem pj {ws : List Int} {w : Int} {i : Nat} (h : ws.getD i 0 ≠ w) : ib ws w (i + 1) = ib ws w i := by
 simp only [ib, List.range_succ, List.filter_append, List.filter_cons, h, decide_false, List.filter_nil, List.append_nil, Bool.false_eq_true, if_false]
theorem tS (ws : List Int) (w : Int) (i : Nat) : (ib ws w i).length ≤ i := by
 have := List.length_filter_le (fun j => decide (ws.getD j 0 = w)) (List.range i)
 simp only [ib, List.length_map]; rw [List.length_range] at this; exact this
def aC (ws : List Int) (w : Int) (k : Nat) : Int := if (ib ws w ws.length).length = 0 then -1 else (ib ws w ws.length).getD (k % (ib ws w ws.length).length) 0
def BO (ws : List Int) (w : Int) : Prop := ∃ j, j < ws.length ∧ ws.getD j 0 = w
theorem cU {ws : List Int} {w : Int} (h : BO ws w) (k : Nat) : In (aC ws w k) ws.length ∧ ws.getD (aC ws w k).toNat 0 = w := by
 obtain ⟨j, hj, hw⟩ := h
 have h0 : (j : Int) ∈ ib ws w ws.length := List.mem_map.2 ⟨j, List.mem_filter.2 ⟨List.mem_range.2 hj, decide_eq_true hw⟩, rfl⟩
 have hp := List.length_pos_of_mem h0
 unfold aC
 rw [if_neg om]
 have hm := br (l := ib ws w ws.length) (i := k % (ib ws w ws.length).length) (Nat.mod_lt _ hp)
 obtain ⟨i, hi, he⟩ := List.mem_map.1 hm
 obtain ⟨h1, h2⟩ := List.mem_filter.1 hi
 rw [← he]
 have := List.mem_range.1 h1
 exact ⟨⟨om, om⟩, by simpa using h2⟩
def qW (ws : List Int) (cs : List Cell) (p : pJ) (i : Nat) : List Cell :=
 if (cs.getD ((((cs.length : Int) - 1) - (i : Int)).toNat) default).kind = 4 then
  cs.set ((((cs.length : Int) - 1) - (i : Int)).toNat) ⟨(cs.getD ((((cs.length : Int) - 1) - (i : Int)).toNat) default).kind, (cs.getD ((((cs.length : Int) - 1) - (i : Int)).toNat) default).op, (cs.getD ((((cs.length : Int) - 1) - (i : Int)).toNat) default).out,
   [aC ws 1 p.a, aC ws (ws.getD (cs.getD ((((cs.length : Int) - 1) - (i : Int)).toNat) default).out.toNat 0) p.d], (cs.getD ((((cs.length : Int) - 1) - (i : Int)).toNat) default).num, (cs.getD ((((cs.length : Int) - 1) - (i : Int)).toNat) default).mem⟩
 else cs
structure pJ.Ok (p : pJ) : Prop where
 kind : p.kind < 256
 op : p.op < 256
 width : p.width < 256
 a : p.a < 256
 b : p.b < 256
 d : p.d < 256
 num : p.num < 18446744073709551616
open Go Go.AW
structure Ground (n : ab) : Prop where
 has : ∀ k, BO n.aa (ay k)
 wide : ∀ w ∈ n.aa, eO w
 a7 : ∀ m ∈ n.a7, ∃ k, m.width = ay k
 strs : ∀ s ∈ n.streams, ∃ k, s.width = ay k
 ins : ∀ w ∈ n.ins, ∃ k, w = ay k
def tT (n : ab) (c : Cell) (w : Int) : Prop :=
 (c.kind = 1 ∧ kP w c.num = c.num) ∨
 (c.kind = 2 ∧ cp c.op (n.av c 0) (n.av c 1) (n.av c 2) w) ∨
 (c.kind = 3 ∧ ∀ k, k < c.args.length → (k % 2 = 0 ∧ n.av c k = 1) ∨ (k % 2 = 1 ∧ n.av c k = w)) ∨
 (c.kind = 4 ∧ n.av c 0 = 1 ∧ n.av c 1 = w ∧ kP w c.num = c.num) ∨
 (c.kind = 5 ∧ n.av c 0 = w ∧ n.av c 1 = w) ∨
 (c.kind = 6 ∧ n.av c 0 = 1 ∧ (n.a7.getD c.mem.toNat default).width = w) ∨
 (c.kind = 7 ∧ n.av c 0 = 1 ∧ (n.a7.getD c.mem.toNat default).width = n.av c 2) ∨
 (c.kind = 8 ∧ n.ins.getD c.num 0 = w) ∨
 (c.kind = 9 ∧ w = 1) ∨
 (c.kind = 10 ∧ (n.streams.getD c.mem.toNat default).width = w)
structure xp (n : ab) (c : Cell) (w : Int) : Prop where
 out : c.kind = 7 → c.out = -1
 args : ∀ x ∈ c.args, In x n.aa.length
 shaped : Shaped n c
 fits : tT n c w
 wide : eO w
 num : c.num < 18446744073709551616
 len : c.args.length ≤ 4
def ku (n : ab) (c : Cell) (w : Int) : Prop := c.kind = 0 ∨ xp n c w
theorem vN (w : Int) (x : Nat) : kP w (kP w x) = kP w x := Nat.mod_mod _ _
theorem vO : eO 1 := by decide
theorem BP (i : Nat) : (2 ≤ opsL.getD (i % opsL.length) 0 ∧ opsL.getD (i % opsL.length) 0 ≤ 3) ∨ (9 ≤ opsL.getD (i % opsL.length) 0 ∧ opsL.getD (i % opsL.length) 0 ≤ 24) := by
 have h : ∀ j, j < 18 → (2 ≤ opsL.getD j 0 ∧ opsL.getD j 0 ≤ 3) ∨ (9 ≤ opsL.getD j 0 ∧ opsL.getD j 0 ≤ 24) := by decide
 exact h _ (Nat.mod_lt _ ae)
theorem getD_in {α : Type} {d : α} {l : List α} {i : Nat} (h : i < l.length) : l.getD i d ∈ l := by
 rw [List.getD_eq_getElem?_getD, List.getElem?_eq_getElem h]; exact List.getElem_mem h
section
variable {n : ab} (hg : Ground n)
include hg
theorem Ground.one : BO n.aa 1 := hg.has 0
theorem Ground.mem {i : Nat} (h : i < n.a7.length) : BO n.aa (n.a7.getD i default).width ∧ eO (n.a7.getD i default).width := by
 obtain ⟨k, hk⟩ := hg.a7 _ (getD_in h)
 rw [hk]; exact ⟨hg.has k, dw k⟩
theorem Ground.str {i : Nat} (h : i < n.streams.length) : BO n.aa (n.streams.getD i default).width ∧ eO (n.streams.getD i default).width := by
 obtain ⟨k, hk⟩ := hg.strs _ (getD_in h)
 rw [hk]; exact ⟨hg.has k, dw k⟩
theorem Ground.RT {i : Nat} (h : i < n.ins.length) : eO (n.ins.getD i 0) := by
 obtain ⟨k, hk⟩ := hg.ins _ (getD_in h)
 rw [hk]; exact dw k
theorem u9 {x : Nat} (h : 0 < n.aa.length) : In ((x : Int) % (n.aa.length : Int)) n.aa.length := by
 have h1 := Int.emod_nonneg (x : Int) (b := (n.aa.length : Int)) om
 have h2 := Int.emod_lt_of_pos (x : Int) (b := (n.aa.length : Int)) om
 exact ⟨h1, h2⟩
theorem Hc {op : Int} {j a b d : Nat} (h : op = 21) : ku n ⟨2, op, 0, [aC n.aa 1 a, aC n.aa (ay j) b, aC n.aa (ay j) d], 0, 0⟩ (ay j) := by
 have h1 := cU hg.one a; have h2 := cU (hg.has j) b; have h3 := cU (hg.has j) d
 subst h
 refine .inr ⟨fun h => by simp at h, ?_, .inr (.inl ⟨rfl, (by show dc 21 ≠ 0; decide), rfl, rfl, rfl⟩), .inr (.inl ⟨rfl, .inl ⟨rfl, h1.2, h2.2, h3.2⟩⟩), dw j, by simp, by simp⟩
 intro x hx
 simp only [List.mem_cons, List.not_mem_nil, or_false] at hx
 rcases hx with rfl | rfl | rfl
 ·exact h1.1
 ·exact h2.1
 ·exact h3.1
theorem JX {op w : Int} {j a : Nat} (h0 : 0 < n.aa.length) (hu : Unary op) (hw : (op = 24 ∧ w = if n.aa.getD (a % n.aa.length) 0 < ay j then n.aa.getD (a % n.aa.length) 0 else ay j) ∨ (¬ op = 24 ∧ w = if n.aa.getD (a % n.aa.length) 0 > ay j then n.aa.getD (a % n.aa.length) 0 else ay j)) :
  ku n ⟨2, op, 0, [(a : Int) % (n.aa.length : Int)], 0, 0⟩ w := by
 have h1 := u9 (x := a) hg h0
 have hv : n.wd ((a : Int) % (n.aa.length : Int)) = n.aa.getD (a % n.aa.length) 0 := by
  unfold ab.wd; congr 1
 have h2 := hg.wide _ (getD_in (d := (0 : Int)) (Nat.mod_lt a h0))
 have h3 := dw j
 have yT := hu
 unfold Unary at hu
 generalize n.aa.getD (a % n.aa.length) 0 = v at *
 generalize ay j = W at *
 have I8 : eO w := by
  unfold eO at *
  rcases hw with ⟨_, h⟩ | ⟨_, h⟩ <;> (split at h <;> omega)
 refine .inr ⟨fun h => by simp at h, ?_, .inr (.inl ⟨rfl, ?_, ?_, rfl, rfl⟩), .inr (.inl ⟨rfl, ?_⟩), I8, by simp, by simp⟩
 ·intro x hx
  simp only [List.mem_cons, List.not_mem_nil, or_false] at hx
  subst hx; exact h1
 ·rcases hu with h | h | h <;> (simp only [h]; decide)
 ·rcases hu with h | h | h <;> (simp only [h]; rfl)
 ·unfold cp
  simp only [ab.av, List.getD_cons_zero, hv]
  rcases hw with ⟨h, hw⟩ | ⟨h, hw⟩
  ·right; right; left
   refine ⟨h, ?_⟩
   split at hw <;> omega
  ·right; left
   refine ⟨om, ?_⟩
   split at hw <;> omega
theorem BQ {op w : Int} {j a b : Nat} (Hd : (2 ≤ op ∧ op ≤ 3) ∨ (9 ≤ op ∧ op ≤ 24)) (Mn : ¬ op = 21) (hu : ¬ Unary op) (hw : (ga op ∧ w = 1) ∨ (¬ ga op ∧ w = ay j)) :
  ku n ⟨2, op, 0, [aC n.aa (ay j) a, aC n.aa (ay j) b], 0, 0⟩ w := by
 have h1 := cU (hg.has j) a; have h2 := cU (hg.has j) b
 unfold Unary at hu
 have h3 := dw j
 have I8 : eO w := by
  rcases hw with ⟨_, rfl⟩ | ⟨_, rfl⟩
  ·exact vO
  ·exact h3
 have Q4 : dc op = 2 := by unfold dc; rw [if_pos om]
 refine .inr ⟨fun h => by simp at h, ?_, .inr (.inl ⟨rfl, by simp only [Q4]; decide, by simp only [Q4]; rfl, rfl, rfl⟩), .inr (.inl ⟨rfl, ?_⟩), I8, by simp, by simp⟩
 ·intro x hx
  simp only [List.mem_cons, List.not_mem_nil, or_false] at hx
  rcases hx with rfl | rfl
  ·exact h1.1
  ·exact h2.1
 ·have e1 : n.wd (aC n.aa (ay j) a) = ay j := h1.2
  have e2 : n.wd (aC n.aa (ay j) b) = ay j := h2.2
  rcases hw with ⟨hc, rfl⟩ | ⟨hc, rfl⟩
  ·exact .inr (.inr (.inr (.inl ⟨hc, rfl, e1.trans e2.symm⟩)))
  ·exact .inr (.inr (.inr (.inr ⟨hc, by show op < 21 ∨ 24 < op; omega, e1, e2⟩)))
theorem rF {o m : Int} {q : Int} {l : List Int} {nm : Nat} {w : Int} : ku n ⟨0, o, m, l, nm, q⟩ w := .inl rfl
theorem BR {k : Int} {j x : Nat} (hk : k = 1) : ku n ⟨k, 0, -1, [], kP (ay j) x, 0⟩ (ay j) := by
 subst hk
 exact .inr ⟨fun _ => rfl, fun x hx => (by cases hx), .inl ⟨rfl, rfl, rfl, rfl⟩, .inl ⟨rfl, vN _ _⟩, dw j, tP _ _, by simp⟩
theorem He {k : Int} {j a b d e : Nat} (hk : k = 3) : ku n ⟨k, 0, -1, [aC n.aa 1 a, aC n.aa (ay j) b, aC n.aa 1 d, aC n.aa (ay j) e], 0, 0⟩ (ay j) := by
 have h1 := cU hg.one a; have h2 := cU (hg.has j) b; have h3 := cU hg.one d; have h4 := cU (hg.has j) e
 subst hk
 refine .inr ⟨fun _ => rfl, ?_, .inr (.inr (.inl ⟨rfl, (by simp), (by simp), rfl, rfl, rfl⟩)), .inr (.inr (.inl ⟨rfl, ?_⟩)), dw j, by simp, by simp⟩
 ·intro x hx
  simp only [List.mem_cons, List.not_mem_nil, or_false] at hx
  rcases hx with rfl | rfl | rfl | rfl
  ·exact h1.1
  ·exact h2.1
  ·exact h3.1
  ·exact h4.1
 ·intro i hi
  have iv : i < 4 := hi
  match i, iv with
  | 0, _ => exact .inl ⟨rfl, h1.2⟩
  | 1, _ => exact .inr ⟨rfl, h2.2⟩
  | 2, _ => exact .inl ⟨rfl, h3.2⟩
  | 3, _ => exact .inr ⟨rfl, h4.2⟩
theorem Hf {k : Int} {j a b x : Nat} (hk : k = 4) : ku n ⟨k, 0, -1, [aC n.aa 1 a, aC n.aa (ay j) b], kP (ay j) x, 0⟩ (ay j) := by
 have h1 := cU hg.one a; have h2 := cU (hg.has j) b
 subst hk
 refine .inr ⟨fun _ => rfl, ?_, .inr (.inr (.inr (.inl ⟨rfl, rfl, rfl, rfl⟩))), .inr (.inr (.inr (.inl ⟨rfl, h1.2, h2.2, vN _ _⟩))), dw j, tP _ _, by simp⟩
 intro x hx
 simp only [List.mem_cons, List.not_mem_nil, or_false] at hx
 rcases hx with rfl | rfl
 ·exact h1.1
 ·exact h2.1
theorem Eh {k o : Int} {j a b x : Nat} (hk : k = 5) (ho : 4 ≤ o ∧ o ≤ 8) (hx : 1 ≤ x ∧ x ≤ 4096) : ku n ⟨k, o, -1, [aC n.aa (ay j) a, aC n.aa (ay j) b], x, 0⟩ (ay j) := by
 have h1 := cU (hg.has j) a; have h2 := cU (hg.has j) b
 subst hk
 refine .inr ⟨fun _ => rfl, ?_, .inr (.inr (.inr (.inr (.inl ⟨rfl, rfl, ho, hx, rfl⟩)))), .inr (.inr (.inr (.inr (.inl ⟨rfl, h1.2, h2.2⟩)))), dw j, ?_, by simp⟩
 ·intro x hx
  simp only [List.mem_cons, List.not_mem_nil, or_false] at hx
  rcases hx with rfl | rfl
  ·exact h1.1
  ·exact h2.1
 ·show x < _; omega
theorem ss {x m : Nat} : ((x : Int) % (m : Int)).toNat = x % m := by rw [← Int.natCast_emod, Int.toNat_natCast]
theorem rG {x m : Nat} (h : 0 < m) : 0 ≤ (x : Int) % (m : Int) ∧ (x : Int) % (m : Int) < (m : Int) := by
 rw [← Int.natCast_emod]
 have := Nat.mod_lt x h
 omega
theorem y5 {k : Int} {a b x : Nat} (h0 : 0 < n.aa.length) (hk : k = 6) (hm : 0 < n.a7.length) :
  ku n ⟨k, 0, -1, [aC n.aa 1 a, (b : Int) % (n.aa.length : Int)], 0, (x : Int) % (n.a7.length : Int)⟩ (n.a7.getD (x % n.a7.length) default).width := by
 have h1 := cU hg.one a; have h2 := u9 (x := b) hg h0; have h3 := rG (x := x) hg hm; have h4 := ss (x := x) (m := n.a7.length) hg
 have h5 := hg.mem (Nat.mod_lt x hm)
 subst hk
 refine .inr ⟨fun _ => rfl, ?_, .inr (.inr (.inr (.inr (.inr (.inl ⟨rfl, rfl, rfl, rfl, h3.1, h3.2⟩))))), .inr (.inr (.inr (.inr (.inr (.inl ⟨rfl, h1.2, by simp only [h4]⟩))))), h5.2, by simp, by simp⟩
 intro x hx
 simp only [List.mem_cons, List.not_mem_nil, or_false] at hx
 rcases hx with rfl | rfl
 ·exact h1.1
 ·exact h2
theorem vP {k : Int} {a b d x : Nat} (h0 : 0 < n.aa.length) (hk : k = 7) (hm : 0 < n.a7.length) :
  ku n ⟨k, 0, -1, ([aC n.aa 1 a, (b : Int) % (n.aa.length : Int)] : List Int) ++ ([aC n.aa ((n.a7.getD (x % n.a7.length) default).width) d] : List Int), 0, (x : Int) % (n.a7.length : Int)⟩ (n.a7.getD (x % n.a7.length) default).width := by
 have h5 := hg.mem (Nat.mod_lt x hm)
 have h1 := cU hg.one a; have h2 := u9 (x := b) hg h0; have h3 := rG (x := x) hg hm; have h4 := ss (x := x) (m := n.a7.length) hg
 have h6 := cU h5.1 d
 subst hk
 refine .inr ⟨fun _ => rfl, ?_, .inr (.inr (.inr (.inr (.inr (.inr (.inl ⟨rfl, rfl, rfl, rfl, h3.1, h3.2⟩)))))), .inr (.inr (.inr (.inr (.inr (.inr (.inl ⟨rfl, h1.2, ?_⟩)))))), h5.2, by simp, by simp⟩
 ·intro x hx
  simp only [List.cons_append, List.nil_append, List.mem_cons, List.not_mem_nil, or_false] at hx
  rcases hx with rfl | rfl | rfl
  ·exact h1.1
  ·exact h2
  ·exact h6.1
 ·simp only [h4]; exact h6.2.symm
theorem BS {k : Int} {x : Nat} (hk : k = 8) (hm : 0 < n.ins.length) (hl : n.ins.length ≤ 1048576) : ku n ⟨k, 0, -1, [], x % n.ins.length, 0⟩ (n.ins.getD (x % n.ins.length) 0) := by
 have h1 := Nat.mod_lt x hm
 subst hk
 exact .inr ⟨fun _ => rfl, fun x hx => (by cases hx), .inr (.inr (.inr (.inr (.inr (.inr (.inr (.inl ⟨rfl, rfl, rfl, h1, rfl⟩))))))), .inr (.inr (.inr (.inr (.inr (.inr (.inr (.inl ⟨rfl, rfl⟩))))))), hg.RT h1, by show x % _ < _; omega, by simp⟩
theorem Ei {k : Int} {x : Nat} (hk : k = 9) (hm : 0 < n.streams.length) : ku n ⟨k, 0, -1, [], 0, (x : Int) % (n.streams.length : Int)⟩ 1 := by
 have h3 := rG (x := x) hg hm
 subst hk
 exact .inr ⟨fun _ => rfl, fun x hx => (by cases hx), .inr (.inr (.inr (.inr (.inr (.inr (.inr (.inr (.inl ⟨rfl, rfl, rfl, rfl, h3.1, h3.2⟩)))))))), .inr (.inr (.inr (.inr (.inr (.inr (.inr (.inr (.inl ⟨rfl, rfl⟩)))))))), vO, by simp, by simp⟩
theorem Ej {k : Int} {x : Nat} (hk : k = 10) (hm : 0 < n.streams.length) (ho : (n.streams.getD (x % n.streams.length) default).out = false) : ku n ⟨k, 0, -1, [], 0, (x : Int) % (n.streams.length : Int)⟩ (n.streams.getD (x % n.streams.length) default).width := by
 have h3 := rG (x := x) hg hm; have h4 := ss (x := x) (m := n.streams.length) hg
 have h5 := hg.str (Nat.mod_lt x hm)
 subst hk
 exact .inr ⟨fun _ => rfl, fun x hx => (by cases hx), .inr (.inr (.inr (.inr (.inr (.inr (.inr (.inr (.inr ⟨rfl, rfl, rfl, rfl, ⟨h3.1, h3.2⟩, by simp only [h4]; exact ho⟩)))))))), .inr (.inr (.inr (.inr (.inr (.inr (.inr (.inr (.inr ⟨rfl, by simp only [h4]⟩)))))))), h5.2, by simp, by simp⟩
end
open Go Go.AW
structure tU (n : ab) : Prop where
 name : ks n.name
 bR : n.cells.length ≤ 65536
 b8 : n.aa.length ≤ 65536
 aa : ∀ j, j < n.aa.length → eO (n.aa.getD j 0)
 ins : ∀ j, j < n.ins.length → eO (n.ins.getD j 0)
 fk : n.a7.length ≤ 64
 bt : n.streams.length ≤ 64
 cb : n.aR.length = n.streams.length
 dR : n.data.length = n.streams.length
 a7 : ∀ j, j < n.a7.length → gE (n.a7.getD j default)
 strs : ∀ j, j < n.streams.length → fy n j
noncomputable instance (n : ab) : Decidable (tU n) := Classical.propDecidable _
theorem la {α : Type} {l m : List α} {j : Nat} {d : α} (h : j < l.length) : (l ++ m).getD j d = l.getD j d := by
 rw [List.getD_eq_getElem?_getD, List.getElem?_append_left h, List.getD_eq_getElem?_getD]
theorem lb {α : Type} {l m : List α} {j : Nat} {d : α} (h : l.length ≤ j) : (l ++ m).getD j d = m.getD (j - l.length) d := by
 rw [List.getD_eq_getElem?_getD, List.getElem?_append_right h, List.getD_eq_getElem?_getD]
theorem aU.parts {n : ab} (h : aU n) : tU n where
 name := h.name
 bR := h.bR
 b8 := h.b8
 aa := fun j hj => by have := h.wide j (by rw [List.length_append]; omega); rwa [la hj] at this
 ins := fun j hj => by have := h.wide (n.aa.length + j) (by rw [List.length_append]; omega); rwa [lb om, show n.aa.length + j - n.aa.length = j by omega] at this
 fk := h.fk
 bt := h.bt
 cb := h.cb
 dR := h.dR
 a7 := h.a7
 strs := h.strs
theorem tU.formed {n : ab} (h : tU n) (h1 : In n.freeze n.aa.length) (h2 : In n.done n.aa.length) (h3 : ∀ j, j < n.bE.length → In (n.bE.getD j 0) n.aa.length)
  (h4 : ∀ j, j < n.cells.length → gS n (n.cells.getD j default)) (h5 : ∀ w, w < n.aa.length → dn n.cells w = 1) : aU n where
 name := h.name
 bR := h.bR
 b8 := h.b8
 fk := h.fk
 bt := h.bt
 cb := h.cb
 dR := h.dR
 wide := fun j hj => by
  rw [List.length_append] at hj
  by_cases Gz : j < n.aa.length
  ·rw [la Gz]; exact h.aa j Gz
  ·rw [lb om]; exact h.ins _ om
 a7 := h.a7
 strs := h.strs
 freeze := h1
 done := h2
 bE := nu.1 h3
 cells := h4
 iD := h5
def xq (n : ab) (i : Nat) (d : List Int) : Prop := ∀ w, w < n.aa.length → d.getD w 0 = (dn (n.cells.take i) w : Int)
theorem xq.init (n : ab) : xq n 0 (List.replicate n.aa.length 0) := by
 intro w hw
 rw [List.getD_eq_getElem?_getD, List.getElem?_replicate, if_pos hw]; simp [dn]
theorem xq.skip {n : ab} {i : Nat} {d : List Int} (h : xq n i d) (hi : i < n.cells.length) (h7 : (n.cells.getD i default).kind = 7) : xq n (i + 1) d := by
 intro w hw
 rw [gb hi, if_neg (fun h => h.1 h7)]
 exact h w hw
theorem xq.step {n : ab} {i : Nat} {d : List Int} (h : xq n i d) (hi : i < n.cells.length) (h7 : (n.cells.getD i default).kind ≠ 7) (ho : In (n.cells.getD i default).out n.aa.length)
  (hl : d.length = n.aa.length) : xq n (i + 1) (d.set (n.cells.getD i default).out.toNat (d.getD (n.cells.getD i default).out.toNat 0 + 1)) := by
 intro w hw
 have hh := h w hw
 rw [gb hi, bs]
 unfold In at ho
 by_cases e : (n.cells.getD i default).out = (w : Int)
 ·rw [if_pos ⟨om, om⟩, if_pos ⟨h7, e⟩]
  have e2 : (n.cells.getD i default).out.toNat = w := by omega
  rw [e2, hh]; omega
 ·rw [if_neg om, if_neg (fun h => e h.2), hh]; omega
theorem xq.le {n : ab} {i : Nat} {d : List Int} (h : xq n i d) {w : Nat} (hw : w < n.aa.length) : 0 ≤ d.getD w 0 ∧ d.getD w 0 ≤ i := by
 rw [h w hw]
 have : dn (n.cells.take i) w ≤ i := Nat.le_trans List.countP_le_length (by rw [List.length_take]; omega)
 omega
open Go Go.AW
def nB : ByteArray := ⟨#[110]⟩
def mB : ByteArray := ⟨#[109]⟩
def sB : ByteArray := ⟨#[115]⟩
theorem pX (b : UInt8) (h : ed b.toNat) : ks ⟨#[b]⟩ := by
 refine ⟨fun i hi => ?_, by show 1 ≤ 64; decide⟩
 have iv : i < 1 := hi
 obtain rfl : i = 0 := by omega
 exact h
def pn (ws : List Int) (cs : List Cell) (ins : List Int) (a7 : List eu) (streams : List bI) : ab := ⟨nB, ws, cs, ins, a7, streams, [], [], 0, 0, []⟩
structure Gr (n : ab) : Prop where
 ground : Ground n
 cells : ∀ c ∈ n.cells, gS n c ∧ Fits n c ∧ c.num < 18446744073709551616 ∧ c.args.length ≤ 4
 iD : ∀ w, w < n.aa.length → dn n.cells w = 1
 mM : ∀ i j, b6 n i → b6 n j → (n.cell j).out ∈ (n.cell i).args → j < i
theorem Fits.ext {n n' : ab} {c : Cell} (hm : n'.a7 = n.a7) (hi : n'.ins = n.ins) (hs : n'.streams = n.streams) (ha : ∀ k, n'.av c k = n.av c k) (ho : n'.ow c = n.ow c) (h : Fits n c) : Fits n' c := by
 unfold Fits fj at *
 simp only [ha, ho, hm, hi, hs]; exact h
theorem tT.fits {n n' : ab} {c c' : Cell} {w : Int} (hm : n'.a7 = n.a7) (hi : n'.ins = n.ins) (hs : n'.streams = n.streams) (hk : c'.kind = c.kind) (Hd : c'.op = c.op) (hr : c'.args = c.args) (hn : c'.num = c.num) (RU : c'.mem = c.mem)
  (ha : ∀ k, n'.av c' k = n.av c k) (ho : c.kind ≠ 7 → n'.ow c' = w) (h : tT n c w) : Fits n' c' := by
 unfold tT at h
 unfold Fits fj
 simp only [ha, hm, hi, hs, hk, Hd, hr, hn, RU]
 by_cases h7 : c.kind = 7
 ·rw [h7] at h ⊢
  simp only [Int.reduceEq, false_and, true_and, or_false, false_or] at h ⊢
  exact h
 ·rw [ho h7]; exact h
theorem y6 {ws xr : List Int} {x : Int} (hs : ∀ x, x < ws.length → xr.getD x 0 = ws.getD x 0) (hx : In x ws.length) : xr.getD x.toNat 0 = ws.getD x.toNat 0 := hs _ (by unfold In at hx; omega)
theorem xt (l : List Cell) (c : Cell) (w : Nat) : dn (l ++ [c]) w = dn l w + dn [c] w := by simp only [dn, List.countP_append]
theorem vQ {l : List Cell} {w : Nat} (h : ∀ c ∈ l, ¬ (c.kind ≠ 7 ∧ c.out = (w : Int))) : dn l w = 0 := by
 unfold dn
 rw [List.countP_eq_zero]
 intro c hc
 simpa using h c hc
theorem iY {α : Type} {d : α} {l r : List α} {i : Nat} (h : i < l.length) : (l ++ r).getD i d = l.getD i d := by
 rw [List.getD_eq_getElem?_getD, List.getElem?_append_left h, ← List.getD_eq_getElem?_getD]
theorem lZ {α : Type} {d c : α} {l : List α} {i : Nat} (h : i = l.length) : (l ++ [c]).getD i d = c := by
 subst h
 rw [List.getD_eq_getElem?_getD, List.getElem?_append_right (Nat.le_refl _), Nat.sub_self]; rfl
section
variable {ws xr : List Int} {cs : List Cell} {ins : List Int} {a7 : List eu} {streams : List bI} {c0 : Cell}
theorem Gr.push (h : Gr (pn ws cs ins a7 streams)) (h0 : 0 < ws.length) (hw : ∀ w ∈ xr, eO w) (hs : ∀ x, x < ws.length → xr.getD x 0 = ws.getD x 0) (hle : ws.length ≤ xr.length)
  (hc : gS (pn xr cs ins a7 streams) c0) (ha : ∀ x ∈ c0.args, In x ws.length) (hf : Fits (pn xr cs ins a7 streams) c0) (Nt : c0.num < 18446744073709551616) (hlen : c0.args.length ≤ 4)
  (RV : ∀ x, x < xr.length → dn [c0] x = if x < ws.length then 0 else 1) (mK : bJ c0.kind → c0.out = ws.length) (Q5 : xr.length ≤ ws.length + 1) : Gr (pn xr (cs ++ [c0]) ins a7 streams) where
 ground := ⟨fun k => by
   obtain ⟨j, h1, h2⟩ := h.ground.has k
   exact ⟨j, Nat.lt_of_lt_of_le h1 hle, (hs j h1).trans h2⟩, hw, h.ground.a7, h.ground.strs, h.ground.ins⟩
 cells := by
  intro c vM
  rcases List.mem_append.1 vM with h1 | h1
  ·obtain ⟨a1, a2, a3, a4⟩ := h.cells c h1
   have b1 : ∀ x ∈ c.args, In x ws.length := a1.1
   refine ⟨⟨fun x hx => ?_, a1.2.1, a1.2.2.1, fun h7 => ?_⟩, ?_, a3, a4⟩
   ·have := b1 x hx; unfold In at *; exact ⟨this.1, by show x < (xr.length : Int); omega⟩
   ·have := a1.2.2.2 h7; unfold In at *; exact ⟨this.1, by have := this.2; show c.out < (xr.length : Int); change c.out < (ws.length : Int) at this; omega⟩
   ·refine Fits.ext (n := pn ws cs ins a7 streams) rfl rfl rfl (fun k => ?_) ?_ a2
    ·refine y6 hs ?_
     rcases Nat.lt_or_ge k c.args.length with hk | hk
     ·exact b1 _ (br hk)
     ·rw [List.getD_eq_getElem?_getD, List.getElem?_eq_none hk]; exact ⟨Int.le_refl 0, by show (0 : Int) < (ws.length : Int); omega⟩
    ·unfold ab.ow
     split
     ·rename_i h2
      by_cases h7 : c.kind = 7
      ·have := a1.2.2.1 h7; omega
      ·exact y6 hs (a1.2.2.2 h7)
     ·rfl
  ·rw [List.mem_singleton.1 h1]
   exact ⟨hc, hf, Nt, hlen⟩
 iD := by
  intro w yt
  show dn (cs ++ [c0]) w = 1
  rw [xt, RV w yt]
  by_cases h1 : w < ws.length
  ·rw [if_pos h1]; have h2 := h.iD w h1; change dn cs w = 1 at h2; omega
  ·rw [if_neg h1, vQ]
   rintro c vM ⟨h2, h3⟩
   have := (h.cells c vM).1.2.2.2 h2
   unfold In at this
   have h4 := this.2
   change c.out < (ws.length : Int) at h4
   omega
 mM := by
  intro i j hi hj ho
  have cl : ∀ {k : Int}, 0 ≤ k ∧ k < (cs.length : Int) → (pn xr (cs ++ [c0]) ins a7 streams).cell k = (pn ws cs ins a7 streams).cell k := fun hk => iY om
  have cr : ∀ {k : Int}, k = (cs.length : Int) → (pn xr (cs ++ [c0]) ins a7 streams).cell k = c0 := fun hk => lZ om
  have li : 0 ≤ i ∧ i < (cs.length : Int) + 1 := by have := hi.1; simp [pn] at this; omega
  have lj : 0 ≤ j ∧ j < (cs.length : Int) + 1 := by have := hj.1; simp [pn] at this; omega
  by_cases e1 : i = (cs.length : Int)
  ·by_cases e2 : j = (cs.length : Int)
   ·exfalso
    rw [cr e1, cr e2] at ho
    have h1 := ha _ ho
    have h2 := hj.2
    rw [cr e2] at h2
    rw [mK h2] at h1
    unfold In at h1; omega
   ·omega
  ·have iv : b6 (pn ws cs ins a7 streams) i := ⟨⟨li.1, by show i < (cs.length : Int); omega⟩, by have := hi.2; rwa [cl ⟨li.1, om⟩] at this⟩
   rw [cl (k := i) ⟨li.1, om⟩] at ho
   by_cases e2 : j = (cs.length : Int)
   ·exfalso
    have h2 := hj.2
    rw [cr e2] at h2 ho
    rw [mK h2] at ho
    have h3 : In (ws.length : Int) ws.length := (h.cells ((pn ws cs ins a7 streams).cell i) (getD_in (l := cs) om)).1.1 _ ho
    unfold In at h3; omega
   ·have pa : b6 (pn ws cs ins a7 streams) j := ⟨⟨lj.1, by show j < (cs.length : Int); omega⟩, by have := hj.2; rwa [cl ⟨lj.1, om⟩] at this⟩
    rw [cl (k := j) ⟨lj.1, om⟩] at ho
    exact h.mM i j iv pa ho
theorem Hg {w : Int} {x : Int} (hx : In x ws.length) : (ws ++ [w]).getD x.toNat 0 = ws.getD x.toNat 0 := iY (by unfold In at hx; omega)
theorem Gr.add {c : Cell} {w : Int} (h : Gr (pn ws cs ins a7 streams)) (h0 : 0 < ws.length) (hp : xp (pn ws cs ins a7 streams) c w) (h7 : c.kind ≠ 7) :
  Gr (pn (ws ++ [w]) (cs ++ [⟨c.kind, c.op, (ws.length : Int), c.args, c.num, c.mem⟩]) ins a7 streams) := by
 have ha : ∀ k, In (c.args.getD k 0) ws.length := fun k => by
  rcases Nat.lt_or_ge k c.args.length with hk | hk
  ·exact hp.args _ (br hk)
  ·rw [List.getD_eq_getElem?_getD, List.getElem?_eq_none hk]; exact ⟨Int.le_refl 0, by show (0 : Int) < (ws.length : Int); omega⟩
 refine Gr.push h h0 (fun v hv => ?_) (fun x hx => iY hx) (by simp) ⟨fun x hx => ?_, hp.shaped, fun h => absurd h h7, fun _ => ⟨by show (0 : Int) ≤ (ws.length : Int); omega, by simp [pn]; omega⟩⟩ hp.args ?_ hp.num hp.len (fun x hx => ?_) (fun _ => rfl) (by simp)
 ·rcases List.mem_append.1 hv with h1 | h1
  ·exact h.ground.wide v h1
  ·rw [List.mem_singleton.1 h1]; exact hp.wide
 ·have := hp.args x hx
  unfold In at *
  exact ⟨this.1, by have := this.2; change x < (ws.length : Int) at this; simp [pn]; omega⟩
 ·refine tT.fits (n := pn ws cs ins a7 streams) (c := c) (w := w) rfl rfl rfl rfl rfl rfl rfl rfl (fun k => Hg (ha k)) (fun _ => ?_) hp.fits
  show (if (0 : Int) ≤ (ws.length : Int) then (ws ++ [w]).getD ((ws.length : Int)).toNat 0 else 0) = w
  rw [if_pos om]
  exact lZ (by simp)
 ·have iw : x < ws.length + 1 := by simpa using hx
  show List.countP _ _ = _
  rw [List.countP_singleton]
  by_cases e : x < ws.length
  ·rw [if_pos e, if_neg (by simp only [decide_eq_true_eq]; rintro ⟨_, h2⟩; omega)]
  ·rw [if_neg e, if_pos (by simp only [decide_eq_true_eq]; exact ⟨h7, by show (ws.length : Int) = (x : Int); omega⟩)]
theorem Gr.r4 {c : Cell} {w : Int} (h : Gr (pn ws cs ins a7 streams)) (h0 : 0 < ws.length) (hp : xp (pn ws cs ins a7 streams) c w) (h7 : c.kind = 7) :
  Gr (pn ws (cs ++ [c]) ins a7 streams) := by
 refine Gr.push h h0 h.ground.wide (fun _ _ => rfl) (Nat.le_refl _) ⟨hp.args, hp.shaped, hp.out, fun h => absurd h7 h⟩ hp.args ?_ hp.num hp.len (fun x hx => ?_) (fun hc => ?_) om
 ·exact tT.fits (n := pn ws cs ins a7 streams) (c := c) (w := w) rfl rfl rfl rfl rfl rfl rfl rfl (fun k => rfl) (fun h => absurd h7 h) hp.fits
 ·show List.countP _ _ = _
  rw [List.countP_singleton, if_pos hx, if_neg (by simp only [decide_eq_true_eq]; rintro ⟨h2, _⟩; exact h2 h7)]
 ·rw [h7] at hc; exact absurd hc ae
theorem Gr.setArgs {k : Nat} {args : List Int} (h : Gr (pn ws cs ins a7 streams)) (hk : k < cs.length) (h4 : (cs.getD k default).kind = 4) (ha : ∀ x ∈ args, In x ws.length)
  (hl : args.length = 2) (h1 : ws.getD (args.getD 0 0).toNat 0 = 1) (h2 : ws.getD (args.getD 1 0).toNat 0 = ws.getD (cs.getD k default).out.toNat 0) :
  Gr (pn ws (cs.set k ⟨(cs.getD k default).kind, (cs.getD k default).op, (cs.getD k default).out, args, (cs.getD k default).num, (cs.getD k default).mem⟩) ins a7 streams) := by
 have vM : cs.getD k default ∈ cs := getD_in hk
 obtain ⟨a1, a2, a3, a4⟩ := h.cells _ vM
 have ho := a1.2.2.2 (by rw [h4]; decide)
 generalize hc : cs.getD k default = c at *
 have cell : ∀ i : Int, (pn ws (cs.set k ⟨c.kind, c.op, c.out, args, c.num, c.mem⟩) ins a7 streams).cell i = if k = i.toNat ∧ k < cs.length then ⟨c.kind, c.op, c.out, args, c.num, c.mem⟩ else (pn ws cs ins a7 streams).cell i := fun i => bs ..
 refine ⟨⟨h.ground.has, h.ground.wide, h.ground.a7, h.ground.strs, h.ground.ins⟩, ?_, ?_, ?_⟩
 ·intro c' oz
  rcases List.mem_or_eq_of_mem_set oz with h5 | h5
  ·exact h.cells c' h5
  ·subst h5
   refine ⟨⟨ha, ?_, fun h7 => ?_, fun _ => ho⟩, ?_, a3, by simp only [hl]; decide⟩
   ·have := a1.2.1
    simp only [Shaped, h4, Int.reduceEq, false_and, true_and, false_or, or_false] at this
    exact .inr (.inr (.inr (.inl ⟨h4, hl, this.2.1, this.2.2⟩)))
   ·simp only [h4] at h7; exact absurd h7 ae
   ·simp only [Fits, h4, Int.reduceEq, false_and, true_and, false_or, or_false] at a2
    refine .inr (.inr (.inr (.inl ⟨h4, h1, ?_, a2.2.2⟩)))
    show ws.getD (args.getD 1 0).toNat 0 = if 0 ≤ c.out then ws.getD c.out.toNat 0 else 0
    unfold In at ho
    rw [if_pos ho.1]; exact h2
 ·intro w hw
  have := h.iD w hw
  rw [← this]
  show List.countP _ (cs.set k _) = List.countP _ cs
  have e : ∀ (l : List Cell) (f : Cell → Bool), List.countP f l = List.countP id (l.map f) := fun l f => by rw [List.countP_map]; rfl
  rw [e, e cs, List.map_set]
  congr 1
  have AM : k < (cs.map (fun c => decide (c.kind ≠ 7 ∧ c.out = (w : Int)))).length := by simpa using hk
  have hg : (cs.map (fun c => decide (c.kind ≠ 7 ∧ c.out = (w : Int))))[k] = decide (c.kind ≠ 7 ∧ c.out = (w : Int)) := by
   rw [List.getElem_map]
   have : cs[k] = c := by rw [← hc, List.getD_eq_getElem?_getD, List.getElem?_eq_getElem hk]; rfl
   rw [this]
  rw [← hg, List.set_getElem_self]
 ·intro i j hi hj hm
  have key : ∀ {i : Int}, b6 (pn ws (cs.set k ⟨c.kind, c.op, c.out, args, c.num, c.mem⟩) ins a7 streams) i → (pn ws (cs.set k ⟨c.kind, c.op, c.out, args, c.num, c.mem⟩) ins a7 streams).cell i = (pn ws cs ins a7 streams).cell i ∧ b6 (pn ws cs ins a7 streams) i := by
   intro i hi
   have lL := hi.2
   have JW : 0 ≤ i ∧ i < (cs.length : Int) := by have := hi.1; simp [pn] at this; omega
   rw [cell] at lL
   by_cases e : k = i.toNat ∧ k < cs.length
   ·rw [if_pos e] at lL
    simp only [h4] at lL
    exact absurd lL ae
   ·rw [if_neg e] at lL
    exact ⟨by rw [cell, if_neg e], JW, lL⟩
  rw [(key hi).1, (key hj).1] at hm
  exact h.mM i j (key hi).2 (key hj).2 hm
end
open Go Go.AW
def wJ (i : Nat) : List Int := (List.range i).map ay
def AO (i : Nat) : List Cell := (List.range i).map (fun (j : Nat) => (⟨1, 0, (j : Int), [], j % 2, 0⟩ : Cell))
theorem BT (i : Nat) : wJ (i + 1) = wJ i ++ [ay i] := by simp [wJ, List.range_succ]
theorem BU (i : Nat) : AO (i + 1) = AO i ++ [(⟨1, 0, (i : Int), [], i % 2, 0⟩ : Cell)] := by simp [AO, List.range_succ]
theorem po (i : Nat) : (wJ i).length = i := by simp [wJ]
theorem Ek (i : Nat) : (AO i).length = i := by simp [AO]
theorem y7 {i j : Nat} (h : j < i) : (wJ i).getD j 0 = ay j := by
 rw [List.getD_eq_getElem?_getD, List.getElem?_eq_getElem (by rw [po]; exact h)]; simp [wJ]
theorem RW {ins : List Int} {a7 : List eu} {streams : List bI} (hm : ∀ m ∈ a7, ∃ k, m.width = ay k) (hs : ∀ s ∈ streams, ∃ k, s.width = ay k) (hi : ∀ w ∈ ins, ∃ k, w = ay k) : Gr (pn (wJ 8) (AO 8) ins a7 streams) where
 ground := ⟨fun k => ⟨k % 8, by show k % 8 < (wJ 8).length; rw [po]; omega, by show (wJ 8).getD (k % 8) 0 = _; rw [y7 om]; simp only [ay, Nat.mod_mod]⟩, fun w hw => by
  obtain ⟨k, _, rfl⟩ := List.mem_map.1 hw
  exact dw k, hm, hs, hi⟩
 cells := by
  intro c hc
  obtain ⟨j, hj, rfl⟩ := List.mem_map.1 hc
  have pa : j < 8 := List.mem_range.1 hj
  have h8 : (wJ 8).length = 8 := po 8
  refine ⟨⟨fun x hx => (by cases hx), .inl ⟨rfl, rfl, rfl, rfl⟩, fun h => by simp at h, fun _ => ⟨by show (0 : Int) ≤ (j : Int); omega, by show (j : Int) < ((wJ 8).length : Int); omega⟩⟩, .inl ⟨rfl, ?_⟩, by show j % 2 < _; omega, by simp⟩
  show kP (if (0 : Int) ≤ (j : Int) then (wJ 8).getD ((j : Int)).toNat 0 else 0) (j % 2) = j % 2
  rw [if_pos om, Int.toNat_natCast, y7 pa]
  have : ∀ j, j < 8 → kP (ay j) (j % 2) = j % 2 := by decide
  exact this j pa
 iD := by
  have : ∀ w, w < 8 → dn (AO 8) w = 1 := by decide
  intro w hw
  have qQ : w < (wJ 8).length := hw
  rw [po] at qQ
  exact this w qQ
 mM := by
  intro i j hi _ ho
  exfalso
  have h1 := hi.1
  have h2 : 0 ≤ i ∧ i < ((AO 8).length : Int) := h1
  have h3 : (pn (wJ 8) (AO 8) ins a7 streams).cell i ∈ AO 8 := getD_in (l := AO 8) om
  obtain ⟨k, _, hk⟩ := List.mem_map.1 h3
  rw [← hk] at ho
  cases ho
section
variable {ws : List Int} {cs : List Cell} {ins : List Int} {a7 : List eu} {streams : List bI}
theorem tV (p : pJ) (i : Nat) : (qW ws cs p i).length = cs.length := by
 unfold qW; split
 ·rw [List.length_set]
 ·rfl
theorem bH {p : Prop} (h : p := by first | omega | (simp only [tV]; omega) | (simp [-List.getD_eq_getElem?_getD]; done) | (simp [-List.getD_eq_getElem?_getD]; omega)) : p := h
theorem Gr.outs (h : Gr (pn ws cs ins a7 streams)) {k : Nat} (hk : k < cs.length) (h4 : (cs.getD k default).kind = 4) : In (cs.getD k default).out ws.length := (h.cells (cs.getD k default) (getD_in hk)).1.2.2.2 (by rw [h4]; decide)
theorem Gr.late (h : Gr (pn ws cs ins a7 streams)) {p : pJ} {i : Nat} (hi : i < cs.length) : Gr (pn ws (qW ws cs p i) ins a7 streams) := by
 unfold qW
 split
 ·rename_i h4
  have hk : (((cs.length : Int) - 1) - (i : Int)).toNat < cs.length := by omega
  have ho := h.outs hk h4
  have h1 := cU h.ground.one p.a
  have h2 := cU (ws := ws) (w := ws.getD (cs.getD (((cs.length : Int) - 1) - (i : Int)).toNat default).out.toNat 0) ⟨_, by unfold In at ho; omega, rfl⟩ p.d
  refine h.setArgs hk h4 ?_ rfl h1.2 h2.2
  intro x hx
  simp only [List.mem_cons, List.not_mem_nil, or_false] at hx
  rcases hx with rfl | rfl
  ·exact h1.1
  ·exact h2.1
 ·exact h
def tW (ws : List Int) (streams : List bI) (aR data : List Int) (j : Nat) : Prop :=
 (In (aR.getD j 0) ws.length ∧ ws.getD (aR.getD j 0).toNat 0 = 1) ∧ ((streams.getD j default).out = true → In (data.getD j 0) ws.length ∧ ws.getD (data.getD j 0).toNat 0 = (streams.getD j default).width) ∧
  ((streams.getD j default).out = false → data.getD j 0 = -1)
structure qX (n : ab) : Prop where
 formed : aU n
 fit : Fit n
 acyclic : Acyclic n
 small : n.Small
 bR : 8 ≤ n.cells.length ∧ n.cells.length ≤ 48
 b8 : 8 ≤ n.aa.length ∧ n.aa.length ≤ 48
 ic : ∀ c ∈ n.cells, c.args.length ≤ 4
 iS : n.bE.length ≤ 3
 fk : n.a7.length ≤ 3
 bt : n.streams.length ≤ 4
 pY : n.ins.length ≤ 4
theorem y8 : ∀ {l : List Cell}, (∀ c ∈ l, c.args.length ≤ 4) → (l.map (fun c => c.args.length)).sum ≤ 4 * l.length
 | [], _ => by simp
 | c :: r, h => by
  have h1 := h c (by simp)
  have h2 := y8 (l := r) (fun c hc => h c (List.mem_cons_of_mem _ hc))
  simp only [List.map_cons, List.sum_cons, List.length_cons]; omega
theorem Gr.made (h : Gr (pn ws cs ins a7 streams)) {aR data bE : List Int} {f d : Int} (te : 8 ≤ cs.length ∧ cs.length ≤ 48) (Q5 : 8 ≤ ws.length ∧ ws.length ≤ 48) (JY : a7.length ≤ 3) (Nu : streams.length ≤ 4) (Nv : ins.length ≤ 4) (JZ : bE.length ≤ 3)
  (hm : ∀ m ∈ a7, gE m) (hs : ∀ s ∈ streams, ks s.name) (ha : aR.length = streams.length) (hd : data.length = streams.length) (he : ∀ j, j < streams.length → tW ws streams aR data j)
  (hr : ∀ r ∈ bE, In r ws.length) (hf : In f ws.length ∧ ws.getD f.toNat 0 = 1) (Mm : In d ws.length ∧ ws.getD d.toNat 0 = 1) : qX ⟨nB, ws, cs, ins, a7, streams, aR, data, f, d, bE⟩ where
 formed := {
  name := pX 110 (by unfold ed; decide)
  bR := by show cs.length ≤ _; omega
  b8 := by show ws.length ≤ _; omega
  fk := by show a7.length ≤ _; omega
  bt := by show streams.length ≤ _; omega
  cb := ha
  dR := hd
  wide := fun j hj => by
   have pa : j < (ws ++ ins).length := hj
   have h1 : (ws ++ ins).getD j 0 ∈ ws ++ ins := getD_in pa
   rcases List.mem_append.1 h1 with h2 | h2
   ·exact h.ground.wide _ h2
   ·obtain ⟨k, hk⟩ := h.ground.ins _ h2
    show eO ((ws ++ ins).getD j 0)
    rw [hk]; exact dw k
  a7 := fun j hj => hm _ (getD_in hj)
  strs := fun j hj => by
   have h1 := he j hj
   exact ⟨hs _ (getD_in hj), (h.ground.str hj).2, h1.1.1, fun ho => (h1.2.1 ho).1, h1.2.2⟩
  freeze := hf.1
  done := Mm.1
  bE := hr
  cells := fun j hj => (h.cells _ (getD_in hj)).1
  iD := h.iD }
 fit := {
  freeze := hf.2
  done := Mm.2
  strs := fun j hj => ⟨(he j hj).1.2, fun ho => ((he j hj).2.1 ho).2⟩
  cells := fun j hj => (h.cells _ (getD_in hj)).2.1 }
 acyclic := ⟨fun i => i.toNat, fun i j hi hj ho => by
  have h1 := h.mM i j hi hj ho
  have h2 := hi.1.1; have h3 := hj.1.1
  show j.toNat < i.toNat
  omega⟩
 small := {
  name := by show nB.size ≤ _; decide
  aa := by show ws.length ≤ _; omega
  cells := by show cs.length ≤ _; omega
  args := fun c hc => by have := (h.cells c hc).2.2.2; omega
  BB := by
   have := y8 (l := cs) (fun c hc => (h.cells c hc).2.2.2)
   show (cs.map (fun c => c.args.length)).sum ≤ _
   omega
  xj := fun c hc => (h.cells c hc).2.2.1
  kq := fun m Jp => by have := (hm m Jp).1.2; omega
  kr := fun m Jp => by have := (hs m Jp).2; omega
  ins := by show ins.length ≤ _; omega
  a7 := by show a7.length ≤ _; omega
  streams := by show streams.length ≤ _; omega
  aR := by show aR.length ≤ _; omega
  data := by show data.length ≤ _; omega
  bE := by show bE.length ≤ _; omega }
 bR := te
 b8 := Q5
 ic := fun c hc => (h.cells c hc).2.2.2
 iS := JZ
 fk := JY
 bt := Nu
 pY := Nv
end
structure lM.Mo (p : lM) : Prop where
 a7 : p.a7.length ≤ 3
 streams : p.streams.length ≤ 4
 ins : p.ins.length ≤ 4
 parts : p.parts.length ≤ 40
 bE : p.bE.length ≤ 3
structure lM.Ok (p : lM) : Prop where
 a7 : ∀ m ∈ p.a7, m.a < 256 ∧ m.b < 256
 streams : ∀ m ∈ p.streams, m.a < 256 ∧ m.b < 256
 ins : ∀ k ∈ p.ins, k < 256
 parts : ∀ q ∈ p.parts, q.Ok
 bE : ∀ k ∈ p.bE, k < 256
theorem rH {α : Type} {P : α → Prop} {l : List α} {c : α} (h : ∀ m ∈ l, P m) (hc : P c) : ∀ m ∈ l ++ [c], P m := by
 intro m hm
 rcases List.mem_append.1 hm with h1 | h1
 ·exact h m h1
 ·rw [List.mem_singleton.1 h1]; exact hc
theorem xu {x : Nat} {l : Int} (h : 1 ≤ l ∧ l ≤ 4096) : gE ⟨mB, ay x, l, 0, 0⟩ ∧ ∃ k, (⟨mB, ay x, l, 0, 0⟩ : eu).width = ay k :=
 ⟨⟨pX 109 (by unfold ed; decide), dw x, h.1, h.2, rfl, rfl⟩, x, rfl⟩
theorem xv {x : Nat} {o : Bool} : ks (⟨sB, ay x, o⟩ : bI).name ∧ ∃ k, (⟨sB, ay x, o⟩ : bI).width = ay k := ⟨pX 115 (by unfold ed; decide), x, rfl⟩
theorem Gr.Hh {ws : List Int} {cs : List Cell} {ins : List Int} {a7 : List eu} {streams : List bI} (h : Gr (pn ws cs ins a7 streams)) {i : Nat} (hi : i < cs.length) :
  In (cs.getD ((((cs.length : Int) - 1) - (i : Int)).toNat) default).out ws.length ∨ (cs.getD ((((cs.length : Int) - 1) - (i : Int)).toNat) default).kind ≠ 4 := by
 by_cases h4 : (cs.getD ((((cs.length : Int) - 1) - (i : Int)).toNat) default).kind = 4
 ·exact .inl (h.outs om h4)
 ·exact .inr h4
def y9 (ws : List Int) (streams : List bI) (i : Nat) (d0 d : List Int) : Prop :=
 d.length = i + 1 ∧ (∀ j, j < i → d.getD j 0 = d0.getD j 0) ∧ ((streams.getD i default).out = true → In (d.getD i 0) ws.length ∧ ws.getD (d.getD i 0).toNat 0 = (streams.getD i default).width) ∧ ((streams.getD i default).out = false → d.getD i 0 = -1)
theorem vR {ws : List Int} {streams : List bI} {i : Nat} {d0 : List Int} {x : Int} (hl : d0.length = i) (hx : In x ws.length ∧ ws.getD x.toNat 0 = (streams.getD i default).width) (ho : (streams.getD i default).out = true) :
  y9 ws streams i d0 ((d0 ++ ([-1] : List Int)).set i x) := by
 have e : ((d0 ++ ([-1] : List Int)).set i x).getD i 0 = x := by rw [bs, if_pos ⟨rfl, by simp; omega⟩]
 refine ⟨by simp [hl], fun j hj => ?_, fun _ => by rw [e]; exact hx, fun h => by rw [ho] at h; cases h⟩
 rw [bs, if_neg om, iY om]
theorem vS {ws : List Int} {streams : List bI} {i : Nat} {d0 : List Int} (hl : d0.length = i) (ho : (streams.getD i default).out = false) : y9 ws streams i d0 (d0 ++ ([-1] : List Int)) :=
 ⟨by simp [hl], fun j hj => iY om, fun h => (by rw [ho] at h; cases h), fun _ => lZ hl.symm⟩
theorem zF {ws : List Int} {streams : List bI} {i : Nat} {a d0 d : List Int} {x : Int} (BV : a.length = i) (h : ∀ j, j < i → tW ws streams a d0 j) (hx : In x ws.length ∧ ws.getD x.toNat 0 = 1) (hd : y9 ws streams i d0 d) :
  ∀ j, j < i + 1 → tW ws streams (a ++ [x]) d j := by
 intro j hj
 rcases Nat.lt_or_ge j i with h1 | h1
 ·have h2 := h j h1
  unfold tW at *
  rw [iY om, hd.2.1 j h1]; exact h2
 ·obtain rfl : j = i := by omega
  unfold tW
  rw [lZ BV.symm]
  exact ⟨hx, hd.2.2.1, hd.2.2.2⟩
open Go Go.AW Go.Proofs
section
variable {H : Type} {enc : TypeId × Value → H} {W : World} {base : Nat}
theorem BW : Try.prog.cellsOf 5 = 1 := by kernel_rfl
theorem Ka : Try.prog.cellsOf 86 = 3 := by kernel_rfl
theorem Nw : Reads enc Try.prog W base 81 U2.row (fun m => m.a < 256 ∧ m.b < 256) (fun _ => 0) :=
 (Reads.Nk Try.underlying81 BW ao pT).map (fun x => (⟨x.1, x.2⟩ : U2)) (fun _ => rfl) (fun _ h => h) (fun _ => Nat.zero_le _)
theorem Nx : Reads enc Try.prog W base 86 (fun x : Nat × Nat × Nat => sf x.1 ++ (sf x.2.1 ++ sf x.2.2)) (fun x => x.1 < 256 ∧ x.2.1 < 256 ∧ x.2.2 < 256) (fun _ => 0) := Reads.Nl Try.underlying86 BW ao pT
theorem Kb : Reads enc Try.prog W base 88 pJ.row pJ.Ok (fun _ => 0) :=
 (Reads.struct Try.underlying88 ao (ec.cons rfl BW pT (ec.cons rfl BW pT (ec.cons rfl BW pT (ec.cons rfl Ka Nx (ec.cons rfl FD yz ec.nil)))))).map
  (fun x => (⟨x.1, x.2.1, x.2.2.1, x.2.2.2.1.1, x.2.2.2.1.2.1, x.2.2.2.1.2.2, x.2.2.2.2.1⟩ : pJ)) (fun _ => rfl) (fun x h => ⟨h.1, h.2.1, h.2.2.1, h.2.2.2.1.1, h.2.2.2.1.2.1, h.2.2.2.1.2.2, h.2.2.2.2.1⟩) (fun _ => Nat.zero_le _)
theorem FI : Reads enc Try.prog W base 32 (fun l : List U2 => [.fz 2 (l.map U2.row)]) (fun l => l.length * 2 ≤ 140737488351232 ∧ ∀ a ∈ l, a.a < 256 ∧ a.b < 256) (fun l => (l.map (fun _ => 0)).sum) := Reads.slice Try.underlying32 ao ae ao Nw
theorem FJ : Reads enc Try.prog W base 33 (fun l : List Nat => [.fz 1 (l.map sf)]) (fun l => l.length * 1 ≤ 140737488351232 ∧ ∀ a ∈ l, a < 256) (fun l => (l.map (fun _ => 1)).sum) := Reads.slice Try.underlying33 ao ae ao pT
theorem Hi : Reads enc Try.prog W base 34 (fun l : List pJ => [.fz 7 (l.map pJ.row)]) (fun l => l.length * 16 ≤ 140737488351232 ∧ ∀ a ∈ l, a.Ok) (fun l => (l.map (fun _ => 0)).sum) := Reads.slice Try.underlying34 ao ae ao Kb
theorem FK : Try.prog.cellsOf 32 = 1 := by kernel_rfl
theorem FL : Try.prog.cellsOf 33 = 1 := by kernel_rfl
theorem Kc : Try.prog.cellsOf 34 = 1 := by kernel_rfl
theorem Kd : Reads enc Try.prog W base 36 lM.row lM.Ok (fun _ => 0) :=
 (Reads.struct Try.underlying36 ao (ec.cons rfl FK FI (ec.cons rfl FK FI (ec.cons rfl FL FJ (ec.cons rfl Kc Hi (ec.cons rfl FL FJ ec.nil)))))).map
  (fun x => (⟨x.1, x.2.1, x.2.2.1, x.2.2.2.1, x.2.2.2.2.1⟩ : lM)) (fun _ => rfl) (fun x h => ⟨h.1.2, h.2.1.2, h.2.2.1.2, h.2.2.2.1.2, h.2.2.2.2.1.2⟩) (fun _ => Nat.zero_le _)
end
open Go Go.AW Go.Proofs
end Go.Proofs.Ytligpghohcfpnaa
namespace Go.Proofs.Ytligpghohcfpnaa
open Go Go.AW Go.Proofs
theorem El : TY.array Try.prog 81 = some (2, 5, 1) := by kernel_rfl
theorem su : TY.array Try.prog 86 = some (3, 5, 1) := by kernel_rfl
theorem pq : TY.jI Try.prog 106 0 = some (0, 3) := by kernel_rfl
theorem eP : TY.jI Try.prog 106 2 = some (2, 3) := by kernel_rfl
theorem pt : TY.jI Try.prog 106 3 = some (3, 3) := by kernel_rfl
theorem pv : TY.jI Try.prog 106 4 = some (4, 3) := by kernel_rfl
theorem ea : TY.jI Try.prog 106 5 = some (5, 3) := by kernel_rfl
theorem BX : TY.jI Try.prog 27 0 = some (0, 9) := by kernel_rfl
theorem bu : TY.jI Try.prog 27 1 = some (1, 22) := by kernel_rfl
theorem jR : TY.jI Try.prog 27 10 = some (10, 22) := by kernel_rfl
theorem bL : TY.jI Try.prog 27 2 = some (2, 23) := by kernel_rfl
theorem iZ : TY.jI Try.prog 27 3 = some (3, 22) := by kernel_rfl
theorem ef : TY.jI Try.prog 27 4 = some (4, 24) := by kernel_rfl
theorem cC : TY.jI Try.prog 27 5 = some (5, 25) := by kernel_rfl
theorem jE : TY.jI Try.prog 27 6 = some (6, 22) := by kernel_rfl
theorem iF : TY.jI Try.prog 27 7 = some (7, 22) := by kernel_rfl
theorem oE : TY.jI Try.prog 27 8 = some (8, 3) := by kernel_rfl
theorem pZ : TY.jI Try.prog 27 9 = some (9, 3) := by kernel_rfl
theorem uA : TY.jI Try.prog 36 0 = some (0, 32) := by kernel_rfl
theorem uB : TY.jI Try.prog 36 1 = some (1, 32) := by kernel_rfl
theorem xw : TY.jI Try.prog 36 2 = some (2, 33) := by kernel_rfl
theorem oF : TY.jI Try.prog 36 3 = some (3, 34) := by kernel_rfl
theorem xx : TY.jI Try.prog 36 4 = some (4, 33) := by kernel_rfl
theorem bP : TY.jI Try.prog 39 0 = some (0, 3) := by kernel_rfl
theorem ct : TY.jI Try.prog 39 1 = some (1, 3) := by kernel_rfl
theorem cN : TY.jI Try.prog 39 2 = some (2, 3) := by kernel_rfl
theorem bF : TY.jI Try.prog 39 3 = some (3, 22) := by kernel_rfl
theorem dp : TY.jI Try.prog 39 4 = some (4, 37) := by kernel_rfl
theorem bU : TY.jI Try.prog 39 5 = some (5, 3) := by kernel_rfl
theorem BY : TY.jI Try.prog 48 0 = some (0, 9) := by kernel_rfl
theorem nw : TY.jI Try.prog 48 1 = some (1, 3) := by kernel_rfl
theorem uC : TY.jI Try.prog 48 2 = some (2, 3) := by kernel_rfl
theorem BZ : TY.jI Try.prog 48 3 = some (3, 3) := by kernel_rfl
theorem Ca : TY.jI Try.prog 48 4 = some (4, 3) := by kernel_rfl
theorem uD : TY.jI Try.prog 71 0 = some (0, 3) := by kernel_rfl
theorem uE : TY.jI Try.prog 71 1 = some (1, 22) := by kernel_rfl
theorem Cb : TY.jI Try.prog 83 0 = some (0, 9) := by kernel_rfl
theorem ny : TY.jI Try.prog 83 1 = some (1, 3) := by kernel_rfl
theorem gU : TY.jI Try.prog 83 2 = some (2, 4) := by kernel_rfl
theorem Hj : TY.jI Try.prog 88 0 = some (0, 5) := by kernel_rfl
theorem q3 : TY.jI Try.prog 88 1 = some (1, 5) := by kernel_rfl
theorem Cc : TY.jI Try.prog 88 2 = some (2, 5) := by kernel_rfl
theorem kv : TY.jI Try.prog 88 3 = some (3, 86) := by kernel_rfl
theorem uF : TY.jI Try.prog 88 4 = some (6, 37) := by kernel_rfl
theorem Ke : TY.isInt Try.prog 130 = some .u64 := by kernel_rfl
theorem q4 : TY.isInt Try.prog 3 = some .i64 := by kernel_rfl
theorem xy : TY.isInt Try.prog 37 = some .u64 := by kernel_rfl
theorem tX : TY.isInt Try.prog 5 = some .u8 := by kernel_rfl
theorem Kf : aP Try.prog 100 = true := by kernel_rfl
theorem Kg : aP Try.prog 101 = true := by kernel_rfl
theorem Kh : aP Try.prog 102 = true := by kernel_rfl
theorem Ki : aP Try.prog 103 = true := by kernel_rfl
theorem FM : aP Try.prog 104 = true := by kernel_rfl
theorem Kj : aP Try.prog 108 = true := by kernel_rfl
theorem Kk : aP Try.prog 109 = true := by kernel_rfl
theorem jL : aP Try.prog 110 = true := by kernel_rfl
theorem FN : aP Try.prog 111 = true := by kernel_rfl
theorem Kl : aP Try.prog 112 = true := by kernel_rfl
theorem Cd : aP Try.prog 115 = true := by kernel_rfl
theorem FO : aP Try.prog 116 = true := by kernel_rfl
theorem Ce : aP Try.prog 117 = true := by kernel_rfl
theorem pw : aP Try.prog 118 = true := by kernel_rfl
theorem yA : aP Try.prog 119 = true := by kernel_rfl
theorem FP : aP Try.prog 120 = true := by kernel_rfl
theorem yB : aP Try.prog 121 = true := by kernel_rfl
theorem FQ : aP Try.prog 122 = true := by kernel_rfl
theorem Km : aP Try.prog 123 = true := by kernel_rfl
theorem Cf : aP Try.prog 124 = true := by kernel_rfl
theorem Kn : aP Try.prog 125 = true := by kernel_rfl
theorem Ko : aP Try.prog 126 = true := by kernel_rfl
theorem Kq : aP Try.prog 127 = true := by kernel_rfl
theorem Kr : aP Try.prog 129 = true := by kernel_rfl
theorem Ks : aP Try.prog 130 = true := by kernel_rfl
theorem Kt : aP Try.prog 131 = true := by kernel_rfl
theorem Ku : aP Try.prog 132 = true := by kernel_rfl
theorem Ny : aP Try.prog 17 = true := by kernel_rfl
theorem Nz : aP Try.prog 18 = true := by kernel_rfl
theorem NA : aP Try.prog 19 = true := by kernel_rfl
theorem Hk : aP Try.prog 20 = true := by kernel_rfl
theorem zH : aP Try.prog 21 = true := by kernel_rfl
theorem Em : aP Try.prog 22 = true := by kernel_rfl
theorem Kv : aP Try.prog 26 = true := by kernel_rfl
theorem Hl : aP Try.prog 40 = true := by kernel_rfl
theorem zI : aP Try.prog 41 = true := by kernel_rfl
theorem Kw : aP Try.prog 42 = true := by kernel_rfl
theorem Kx : aP Try.prog 43 = true := by kernel_rfl
theorem zJ : aP Try.prog 46 = true := by kernel_rfl
theorem NB : aP Try.prog 50 = true := by kernel_rfl
theorem NC : aP Try.prog 51 = true := by kernel_rfl
theorem ND : aP Try.prog 52 = true := by kernel_rfl
theorem tj : aP Try.prog 53 = true := by kernel_rfl
theorem Ky : aP Try.prog 54 = true := by kernel_rfl
theorem NF : aP Try.prog 55 = true := by kernel_rfl
theorem gV : aP Try.prog 56 = true := by kernel_rfl
theorem NG : aP Try.prog 57 = true := by kernel_rfl
theorem NH : aP Try.prog 58 = true := by kernel_rfl
theorem nX : aP Try.prog 59 = true := by kernel_rfl
theorem zK : aP Try.prog 65 = true := by kernel_rfl
theorem NI : aP Try.prog 66 = true := by kernel_rfl
theorem NJ : aP Try.prog 67 = true := by kernel_rfl
theorem Kz : aP Try.prog 72 = true := by kernel_rfl
theorem K0 : aP Try.prog 74 = true := by kernel_rfl
theorem NK : aP Try.prog 75 = true := by kernel_rfl
theorem Hm : aP Try.prog 76 = true := by kernel_rfl
theorem Hn : aP Try.prog 77 = true := by kernel_rfl
theorem NL : aP Try.prog 78 = true := by kernel_rfl
theorem Ho : aP Try.prog 79 = true := by kernel_rfl
theorem K3 : aP Try.prog 80 = true := by kernel_rfl
theorem NM : aP Try.prog 81 = true := by kernel_rfl
theorem NN : aP Try.prog 82 = true := by kernel_rfl
theorem NO : aP Try.prog 85 = true := by kernel_rfl
theorem NP : aP Try.prog 87 = true := by kernel_rfl
theorem NQ : aP Try.prog 88 = true := by kernel_rfl
theorem NR : aP Try.prog 89 = true := by kernel_rfl
theorem NS : aP Try.prog 90 = true := by kernel_rfl
theorem NT : aP Try.prog 91 = true := by kernel_rfl
theorem Hp : aP Try.prog 92 = true := by kernel_rfl
theorem Hq : aP Try.prog 93 = true := by kernel_rfl
theorem xz : aP Try.prog 94 = true := by kernel_rfl
theorem K4 : aP Try.prog 95 = true := by kernel_rfl
theorem NU : aP Try.prog 96 = true := by kernel_rfl
theorem NV : aP Try.prog 97 = true := by kernel_rfl
theorem NW : aP Try.prog 98 = true := by kernel_rfl
theorem NX : aP Try.prog 99 = true := by kernel_rfl
theorem nz : TY.lO Try.prog 106 = some [(0, 1), (1, 1), (2, 1), (3, 1), (4, 1), (5, 1)] := by kernel_rfl
theorem K5 : TY.lO Try.prog 27 = some [(0, 1), (1, 1), (2, 1), (3, 1), (4, 1), (5, 1), (6, 1), (7, 1), (8, 1), (9, 1), (10, 1)] := by kernel_rfl
theorem uG : TY.lO Try.prog 39 = some [(0, 1), (1, 1), (2, 1), (3, 1), (4, 1), (5, 1)] := by kernel_rfl
theorem Hr : TY.lO Try.prog 48 = some [(0, 1), (1, 1), (2, 1), (3, 1), (4, 1)] := by kernel_rfl
theorem K6 : TY.lO Try.prog 71 = some [(0, 1), (1, 1)] := by kernel_rfl
theorem Hs : TY.lO Try.prog 83 = some [(0, 1), (1, 1), (2, 1)] := by kernel_rfl
theorem gF : TY.shape Try.prog 106 = some (some 6) := by kernel_rfl
theorem aW : TY.shape Try.prog 22 = some none := by kernel_rfl
theorem eT : TY.shape Try.prog 23 = some none := by kernel_rfl
theorem jS : TY.shape Try.prog 24 = some none := by kernel_rfl
theorem fC : TY.shape Try.prog 25 = some none := by kernel_rfl
theorem dD : TY.shape Try.prog 27 = some (some 11) := by kernel_rfl
theorem aV : TY.shape Try.prog 3 = some none := by kernel_rfl
theorem vT : TY.shape Try.prog 32 = some none := by kernel_rfl
theorem zL : TY.shape Try.prog 33 = some none := by kernel_rfl
theorem x4 : TY.shape Try.prog 34 = some none := by kernel_rfl
theorem K7 : TY.shape Try.prog 36 = some (some 5) := by kernel_rfl
theorem fv : TY.shape Try.prog 37 = some none := by kernel_rfl
theorem dS : TY.shape Try.prog 39 = some (some 6) := by kernel_rfl
theorem ta : TY.shape Try.prog 4 = some none := by kernel_rfl
theorem x5 : TY.shape Try.prog 45 = some none := by kernel_rfl
theorem K8 : TY.shape Try.prog 48 = some (some 5) := by kernel_rfl
theorem qY : TY.shape Try.prog 5 = some none := by kernel_rfl
theorem NY : TY.shape Try.prog 71 = some (some 2) := by kernel_rfl
theorem Ht : TY.shape Try.prog 83 = some (some 3) := by kernel_rfl
theorem Hu : TY.shape Try.prog 88 = some (some 7) := by kernel_rfl
theorem I9 : TY.shape Try.prog 9 = some none := by kernel_rfl
theorem cO : TY.size Try.prog 106 = some 6 := by kernel_rfl
theorem fm : TY.size Try.prog 22 = some 1 := by kernel_rfl
theorem uH : TY.size Try.prog 23 = some 1 := by kernel_rfl
theorem En : TY.size Try.prog 24 = some 1 := by kernel_rfl
theorem Eo : TY.size Try.prog 25 = some 1 := by kernel_rfl
theorem Ep : TY.size Try.prog 27 = some 11 := by kernel_rfl
theorem eQ : TY.size Try.prog 3 = some 1 := by kernel_rfl
theorem Es : TY.size Try.prog 37 = some 1 := by kernel_rfl
theorem eE : TY.size Try.prog 39 = some 6 := by kernel_rfl
theorem IA : TY.size Try.prog 4 = some 1 := by kernel_rfl
theorem NZ : TY.size Try.prog 45 = some 1 := by kernel_rfl
theorem K9 : TY.size Try.prog 48 = some 5 := by kernel_rfl
theorem Cg : TY.size Try.prog 71 = some 2 := by kernel_rfl
theorem Hv : TY.size Try.prog 83 = some 3 := by kernel_rfl
theorem az : TY.slice Try.prog 22 = some (3, 1, 8) := by kernel_rfl
theorem dr : TY.slice Try.prog 23 = some (39, 6, 64) := by kernel_rfl
theorem iG : TY.slice Try.prog 24 = some (48, 5, 48) := by kernel_rfl
theorem eG : TY.slice Try.prog 25 = some (83, 3, 32) := by kernel_rfl
theorem vU : TY.slice Try.prog 32 = some (81, 2, 2) := by kernel_rfl
theorem zM : TY.slice Try.prog 33 = some (5, 1, 1) := by kernel_rfl
theorem x6 : TY.slice Try.prog 34 = some (88, 7, 16) := by kernel_rfl
theorem mN : TY.slice Try.prog 63 = some (4, 1, 1) := by kernel_rfl
theorem tk : TY.slice Try.prog 92 = some (22, 1, 24) := by kernel_rfl
theorem RY : Try.prog.underlying 4 = some .bool := by kernel_rfl
theorem Hw : Try.prog.underlying 9 = some .string := by kernel_rfl
theorem jM : TY.zero Try.prog 106 = some [.int .i64 0, .int .i64 0, .int .i64 0, .int .i64 0, .int .i64 0, .int .i64 0] := by kernel_rfl
theorem zN : TY.zero Try.prog 22 = some [.slice none 0 0] := by kernel_rfl
theorem zO : TY.zero Try.prog 27 = some [.string ByteArray.empty, .slice none 0 0, .slice none 0 0, .slice none 0 0, .slice none 0 0, .slice none 0 0, .slice none 0 0, .slice none 0 0, .int .i64 0, .int .i64 0, .slice none 0 0] := by kernel_rfl
theorem ey : TY.zero Try.prog 3 = some [.int .i64 0] := by kernel_rfl
theorem dM : TY.zero Try.prog 39 = some [.int .i64 0, .int .i64 0, .int .i64 0, .slice none 0 0, .int .u64 0, .int .i64 0] := by kernel_rfl
theorem Mp : TY.zero Try.prog 4 = some [.bool false] := by kernel_rfl
theorem Oa : TY.zero Try.prog 45 = some [.nilFunc] := by kernel_rfl
theorem q5 : TY.zero Try.prog 48 = some [.string ByteArray.empty, .int .i64 0, .int .i64 0, .int .i64 0, .int .i64 0] := by kernel_rfl
theorem x7 : TY.zero Try.prog 71 = some [.int .i64 0, .slice none 0 0] := by kernel_rfl
theorem px : TY.zero Try.prog 83 = some [.string ByteArray.empty, .int .i64 0, .bool false] := by kernel_rfl
open Go Go.AW Go.Proofs
theorem KA : aP Try.prog 114 = true := by kernel_rfl
theorem Ob : aP Try.prog 47 = true := by kernel_rfl
theorem Oc : aP Try.prog 48 = true := by kernel_rfl
theorem Od : aP Try.prog 86 = true := by kernel_rfl
open Go Go.AW
noncomputable instance (p : lM) : Decidable p.Mo := Classical.propDecidable _
structure mC (n : ab) (cY : List Int) : Prop where
 len : cY.length = n.aa.length
 Et : ∀ w : Int, In w n.aa.length → b7 n (cY.getD w.toNat 0) w
def qZ (n : ab) (k : Nat) (cY : List Int) : Prop := cY.length = n.aa.length ∧ ∀ j w : Int, b7 n j w → j < k → cY.getD w.toNat 0 = j
theorem qZ.done {n : ab} {cY : List Int} (hf : aU n) (h : qZ n n.cells.length cY) : mC n cY := by
 refine ⟨h.1, fun w hw => ?_⟩
 obtain ⟨i, hi⟩ := hf.gT hw
 rw [h.2 i w hi hi.1.2]; exact hi
theorem qZ.set {n : ab} {k : Nat} {cY : List Int} (hf : aU n) (h : qZ n k cY) (hk : k < n.cells.length) (h0 : (n.cells.getD k default).out ≥ 0) : qZ n (k + 1) (cY.set (n.cells.getD k default).out.toNat (k : Int)) := by
 refine ⟨by rw [List.length_set]; exact h.1, fun j w hd hj => ?_⟩
 have hc := hf.cells k hk
 have h7 : (n.cells.getD k default).kind ≠ 7 := fun e => by have := hc.2.2.1 e; omega
 have uI : b7 n (k : Int) (n.cells.getD k default).out := ⟨⟨om, om⟩, h7, rfl⟩
 have hw := hf.eF hd; have yC := hf.eF uI
 unfold In at hw yC
 rw [bs]
 by_cases e : (n.cells.getD k default).out.toNat = w.toNat ∧ (n.cells.getD k default).out.toNat < cY.length
 ·rw [if_pos e]
  have e2 : (n.cells.getD k default).out = w := by omega
  exact hf.unique (e2 ▸ uI) hd
 ·rw [if_neg e]
  have ew : j ≠ (k : Int) := by
   rintro rfl
   apply e
   have e2 : (n.cells.getD k default).out = w := hd.2.2
   have := h.1
   omega
  exact h.2 j w hd om
theorem qZ.skip {n : ab} {k : Nat} {cY : List Int} (hf : aU n) (h : qZ n k cY) (h0 : ¬ (n.cells.getD k default).out ≥ 0) : qZ n (k + 1) cY := by
 refine ⟨h.1, fun j w hd hj => ?_⟩
 have hw := hf.eF hd
 unfold In at hw
 have ew : j ≠ (k : Int) := by
  rintro rfl
  have : (n.cells.getD k default).out = w := hd.2.2
  omega
 exact h.2 j w hd om
structure KB (n : ab) (l : List Int) (k : Nat) (pl : List Int) : Prop where
 len : pl.length = n.cells.length
 at_ : ∀ j, j < k → pl.getD (l.getD j 0).toNat 0 = (j : Int) + 1
 none_ : ∀ c : Int, In c n.cells.length → (∀ j, j < k → l.getD j 0 ≠ c) → pl.getD c.toNat 0 = 0
theorem sv {l : List Int} (h : l.Nodup) {i j : Nat} (hi : i < l.length) (hj : j < l.length) (e : l.getD i 0 = l.getD j 0) : i = j := by
 rw [List.getD_eq_getElem?_getD, List.getD_eq_getElem?_getD, List.getElem?_eq_getElem hi, List.getElem?_eq_getElem hj] at e
 simp only [Option.getD_some] at e
 rw [List.Nodup, List.pairwise_iff_getElem] at h
 rcases Nat.lt_trichotomy i j with h1 | h1 | h1
 ·exact absurd e (h i j hi hj h1)
 ·exact h1
 ·exact absurd e.symm (h j i hj hi h1)
theorem KB.init (n : ab) (l : List Int) : KB n l 0 (List.replicate n.cells.length 0) :=
 ⟨by simp, fun j hj => by omega, fun c hc _ => by
  unfold In at hc
  rw [List.getD_eq_getElem?_getD, List.getElem?_eq_getElem (by simp; omega)]; simp⟩
theorem KB.step {n : ab} {l pl : List Int} {k : Nat} (ho : Ord n l) (h : KB n l k pl) (hk : k < l.length) : KB n l (k + 1) (pl.set (l.getD k 0).toNat ((k : Int) + 1)) := by
 have hr := ho.og _ (br hk)
 have hl := h.len
 refine ⟨by rw [List.length_set]; exact hl, fun j hj => ?_, fun c hc ew => ?_⟩
 ·rw [bs]
  rcases Nat.lt_or_ge j k with h1 | h1
  ·have I4 := ho.og _ (br (l := l) (i := j) om)
   rw [if_neg (fun e => by have := sv ho.nd hk (by omega : j < l.length) om; omega)]
   exact h.at_ j h1
  ·obtain rfl : j = k := by omega
   rw [if_pos ⟨rfl, om⟩]
 ·have h1 := ew k om
  unfold In at hc
  rw [bs, if_neg (fun e => h1 om)]
  exact h.none_ c hc (fun j hj => ew j om)
theorem Ord.mem {n : ab} {l : List Int} (ho : Ord n l) {i : Int} (hi : 0 ≤ i ∧ i < n.cells.length) : i ∈ l := by
 refine Classical.byContradiction fun hn => ?_
 have h1 : ∀ x ∈ i :: l, x ∈ (List.range n.cells.length).map (fun (j : Nat) => (j : Int)) := by
  intro x hx
  have hr : 0 ≤ x ∧ x < n.cells.length := by
   rcases List.mem_cons.1 hx with rfl | hx
   ·exact hi
   ·exact ho.og x hx
  exact List.mem_map.2 ⟨x.toNat, List.mem_range.2 om, om⟩
 have h2 := length_le_of_subset (List.nodup_cons.2 ⟨hn, ho.nd⟩) h1
 simp only [List.length_cons, List.length_map, List.length_range, ho.len] at h2
 omega
theorem nv.ok {n : ab} {l : List Int} {e : Int} (h : nv n l e) (hf : aU n) (ht : Fit n) (ha : Acyclic n) : Ord n l ∧ e = 0 := by
 rcases h with ⟨h1, _⟩ | ⟨_, h2, _⟩ | ⟨_, _, h3, _⟩ | ⟨_, _, _, h4, h5⟩
 ·exact absurd hf h1
 ·exact absurd ht h2
 ·exact absurd ha h3
 ·exact ⟨h4, h5⟩
theorem Ch {n : ab} (hf : aU n) (ht : Fit n) (ha : Acyclic n) : fK n = 0 := by unfold fK; rw [if_pos hf, if_pos ht, if_pos ha]
open Go Go.AW
inductive Ds (n : ab) (ws : List Int) : Int → Prop where
 | root {w i : Int} (hw : w ∈ ws) (h : b7 n i w) : Ds n ws i
 | step {i x j : Int} (hi : Ds n ws i) (hc : bJ (n.cell i).kind) (hx : x ∈ (n.cell i).args) (h : b7 n j x) : Ds n ws j
def gf (l : List Bool) : Nat := l.countP (fun b => !b)
theorem nR (l : List Bool) : gf l ≤ l.length := List.countP_le_length
theorem kx : ∀ {l : List Bool} {i : Nat}, i < l.length → l.getD i false = false → gf (l.set i true) + 1 = gf l
 | [], _, h, _ => by simp at h
 | b :: r, 0, _, hb => by
  simp only [List.getD_cons_zero] at hb
  subst hb
  simp [gf]
 | b :: r, i + 1, h, hb => by
  have := kx (l := r) (i := i) (by simpa using h) (by simpa using hb)
  unfold gf at this ⊢
  simp only [List.set_cons_succ, List.countP_cons]
  omega
structure r5 (n : ab) (cY ws : List Int) (l : List Int) (seen : List Bool) : Prop where
 len : seen.length = n.cells.length
 og : ∀ w ∈ l, In w n.aa.length
 snd : ∀ w ∈ l, ∀ i, b7 n i w → Ds n ws i
 zP : ∀ i : Nat, i < n.cells.length → seen.getD i false = true → Ds n ws i
 root : ∀ w ∈ ws, seen.getD (cY.getD w.toNat 0).toNat false = true ∨ w ∈ l
 gB : ∀ i : Nat, i < n.cells.length → seen.getD i false = true → bJ (n.cells.getD i default).kind → ∀ x ∈ (n.cells.getD i default).args, seen.getD (cY.getD x.toNat 0).toNat false = true ∨ x ∈ l
 sz : l.length + 4 * gf seen ≤ ws.length + 4 * n.cells.length
theorem lz {k i : Nat} : (List.replicate k false).getD i false = false := by
 rw [List.getD_eq_getElem?_getD]
 by_cases h : i < k
 ·rw [List.getElem?_eq_getElem (by simpa using h)]; simp
 ·rw [List.getElem?_eq_none (by simpa using h)]; rfl
theorem r5.init {n : ab} {cY ws : List Int} (hw : ∀ w ∈ ws, In w n.aa.length) : r5 n cY ws ws (List.replicate n.cells.length false) where
 len := by simp
 og := hw
 snd := fun w hw i hi => .root hw hi
 zP := fun i _ h => by rw [lz] at h; cases h
 root := fun w hw => .inr hw
 gB := fun i _ h => by rw [lz] at h; cases h
 sz := by have := nR (List.replicate n.cells.length false); simp at this; omega
section
variable {n : ab} {cY ws l : List Int} {seen : List Bool}
theorem ie {l : List Int} (h : 0 < l.length) {x : Int} (hx : x ∈ l) : x = l.getD (l.length - 1) 0 ∨ x ∈ l.take (l.length - 1) := by
 obtain ⟨i, hi, rfl⟩ := List.mem_iff_getElem.1 hx
 by_cases e : i = l.length - 1
 ·left; subst e; rw [List.getD_eq_getElem?_getD, List.getElem?_eq_getElem hi]; rfl
 ·right
  refine List.mem_iff_getElem.2 ⟨i, by simp; omega, by simp⟩
theorem r5.skip (h : r5 n cY ws l seen) (h0 : 0 < l.length) (hs : seen.getD (cY.getD (l.getD (l.length - 1) 0).toNat 0).toNat false = true) : r5 n cY ws (l.take (l.length - 1)) seen where
 len := h.len
 og := fun w hw => h.og w (List.mem_of_mem_take hw)
 snd := fun w hw => h.snd w (List.mem_of_mem_take hw)
 zP := h.zP
 root := fun w hw => by
  rcases h.root w hw with h1 | h1
  ·exact .inl h1
  ·rcases ie h0 h1 with h2 | h2
   ·exact .inl (by rw [h2]; exact hs)
   ·exact .inr h2
 gB := fun i hi hm hc x hx => by
  rcases h.gB i hi hm hc x hx with h1 | h1
  ·exact .inl h1
  ·rcases ie h0 h1 with h2 | h2
   ·exact .inl (by rw [h2]; exact hs)
   ·exact .inr h2
 sz := by have := h.sz; simp only [List.length_take]; omega
theorem r5.mark (hb : mC n cY) (sa : ∀ c ∈ n.cells, c.args.length ≤ 4) (hf : aU n) (h : r5 n cY ws l seen) (h0 : 0 < l.length) (hs : seen.getD (cY.getD (l.getD (l.length - 1) 0).toNat 0).toNat false = false) {more : List Int}
  (hm : (bJ (n.cells.getD (cY.getD (l.getD (l.length - 1) 0).toNat 0).toNat default).kind ∧ more = (n.cells.getD (cY.getD (l.getD (l.length - 1) 0).toNat 0).toNat default).args) ∨ (¬ bJ (n.cells.getD (cY.getD (l.getD (l.length - 1) 0).toNat 0).toNat default).kind ∧ more = [])) :
  r5 n cY ws (l.take (l.length - 1) ++ more) (seen.set (cY.getD (l.getD (l.length - 1) 0).toNat 0).toNat true) ∧ gf (seen.set (cY.getD (l.getD (l.length - 1) 0).toNat 0).toNat true) + 1 = gf seen ∧ more.length ≤ 4 := by
 have hw := h.og _ (br (l := l) (i := l.length - 1) om)
 have hd := hb.Et _ hw
 have hr := h.snd _ (br (l := l) (i := l.length - 1) om) _ hd
 generalize KC : l.getD (l.length - 1) 0 = w at *
 generalize KD : cY.getD w.toNat 0 = i at *
 have hi := hd.1
 have hc : n.cell i = n.cells.getD i.toNat default := rfl
 have hl := h.len
 have get : ∀ k, (seen.set i.toNat true).getD k false = if i.toNat = k ∧ i.toNat < seen.length then true else seen.getD k false := fun k => bs ..
 have ah : ∀ k, seen.getD k false = true → (seen.set i.toNat true).getD k false = true := fun k hk => by rw [get]; split <;> simp_all
 have Oe : more.length ≤ 4 := by
  rcases hm with ⟨_, rfl⟩ | ⟨_, rfl⟩
  ·exact sa _ (getD_in om)
  ·simp
 have hu := kx (l := seen) (i := i.toNat) om hs
 refine ⟨?_, hu, Oe⟩
 exact {
  len := by rw [List.length_set]; exact hl
  og := fun x hx => by
   rcases List.mem_append.1 hx with h1 | h1
   ·exact h.og x (List.mem_of_mem_take h1)
   ·rcases hm with ⟨_, rfl⟩ | ⟨_, rfl⟩
    ·exact hf.ia hi h1
    ·cases h1
  snd := fun x hx j hj => by
   rcases List.mem_append.1 hx with h1 | h1
   ·exact h.snd x (List.mem_of_mem_take h1) j hj
   ·rcases hm with ⟨h2, rfl⟩ | ⟨_, rfl⟩
    ·exact .step hr h2 h1 hj
    ·cases h1
  zP := fun k hk vh => by
   rw [get] at vh
   by_cases e : i.toNat = k ∧ i.toNat < seen.length
   ·rw [show (k : Int) = i by omega]; exact hr
   ·rw [if_neg e] at vh; exact h.zP k hk vh
  root := fun x hx => by
   rcases h.root x hx with h1 | h1
   ·exact .inl (ah _ h1)
   ·rcases ie h0 h1 with h2 | h2
    ·left
     rw [KC] at h2
     rw [h2, KD, get, if_pos ⟨rfl, om⟩]
    ·exact .inr (List.mem_append.2 (.inl h2))
  gB := fun k hk vh Eu x hx => by
   rw [get] at vh
   by_cases e : i.toNat = k ∧ i.toNat < seen.length
   ·rcases hm with ⟨_, rfl⟩ | ⟨h2, _⟩
    ·right
     rw [← e.1] at hx
     exact List.mem_append.2 (.inr hx)
    ·rw [← e.1] at Eu; exact absurd Eu h2
   ·rw [if_neg e] at vh
    rcases h.gB k hk vh Eu x hx with h1 | h1
    ·exact .inl (ah _ h1)
    ·rcases ie h0 h1 with h2 | h2
     ·left
      rw [KC] at h2
      rw [h2, KD, get, if_pos ⟨rfl, om⟩]
     ·exact .inr (List.mem_append.2 (.inl h2))
  sz := by
   have h1 := h.sz
   simp only [List.length_append, List.length_take]
   omega }
theorem r5.last (hb : mC n cY) (h : r5 n cY ws l seen) (h0 : 0 < l.length) : (0 ≤ l.getD (l.length - 1) 0 ∧ l.getD (l.length - 1) 0 < n.aa.length) ∧ (0 ≤ cY.getD (l.getD (l.length - 1) 0).toNat 0 ∧ cY.getD (l.getD (l.length - 1) 0).toNat 0 < n.cells.length) := by
 have hw := h.og _ (br (l := l) (i := l.length - 1) om)
 exact ⟨hw, (hb.Et _ hw).1⟩
theorem take_one {α : Type} {d : α} {l : List α} {k : Nat} (h : k < l.length) : l.take (k + 1) = l.take k ++ [l.getD k d] := by
 rw [List.take_add_one, List.getElem?_eq_getElem h, List.getD_eq_getElem?_getD, List.getElem?_eq_getElem h]; rfl
def tY (n : ab) (ws : List Int) (seen : List Bool) : Prop := seen.length = n.cells.length ∧ ∀ i : Nat, i < n.cells.length → (seen.getD i false = true ↔ Ds n ws i)
theorem r5.done (hb : mC n cY) (hf : aU n) (h : r5 n cY ws l seen) (h0 : l.length = 0) (hw : ∀ w ∈ ws, In w n.aa.length) : tY n ws seen := by
 have hl : l = [] := List.eq_nil_of_length_eq_zero h0
 subst hl
 refine ⟨h.len, fun i hi => ⟨h.zP i hi, fun hr => ?_⟩⟩
 have key : ∀ j : Int, Ds n ws j → 0 ≤ j ∧ j < n.cells.length ∧ seen.getD j.toNat false = true := by
  intro j hj
  induction hj with
  | root qQ hd =>
   rcases h.root _ qQ with h1 | h1
   ·rw [hf.unique (hb.Et _ (hw _ qQ)) hd] at h1
    exact ⟨hd.1.1, hd.1.2, h1⟩
   ·cases h1
  | @step i x j hi hc hx hd ih =>
   rcases h.gB i.toNat om ih.2.2 hc x hx with h1 | h1
   ·rw [hf.unique (hb.Et _ (hf.ia ⟨ih.1, ih.2.1⟩ hx)) hd] at h1
    exact ⟨hd.1.1, hd.1.2, h1⟩
   ·cases h1
 exact (key _ hr).2.2
end
theorem tY.eq {n : ab} {ws : List Int} {s t : List Bool} (hs : tY n ws s) (ht : tY n ws t) : s = t := by
 refine List.ext_getElem (by rw [hs.1, ht.1]) fun i h1 h2 => ?_
 have e1 := hs.2 i (by have := hs.1; omega)
 have e2 := ht.2 i (by have := hs.1; omega)
 rw [List.getD_eq_getElem?_getD, List.getElem?_eq_getElem h1] at e1
 rw [List.getD_eq_getElem?_getD, List.getElem?_eq_getElem h2] at e2
 simp only [Option.getD_some] at e1 e2
 cases h3 : s[i] <;> cases h4 : t[i] <;> simp_all
open Go Go.AW
def Dt (p : Nat → Bool) (k : Nat) : List Nat := (List.range k).filter p
theorem uJ {p : Nat → Bool} {k : Nat} (h : p k = false) : Dt p (k + 1) = Dt p k := by
 simp only [Dt, List.range_succ, List.filter_append, List.filter_cons, h, List.filter_nil, List.append_nil, Bool.false_eq_true, if_false]
theorem Ci (p : Nat → Bool) (k : Nat) : (Dt p k).length ≤ k := by
 have := List.length_filter_le p (List.range k)
 rw [List.length_range] at this; exact this
def Ev (p : Nat → Bool) (w : Nat) : Int := if p w then ((Dt p w).length : Int) else -1
def IB (p : Nat → Bool) (x : Int) : Int := if 0 ≤ x then Ev p x.toNat else x
def FT {α : Type} (p : Nat → Bool) (l : List α) (d : α) : List α := (Dt p l.length).map (fun i => l.getD i d)
open Go Go.AW
def kc (n : ab) (s : List Bool) (i : Nat) : Bool := s.getD i false || !decide (bJ (n.cells.getD i default).kind)
def kw (n : ab) (cY : List Int) (s : List Bool) (w : Nat) : Bool := kc n s (cY.getD w 0).toNat
def Og (p : Nat → Bool) (c : Cell) : Cell := ⟨c.kind, c.op, IB p c.out, c.args.map (IB p), c.num, c.mem⟩
structure KE (n : ab) (cY : List Int) (s : List Bool) : Prop where
 freeze : kw n cY s n.freeze.toNat = true
 done : kw n cY s n.done.toNat = true
 bE : ∀ r ∈ n.bE, kw n cY s r.toNat = true
 aR : ∀ r ∈ n.aR, kw n cY s r.toNat = true
 data : ∀ r ∈ n.data, 0 ≤ r → kw n cY s r.toNat = true
 gB : ∀ i, i < n.cells.length → kc n s i = true → ∀ x ∈ (n.cells.getD i default).args, kw n cY s x.toNat = true
section
variable {n : ab} {cY : List Int} {s : List Bool} (hf : aU n) (hb : mC n cY) (hk : KE n cY s)
end
open Go Go.AW
structure VP (n : ab) : Prop where
 formed : aU n
 fit : Fit n
 acyclic : Acyclic n
 small : n.Small
 bR : n.cells.length ≤ 48
 b8 : n.aa.length ≤ 48
 ic : ∀ c ∈ n.cells, c.args.length ≤ 4
 iS : n.bE.length ≤ 3
 fk : n.a7.length ≤ 3
 bt : n.streams.length ≤ 4
 pY : n.ins.length ≤ 4
theorem qX.vp {n : ab} (h : qX n) : VP n := ⟨h.formed, h.fit, h.acyclic, h.small, h.bR.2, h.b8.2, h.ic, h.iS, h.fk, h.bt, h.pY⟩
section
variable {n : ab} {cY : List Int} {s : List Bool} (hv : VP n) (hb : mC n cY) (hk : KE n cY s)
end
open Go Go.AW
structure zQ (n : ab) (w : Int) : Prop where
 is : w ∈ n.aR ∨ w ∈ n.bE ∨ w = n.freeze ∨ w = n.done ∨ (w ∈ n.data ∧ 0 ≤ w) ∨ ∃ i, i < n.cells.length ∧ ¬ bJ (n.cells.getD i default).kind ∧ w ∈ (n.cells.getD i default).args
def py (n : ab) (l : List Int) : Prop := ∀ w, w ∈ l ↔ zQ n w
theorem zQ.og {n : ab} (hf : aU n) {w : Int} (h : zQ n w) : In w n.aa.length := by
 rcases h.is with h | h | h | h | ⟨h, h0⟩ | ⟨i, hi, _, h⟩
 ·obtain ⟨j, hj, rfl⟩ := List.mem_iff_getElem.1 h
  have h1 := (hf.strs j (by have := hf.cb; omega)).2.2.1
  rwa [List.getD_eq_getElem?_getD, List.getElem?_eq_getElem hj] at h1
 ·exact hf.bE w h
 ·rw [h]; exact hf.freeze
 ·rw [h]; exact hf.done
 ·obtain ⟨j, hj, rfl⟩ := List.mem_iff_getElem.1 h
  have h1 := (hf.strs j (by have := hf.dR; omega)).2.2.2
  have e : n.data.getD j 0 = n.data[j] := by rw [List.getD_eq_getElem?_getD, List.getElem?_eq_getElem hj]; rfl
  rw [← e] at h0 ⊢
  cases ho : (n.streams.getD j default).out with
  | true => exact h1.1 ho
  | false => have := h1.2 ho; omega
 ·exact (hf.cells i hi).1 w h
section
variable {n : ab} {cY l : List Int} {s : List Bool} (hf : aU n) (hb : mC n cY) (hl : py n l) (hc : tY n l s)
include hf hb hl hc
end
open Go Go.AW
structure Sn (n : ab) (cY rs : List Int) (l : List Int) (da : List Bool) : Prop where
 len : da.length = n.cells.length
 og : ∀ w ∈ l, w < 0 ∨ In w n.aa.length
 snd : ∀ w ∈ l, ∀ i, b7 n i w → Ds n rs i
 seq : ∀ i : Nat, i < n.cells.length → ¬ bJ (n.cells.getD i default).kind → da.getD i false = true
 zP : ∀ i : Nat, i < n.cells.length → da.getD i false = true → bJ (n.cells.getD i default).kind → Ds n rs i
 root : ∀ w ∈ rs, da.getD (cY.getD w.toNat 0).toNat false = true ∨ w ∈ l
 gB : ∀ i : Nat, i < n.cells.length → da.getD i false = true → bJ (n.cells.getD i default).kind → ∀ x ∈ (n.cells.getD i default).args, da.getD (cY.getD x.toNat 0).toNat false = true ∨ x ∈ l
section
variable {n : ab} {cY rs l : List Int} {da : List Bool}
theorem Sn.skip (h : Sn n cY rs l da) (hf : ∀ w ∈ rs, 0 ≤ w) (RZ : aU n) (h0 : 0 < l.length) (hs : l.getD (l.length - 1) 0 < 0 ∨ da.getD (cY.getD (l.getD (l.length - 1) 0).toNat 0).toNat false = true) : Sn n cY rs (l.take (l.length - 1)) da where
 len := h.len
 og := fun w hw => h.og w (List.mem_of_mem_take hw)
 snd := fun w hw => h.snd w (List.mem_of_mem_take hw)
 seq := h.seq
 zP := h.zP
 root := fun w hw => by
  rcases h.root w hw with h1 | h1
  ·exact .inl h1
  ·rcases ie h0 h1 with h2 | h2
   ·rcases hs with hs | hs
    ·have := hf w hw; omega
    ·exact .inl (by rw [h2]; exact hs)
   ·exact .inr h2
 gB := fun i hi hm hc x hx => by
  rcases h.gB i hi hm hc x hx with h1 | h1
  ·exact .inl h1
  ·rcases ie h0 h1 with h2 | h2
   ·rcases hs with hs | hs
    ·have h3 := (RZ.cells i hi).1 x hx
     unfold In at h3; omega
    ·exact .inl (by rw [h2]; exact hs)
   ·exact .inr h2
theorem Sn.mark (hb : mC n cY) (hf : aU n) (h : Sn n cY rs l da) (h0 : 0 < l.length) (Mq : 0 ≤ l.getD (l.length - 1) 0) (hs : da.getD (cY.getD (l.getD (l.length - 1) 0).toNat 0).toNat false = false) :
  Sn n cY rs (l.take (l.length - 1) ++ (n.cells.getD (cY.getD (l.getD (l.length - 1) 0).toNat 0).toNat default).args) (da.set (cY.getD (l.getD (l.length - 1) 0).toNat 0).toNat true) ∧
   gf (da.set (cY.getD (l.getD (l.length - 1) 0).toNat 0).toNat true) + 1 = gf da := by
 have hw : In (l.getD (l.length - 1) 0) n.aa.length := (h.og _ (br (l := l) (i := l.length - 1) om)).resolve_left om
 have hd := hb.Et _ hw
 have hr := h.snd _ (br (l := l) (i := l.length - 1) om) _ hd
 generalize KC : l.getD (l.length - 1) 0 = w at *
 generalize KD : cY.getD w.toNat 0 = i at *
 have hi := hd.1
 have hl := h.len
 have gn : bJ (n.cells.getD i.toNat default).kind := by
  refine Classical.byContradiction fun hn => ?_
  have := h.seq i.toNat om hn
  rw [hs] at this; cases this
 have get : ∀ k, (da.set i.toNat true).getD k false = if i.toNat = k ∧ i.toNat < da.length then true else da.getD k false := fun k => bs ..
 have ah : ∀ k, da.getD k false = true → (da.set i.toNat true).getD k false = true := fun k hk => by rw [get]; split <;> simp_all
 refine ⟨?_, kx (l := da) (i := i.toNat) om hs⟩
 exact {
  len := by rw [List.length_set]; exact hl
  og := fun x hx => by
   rcases List.mem_append.1 hx with h1 | h1
   ·exact h.og x (List.mem_of_mem_take h1)
   ·exact .inr (hf.ia hi h1)
  snd := fun x hx j hj => by
   rcases List.mem_append.1 hx with h1 | h1
   ·exact h.snd x (List.mem_of_mem_take h1) j hj
   ·exact .step hr gn h1 hj
  seq := fun k hk Eu => ah _ (h.seq k hk Eu)
  zP := fun k hk vh Eu => by
   rw [get] at vh
   by_cases e : i.toNat = k ∧ i.toNat < da.length
   ·rw [show (k : Int) = i by omega]; exact hr
   ·rw [if_neg e] at vh; exact h.zP k hk vh Eu
  root := fun x hx => by
   rcases h.root x hx with h1 | h1
   ·exact .inl (ah _ h1)
   ·rcases ie h0 h1 with h2 | h2
    ·left
     rw [KC] at h2
     rw [h2, KD, get, if_pos ⟨rfl, om⟩]
    ·exact .inr (List.mem_append.2 (.inl h2))
  gB := fun k hk vh Eu x hx => by
   rw [get] at vh
   by_cases e : i.toNat = k ∧ i.toNat < da.length
   ·right
    rw [← e.1] at hx
    exact List.mem_append.2 (.inr hx)
   ·rw [if_neg e] at vh
    rcases h.gB k hk vh Eu x hx with h1 | h1
    ·exact .inl (ah _ h1)
    ·rcases ie h0 h1 with h2 | h2
     ·left
      rw [KC] at h2
      rw [h2, KD, get, if_pos ⟨rfl, om⟩]
     ·exact .inr (List.mem_append.2 (.inl h2)) }
theorem Sn.done (hb : mC n cY) (hf : aU n) (Mr : ∀ w ∈ rs, In w n.aa.length) (h : Sn n cY rs l da) (h0 : l.length = 0) {s : List Bool} (hc : tY n rs s) : ∀ i, i < n.cells.length → da.getD i false = kc n s i := by
 have hl : l = [] := List.eq_nil_of_length_eq_zero h0
 subst hl
 have key : ∀ j : Int, Ds n rs j → 0 ≤ j ∧ j < n.cells.length ∧ da.getD j.toNat false = true := by
  intro j hj
  induction hj with
  | root qQ hd =>
   rcases h.root _ qQ with h1 | h1
   ·rw [hf.unique (hb.Et _ (Mr _ qQ)) hd] at h1
    exact ⟨hd.1.1, hd.1.2, h1⟩
   ·cases h1
  | @step i x j hi gn hx hd ih =>
   rcases h.gB i.toNat om ih.2.2 gn x hx with h1 | h1
   ·rw [hf.unique (hb.Et _ (hf.ia ⟨ih.1, ih.2.1⟩ hx)) hd] at h1
    exact ⟨hd.1.1, hd.1.2, h1⟩
   ·cases h1
 intro i hi
 unfold kc
 by_cases gn : bJ (n.cells.getD i default).kind
 ·rw [decide_eq_true gn]
  simp only [Bool.not_true, Bool.or_false]
  have e := hc.2 i hi
  cases hn : da.getD i false with
  | true => exact (e.2 (h.zP i hi hn gn)).symm
  | false =>
   cases hs : s.getD i false with
   | false => rfl
   | true =>
    have := (key _ (e.1 hs)).2.2
    rw [Int.toNat_natCast, hn] at this; cases this
 ·rw [h.seq i hi gn, decide_eq_false gn]; simp
end
open Go Go.AW
def pz (n : ab) : List Int := (((([n.freeze, n.done] : List Int) ++ n.bE) ++ n.aR) ++ n.data)
structure IC (n : ab) (k : Nat) (da : List Bool) (O : List Int) : Prop where
 len : da.length = n.cells.length
 nd : ∀ i, i < n.cells.length → (da.getD i false = true ↔ i < k ∧ ¬ bJ (n.cells.getD i default).kind)
 op : ∀ w, w ∈ O ↔ (w ∈ pz n ∨ ∃ i, i < k ∧ ¬ bJ (n.cells.getD i default).kind ∧ w ∈ (n.cells.getD i default).args)
 sz : O.length ≤ 13 + 4 * k
theorem IC.init {n : ab} (hM : VP n) : IC n 0 (List.replicate n.cells.length false) (pz n) where
 len := by simp
 nd := fun i _ => by rw [lz]; simp
 op := fun w => by simp
 sz := by
  have h1 := hM.iS; have h2 := hM.bt; have h3 := hM.formed.cb; have h4 := hM.formed.dR
  simp only [pz, List.length_append, List.length_cons, List.length_nil]; omega
theorem IC.no {n : ab} {k : Nat} {da : List Bool} {O : List Int} (h : IC n k da O) (hc : bJ (n.cells.getD k default).kind) : IC n (k + 1) da O where
 len := h.len
 nd := fun i hi => by
  rw [h.nd i hi]
  constructor
  ·exact fun h1 => ⟨om, h1.2⟩
  ·rintro ⟨h1, h2⟩
   refine ⟨?_, h2⟩
   rcases Nat.lt_or_ge i k with h4 | h4
   ·exact h4
   ·obtain rfl : i = k := by omega
    exact absurd hc h2
 op := fun w => by
  rw [h.op w]
  constructor
  ·rintro (h1 | ⟨i, h1, h2, h3⟩)
   ·exact .inl h1
   ·exact .inr ⟨i, om, h2, h3⟩
  ·rintro (h1 | ⟨i, h1, h2, h3⟩)
   ·exact .inl h1
   ·rcases Nat.lt_or_ge i k with h4 | h4
    ·exact .inr ⟨i, h4, h2, h3⟩
    ·obtain rfl : i = k := by omega
     exact absurd hc h2
 sz := by have := h.sz; omega
theorem Sn.init {n : ab} {cY rs O : List Int} {da : List Bool} (hf : aU n) (Mr : py n rs) (h : IC n n.cells.length da O) : Sn n cY rs O da := by
 have root : ∀ w ∈ O, 0 ≤ w → zQ n w := by
  intro w hw h0
  rcases (h.op w).1 hw with h1 | ⟨i, h1, h2, h3⟩
  ·simp only [pz, List.mem_append, List.mem_cons, List.not_mem_nil, or_false] at h1
   rcases h1 with (((h1 | h1) | h1) | h1) | h1
   ·exact ⟨.inr (.inr (.inl h1))⟩
   ·exact ⟨.inr (.inr (.inr (.inl h1)))⟩
   ·exact ⟨.inr (.inl h1)⟩
   ·exact ⟨.inl h1⟩
   ·exact ⟨.inr (.inr (.inr (.inr (.inl ⟨h1, h0⟩))))⟩
  ·exact ⟨.inr (.inr (.inr (.inr (.inr ⟨i, h1, h2, h3⟩))))⟩
 exact {
  len := h.len
  og := fun w hw => by
   rcases Int.lt_or_le w 0 with h1 | h1
   ·exact .inl h1
   ·exact .inr ((root w hw h1).og hf)
  snd := fun w hw i hd => .root ((Mr w).2 (root w hw (by have := hf.eF hd; unfold In at this; omega))) hd
  seq := fun i hi hc => (h.nd i hi).2 ⟨hi, hc⟩
  zP := fun i hi hm hc => absurd hc ((h.nd i hi).1 hm).2
  root := fun w hw => by
   right
   refine (h.op w).2 ?_
   rcases ((Mr w).1 hw).is with h1 | h1 | h1 | h1 | ⟨h1, _⟩ | ⟨i, h1, h2, h3⟩
   ·left; simp [pz, h1]
   ·left; simp [pz, h1]
   ·left; simp [pz, h1]
   ·left; simp [pz, h1]
   ·left; simp [pz, h1]
   ·exact .inr ⟨i, h1, h2, h3⟩
  gB := fun i hi hm hc => absurd hc ((h.nd i hi).1 hm).2 }
open Go Go.AW
structure Du (p : Nat → Bool) (l m : List Int) (i : Nat) : Prop where
 len : m.length = l.length
 lo : ∀ j, j < i → m.getD j 0 = IB p (l.getD j 0)
 hi : ∀ j, i ≤ j → m.getD j 0 = l.getD j 0
theorem Du.init (p : Nat → Bool) (l : List Int) : Du p l l 0 := ⟨rfl, fun j hj => by omega, fun _ _ => rfl⟩
theorem Du.set {p : Nat → Bool} {l m : List Int} {i : Nat} {v : Int} (h : Du p l m i) (hi : i < m.length) (hv : v = IB p (l.getD i 0)) : Du p l (m.set i v) (i + 1) where
 len := by rw [List.length_set]; exact h.len
 lo := fun j hj => by
  rw [bs]
  by_cases e : i = j ∧ i < m.length
  ·rw [if_pos e, hv, e.1]
  ·rw [if_neg e]; exact h.lo j om
 hi := fun j hj => by rw [bs, if_neg om]; exact h.hi j om
theorem Du.skip {p : Nat → Bool} {l m : List Int} {i : Nat} (h : Du p l m i) (hn : ¬ l.getD i 0 ≥ 0) : Du p l m (i + 1) where
 len := h.len
 lo := fun j hj => by
  rcases Nat.lt_or_ge j i with h1 | h1
  ·exact h.lo j h1
  ·obtain rfl : j = i := by omega
   rw [h.hi j (Nat.le_refl _)]
   unfold IB; rw [if_neg om]
 hi := fun j hj => h.hi j om
theorem Du.done {p : Nat → Bool} {l m : List Int} (h : Du p l m l.length) : m = l.map (IB p) := by
 refine List.ext_getElem (by rw [h.len]; simp) fun i h1 h2 => ?_
 have h3 : i < l.length := by rw [← h.len]; exact h1
 have := h.lo i h3
 rw [List.getD_eq_getElem?_getD, List.getElem?_eq_getElem h1, List.getD_eq_getElem?_getD, List.getElem?_eq_getElem h3] at this
 simpa using this
def Ew (p : Nat → Bool) (k : Nat) (nb : List Int) : Prop := nb.length = k ∧ ∀ w, w < k → nb.getD w 0 = Ev p w
open Go Go.AW Go.Proofs
structure Rt (n : ab) (k i : Nat) (O : List Int) : Prop where
 op : ∀ w, w ∈ O ↔ (w ∈ n.aR ∨ w ∈ n.bE ∨ w = n.freeze ∨ w = n.done) ∨ (∃ j, j < k ∧ 0 ≤ n.data.getD j 0 ∧ w = n.data.getD j 0) ∨ ∃ j, j < i ∧ ¬ bJ (n.cells.getD j default).kind ∧ w ∈ (n.cells.getD j default).args
 sz : O.length ≤ 9 + k + 4 * i
theorem Rt.init {n : ab} (hM : VP n) : Rt n 0 0 ([n.aR, n.bE, [n.freeze, n.done]] : List (List Int)).flatten where
 op := fun w => by simp
 sz := by
  have h1 := hM.iS; have h2 := hM.bt; have h3 := hM.formed.cb
  simp; omega
theorem Rt.no {n : ab} {d k : Nat} {O : List Int} (h : Rt n d k O) (hc : bJ (n.cells.getD k default).kind) : Rt n d (k + 1) O where
 op := fun w => by
  rw [h.op w]
  constructor
  ·rintro (h1 | h1 | ⟨i, h1, h2, h3⟩)
   ·exact .inl h1
   ·exact .inr (.inl h1)
   ·exact .inr (.inr ⟨i, om, h2, h3⟩)
  ·rintro (h1 | h1 | ⟨i, h1, h2, h3⟩)
   ·exact .inl h1
   ·exact .inr (.inl h1)
   ·rcases Nat.lt_or_ge i k with h4 | h4
    ·exact .inr (.inr ⟨i, h4, h2, h3⟩)
    ·obtain rfl : i = k := by omega
     exact absurd hc h2
 sz := by have := h.sz; omega
theorem Rt.at {n : ab} {O : List Int} {k : Nat} (e : k = n.data.length) (h : Rt n k 0 O) : Rt n n.data.length 0 O := by subst e; exact h
theorem Rt.done {n : ab} {O : List Int} (h : Rt n n.data.length n.cells.length O) : py n O := by
 intro w
 rw [h.op w]
 constructor
 ·rintro ((h1 | h1 | h1 | h1) | ⟨j, h1, h2, rfl⟩ | h1)
  ·exact ⟨.inl h1⟩
  ·exact ⟨.inr (.inl h1)⟩
  ·exact ⟨.inr (.inr (.inl h1))⟩
  ·exact ⟨.inr (.inr (.inr (.inl h1)))⟩
  ·exact ⟨.inr (.inr (.inr (.inr (.inl ⟨br h1, h2⟩))))⟩
  ·exact ⟨.inr (.inr (.inr (.inr (.inr h1))))⟩
 ·rintro ⟨h1 | h1 | h1 | h1 | ⟨h1, h2⟩ | h1⟩
  ·exact .inl (.inl h1)
  ·exact .inl (.inr (.inl h1))
  ·exact .inl (.inr (.inr (.inl h1)))
  ·exact .inl (.inr (.inr (.inr h1)))
  ·obtain ⟨j, hj, rfl⟩ := List.mem_iff_getElem.1 h1
   have e : n.data.getD j 0 = n.data[j] := by rw [List.getD_eq_getElem?_getD, List.getElem?_eq_getElem hj]; rfl
   exact .inr (.inl ⟨j, hj, by rw [e]; exact h2, e.symm⟩)
  ·exact .inr (.inr h1)
theorem py.at {n : ab} {O : List Int} {k : Nat} (e : k = n.cells.length) (h : Rt n n.data.length k O) : py n O := by subst e; exact h.done
structure Wn (p : Nat → Bool) (ws : List Int) (k : Nat) (nb wl : List Int) : Prop where
 len : nb.length = ws.length
 num : ∀ w, w < k → nb.getD w 0 = Ev p w
 ws : wl = (Dt p k).map (fun i => ws.getD i 0)
theorem Wn.init {p : Nat → Bool} {ws : List Int} : Wn p ws 0 (List.replicate ws.length 0) [] := ⟨by simp, fun w h => by omega, rfl⟩
theorem Wn.no {p : Nat → Bool} {ws nb wl : List Int} {k : Nat} (h : Wn p ws k nb wl) (hk : k < ws.length) (hp : p k = false) : Wn p ws (k + 1) (nb.set k (-1)) wl where
 len := by rw [List.length_set]; exact h.len
 num := fun w hw => by
  have := h.len
  rcases Nat.lt_or_ge w k with h1 | h1
  ·rw [bs, if_neg om]; exact h.num w h1
  ·obtain rfl : w = k := by omega
   rw [bs, if_pos ⟨rfl, om⟩]
   unfold Ev; rw [if_neg (by simp [hp])]
 ws := by rw [uJ hp]; exact h.ws
theorem Wn.KF {p : Nat → Bool} {ws nb wl : List Int} (h : Wn p ws ws.length nb wl) : Ew p ws.length nb := ⟨h.len, h.num⟩
theorem Wn.ah {p : Nat → Bool} {ws nb wl : List Int} (h : Wn p ws ws.length nb wl) : wl = FT p ws 0 := h.ws
theorem x8 {n : ab} {j : Nat} (hf : aU n) (hj : j < n.cells.length) : (n.cells.getD j default).out = -1 ∨ (0 ≤ (n.cells.getD j default).out ∧ (n.cells.getD j default).out < n.aa.length) := by
 have h := hf.cells j hj
 by_cases e : (n.cells.getD j default).kind = 7
 ·exact .inl (h.2.2.1 e)
 ·exact .inr (h.2.2.2 e)
theorem Ew.at {p : Nat → Bool} {ws nb wl : List Int} {k : Nat} (e : k = ws.length) (h : Wn p ws k nb wl) : Ew p ws.length nb := by subst e; exact h.KF
theorem Wn.at {p : Nat → Bool} {ws nb wl : List Int} {k : Nat} (e : k = ws.length) (h : Wn p ws k nb wl) : wl = FT p ws 0 := by subst e; exact h.ah
def Cn (n : ab) (cY : List Int) (s : List Bool) (i : Nat) : List Cell := ((Dt (kc n s) i).map (fun i => n.cells.getD i default)).map (Og (kw n cY s))
theorem Wn.le {p : Nat → Bool} {ws nb wl : List Int} {k : Nat} (h : Wn p ws k nb wl) : wl.length ≤ k := by rw [h.ws, List.length_map]; exact Ci _ _
theorem Cn.no {n : ab} {cY : List Int} {s : List Bool} {i : Nat} (h : kc n s i = false) : Cn n cY s (i + 1) = Cn n cY s i := by unfold Cn; rw [uJ h]
open Go Go.AW Go.Proofs
def eu.v3 (a : eu) : List Value := [.string a.name, .int .i64 a.width, .int .i64 a.len, .int .i64 a.kind, .int .i64 a.sj]
def bI.v3 (a : bI) : List Value := [.string a.name, .int .i64 a.width, .bool a.out]
def eu.Oh (a b : eu) : Bool := a.name.toList == b.name.toList && (a.width == b.width && (a.len == b.len && (a.kind == b.kind && a.sj == b.sj)))
def bI.Oh (a b : bI) : Bool := a.name.toList == b.name.toList && (a.width == b.width && a.out == b.out)
open Go Go.AW
def Dv {α : Type} (e : α → α → Bool) (d : α) (l m : List α) : Prop := l.length = m.length ∧ ∀ j, j < l.length → e (l.getD j d) (m.getD j d) = true
noncomputable instance {α : Type} (e : α → α → Bool) (d : α) (l m : List α) : Decidable (Dv e d l m) := Classical.propDecidable _
def zR (a b : Int) : Bool := decide (a = b)
noncomputable def KG (x y : Cell) : Bool := decide (x.kind = y.kind ∧ x.op = y.op ∧ x.out = y.out ∧ x.num = y.num ∧ x.mem = y.mem ∧ Dv zR 0 x.args y.args)
structure KH (a b : ab) : Prop where
 name : a.name.toList = b.name.toList
 aa : Dv zR 0 a.aa b.aa
 ins : Dv zR 0 a.ins b.ins
 a7 : Dv eu.Oh default a.a7 b.a7
 streams : Dv bI.Oh default a.streams b.streams
 aR : Dv zR 0 a.aR b.aR
 data : Dv zR 0 a.data b.data
 freeze : a.freeze = b.freeze
 done : a.done = b.done
 bE : Dv zR 0 a.bE b.bE
 cells : Dv KG default a.cells b.cells
noncomputable instance (a b : ab) : Decidable (KH a b) := Classical.propDecidable _
structure Sa (n : ab) : Prop where
 aa : n.aa.length ≤ 35184372088832
 cells : n.cells.length ≤ 35184372088832
 args : ∀ c ∈ n.cells, c.args.length ≤ 35184372088832
 ins : n.ins.length ≤ 35184372088832
 a7 : n.a7.length ≤ 35184372088832
 streams : n.streams.length ≤ 35184372088832
 aR : n.aR.length ≤ 35184372088832
 data : n.data.length ≤ 35184372088832
 bE : n.bE.length ≤ 35184372088832
open Go Go.AW Go.Proofs
theorem mC.eq {n : ab} {a b : List Int} (hf : aU n) (ha : mC n a) (hb : mC n b) : a = b := by
 refine List.ext_getElem (by rw [ha.len, hb.len]) fun i h1 h2 => ?_
 have hi : In (i : Int) n.aa.length := ⟨om, by have := ha.len; omega⟩
 have h := hf.unique (ha.Et _ hi) (hb.Et _ hi)
 rw [Int.toNat_natCast, List.getD_eq_getElem?_getD, List.getElem?_eq_getElem h1, List.getD_eq_getElem?_getD, List.getElem?_eq_getElem h2] at h
 exact h
structure Wg (p : Nat → Bool) (ws : List Int) (k : Nat) (nb : List Int) (v : Nat) : Prop where
 w : Wn p ws k nb ((Dt p k).map (fun i => ws.getD i 0))
 v : v = (Dt p k).length
theorem Wg.init {p : Nat → Bool} {ws : List Int} : Wg p ws 0 (List.replicate ws.length 0) 0 := ⟨Wn.init, rfl⟩
theorem Wg.no {p : Nat → Bool} {ws nb : List Int} {k v : Nat} (h : Wg p ws k nb v) (hk : k < ws.length) (hp : p k = false) : Wg p ws (k + 1) (nb.set k (-1)) v := by
 refine ⟨?_, by rw [uJ hp]; exact h.v⟩
 rw [uJ hp]; exact h.w.no hk hp
theorem Wg.le {p : Nat → Bool} {ws nb : List Int} {k v : Nat} (h : Wg p ws k nb v) : v ≤ k := by rw [h.v]; exact Ci _ _
theorem Wg.num {p : Nat → Bool} {ws nb : List Int} {k v : Nat} (e : k = ws.length) (h : Wg p ws k nb v) : Ew p ws.length nb := by subst e; exact h.w.KF
section
variable {n : ab} {cY : List Int} {s : List Bool}
end
open Go Go.AW Go.Proofs
def fe (n : Nat) : Nat := if n ≤ 1 then 0 else Nat.log2 (n - 1) + 1
theorem Hx {n k : Nat} (h1 : n ≤ 2 ^ k) (h2 : k = 0 ∨ 2 ^ (k - 1) < n) : fe n = k := by
 unfold fe
 by_cases e : n ≤ 1
 ·rw [if_pos e]
  rcases h2 with h2 | h2
  ·exact h2.symm
  ·have := Nat.one_le_two_pow (n := k - 1); omega
 ·rw [if_neg e]
  rcases h2 with h2 | h2
  ·subst h2; simp at h1; omega
  ·have hk : 0 < k := by
    rcases Nat.eq_zero_or_pos k with h | h
    ·subst h; simp at h1; omega
    ·exact h
   have : Nat.log2 (n - 1) = k - 1 := by
    rw [Nat.log2_eq_iff om]
    rw [show k - 1 + 1 = k by omega]
    omega
   omega
theorem uK {n k : Nat} (h : n ≤ 2 ^ k) : fe n ≤ k := by
 unfold fe
 by_cases e : n ≤ 1
 ·rw [if_pos e]; omega
 ·rw [if_neg e]
  have := (Nat.log2_lt (n := n - 1) (k := k) om).2 om
  omega
def aQ (op : Int) (w : Nat) : Int :=
 if op = 9 ∨ op = 10 ∨ op = 11 then 20 else if op = 2 then 40 + 40 * (fe w : Int) else if op = 3 then 50 + 40 * (fe w : Int) else if op = 15 ∨ op = 16 then 30 + 20 * (fe w : Int)
 else if op = 17 ∨ op = 18 then 40 + 40 * (fe (w + 1) : Int) else if op = 19 ∨ op = 20 then 50 + 40 * (fe (w + 1) : Int) else if op = 21 then 50 else if op = 12 ∨ op = 13 then 30 + 40 * (fe w : Int)
 else if op = 14 then 50 + 40 * (fe w : Int) else 0
theorem zS {op : Int} {w : Nat} (h : w ≤ 64) : 0 ≤ aQ op w ∧ aQ op w ≤ 400 := by
 have h1 : fe w ≤ 6 := uK om
 have h2 : fe (w + 1) ≤ 7 := uK om
 unfold aQ
 repeat' split
 all_goals omega
def eJ (n : ab) (c : Cell) : Int :=
 if c.kind = 1 then 0 else if c.kind = 2 then aQ c.op (if ga c.op then n.av c 0 else n.wd c.out).toNat else if c.kind = 3 then 20 + 20 * (fe (c.args.length / 2) : Int) else 30
theorem Hy {n : ab} {c : Cell} (hw : ∀ w ∈ n.aa, eO w) (ha : c.args.length ≤ 200) : 0 ≤ eJ n c ∧ eJ n c ≤ 400 := by
 have I8 : ∀ w, (n.wd w).toNat ≤ 64 := fun w => by
  unfold ab.wd
  rw [List.getD_eq_getElem?_getD]
  cases h : n.aa[w.toNat]? with
  | none => simp
  | some v =>
   have := hw v (List.mem_of_getElem? h)
   unfold eO at this
   simp only [Option.getD_some]; omega
 have hl : fe (c.args.length / 2) ≤ 7 := uK om
 unfold eJ
 split
 ·omega
 split
 ·refine zS ?_
  split
  ·exact I8 _
  ·exact I8 _
 split
 ·omega
 ·omega
open Go Go.AW Go.Proofs
structure VT (n : ab) : Prop where
 formed : aU n
 fit : Fit n
 acyclic : Acyclic n
 small : n.Small
 bR : n.cells.length ≤ 1000
 b8 : n.aa.length ≤ 1000
 ic : ∀ c ∈ n.cells, c.args.length ≤ 200
 iS : n.bE.length ≤ 1000
 bt : n.streams.length ≤ 1000
 pY : n.ins.length ≤ 1000
theorem VP.vt {n : ab} (h : VP n) : VT n := ⟨h.formed, h.fit, h.acyclic, h.small, by have := h.bR; omega, by have := h.b8; omega, fun c hc => by have := h.ic c hc; omega, by have := h.iS; omega, by have := h.bt; omega, by have := h.pY; omega⟩
theorem aU.p3 {n : ab} (h : aU n) : ∀ w ∈ n.aa, eO w := fun w hw => by
 obtain ⟨i, hi, rfl⟩ := List.mem_iff_getElem.1 hw
 have := h.wide i (by rw [List.length_append]; omega)
 rw [List.getD_eq_getElem?_getD, List.getElem?_append_left hi, List.getElem?_eq_getElem hi] at this
 exact this
theorem VT.eJ {n : ab} (h : VT n) {i : Nat} (hi : i < n.cells.length) : 0 ≤ eJ n (n.cells.getD i default) ∧ eJ n (n.cells.getD i default) ≤ 400 := Hy h.formed.p3 (h.ic _ (getD_in hi))
def gG (at_ : List Int) (l : List Int) : Int := l.foldl (fun t w => max t (at_.getD w.toNat 0)) 0
theorem zT {at_ l : List Int} {w : Int} : gG at_ (l ++ [w]) = max (gG at_ l) (at_.getD w.toNat 0) := by simp [gG]
theorem ma {a b l : List Int} (h : ∀ w ∈ l, a.getD w.toNat 0 = b.getD w.toNat 0) : gG a l = gG b l := by
 unfold gG
 have : ∀ (t : Int) (l : List Int), (∀ w ∈ l, a.getD w.toNat 0 = b.getD w.toNat 0) → l.foldl (fun t w => max t (a.getD w.toNat 0)) t = l.foldl (fun t w => max t (b.getD w.toNat 0)) t := by
  intro t l
  induction l generalizing t with
  | nil => intro _; rfl
  | cons x r ih =>
   intro h
   simp only [List.foldl_cons]
   rw [h x (List.mem_cons_self ..)]
   exact ih _ (fun w hw => h w (List.mem_cons_of_mem _ hw))
 exact this 0 l h
theorem jT {at_ l : List Int} {B : Int} (hB : 0 ≤ B) (h : ∀ w ∈ l, at_.getD w.toNat 0 ≤ B) : 0 ≤ gG at_ l ∧ gG at_ l ≤ B := by
 unfold gG
 have : ∀ (t : Int) (l : List Int), 0 ≤ t → t ≤ B → (∀ w ∈ l, at_.getD w.toNat 0 ≤ B) → 0 ≤ l.foldl (fun t w => max t (at_.getD w.toNat 0)) t ∧ l.foldl (fun t w => max t (at_.getD w.toNat 0)) t ≤ B := by
  intro t l
  induction l generalizing t with
  | nil => intro h0 h1 _; exact ⟨h0, h1⟩
  | cons x r ih =>
   intro h0 h1 h
   simp only [List.foldl_cons]
   have := h x (List.mem_cons_self ..)
   exact ih _ om om (fun w hw => h w (List.mem_cons_of_mem _ hw))
 exact this 0 l (Int.le_refl _) hB h
theorem Ex {at_ l : List Int} {w : Int} (h : w ∈ l) : at_.getD w.toNat 0 ≤ gG at_ l := by
 unfold gG
 have mono : ∀ (t : Int) (l : List Int), t ≤ l.foldl (fun t w => max t (at_.getD w.toNat 0)) t := by
  intro t l
  induction l generalizing t with
  | nil => exact Int.le_refl _
  | cons x r ih => simp only [List.foldl_cons]; have := ih (max t (at_.getD x.toNat 0)); omega
 have : ∀ (t : Int) (l : List Int), w ∈ l → at_.getD w.toNat 0 ≤ l.foldl (fun t w => max t (at_.getD w.toNat 0)) t := by
  intro t l
  induction l generalizing t with
  | nil => intro h; cases h
  | cons x r ih =>
   intro h
   simp only [List.foldl_cons]
   rcases List.mem_cons.1 h with rfl | h
   ·have := mono (max t (at_.getD w.toNat 0)) r; omega
   ·exact ih _ h
 exact this 0 l h
def ky (n : ab) (at_ : List Int) (c : Cell) : Int := (if bJ c.kind then gG at_ c.args else 0) + eJ n c
structure vk (n : ab) (at_ : List Int) : Prop where
 len : at_.length = n.aa.length
 eq : ∀ i w, b7 n i w → at_.getD w.toNat 0 = ky n at_ (n.cell i)
theorem Ord.lt {n : ab} {l : List Int} (ho : Ord n l) {i x : Int} (hi : 0 ≤ i ∧ i < n.cells.length) (hc : bJ (n.cell i).kind) (hx : x ∈ (n.cell i).args) : ∃ j, b7 n j x ∧ l.idxOf j < l.idxOf i := by
 obtain ⟨p, s, hl, hn⟩ := List.eq_append_cons_of_mem (ho.mem hi)
 obtain ⟨j, hj, hd⟩ := ho.mM p i s hl hc x hx
 refine ⟨j, hd, ?_⟩
 have h1 : l.idxOf i = p.length := by
  rw [hl, List.idxOf_append, if_neg hn]; simp
 have h2 : l.idxOf j = p.idxOf j := by rw [hl, List.idxOf_append, if_pos hj]
 rw [h1, h2]
 exact List.idxOf_lt_length_of_mem hj
theorem vk.uniq {n : ab} {l a b : List Int} (hf : aU n) (ho : Ord n l) (ha : vk n a) (hb : vk n b) : a = b := by
 have key : ∀ k : Nat, ∀ i w, b7 n i w → l.idxOf i ≤ k → a.getD w.toNat 0 = b.getD w.toNat 0 := by
  intro k
  induction k with
  | zero =>
   intro i w hd hk
   rw [ha.eq i w hd, hb.eq i w hd]
   unfold ky
   by_cases hc : bJ (n.cell i).kind
   ·rw [if_pos hc, if_pos hc]
    rw [ma (fun x hx => by obtain ⟨j, _, h⟩ := ho.lt hd.1 hc hx; omega)]
   ·rw [if_neg hc, if_neg hc]
  | succ k ih =>
   intro i w hd hk
   rw [ha.eq i w hd, hb.eq i w hd]
   unfold ky
   by_cases hc : bJ (n.cell i).kind
   ·rw [if_pos hc, if_pos hc]
    rw [ma (fun x hx => by obtain ⟨j, hj, h⟩ := ho.lt hd.1 hc hx; exact ih j x hj om)]
   ·rw [if_neg hc, if_neg hc]
 refine List.ext_getElem (by rw [ha.len, hb.len]) fun i h1 h2 => ?_
 have hw : In (i : Int) n.aa.length := ⟨om, by have := ha.len; omega⟩
 obtain ⟨j, hj⟩ := hf.gT hw
 have := key _ j _ hj (Nat.le_refl _)
 rw [Int.toNat_natCast, List.getD_eq_getElem?_getD, List.getElem?_eq_getElem h1, List.getD_eq_getElem?_getD, List.getElem?_eq_getElem h2] at this
 exact this
theorem vk.bound {n : ab} {l a : List Int} (hv : VT n) (ho : Ord n l) (ha : vk n a) : ∀ i w, b7 n i w → 0 ≤ a.getD w.toNat 0 ∧ a.getD w.toNat 0 ≤ 400 * ((l.idxOf i : Nat) + 1 : Int) := by
 have key : ∀ k : Nat, ∀ i w, b7 n i w → l.idxOf i ≤ k → 0 ≤ a.getD w.toNat 0 ∧ a.getD w.toNat 0 ≤ 400 * ((l.idxOf i : Nat) + 1 : Int) := by
  intro k
  induction k with
  | zero =>
   intro i w hd hk
   rw [ha.eq i w hd]
   have h1 := hd.1
   have wK := hv.eJ (i := i.toNat) om
   change 0 ≤ eJ n (n.cell i) ∧ eJ n (n.cell i) ≤ 400 at wK
   unfold ky
   by_cases hc : bJ (n.cell i).kind
   ·rw [if_pos hc]
    have := jT (at_ := a) (l := (n.cell i).args) (B := 0) om (fun x hx => by obtain ⟨j, _, h⟩ := ho.lt hd.1 hc hx; omega)
    omega
   ·rw [if_neg hc]; omega
  | succ k ih =>
   intro i w hd hk
   rw [ha.eq i w hd]
   have h1 := hd.1
   have wK := hv.eJ (i := i.toNat) om
   change 0 ≤ eJ n (n.cell i) ∧ eJ n (n.cell i) ≤ 400 at wK
   unfold ky
   by_cases hc : bJ (n.cell i).kind
   ·rw [if_pos hc]
    have := jT (at_ := a) (l := (n.cell i).args) (B := 400 * (l.idxOf i : Int)) om (fun x hx => by
     obtain ⟨j, hj, h⟩ := ho.lt hd.1 hc hx
     have := (ih j x hj om).2
     omega)
    omega
   ·rw [if_neg hc]; omega
 exact fun i w hd => key _ i w hd (Nat.le_refl _)
theorem vk.og {n : ab} {l a : List Int} (hv : VT n) (ho : Ord n l) (ha : vk n a) {w : Int} (hw : In w n.aa.length) : 0 ≤ a.getD w.toNat 0 ∧ a.getD w.toNat 0 ≤ 400000 := by
 obtain ⟨i, hi⟩ := hv.formed.gT hw
 have h := ha.bound hv ho i w hi
 have h1 : l.idxOf i < l.length := List.idxOf_lt_length_of_mem (ho.mem hi.1)
 have h2 := ho.len
 have h3 := hv.bR
 omega
open Go Go.AW
theorem yD : ∀ {l : List Cell}, (∀ c ∈ l, c.args.length ≤ 6) → (l.map (fun c => c.args.length)).sum ≤ 6 * l.length
 | [], _ => by simp
 | c :: r, h => by
  have h1 := h c (by simp)
  have h2 := yD (l := r) (fun c hc => h c (List.mem_cons_of_mem _ hc))
  simp only [List.map_cons, List.sum_cons, List.length_cons]; omega
theorem qX.Oi {n : ab} (h : qX n) {c : Cell} {k : Nat} (hl : c.args.length ≤ 6) (hn : c.num < 18446744073709551616) :
  (⟨n.name, n.aa, n.cells.set k c, n.ins, n.a7, n.streams, n.aR, n.data, n.freeze, n.done, n.bE⟩ : ab).Small := by
 have hs := h.small
 have ha : ∀ x ∈ n.cells.set k c, x.args.length ≤ 6 := fun x hx => by
  rcases List.mem_or_eq_of_mem_set hx with h1 | h1
  ·have := h.ic x h1; omega
  ·subst h1; exact hl
 refine ⟨hs.name, hs.aa, by show (n.cells.set k c).length ≤ _; rw [List.length_set]; exact hs.cells, fun x hx => by have := ha x hx; omega, ?_, fun x hx => ?_, hs.kq, hs.kr, hs.ins, hs.a7, hs.streams, hs.aR, hs.data, hs.bE⟩
 ·have h1 := yD ha
  have h2 := h.bR
  rw [List.length_set] at h1
  show ((n.cells.set k c).map (fun c => c.args.length)).sum ≤ _
  omega
 ·rcases List.mem_or_eq_of_mem_set hx with h1 | h1
  ·exact hs.xj x h1
  ·subst h1; exact hn
open Go Go.AW Go.Proofs
structure VB (n : ab) : Prop where
 small : n.Small
 bR : n.cells.length ≤ 1000
 b8 : n.aa.length ≤ 1000
 ic : ∀ c ∈ n.cells, c.args.length ≤ 200
 iS : n.bE.length ≤ 1000
 bt : n.streams.length ≤ 1000
 pY : n.ins.length ≤ 1000
theorem x9 {n : ab} (h : fK n = 0) : aU n ∧ Fit n ∧ Acyclic n := by
 unfold fK at h
 by_cases h1 : aU n
 ·rw [if_pos h1] at h
  by_cases h2 : Fit n
  ·rw [if_pos h2] at h
   by_cases h3 : Acyclic n
   ·exact ⟨h1, h2, h3⟩
   ·rw [if_neg h3] at h; omega
  ·rw [if_neg h2] at h; omega
 ·rw [if_neg h1] at h; omega
theorem VB.vt {n : ab} (h : VB n) (he : fK n = 0) : VT n := by
 obtain ⟨h1, h2, h3⟩ := x9 he
 exact ⟨h1, h2, h3, h.small, h.bR, h.b8, h.ic, h.iS, h.bt, h.pY⟩
theorem VT.err {n : ab} (h : VT n) : fK n = 0 := Ch h.formed h.fit h.acyclic
theorem qX.Sb {n : ab} (h : qX n) {c : Cell} {k : Nat} (hl : c.args.length ≤ 6) (hn : c.num < 18446744073709551616) :
  VB (⟨n.name, n.aa, n.cells.set k c, n.ins, n.a7, n.streams, n.aR, n.data, n.freeze, n.done, n.bE⟩ : ab) := by
 have h1 := h.bR
 have h2 := h.b8
 have h3 := h.iS
 have h4 := h.bt
 have h5 := h.pY
 refine ⟨h.Oi hl hn, by show (n.cells.set k c).length ≤ _; rw [List.length_set]; omega, by show n.aa.length ≤ _; omega, fun x hx => ?_, by show n.bE.length ≤ _; omega, by show n.streams.length ≤ _; omega, by show n.ins.length ≤ _; omega⟩
 rcases List.mem_or_eq_of_mem_set hx with h6 | h6
 ·have := h.ic x h6; omega
 ·subst h6; omega
open Go Go.AW Go.Proofs
theorem xA {l : List Int} (hn : l.Nodup) {k : Nat} (hk : k < l.length) : l.idxOf (l.getD k 0) = k := by
 have hm : l.getD k 0 ∈ l := br hk
 have h1 : l.idxOf (l.getD k 0) < l.length := List.idxOf_lt_length_of_mem hm
 have h2 : l.getD (l.idxOf (l.getD k 0)) 0 = l.getD k 0 := by
  rw [List.getD_eq_getElem?_getD, List.getElem?_eq_getElem h1]
  exact List.getElem_idxOf h1
 exact Classical.byContradiction fun e => e (sv hn h1 hk h2)
structure kQ (n : ab) (l : List Int) (k : Nat) (out : List Int) : Prop where
 len : out.length = n.aa.length
 eq : ∀ i w, b7 n i w → l.idxOf i < k → out.getD w.toNat 0 = ky n out (n.cell i)
theorem kQ.init {n : ab} {l : List Int} : kQ n l 0 (List.replicate n.aa.length 0) := ⟨by simp, fun i w _ h => by omega⟩
theorem kQ.skip {n : ab} {l out : List Int} {k : Nat} (ho : Ord n l) (h : kQ n l k out) (hk : k < l.length) (h7 : (n.cell (l.getD k 0)).kind = 7) : kQ n l (k + 1) out := by
 refine ⟨h.len, fun i w hd iU => ?_⟩
 rcases Nat.lt_or_ge (l.idxOf i) k with h1 | h1
 ·exact h.eq i w hd h1
 ·exfalso
  have hm := ho.mem hd.1
  have h2 : l.idxOf i < l.length := List.idxOf_lt_length_of_mem hm
  have h3 : l.getD (l.idxOf i) 0 = i := by
   rw [List.getD_eq_getElem?_getD, List.getElem?_eq_getElem h2]; exact List.getElem_idxOf h2
  rw [show l.idxOf i = k by omega] at h3
  rw [h3] at h7
  exact hd.2.1 h7
theorem kQ.set {n : ab} {l out : List Int} {k : Nat} (hf : aU n) (ho : Ord n l) (h : kQ n l k out) (hk : k < l.length) {w : Int} (hd : b7 n (l.getD k 0) w) {v : Int} (hv : v = ky n out (n.cell (l.getD k 0))) : kQ n l (k + 1) (out.set w.toNat v) := by
 have hw := hf.eF hd
 unfold In at hw
 have hl := h.len
 have Oj := xA ho.nd hk
 have other : ∀ j x, b7 n j x → l.idxOf j < k → (out.set w.toNat v).getD x.toNat 0 = out.getD x.toNat 0 := by
  intro j x hx hj
  have Dw := hf.eF hx
  unfold In at Dw
  rw [bs, if_neg]
  intro e
  have : x = w := by omega
  subst this
  have := hf.unique hx hd
  rw [this] at hj; omega
 have args : ∀ i : Int, 0 ≤ i ∧ i < n.cells.length → l.idxOf i ≤ k → ky n (out.set w.toNat v) (n.cell i) = ky n out (n.cell i) := by
  intro i hi Ue
  unfold ky
  by_cases hc : bJ (n.cell i).kind
  ·rw [if_pos hc, if_pos hc]
   rw [ma (fun x hx => by obtain ⟨j, hj, h1⟩ := ho.lt hi hc hx; exact other j x hj om)]
  ·rw [if_neg hc, if_neg hc]
 refine ⟨by rw [List.length_set]; exact hl, fun i x hx iU => ?_⟩
 rw [args i hx.1 om]
 rcases Nat.lt_or_ge (l.idxOf i) k with h1 | h1
 ·rw [other i x hx h1]; exact h.eq i x hx h1
 ·have hm := ho.mem hx.1
  have h2 : l.idxOf i < l.length := List.idxOf_lt_length_of_mem hm
  have h3 : l.getD (l.idxOf i) 0 = i := by
   rw [List.getD_eq_getElem?_getD, List.getElem?_eq_getElem h2]; exact List.getElem_idxOf h2
  rw [show l.idxOf i = k by omega] at h3
  rw [← h3] at hx ⊢
  have e : x = w := hx.2.2.symm.trans hd.2.2
  subst e
  rw [bs, if_pos ⟨rfl, om⟩]; exact hv
theorem kQ.done {n : ab} {l out : List Int} {k : Nat} (ho : Ord n l) (h : kQ n l k out) (hk : k = l.length) : vk n out :=
 ⟨h.len, fun i w hd => h.eq i w hd (by rw [hk]; exact List.idxOf_lt_length_of_mem (ho.mem hd.1))⟩
theorem zU {at_ l : List Int} {k : Nat} (hk : k < l.length) : max (gG at_ (l.take k)) (at_.getD (l.getD k 0).toNat 0) = gG at_ (l.take (k + 1)) := by
 rw [take_one (d := (0 : Int)) hk, zT]
theorem kQ.le {n : ab} {l out : List Int} {k : Nat} (hv : VT n) (ho : Ord n l) (h : kQ n l k out) {i w : Int} (hd : b7 n i w) (hi : l.idxOf i < k) : 0 ≤ out.getD w.toNat 0 ∧ out.getD w.toNat 0 ≤ 400 * ((l.idxOf i : Nat) + 1 : Int) := by
 have key : ∀ m : Nat, ∀ i w, b7 n i w → l.idxOf i ≤ m → l.idxOf i < k → 0 ≤ out.getD w.toNat 0 ∧ out.getD w.toNat 0 ≤ 400 * ((l.idxOf i : Nat) + 1 : Int) := by
  intro m
  induction m with
  | zero =>
   intro i w hd hm hk
   rw [h.eq i w hd hk]
   have h1 := hd.1
   have wK := hv.eJ (i := i.toNat) om
   change 0 ≤ eJ n (n.cell i) ∧ eJ n (n.cell i) ≤ 400 at wK
   unfold ky
   by_cases hc : bJ (n.cell i).kind
   ·rw [if_pos hc]
    have := jT (at_ := out) (l := (n.cell i).args) (B := 0) om (fun x hx => by obtain ⟨j, _, h⟩ := ho.lt hd.1 hc hx; omega)
    omega
   ·rw [if_neg hc]; omega
  | succ m ih =>
   intro i w hd hm hk
   rw [h.eq i w hd hk]
   have h1 := hd.1
   have wK := hv.eJ (i := i.toNat) om
   change 0 ≤ eJ n (n.cell i) ∧ eJ n (n.cell i) ≤ 400 at wK
   unfold ky
   by_cases hc : bJ (n.cell i).kind
   ·rw [if_pos hc]
    have := jT (at_ := out) (l := (n.cell i).args) (B := 400 * (l.idxOf i : Int)) om (fun x hx => by
     obtain ⟨j, hj, h⟩ := ho.lt hd.1 hc hx
     have := (ih j x hj om om).2
     omega)
    omega
   ·rw [if_neg hc]; omega
 exact key _ i w hd (Nat.le_refl _) hi
theorem kQ.jT {n : ab} {l out : List Int} {k : Nat} (hv : VT n) (ho : Ord n l) (h : kQ n l k out) (hk : k < l.length) (hc : bJ (n.cell (l.getD k 0)).kind) (m : Nat) : 0 ≤ gG out ((n.cell (l.getD k 0)).args.take m) ∧ gG out ((n.cell (l.getD k 0)).args.take m) ≤ 400000 := by
 refine Go.Proofs.Ytligpghohcfpnaa.jT om fun x hx => ?_
 have hr := ho.og _ (br hk)
 have J9 := List.mem_of_mem_take hx
 obtain ⟨j, hj, h1⟩ := ho.lt hr hc J9
 rw [xA ho.nd hk] at h1
 have h2 := (h.le hv ho hj h1).2
 have h3 := ho.len
 have h4 := hv.bR
 omega
open Go Go.AW Go.Proofs
def Port (k : Int) : Prop := k = 5 ∨ k = 6 ∨ k = 7
instance (w : Int) : Decidable (Port w) := by unfold Port; infer_instance
def sw (c : Cell) : List (Int × Int) := if c.kind = 4 then [(c.args.getD 0 0, 100), (c.args.getD 1 0, 60)] else []
def oh (c : Cell) : List (Int × Int) := if Port c.kind then c.args.map (fun w => (w, 20)) else []
def q6 (n : ab) (k : Nat) : List (Int × Int) := (n.cells.take k).flatMap sw
def jN (n : ab) (k : Nat) : List (Int × Int) := (n.cells.take k).flatMap oh
def jF (n : ab) (k : Nat) : Bool := (n.cells.take k).any (fun c => decide (c.kind = 4))
def fS (n : ab) (k : Nat) : Bool := (n.cells.take k).any (fun c => decide (Port c.kind))
def tl (l : List Int) (k : Nat) : List (Int × Int) := ((l.take k).filter (fun w => decide (w ≥ 0))).map (fun w => (w, 0))
abbrev rest (n : ab) : List Int := (([[n.done], n.bE, n.aR, n.data] : List (List Int)).flatten)
def l4 (n : ab) (b : Bool) (v : Int) : List (Int × Int) := if b then [(n.freeze, v)] else []
def sx (n : ab) : List (Int × Int) := jN n n.cells.length ++ l4 n (fS n n.cells.length) 20 ++ tl (rest n) (rest n).length
def fL (n : ab) : List (Int × Int) := q6 n n.cells.length ++ l4 n (jF n n.cells.length) 100 ++ sx n
section
variable {n : ab} {k : Nat}
theorem tZ (hk : k < n.cells.length) : q6 n (k + 1) = q6 n k ++ sw (n.cells.getD k default) := by
 unfold q6; rw [take_one (d := (default : Cell)) hk, List.flatMap_append]; simp
theorem sy (hk : k < n.cells.length) : jN n (k + 1) = jN n k ++ oh (n.cells.getD k default) := by
 unfold jN; rw [take_one (d := (default : Cell)) hk, List.flatMap_append]; simp
theorem re (hk : k < n.cells.length) : jF n (k + 1) = (jF n k || decide ((n.cells.getD k default).kind = 4)) := by
 unfold jF; rw [take_one (d := (default : Cell)) hk, List.any_append]; simp
theorem p4 (hk : k < n.cells.length) : fS n (k + 1) = (fS n k || decide (Port (n.cells.getD k default).kind)) := by
 unfold fS; rw [take_one (d := (default : Cell)) hk, List.any_append]; simp
theorem nS {l : List Int} (hk : k < l.length) : tl l (k + 1) = tl l k ++ if 0 ≤ l.getD k 0 then [(l.getD k 0, 0)] else [] := by
 unfold tl
 rw [take_one (d := (0 : Int)) hk, List.filter_append, List.map_append]
 congr 1
 by_cases h : 0 ≤ l.getD k 0
 ·rw [if_pos h, List.filter_cons, if_pos (decide_eq_true h)]; rfl
 ·rw [if_neg h, List.filter_cons, if_neg (by simpa using h)]; rfl
end
theorem kz {n : ab} {w : Int} : w ∈ rest n ↔ w = n.done ∨ w ∈ n.bE ∨ w ∈ n.aR ∨ w ∈ n.data := by simp [rest]
theorem Ey {n : ab} (hf : aU n) {w : Int} (h : w ∈ n.data) (h0 : 0 ≤ w) : In w n.aa.length := (zQ.og hf ⟨.inr (.inr (.inr (.inr (.inl ⟨h, h0⟩))))⟩)
theorem iH {n : ab} (hf : aU n) {e : Int × Int} (h : e ∈ fL n) : In e.1 n.aa.length ∧ 0 ≤ e.2 ∧ e.2 ≤ 100 := by
 unfold fL sx at h
 simp only [List.mem_append] at h
 rcases h with (h | h) | (h | h) | h
 ·obtain ⟨c, hc, he⟩ := List.mem_flatMap.1 h
  rw [List.take_length] at hc
  unfold sw at he
  split at he
  ·rename_i h4
   have j9 := hf.cell hc
   have h2 : c.args.length = 2 := by
    have := j9.2.1
    unfold Shaped at this
    omega
   rcases List.mem_cons.1 he with rfl | he
   ·exact ⟨j9.1 _ (br om), by simp, by simp⟩
   ·rw [List.mem_singleton.1 he]; exact ⟨j9.1 _ (br om), by simp, by simp⟩
  ·cases he
 ·unfold l4 at h
  split at h
  ·rw [List.mem_singleton.1 h]; exact ⟨hf.freeze, by simp, by simp⟩
  ·cases h
 ·obtain ⟨c, hc, he⟩ := List.mem_flatMap.1 h
  rw [List.take_length] at hc
  unfold oh at he
  split at he
  ·obtain ⟨w, hw, rfl⟩ := List.mem_map.1 he
   exact ⟨(hf.cell hc).1 w hw, by simp, by simp⟩
  ·cases he
 ·unfold l4 at h
  split at h
  ·rw [List.mem_singleton.1 h]; exact ⟨hf.freeze, by simp, by simp⟩
  ·cases h
 ·unfold tl at h
  obtain ⟨w, hw, rfl⟩ := List.mem_map.1 h
  obtain ⟨hw, h0⟩ := List.mem_filter.1 hw
  rw [List.take_length, kz] at hw
  have h0 : 0 ≤ w := of_decide_eq_true h0
  refine ⟨?_, by simp, by simp⟩
  rcases hw with rfl | hw | hw | hw
  ·exact hf.done
  ·exact hf.bE w hw
  ·exact (zQ.og hf ⟨.inl hw⟩)
  ·exact Ey hf hw h0
theorem vV {n : ab} (hf : aU n) : (n.done, 0) ∈ fL n := by
 have := hf.done
 unfold In at this
 unfold fL sx
 refine List.mem_append.2 (.inr (List.mem_append.2 (.inr ?_)))
 unfold tl
 rw [List.take_length]
 exact List.mem_map.2 ⟨n.done, List.mem_filter.2 ⟨kz.2 (.inl rfl), decide_eq_true this.1⟩, rfl⟩
def Ez (at_ : List Int) (s : Int × Int) (e : Int × Int) : Int × Int := if s.2 < 0 ∨ at_.getD e.1.toNat 0 + e.2 > s.1 then (at_.getD e.1.toNat 0 + e.2, e.1) else s
def gg (at_ : List Int) (L : List (Int × Int)) : Int × Int := L.foldl (Ez at_) (0, -1)
structure q7 (at_ : List Int) (L : List (Int × Int)) (s : Int × Int) : Prop where
 none : L = [] → s = (0, -1)
 some : L ≠ [] → ∃ e ∈ L, s = (at_.getD e.1.toNat 0 + e.2, e.1)
 max : ∀ e ∈ L, at_.getD e.1.toNat 0 + e.2 ≤ s.1
theorem oG {at_ : List Int} {L : List (Int × Int)} {e : Int × Int} : gg at_ (L ++ [e]) = Ez at_ (gg at_ L) e := by simp [gg]
theorem q7.step {at_ : List Int} {L : List (Int × Int)} {s e : Int × Int} (h : q7 at_ L s) (h0 : ∀ e ∈ L, 0 ≤ e.1) : q7 at_ (L ++ [e]) (Ez at_ s e) where
 none := fun h => by simp at h
 some := fun _ => by
  unfold Ez
  by_cases hc : s.2 < 0 ∨ at_.getD e.1.toNat 0 + e.2 > s.1
  ·rw [if_pos hc]; exact ⟨e, by simp, rfl⟩
  ·rw [if_neg hc]
   by_cases hL : L = []
   ·rw [h.none hL] at hc; simp at hc
   ·obtain ⟨x, hx, hs⟩ := h.some hL
    exact ⟨x, List.mem_append.2 (.inl hx), hs⟩
 max := fun x hx => by
  unfold Ez
  by_cases hc : s.2 < 0 ∨ at_.getD e.1.toNat 0 + e.2 > s.1
  ·rw [if_pos hc]
   rcases List.mem_append.1 hx with hx | hx
   ·have h1 := h.max x hx
    rcases hc with hc | hc
    ·exfalso
     obtain ⟨y, hy, hs⟩ := h.some (List.ne_nil_of_mem hx)
     rw [hs] at hc
     have := h0 y hy
     simp only at hc; omega
    ·show _ ≤ at_.getD e.1.toNat 0 + e.2; omega
   ·rw [List.mem_singleton.1 hx]; exact Int.le_refl _
  ·rw [if_neg hc]
   rcases List.mem_append.1 hx with hx | hx
   ·exact h.max x hx
   ·rw [List.mem_singleton.1 hx]; omega
theorem uL {at_ : List Int} {L : List (Int × Int)} (h : ∀ e ∈ L, 0 ≤ e.1) : q7 at_ L (gg at_ L) := by
 have : ∀ (M L : List (Int × Int)) (s : Int × Int), (∀ e ∈ L ++ M, 0 ≤ e.1) → q7 at_ L s → q7 at_ (L ++ M) (M.foldl (Ez at_) s) := by
  intro M
  induction M with
  | nil => intro L s _ h; rw [List.append_nil]; exact h
  | cons e r ih =>
   intro L s h0 h
   rw [List.foldl_cons, show L ++ e :: r = (L ++ [e]) ++ r by simp]
   exact ih _ _ (by simpa using h0) (h.step (fun x hx => h0 x (List.mem_append.2 (.inl hx))))
 have h1 := this L [] (0, -1) (by simpa using h) ⟨fun _ => rfl, fun h => absurd rfl h, fun e he => by cases he⟩
 unfold gg; simpa using h1
open Go Go.AW Go.Proofs
section
variable {n : ab} {i k m : Nat} {ix X Z : List (Int × Int)} {b : Bool}
theorem Cj (hf : aU n) (hr : n.bE.length ≤ 1000) (hs : n.streams.length ≤ 1000) : (([([n.done] : List Int), n.bE, n.aR, n.data] : List (List Int)).flatten).length ≤ 4000 := by
 have h1 := hf.cb; have h2 := hf.dR
 simp; omega
theorem zV {c : Cell} (hc : Port c.kind) (hk : k < c.args.length) : (c.args.getD k 0, 20) ∈ oh c := by
 unfold oh; rw [if_pos hc]
 exact List.mem_map.2 ⟨_, br hk, rfl⟩
theorem s0 (hi : i < n.cells.length) (hc : Port (n.cells.getD i default).kind) (hk : k < (n.cells.getD i default).args.length) : ((n.cells.getD i default).args.getD k 0, 20) ∈ sx n := by
 refine List.mem_append.2 (.inl (List.mem_append.2 (.inl (List.mem_flatMap.2 ⟨n.cells.getD i default, ?_, zV hc hk⟩))))
 rw [List.take_length]; exact getD_in hi
theorem uM (h : fS n n.cells.length = true) : (n.freeze, 20) ∈ sx n := by
 refine List.mem_append.2 (.inl (List.mem_append.2 (.inr ?_)))
 unfold l4; rw [if_pos h]; simp
theorem uN (hk : k < (([([n.done] : List Int), n.bE, n.aR, n.data] : List (List Int)).flatten).length) (h0 : 0 ≤ (([([n.done] : List Int), n.bE, n.aR, n.data] : List (List Int)).flatten).getD k 0) : ((([([n.done] : List Int), n.bE, n.aR, n.data] : List (List Int)).flatten).getD k 0, 0) ∈ sx n := by
 refine List.mem_append.2 (.inr (List.mem_map.2 ⟨_, List.mem_filter.2 ⟨?_, decide_eq_true h0⟩, rfl⟩))
 rw [List.take_length]; exact br hk
theorem yE (hx : X = ix ++ jN n k) (hp : b = fS n k) (hk : k < n.cells.length) (h : ¬ Port (n.cells.getD k default).kind) : X = ix ++ jN n (k + 1) ∧ b = fS n (k + 1) := by
 rw [sy hk, p4 hk, decide_eq_false h, Bool.or_false, oh, if_neg h, List.append_nil]
 exact ⟨hx, hp⟩
theorem vW (hx : Z = (ix ++ jN n k) ++ ((n.cells.getD k default).args.take m).map (fun w => (w, (20 : Int)))) (hk : k < n.cells.length) (hm : m = (n.cells.getD k default).args.length) (h : Port (n.cells.getD k default).kind) : Z = ix ++ jN n (k + 1) ∧ true = fS n (k + 1) := by
 rw [sy hk, p4 hk, decide_eq_true h, Bool.or_true, oh, if_pos h]
 rw [hm, List.take_length] at hx
 exact ⟨by rw [hx, List.append_assoc], rfl⟩
theorem s4 (hi : i < n.cells.length) (h : (n.cells.getD i default).kind = 4) : ((n.cells.getD i default).args.getD 0 0, 100) ∈ fL n := by
 refine List.mem_append.2 (.inl (List.mem_append.2 (.inl (List.mem_flatMap.2 ⟨n.cells.getD i default, ?_, ?_⟩))))
 ·rw [List.take_length]; exact getD_in hi
 ·unfold sw; rw [if_pos h]; simp
theorem s5 (hi : i < n.cells.length) (h : (n.cells.getD i default).kind = 4) : ((n.cells.getD i default).args.getD 1 0, 60) ∈ fL n := by
 refine List.mem_append.2 (.inl (List.mem_append.2 (.inl (List.mem_flatMap.2 ⟨n.cells.getD i default, ?_, ?_⟩))))
 ·rw [List.take_length]; exact getD_in hi
 ·unfold sw; rw [if_pos h]; simp
theorem uO (h : jF n n.cells.length = true) : (n.freeze, 100) ∈ fL n := by
 refine List.mem_append.2 (.inl (List.mem_append.2 (.inr ?_)))
 unfold l4; rw [if_pos h]; simp
theorem E5 {e : Int × Int} (h : e ∈ sx n) : e ∈ fL n := List.mem_append.2 (.inr h)
theorem Ck (hx : X = ix ++ q6 n k) (hp : b = jF n k) (hk : k < n.cells.length) (h : ¬ (n.cells.getD k default).kind = 4) : X = ix ++ q6 n (k + 1) ∧ b = jF n (k + 1) := by
 rw [tZ hk, re hk, decide_eq_false h, Bool.or_false, sw, if_neg h, List.append_nil]
 exact ⟨hx, hp⟩
theorem yF (hx : X = ix ++ q6 n k) (hk : k < n.cells.length) (h : (n.cells.getD k default).kind = 4) : (X ++ [((n.cells.getD k default).args.getD 0 0, 100)]) ++ [((n.cells.getD k default).args.getD 1 0, 60)] = ix ++ q6 n (k + 1) ∧ true = jF n (k + 1) := by
 rw [tZ hk, re hk, decide_eq_true h, Bool.or_true, sw, if_pos h]
 exact ⟨by rw [hx]; simp, rfl⟩
theorem E6 (hf : aU n) (hi : i < n.cells.length) (h : (n.cells.getD i default).kind = 4) : (n.cells.getD i default).args.length = 2 := by
 have := (hf.cells i hi).2.1
 unfold Shaped at this
 omega
end
end Go.Proofs.Ytligpghohcfpnaa
